/- How values and memory of the model are those of the abstract interpreter: the relations, and what keeps them. -/
import Derived.Test.YtcblbcpnfidndaaPwB
import Derived.Below
import Derived.Laws.Append
import Derived.Laws.CopyRow
import Derived.Laws.Rows
set_option linter.unusedSimpArgs false
set_option linter.unusedVariables false
namespace Go.Abs
open Go

/-- The cells that may still be written: block, place. -/
abbrev XT := Nat → Nat → Prop

/-- A value that leads to no block of the abstract heap. -/
inductive PR (w : World) (X : XT) : Value → AV → Prop where
  | undef (v : Value) : PR w X v .undef
  | bool (b : Bool) : PR w X (.bool b) (.bool b)
  | int (k : IntKind) (n : Int) : PR w X (.int k n) (.int k n)
  | str (s : ByteArray) : PR w X (.string s) (.str s)
  | nilp : PR w X (.pointer none) .nilp
  | nilf : PR w X .nilFunc .nilf
  | lst0 (a : Option Addr) (cap sz : Nat) (t : Bool) (ht : t = true → cap = 0) : PR w X (.slice a 0 cap) (.lst sz [] t)
  | slc (a : Option Addr) (cap : Nat) : PR w X (.slice a 0 cap) (.slc a.isNone)
  | fp (b : Nat) (g : FuncId) (hX : ¬ X b 0) (hc : w.cell? ⟨b, 0, none⟩ = some (.func (.func g) #[] #[])) : PR w X (.pointer (some ⟨b, 0, none⟩)) (.fp g)
  | fm (r : Nat) (l : List (Int × FuncId × List FuncId)) (es : Array MapEntry) (clock : Nat) (hX : ∀ o, ¬ X r o) (hobj : w.heap[r]? = some (.map es clock)) (hlen : es.size = l.length)
      (hk : ∀ (i : Nat) (k : Int) (f : FuncId) (gs : List FuncId), l[i]? = some (k, f, gs) → ∃ (e : MapEntry) (cs : Array Value), es[i]? = some e ∧ e.key = .int .i64 k ∧ e.val = .func (.func f) #[] cs ∧ cs.size = gs.length ∧
        ∀ (j : Nat) (g : FuncId), gs[j]? = some g → ∃ b, cs.getD j undef = .pointer (some ⟨b, 0, none⟩) ∧ ¬ X b 0 ∧ w.cell? ⟨b, 0, none⟩ = some (.func (.func g) #[] #[])) : PR w X (.map (some r)) (.fm l)
  | lst (b o n cap sz : Nat) (t : Bool) (xs : List AV) (f : Nat → Nat → Value) (hn : xs.length = n) (hc : n ≤ cap) (ht : t = true → cap = n)
      (hsz : ∀ (i : Nat) (x : AV), xs[i]? = some x → x.cells.length = sz)
      (hx : ∀ (i : Nat) (x : AV), xs[i]? = some x → ∀ (j : Nat) (u : AV), x.cells[j]? = some u → ¬ X b (o + (i * sz + j)) ∧ w.cell? ⟨b, o + (i * sz + j), none⟩ = some (f i j) ∧ (f i j).oneCell' = true)
      (hr : ∀ (i : Nat) (x : AV), xs[i]? = some x → ∀ (j : Nat) (u : AV), x.cells[j]? = some u → PR w X (f i j) u) : PR w X (.slice (some ⟨b, o, none⟩) n cap) (.lst sz xs t)
  | lp (b o sz i off : Nat) (xs : List AV) (f : Nat → Nat → Value)
      (hsz : ∀ (i : Nat) (x : AV), xs[i]? = some x → x.cells.length = sz)
      (hx : ∀ (i : Nat) (x : AV), xs[i]? = some x → ∀ (j : Nat) (u : AV), x.cells[j]? = some u → ¬ X b (o + (i * sz + j)) ∧ w.cell? ⟨b, o + (i * sz + j), none⟩ = some (f i j) ∧ (f i j).oneCell' = true)
      (hr : ∀ (i : Nat) (x : AV), xs[i]? = some x → ∀ (j : Nat) (u : AV), x.cells[j]? = some u → PR w X (f i j) u) : PR w X (.pointer (some ⟨b, o + (i * sz + off), none⟩)) (.lp sz xs i off)
  | agg (cs : Array Value) (xs : List AV) (hn : cs.size = xs.length) (h1 : ∀ i, i < cs.size → (cs.getD i undef).oneCell' = true)
      (h : ∀ (i : Nat) (x : AV), xs[i]? = some x → PR w X (cs.getD i undef) x) : PR w X (.agg cs) (.agg xs)

def bsize (w : World) (b : Nat) : Nat :=
  match w.heap[b]? with
  | some (.cells c _ _) => c.size
  | _ => 0

/-- Where the blocks of the abstract heap lie. -/
abbrev Rho := Nm → Option Nat

inductive VR (w : World) (X : XT) (ρ : Rho) : Value → AV → Prop where
  | pur (v : Value) (x : AV) (h : PR w X v x) : VR w X ρ v x
  | ptr (g : Nm) (b sz i off : Nat) (hs : 0 < sz) (hρ : ρ g = some b) : VR w X ρ (.pointer (some ⟨b, i * sz + off, none⟩)) (.ptr g sz i off)
  | mp (g : Nm) (b : Nat) (hρ : ρ g = some b) : VR w X ρ (.map (some b)) (.ptr g 0 0 0)
  | own0 (a : Option Addr) (g : Nm) (sz off : Nat) : VR w X ρ (.slice a 0 0) (.own g sz off 0)
  | own (g : Nm) (b sz off len cap : Nat) (hρ : ρ g = some b) (hb : b < w.heap.size) (hc : len ≤ cap) (hk : off * sz + cap * sz ≤ bsize w b) : VR w X ρ (.slice (some ⟨b, off * sz, none⟩) len cap) (.own g sz off len)
  | clo (f : FuncId) (cs : Array Value) (xs : List AV) (hn : cs.size = xs.length) (h : ∀ (i : Nat) (x : AV), xs[i]? = some x → VR w X ρ (cs.getD i undef) x) : VR w X ρ (.func (.func f) #[] cs) (.clo f xs)
  | agg (cs : Array Value) (xs : List AV) (hn : cs.size = xs.length) (h1 : ∀ i, i < cs.size → (cs.getD i undef).oneCell' = true)
      (h : ∀ (i : Nat) (x : AV), xs[i]? = some x → VR w X ρ (cs.getD i undef) x) : VR w X ρ (.agg cs) (.agg xs)
  | tup (cs : Array Value) (xs : List AV) (hn : cs.size = xs.length) (h : ∀ (i : Nat) (x : AV), xs[i]? = some x → VR w X ρ (cs.getD i undef) x) : VR w X ρ (.tuple cs) (.tup xs)

/-- What has not been written, and what may be written later. -/
structure Stable (w : World) (X : XT) (w' : World) (X' : XT) : Prop where
  os : w'.os = w.os
  tape : w'.tape = w.tape
  output : w'.output = w.output
  size : w.heap.size ≤ w'.heap.size
  cell : ∀ b o, b < w.heap.size → ¬ X b o → ¬ X' b o ∧ w'.cell? ⟨b, o, none⟩ = w.cell? ⟨b, o, none⟩
  bsz : ∀ b, b < w.heap.size → bsize w' b = bsize w b
  blk : ∀ b, b < w.heap.size → (∀ o, ¬ X b o) → w'.heap[b]? = w.heap[b]?

theorem Stable.refl (w : World) (X : XT) : Stable w X w X := ⟨rfl, rfl, rfl, Nat.le_refl _, fun _ _ _ h => ⟨h, rfl⟩, fun _ _ => rfl, fun _ _ _ => rfl⟩

theorem Stable.trans {a b c : World} {X Y Z : XT} (h : Stable a X b Y) (k : Stable b Y c Z) : Stable a X c Z where
  os := k.os.trans h.os
  tape := k.tape.trans h.tape
  output := k.output.trans h.output
  size := Nat.le_trans h.size k.size
  cell := fun i o hi hX => by
    obtain ⟨hY, e⟩ := h.cell i o hi hX
    obtain ⟨hZ, e'⟩ := k.cell i o (Nat.lt_of_lt_of_le hi h.size) hY
    exact ⟨hZ, e'.trans e⟩
  bsz := fun i hi => (k.bsz i (Nat.lt_of_lt_of_le hi h.size)).trans (h.bsz i hi)
  blk := fun i hi hX => (k.blk i (Nat.lt_of_lt_of_le hi h.size) fun o => (h.cell i o hi (hX o)).1).trans (h.blk i hi hX)

theorem Stable.drew {w w' : World} {X X' : XT} (h : Stable w X w' X') : Stable w X w'.drew X' := ⟨h.os, h.tape, h.output, h.size, h.cell, h.bsz, h.blk⟩

theorem Stable.below {w w' : World} {X X' : XT} (h : Stable w X w' X') (hX : ∀ b o, ¬ X b o) : RowKit.Below w.heap.size w w' :=
  ⟨h.os, h.tape, h.output, h.size, fun k hk => h.blk k hk (hX k)⟩

/-- Fewer cells to be written later. -/
theorem Stable.less {w w' : World} {X X' X'' : XT} (h : Stable w X w' X') (hX : ∀ b o, b < w.heap.size → X'' b o → X' b o) : Stable w X w' X'' :=
  { h with cell := fun b o hb hx => ⟨fun h'' => (h.cell b o hb hx).1 (hX b o hb h''), (h.cell b o hb hx).2⟩ }

theorem PR.mono {w w' : World} {X X' : XT} (hs : Stable w X w' X') {v : Value} {x : AV} (h : PR w X v x) : PR w' X' v x := by
  induction h with
  | undef v => exact .undef v
  | bool b => exact .bool b
  | int k n => exact .int k n
  | str s => exact .str s
  | nilp => exact .nilp
  | nilf => exact .nilf
  | lst0 a cap sz t ht => exact .lst0 a cap sz t ht
  | slc a cap => exact .slc a cap
  | fp b g hX hc =>
    obtain ⟨h4, h5⟩ := hs.cell b 0 (World.block_lt_of_cell? (w := w) (a := ⟨b, 0, none⟩) hc) hX
    exact .fp b g h4 (h5.trans hc)
  | fm r l es clock hX hobj hlen hk =>
    have hr : r < w.heap.size := (Array.getElem?_eq_some_iff.1 hobj).1
    refine .fm r l es clock (fun o => (hs.cell r o hr (hX o)).1) ((hs.blk r hr hX).trans hobj) hlen (fun i k f gs hi => ?_)
    obtain ⟨e, cs, e1, e2, e3, e4, e5⟩ := hk i k f gs hi
    refine ⟨e, cs, e1, e2, e3, e4, fun j g hj => ?_⟩
    obtain ⟨b, b1, b2, b3⟩ := e5 j g hj
    obtain ⟨h4, h5⟩ := hs.cell b 0 (World.block_lt_of_cell? (w := w) (a := ⟨b, 0, none⟩) b3) b2
    exact ⟨b, b1, h4, h5.trans b3⟩
  | lst b o n cap sz t xs f hn hc ht hsz hx hr ih =>
    refine .lst b o n cap sz t xs f hn hc ht hsz (fun i x hi j u hj => ?_) ih
    obtain ⟨h1, h2, h3⟩ := hx i x hi j u hj
    obtain ⟨h4, h5⟩ := hs.cell b _ (World.block_lt_of_cell? (w := w) (a := ⟨b, o + (i * sz + j), none⟩) h2) h1
    exact ⟨h4, h5.trans h2, h3⟩
  | lp b o sz i off xs f hsz hx hr ih =>
    refine .lp b o sz i off xs f hsz (fun i x hi j u hj => ?_) ih
    obtain ⟨h1, h2, h3⟩ := hx i x hi j u hj
    obtain ⟨h4, h5⟩ := hs.cell b _ (World.block_lt_of_cell? (w := w) (a := ⟨b, o + (i * sz + j), none⟩) h2) h1
    exact ⟨h4, h5.trans h2, h3⟩
  | agg cs xs hn h1 _ ih => exact .agg cs xs hn h1 ih

theorem PR.canon {w : World} {X : XT} {v : Value} {sz : Nat} {xs : List AV} {t : Bool} (h : PR w X v (.lst sz xs t)) : PR w X v (.lst (lsz sz xs) xs t) := by
  cases xs with
  | cons x r => exact h
  | nil =>
    cases h with
    | lst0 a cap sz t ht => exact .lst0 _ _ _ _ ht
    | lst b o n cap sz t xs f hn hc ht hsz hx hr =>
      simp only [List.length_nil] at hn
      subst hn
      exact .lst0 _ _ _ _ ht

theorem VR.mono {w w' : World} {X X' : XT} {ρ ρ' : Rho} (hs : Stable w X w' X') (hρ : ∀ g b, ρ g = some b → ρ' g = some b) {v : Value} {x : AV} (h : VR w X ρ v x) : VR w' X' ρ' v x := by
  induction h with
  | pur v x h => exact .pur v x (h.mono hs)
  | ptr g b sz i off hs hg => exact .ptr g b sz i off hs (hρ g b hg)
  | mp g b hg => exact .mp g b (hρ g b hg)
  | own0 a g sz off => exact .own0 a g sz off
  | own g b sz off len cap hg hb hc hk => exact .own g b sz off len cap (hρ g b hg) (Nat.lt_of_lt_of_le hb hs.size) hc (by rw [hs.bsz b hb]; exact hk)
  | clo f cs xs hn _ ih => exact .clo f cs xs hn ih
  | agg cs xs hn h1 _ ih => exact .agg cs xs hn h1 ih
  | tup cs xs hn _ ih => exact .tup cs xs hn ih

theorem VR.undef {w : World} {X : XT} {ρ : Rho} (v : Value) : VR w X ρ v .undef := .pur _ _ (.undef v)

/-- A block of a box may lead to others, another's cells may not. -/
def CR (box : Bool) (w : World) (X : XT) (ρ : Rho) (v : Value) (x : AV) : Prop := if box then VR w X ρ v x else PR w X v x

theorem CR.mono {box : Bool} {w w' : World} {X X' : XT} {ρ ρ' : Rho} (hs : Stable w X w' X') (hρ : ∀ g b, ρ g = some b → ρ' g = some b) {v : Value} {x : AV} (h : CR box w X ρ v x) : CR box w' X' ρ' v x := by
  cases box
  · exact PR.mono hs h
  · exact VR.mono hs hρ h

theorem CR.vr {box : Bool} {w : World} {X : XT} {ρ : Rho} {v : Value} {x : AV} (h : CR box w X ρ v x) : VR w X ρ v x := by
  cases box
  · exact .pur _ _ h
  · exact h

/-- The elements of a block. -/
def ElemsAt (box : Bool) (w : World) (X : XT) (ρ : Rho) (cs : Array Value) (sz : Nat) (es : List AV) : Prop :=
  es.length * sz ≤ cs.size ∧ ∀ (i : Nat) (x : AV), es[i]? = some x → x.cells.length = sz ∧ ∀ (j : Nat) (u : AV), x.cells[j]? = some u → (cs.getD (i * sz + j) undef).oneCell' = true ∧ CR box w X ρ (cs.getD (i * sz + j) undef) u

theorem ElemsAt.mono {box : Bool} {w w' : World} {X X' : XT} {ρ ρ' : Rho} (hs : Stable w X w' X') (hρ : ∀ g b, ρ g = some b → ρ' g = some b) {cs : Array Value} {sz : Nat} {es : List AV} (h : ElemsAt box w X ρ cs sz es) : ElemsAt box w' X' ρ' cs sz es :=
  ⟨h.1, fun i x hi => ⟨(h.2 i x hi).1, fun j u hj => ⟨((h.2 i x hi).2 j u hj).1, ((h.2 i x hi).2 j u hj).2.mono hs hρ⟩⟩⟩

/-- The entries of a map. -/
inductive MapAt : List MapEntry → List AV → Prop where
  | nil : MapAt [] []
  | cons (e : MapEntry) (k : Int) (x : AV) (es : List MapEntry) (xs : List AV) (hk : e.key = .int .i64 k) (hx : okS x = true) (hv : ∀ w X, PR w X e.val x) (h : MapAt es xs) : MapAt (e :: es) (.agg [.int .i64 k, x] :: xs)

/-- A block whose elements are cells. -/
def BlkC (w : World) (X : XT) (ρ : Rho) (b : Nat) (k : Blk) : Prop :=
  ∃ cs T, w.heap[b]? = some (.cells cs T (0, 0)) ∧ ElemsAt k.box w X ρ cs k.sz k.elems
/-- A block that is a map. -/
def BlkM (w : World) (b : Nat) (k : Blk) : Prop :=
  k.sz = 0 ∧ k.box = false ∧ ∃ es clock, w.heap[b]? = some (.map es clock) ∧ MapAt es.toList k.elems
def BlkAt (w : World) (X : XT) (ρ : Rho) (b : Nat) (k : Blk) : Prop := (0 < k.sz ∧ BlkC w X ρ b k) ∨ BlkM w b k
theorem BlkAt.keep {w w1 : World} {X X1 : XT} {ρ ρ1 : Rho} {b : Nat} {k : Blk} (h : BlkAt w X ρ b k) (hs : Stable w X w1 X1) (hρ : ∀ g b, ρ g = some b → ρ1 g = some b) (hb : w1.heap[b]? = w.heap[b]?) : BlkAt w1 X1 ρ1 b k := by
  rcases h with ⟨h0, cs, T, h1, h2⟩ | ⟨h1, h2, es, c, h4, h5⟩
  · exact .inl ⟨h0, cs, T, hb.trans h1, h2.mono hs hρ⟩
  · exact .inr ⟨h1, h2, es, c, hb.trans h4, h5⟩
theorem BlkAt.cells {w : World} {X : XT} {ρ : Rho} {b : Nat} {k : Blk} (h : BlkAt w X ρ b k) (hs : 0 < k.sz) : BlkC w X ρ b k := (h.resolve_right fun e => by have := e.1; omega).2
theorem BlkAt.map {w : World} {X : XT} {ρ : Rho} {b : Nat} {k : Blk} (h : BlkAt w X ρ b k) (hs : k.sz = 0) : BlkM w b k := h.resolve_left fun e => by have := e.1; omega

def XX (ρ : Rho) (H : Heap) : XT := fun b o => ∃ g k, get H g = some k ∧ ρ g = some b ∧ k.frz * k.sz ≤ o

/-- The cells that may be written, and those that are not looked at. -/
def XU (Y : XT) (ρ : Rho) (H : Heap) : XT := fun b o => XX ρ H b o ∨ Y b o

theorem Stable.un {w w' : World} {X X' : XT} (h : Stable w X w' X') (Y : XT) : Stable w (fun b o => X b o ∨ Y b o) w' (fun b o => X' b o ∨ Y b o) where
  os := h.os
  tape := h.tape
  output := h.output
  size := h.size
  cell := fun b o hb hn => by
    have hX : ¬ X b o := fun e => hn (.inl e)
    have hY : ¬ Y b o := fun e => hn (.inr e)
    exact ⟨fun e => e.elim (h.cell b o hb hX).1 hY, (h.cell b o hb hX).2⟩
  bsz := h.bsz
  blk := fun b hb hn => h.blk b hb fun o e => hn o (.inl e)

theorem Stable.xu {w w' : World} {ρ ρ' : Rho} {H H' : Heap} (h : Stable w (XX ρ H) w' (XX ρ' H')) (Y : XT) : Stable w (XU Y ρ H) w' (XU Y ρ' H') := h.un Y

structure HR (Y : XT) (w : World) (ρ : Rho) (H : Heap) : Prop where
  blk : ∀ g k, get H g = some k → (ρ g = none ∧ k.elems = [] ∧ k.box = false) ∨ ∃ b, ρ g = some b ∧ BlkAt w (XU Y ρ H) ρ b k
  inj : ∀ g g' k k' b, get H g = some k → get H g' = some k' → ρ g = some b → ρ g' = some b → g = g'
  dom : ∀ g b, ρ g = some b → g.2 < (H.getD g.1 []).length
  lt : ∀ g b, ρ g = some b → b < w.heap.size
  sep : ∀ g k b o, get H g = some k → ρ g = some b → ¬ Y b o
  ylt : ∀ b o, Y b o → b < w.heap.size

/-! ### The heap as a function -/

theorem get_set (H : Heap) (g g' : Nm) (b : Option Blk) : get (set H g b) g' = if g' = g ∧ (∃ l, H[g.1]? = some l ∧ g.2 < l.length) then b else get H g' := by
  obtain ⟨a, c⟩ := g
  obtain ⟨a', c'⟩ := g'
  simp only [get, set, List.getElem?_modify, Prod.mk.injEq]
  by_cases ha : a = a'
  · subst ha
    cases hl : H[a]? with
    | none => simp
    | some l =>
      simp only [if_true, Option.map_some, List.getElem?_set, true_and]
      by_cases hc : c = c'
      · subst hc
        by_cases hlt : c < l.length
        · simp [hlt]
        · simp [hlt]
      · simp [hc, Ne.symm hc]
  · have : ¬ a' = a := fun h => ha h.symm
    cases hl : H[a']? <;> simp [ha, this]

theorem get_some_lt {H : Heap} {g : Nm} {k : Blk} (h : get H g = some k) : ∃ l, H[g.1]? = some l ∧ g.2 < l.length := by
  unfold get at h
  cases hl : H[g.1]? with
  | none => simp [hl] at h
  | some l =>
    refine ⟨l, rfl, ?_⟩
    simp only [hl] at h
    rcases Nat.lt_or_ge g.2 l.length with hlt | hge
    · exact hlt
    · rw [List.getElem?_eq_none hge] at h
      simp at h

theorem get_set_same {H : Heap} {g : Nm} {k : Blk} (h : get H g = some k) (b : Option Blk) : get (set H g b) g = b := by
  rw [get_set, if_pos ⟨rfl, get_some_lt h⟩]

theorem get_set_ne {H : Heap} {g g' : Nm} (h : g' ≠ g) (b : Option Blk) : get (set H g b) g' = get H g' := by
  rw [get_set, if_neg (fun e => h e.1)]

theorem len_set (H : Heap) (g : Nm) (b : Option Blk) : (set H g b).length = H.length := by simp [set]

theorem getD_set_length (H : Heap) (g : Nm) (b : Option Blk) (i : Nat) : ((set H g b).getD i []).length = (H.getD i []).length := by
  simp only [set, List.getD_eq_getElem?_getD, List.getElem?_modify]
  cases H[i]? with
  | none => simp
  | some l => by_cases h : g.1 = i <;> simp [h]

/-! ### The frame -/

theorem look_ins (s : Nat) (x : AV) (fr : Fr) (t : Nat) : look (ins s x fr) t = if s = t then x else look fr t := by
  induction fr with
  | nil => simp [ins, look]
  | cons p r ih =>
    obtain ⟨t', y⟩ := p
    simp only [ins]
    by_cases h1 : s < t'
    · simp [h1, look]
    · by_cases h2 : s = t'
      · subst h2
        simp only [Nat.lt_irrefl, if_false, if_true, look]
        by_cases h3 : s = t <;> simp [h3]
      · simp only [h1, h2, if_false, look, ih]
        by_cases h3 : t' = t
        · simp [h3]
          intro h; exact absurd (h.trans h3.symm) h2
        · simp [h3]

theorem look_clear (locs : List Nat) (fr : Fr) (t : Nat) : look (clear locs fr) t = if locs.contains t then look fr t else .undef := by
  induction fr with
  | nil => simp [clear, look]
  | cons p r ih =>
    obtain ⟨s, y⟩ := p
    have e : clear locs ((s, y) :: r) = if locs.contains s then (s, y) :: clear locs r else clear locs r := by
      simp only [clear, List.filter_cons]
    rw [e]
    by_cases h : locs.contains s = true
    · rw [if_pos h]
      simp only [look, ih]
      by_cases hs : s = t
      · subst hs; simp only [if_true, if_pos h]
      · simp only [if_neg hs]
    · rw [if_neg h, ih]
      simp only [look]
      by_cases hs : s = t
      · subst hs; simp only [if_neg h]
      · simp only [if_neg hs]

/-- The slots hold what the frame says. -/
def FR (w : World) (X : XT) (ρ : Rho) (tmps : Array Value) (fr : Fr) : Prop := ∀ t, VR w X ρ (tmps.getD t undef) (look fr t)

theorem FR.mono {w w' : World} {X X' : XT} {ρ ρ' : Rho} (hs : Stable w X w' X') (hρ : ∀ g b, ρ g = some b → ρ' g = some b) {tmps : Array Value} {fr : Fr} (h : FR w X ρ tmps fr) : FR w' X' ρ' tmps fr := fun t => (h t).mono hs hρ

theorem getD_set (tmps : Array Value) (d t : Nat) (v : Value) (hd : d < tmps.size) : (tmps.setIfInBounds d v).getD t undef = if d = t then v else tmps.getD t undef := by
  simp only [Array.getD_eq_getD_getElem?, Array.getElem?_setIfInBounds]
  by_cases h : d = t
  · subst h; simp [hd]
  · simp [h]

theorem FR.put {w : World} {X : XT} {ρ : Rho} {tmps : Array Value} {fr : Fr} (h : FR w X ρ tmps fr) {d : Nat} (hd : d < tmps.size) {v : Value} {x : AV} (hv : VR w X ρ v x) : FR w X ρ (tmps.setIfInBounds d v) (ins d x fr) := by
  intro t
  rw [getD_set tmps d t v hd, look_ins]
  by_cases e : d = t
  · simp only [if_pos e]; exact hv
  · simp only [if_neg e]; exact h t

theorem FR.clear {w : World} {X : XT} {ρ : Rho} {tmps : Array Value} {fr : Fr} (h : FR w X ρ tmps fr) (locs : List Nat) : FR w X ρ tmps (clear locs fr) := by
  intro t
  rw [look_clear]
  split
  · exact h t
  · exact .undef _

/-! ### Constants -/

theorem okC_one {w : World} {X : XT} {ρ : Rho} {v : Value} {x : AV} (h : VR w X ρ v x) (hk : okC x = true) : v.oneCell' = true := by
  cases h with
  | pur v x h => cases h <;> first | rfl | (simp [okC] at hk)
  | ptr => rfl
  | mp => rfl
  | own0 => rfl
  | own => rfl
  | clo => rfl
  | agg => simp [okC] at hk
  | tup => simp [okC] at hk

theorem PR.okC_one {w : World} {X : XT} {v : Value} {x : AV} (h : PR w X v x) (hk : okC x = true) : v.oneCell' = true :=
  Abs.okC_one (ρ := fun _ => none) (.pur v x h) hk

theorem PR.nt1 {w : World} {X : XT} {v : Value} {x : AV} (h : PR w X v x) : PR w X v (Abs.nt1 x) := by
  cases h with
  | lst0 a cap sz t ht => exact .lst0 _ _ _ _ (fun e => by cases e)
  | lst b o n cap sz t xs f hn hc ht hsz hx hr => exact .lst b o _ cap sz _ xs f hn hc (fun e => by cases e) hsz hx hr
  | undef v => exact .undef v
  | bool b => exact .bool b
  | int k n => exact .int k n
  | str s => exact .str s
  | nilp => exact .nilp
  | nilf => exact .nilf
  | lp b o sz i off xs f hsz hx hr => exact .lp b o sz i off xs f hsz hx hr
  | slc a cap => exact .slc a cap
  | fp b g h1 h2 => exact .fp b g h1 h2
  | fm r l es c h1 h2 h3 h4 => exact .fm r l es c h1 h2 h3 h4
  | agg cs xs hn h1 h => exact .agg cs xs hn h1 h
theorem PR.nt {w : World} {X : XT} {v : Value} {x : AV} (h : PR w X v x) : PR w X v (ntV x) := by
  cases h with
  | agg cs xs hn h1 h =>
    refine .agg cs _ (by simp [hn]) h1 (fun i x hx => ?_)
    rw [List.getElem?_map] at hx
    obtain ⟨y, hy, rfl⟩ := Option.map_eq_some_iff.1 hx
    exact (h i y hy).nt1
  | lst0 a cap sz t ht => exact .lst0 _ _ _ _ (fun e => by cases e)
  | lst b o n cap sz t xs f hn hc ht hsz hx hr => exact .lst b o _ cap sz _ xs f hn hc (fun e => by cases e) hsz hx hr
  | undef v => exact .undef v
  | bool b => exact .bool b
  | int k n => exact .int k n
  | str s => exact .str s
  | nilp => exact .nilp
  | nilf => exact .nilf
  | lp b o sz i off xs f hsz hx hr => exact .lp b o sz i off xs f hsz hx hr
  | slc a cap => exact .slc a cap
  | fp b g h1 h2 => exact .fp b g h1 h2
  | fm r l es c h1 h2 h3 h4 => exact .fm r l es c h1 h2 h3 h4

theorem cv1_rel (w : World) (X : XT) (v : Value) : PR w X v (cv1 v) := by
  unfold cv1
  split
  · exact .bool _
  · exact .int _ _
  · exact .str _
  · exact .nilp
  · exact .nilf
  · exact .lst0 _ _ _ _ (fun _ => rfl)
  · exact .undef _

theorem cv_rel (w : World) (X : XT) (v : Value) : PR w X v (cv v) := by
  unfold cv
  split
  · rename_i cs
    split
    · rename_i hall
      refine .agg cs _ (by simp) (fun i hi => ?_) (fun i x hx => ?_)
      · have hc : cs.getD i undef = cs[i] := by simp [Array.getD_eq_getD_getElem?, hi]
        rw [hc]
        refine PR.okC_one (w := w) (X := X) (cv1_rel w X cs[i]) ?_
        rw [List.all_eq_true] at hall
        exact hall _ (List.mem_map.2 ⟨cs[i], by simp, rfl⟩)
      · rw [List.getElem?_map] at hx
        cases hc : cs.toList[i]? with
        | none => simp [hc] at hx
        | some c =>
          simp [hc] at hx
          subst hx
          have : cs.getD i undef = c := by
            simp at hc
            simp [Array.getD_eq_getD_getElem?, hc]
          rw [this]
          exact cv1_rel w X c
    · exact .undef _
  · exact cv1_rel w X v

/-- An operand. -/
theorem evO_rel {w : World} {X : XT} {ρ : Rho} {a : Act} {fr : Fr} (h : FR w X ρ a.tmps fr) (x : Operand) : VR w X ρ (a.eval x) (evO fr x) := by
  cases x with
  | tmp t => exact h t
  | const v => exact .pur _ _ (cv_rel w X v)
  | global g => exact .undef _
  | func f => exact .clo f #[] [] rfl (fun i x hx => by simp at hx)

end Go.Abs
