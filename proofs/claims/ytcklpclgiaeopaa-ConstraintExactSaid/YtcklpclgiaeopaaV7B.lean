/- Lemmas for the statement of the last text of this claim. -/
import Derived.Test.YtcklpclgiaeopaaPxK
import Derived.Test.YtcklpclgiaeopaaPxQ
import Derived.Test.YtcklpclgiaeopaaChecked
import Derived.ProofKit
import Derived.WalkKit
import Derived.BigCall
import Derived.Deep.LoopGhost
import Derived.Deep.OwnRows
import Derived.Test.YtcklpclgiaeopaaPxR
import Derived.Deep.AppendLies
import Derived.Laws.OwnMore
import Derived.BigQuiet
import Derived.Test.YtcklpclgiaeopaaV7A
set_option linter.unusedSimpArgs false
set_option linter.unusedVariables false
namespace Go.Proofs.Ytcklpclgiaeopaa
open Go Go.Abs Go.RowKit Go.FW
theorem since_grown {w0 w w' : World} {row : Option Nat} (h : w0.Since w0.heap.size w) (hg : w.grownBy w' row) (hrow : ∀ k, row = some k → w0.heap.size ≤ k) : w0.Since w0.heap.size w' :=
  ⟨hg.os.trans h.os, hg.tape.trans h.tape, hg.output.trans h.output, Nat.le_trans h.size hg.size, fun i hi => (hg.block i (Nat.lt_of_lt_of_le hi h.size) (fun e => by have := hrow i e.symm; omega)).trans (h.block i hi)⟩

theorem own_ge {w : World} {base e g n cap : Nat} {xs : List Value} {f : Nat → Value} (h : w.ownsRow base e 1 (.slice (some ⟨g, 0, none⟩) n cap) n xs) (hf : ∀ i, i < n → xs[i]? = some (f i)) : RowGe w g e n f ∧ n ≤ cap := by
  rcases h.2 with ⟨h', _⟩ | ⟨g', cap', cur, h', _, hg, hn, _, hs, htake⟩
  · cases h'
  · cases h'
    refine ⟨⟨cur, hg, by omega, fun i hi => ?_⟩, hn⟩
    have := hf i hi
    rw [← htake, List.getElem?_take, if_pos (by omega)] at this
    rw [← this]
    simp

/-- The rows so far. -/
structure RB (w1 wr : World) (N i : Nat) (dv : Value) (R C : Nat → Nat) : Prop where
  since : w1.Since w1.heap.size wr
  own : wr.ownsRow w1.heap.size 22 1 dv i ((List.range i).map fun a => .slice (some ⟨R a, 0, none⟩) N (C a))
  row : ∀ a, a < i → RowGe wr (R a) 3 N (fun j => .int .i64 (if a = j then 0 else INF))
  base : ∀ a, a < i → w1.heap.size ≤ R a
  inj : ∀ a b, a < i → b < i → R a = R b → a = b
  apart : ∀ a, a < i → dv.ownBlock ≠ some (R a)
  cap : ∀ a, a < i → N ≤ C a

theorem RB.start {w1 wr : World} {N : Nat} (h : w1.Since w1.heap.size wr) (R C : Nat → Nat) : RB w1 wr N 0 (.slice none 0 0) R C :=
  ⟨h, World.ownsRow_nil _ _ _ _, fun a ha => by omega, fun a ha => by omega, fun a b ha => by omega, fun a ha => by omega, fun a ha => by omega⟩

theorem RB.grow {w1 wr w' : World} {N i : Nat} {dv : Value} {R C : Nat → Nat} (h : RB w1 wr N i dv R C) {row : Option Nat} (hg : wr.grownBy w' row) (hrow : ∀ k, row = some k → w1.heap.size ≤ k ∧ dv.ownBlock ≠ some k ∧ ∀ a, a < i → R a ≠ k) : RB w1 w' N i dv R C := by
  refine ⟨since_grown h.since hg (fun k e => (hrow k e).1), h.own.kept hg ?_, fun a ha => (h.row a ha).of_block (hg.block _ (h.row a ha).lt (fun e => ?_)), h.base, h.inj, h.apart, h.cap⟩
  · cases hd : dv.ownBlock with
    | none => exact .inl rfl
    | some k => exact .inr (fun e => (hrow k e.symm).2.1 hd)
  · exact (hrow _ e.symm).2.2 a ha rfl

theorem grown_set (w : World) (g j : Nat) (v : Value) : w.grownBy (w.setCell ⟨g, j, none⟩ v) (some g) :=
  ⟨rfl, rfl, rfl, by simp [World.setCell], fun k _ hne => by
    simp only [World.setCell]
    rw [Array.getElem?_modify, if_neg (fun e => hne (by rw [e]))]⟩

/-- A row under way. -/
structure RI (w1 wr : World) (N i j : Nat) (dv rv : Value) (R C : Nat → Nat) : Prop where
  rb : RB w1 wr N i dv R C
  own : wr.ownsRow w1.heap.size 3 1 rv j (List.replicate j (.int .i64 INF))
  far : ∀ g, rv.ownBlock = some g → dv.ownBlock ≠ some g ∧ ∀ a, a < i → R a ≠ g

theorem RI.start {w1 wr : World} {N i : Nat} {dv : Value} {R C : Nat → Nat} (h : RB w1 wr N i dv R C) : RI w1 wr N i 0 dv (.slice none 0 0) R C :=
  ⟨h, World.ownsRow_nil _ _ _ _, fun g e => by cases e⟩

theorem RI.step {w1 wr w' : World} {N i j g cap : Nat} {dv rv : Value} {R C : Nat → Nat} {X : Obj} (h : RI w1 wr N i j dv rv R C)
    (hown : w'.ownsRow w1.heap.size 3 1 (.slice (some ⟨g, 0, none⟩) (j + 1) cap) (j + 1) (List.replicate j (.int .i64 INF) ++ [.int .i64 1099511627776])) (hgrow : (wr.alloc X).grownBy w' rv.ownBlock) (hat : rv.ownBlock = some g ∨ g = wr.heap.size + 1) :
    RI w1 w' N i (j + 1) dv (.slice (some ⟨g, 0, none⟩) (j + 1) cap) R C := by
  have hA : RB w1 (wr.alloc X) N i dv R C := h.rb.grow (World.grownBy_alloc wr X none) (fun k e => by cases e)
  have hlt := h.own.lt
  refine ⟨hA.grow hgrow (fun k e => ⟨(hlt k e).1, (h.far k e).1, (h.far k e).2⟩), ?_, fun k e => ?_⟩
  · rw [List.replicate_succ']; exact hown
  · have hk : g = k := by simpa [Value.ownBlock] using e
    subst hk
    rcases hat with hat | hat
    · exact h.far g hat
    · refine ⟨fun e => ?_, fun a ha e => ?_⟩
      · have := (h.rb.own.lt g e).2; omega
      · have := (h.rb.row a ha).lt; omega

/-- A row that is whole, and its own place 0. -/
theorem RI.done {w1 wr : World} {N i g cap : Nat} {dv : Value} {R C : Nat → Nat} (h : RI w1 wr N i N dv (.slice (some ⟨g, 0, none⟩) N cap) R C) (hi : i < N) :
    let ws := wr.setCell ⟨g, i, none⟩ (.int .i64 0)
    RB w1 ws N i dv R C ∧ RowGe ws g 3 N (fun j => .int .i64 (if i = j then 0 else INF)) ∧ N ≤ cap ∧ w1.heap.size ≤ g ∧ dv.ownBlock ≠ some g ∧ (∀ a, a < i → R a ≠ g) := by
  have hf := h.far g rfl
  have hlt := h.own.lt g rfl
  obtain ⟨o1, o2⟩ := own_ge (f := fun _ => .int .i64 INF) h.own (fun k hk => by rw [List.getElem?_replicate, if_pos hk])
  refine ⟨h.rb.grow (grown_set wr g i _) (fun k e => by cases e; exact ⟨hlt.1, hf.1, hf.2⟩), (o1.set i _).congr (fun j _ => ?_), o2, hlt.1, hf.1, hf.2⟩
  by_cases e : j = i
  · rw [if_pos e, if_pos e.symm]
  · rw [if_neg e, if_neg (fun h => e h.symm)]

theorem RB.step {w1 ws w' : World} {N i g cap g' cap' : Nat} {dv : Value} {R C : Nat → Nat} {X : Obj} (h : RB w1 ws N i dv R C) (hrow : RowGe ws g 3 N (fun j => .int .i64 (if i = j then 0 else INF))) (hcap : N ≤ cap) (hb : w1.heap.size ≤ g) (hf1 : dv.ownBlock ≠ some g) (hf2 : ∀ a, a < i → R a ≠ g)
    (hown : w'.ownsRow w1.heap.size 22 1 (.slice (some ⟨g', 0, none⟩) (i + 1) cap') (i + 1) ((List.range i).map (fun a => .slice (some ⟨R a, 0, none⟩) N (C a)) ++ [.slice (some ⟨g, 0, none⟩) N cap])) (hgrow : (ws.alloc X).grownBy w' dv.ownBlock) (hat : dv.ownBlock = some g' ∨ g' = ws.heap.size + 1) :
    RB w1 w' N (i + 1) (.slice (some ⟨g', 0, none⟩) (i + 1) cap') (FW.setN R i g) (FW.setN C i cap) := by
  have hR : ∀ a, a < i → FW.setN R i g a = R a := fun a ha => by unfold FW.setN; rw [if_neg (by omega)]
  have hC : ∀ a, a < i → FW.setN C i cap a = C a := fun a ha => by unfold FW.setN; rw [if_neg (by omega)]
  have hRi : FW.setN R i g i = g := by unfold FW.setN; rw [if_pos rfl]
  have hCi : FW.setN C i cap i = cap := by unfold FW.setN; rw [if_pos rfl]
  have hsA : w1.Since w1.heap.size (ws.alloc X) := since_grown h.since (World.grownBy_alloc ws X none) (fun k e => by cases e)
  have hrA := fun a ha => (h.row a ha).alloc X
  refine ⟨since_grown hsA hgrow (fun k e => (h.own.lt k e).1), ?_, fun a ha => ?_, fun a ha => ?_, fun a b ha hb' e => ?_, fun a ha => ?_, fun a ha => ?_⟩
  · have : (List.range (i + 1)).map (fun a => Value.slice (some ⟨FW.setN R i g a, 0, none⟩) N (FW.setN C i cap a)) = (List.range i).map (fun a => .slice (some ⟨R a, 0, none⟩) N (C a)) ++ [.slice (some ⟨g, 0, none⟩) N cap] := by
      rw [List.range_succ, List.map_append]
      congr 1
      · exact List.map_congr_left (fun a ha => by rw [hR a (List.mem_range.1 ha), hC a (List.mem_range.1 ha)])
      · simp only [List.map_cons, List.map_nil, hRi, hCi]
    rw [this]; exact hown
  · by_cases e : a = i
    · subst e
      rw [hRi]
      exact (hrow.alloc X).of_block (hgrow.block _ (hrow.alloc X).lt (fun e => hf1 e.symm))
    · rw [hR a (by omega)]
      exact (hrA a (by omega)).of_block (hgrow.block _ (hrA a (by omega)).lt (fun e => h.apart a (by omega) e.symm))
  · by_cases e : a = i
    · subst e; rw [hRi]; exact hb
    · rw [hR a (by omega)]; exact h.base a (by omega)
  · by_cases ea : a = i
    · by_cases eb : b = i
      · omega
      · subst ea
        rw [hRi, hR b (by omega)] at e
        exact absurd e.symm (hf2 b (by omega))
    · by_cases eb : b = i
      · subst eb
        rw [hRi, hR a (by omega)] at e
        exact absurd e (hf2 a (by omega))
      · rw [hR a (by omega), hR b (by omega)] at e
        exact h.inj a b (by omega) (by omega) e
  · intro e
    have e : g' = FW.setN R i g a := by simpa [Value.ownBlock] using e
    rcases hat with hat | hat
    · rw [e] at hat
      by_cases ea : a = i
      · subst ea; rw [hRi] at hat; exact hf1 hat
      · rw [hR a (by omega)] at hat; exact h.apart a (by omega) hat
    · by_cases ea : a = i
      · subst ea; rw [hRi] at e; have := hrow.lt; omega
      · rw [hR a (by omega)] at e; have := (h.row a (by omega)).lt; omega
  · by_cases e : a = i
    · subst e; rw [hCi]; exact hcap
    · rw [hC a (by omega)]; exact h.cap a (by omega)

/-- A matrix of one's own. -/
structure GM (w1 wr : World) (N B : Nat) (R C : Nat → Nat) (M : Nat → Nat → Int) : Prop where
  since : w1.Since w1.heap.size wr
  base : w1.heap.size ≤ B
  rbase : ∀ a, a < N → w1.heap.size ≤ R a
  grid : Grid wr B 22 3 N N R C M

theorem GM.drew {w1 wr : World} {N B : Nat} {R C : Nat → Nat} {M : Nat → Nat → Int} (h : GM w1 wr N B R C M) : GM w1 wr.drew N B R C M := ⟨h.since.drew, h.base, h.rbase, h.grid.drew⟩

theorem GM.set {w1 wr : World} {N B : Nat} {R C : Nat → Nat} {M : Nat → Nat → Int} (h : GM w1 wr N B R C M) {i j : Nat} (hi : i < N) (v : Int) : GM w1 (wr.setCell ⟨R i, j, none⟩ (.int .i64 v)) N B R C (FW.upd M i j v) :=
  ⟨h.since.setCell (h.rbase i hi) _, h.base, h.rbase, h.grid.set hi v⟩

theorem GM.congr {w1 wr : World} {N B : Nat} {R C : Nat → Nat} {M M' : Nat → Nat → Int} (h : GM w1 wr N B R C M) (e : ∀ i j, i < N → j < N → M i j = M' i j) : GM w1 wr N B R C M' := ⟨h.since, h.base, h.rbase, h.grid.congr e⟩

theorem RB.whole {w1 wr : World} {N B cap : Nat} {R C : Nat → Nat} (h : RB w1 wr N N (.slice (some ⟨B, 0, none⟩) N cap) R C) : GM w1 wr N B R C (fun a b => if a = b then 0 else INF) ∧ N ≤ cap := by
  obtain ⟨o1, o2⟩ := own_ge (f := fun a => .slice (some ⟨R a, 0, none⟩) N (C a)) h.own (fun k hk => by rw [List.getElem?_map, List.getElem?_range hk]; rfl)
  exact ⟨⟨h.since, (h.own.lt B rfl).1, h.base, ⟨o1, h.row, h.inj, fun a ha e => h.apart a ha (by rw [e]; rfl), h.cap⟩⟩, o2⟩

/-- The bounds so far, and 0 on the diagonal. -/
def matR (l : List DT) (c : Nat) (a b : Nat) : Int := min (dirM (l.take c) a b) (if a = b then 0 else INF)

theorem matR_start (l : List DT) (a b : Nat) : (if a = b then 0 else INF) = matR l 0 a b := by
  have h : dirM (l.take 0) a b = INF := rfl
  unfold matR
  rw [h]
  split <;> (unfold INF; omega)

theorem matR_step {l : List DT} {p f t : Nat} {z v : Int} (h : l[p]? = some ((f : Int), (t : Int), z, ())) (hv : v = min (matR l p f t) z) (a b : Nat) : FW.upd (matR l p) f t v a b = matR l (p + 1) a b := by
  unfold FW.upd matR at *
  rw [dir_snoc h]
  by_cases e : a = f ∧ b = t
  · rw [if_pos e, if_pos e, hv, e.1, e.2]
    omega
  · rw [if_neg e, if_neg e]

theorem matR_end (l : List DT) (a b : Nat) : matR l l.length a b = W0 l a b := by
  unfold matR W0
  rw [List.take_length]
  have := dir_inf l a b
  split <;> omega

theorem diag_no {N p f : Nat} {l : List DT} {z : Int} (hv : validC (N : Int) l = true) (h : l[p]? = some ((f : Int), (f : Int), z, ())) (hz : z < 0) (hf : f < N) : closeB (N : Int) l = false := by
  cases hc : closeB (N : Int) l
  · rfl
  · have h1 := (closeB_iff.1 hc).2 f (by omega)
    rw [Int.toNat_natCast] at h1
    have h2 := rounds_le (W0 l) f f (Nat.zero_le N)
    have h3 : rounds (W0 l) 0 f f = W0 l f f := rfl
    have h4 : W0 l f f ≤ dirM l f f := by unfold W0; rw [if_pos rfl]; omega
    have h5 := dir_le (List.mem_of_getElem? h) (i := f) (j := f) rfl rfl
    simp only at h5
    omega

/-- What ref Close makes. -/
def CloseQ (n : Int) (l : List DT) (w : World) (e : Ending) (w' : World) : Prop := ∃ u, e = .returned (.tuple #[u, .bool (closeB n l)]) ∧ w.Since w.heap.size w' ∧
  if closeB n l then ∃ (B cap : Nat) (R C : Nat → Nat), w.heap.size ≤ B ∧ (∀ a, a < n.toNat → w.heap.size ≤ R a) ∧ n.toNat ≤ cap ∧ u = .slice (some ⟨B, 0, none⟩) n.toNat cap ∧ Grid w' B 22 3 n.toNat n.toNat R C (rounds (W0 l) n.toNat) else u = .slice none 0 0

theorem closeQ_no {n : Int} {l : List DT} {w w' : World} (h : closeB n l = false) (hs : w.Since w.heap.size w') : CloseQ n l w (.returned (.tuple #[.slice none 0 0, .bool false])) w' :=
  ⟨.slice none 0 0, by rw [h], hs, by rw [h]; rfl⟩

theorem closeQ_yes {N B cap : Nat} {R C : Nat → Nat} {l : List DT} {w w1 w2 : World} {M : Nat → Nat → Int} (hv : validC (N : Int) l = true) (h : Below w.heap.size w w1) (hM : GM w1 w2 N B R C M) (hcap : N ≤ cap) (hP : PS (W0 l) N N 0 0 M) (hd : ∀ q, q < N → 0 ≤ M q q) :
    CloseQ (N : Int) l w (.returned (.tuple #[.slice (some ⟨B, 0, none⟩) N cap, .bool true])) w2 := by
  obtain ⟨g1, g2⟩ := hP.final hd
  have hc : closeB (N : Int) l = true := closeB_iff.2 ⟨hv, g1⟩
  refine ⟨_, by rw [hc], since_trans h hM.since, ?_⟩
  rw [hc]
  exact ⟨B, cap, R, C, Nat.le_trans h.size hM.base, fun a ha => Nat.le_trans h.size (hM.rbase a ha), hcap, rfl, hM.grid.congr g2⟩

end Go.Proofs.Ytcklpclgiaeopaa

namespace Go.Proofs.Ytcklpclgiaeopaa
open Go Go.Abs Go.RowKit Go.FW
theorem ri_done {w1 wi : World} {N c q : Nat} {dv rv : Value} {R C : Nat → Nat} (h : RI w1 wi N c q dv rv R C) (e : q = N) : RI w1 wi N c N dv rv R C := by subst e; exact h

theorem rb_done {w1 wr : World} {N c : Nat} {dv : Value} {R C : Nat → Nat} (h : RB w1 wr N c dv R C) (e : c = N) : RB w1 wr N N dv R C := by subst e; exact h

theorem gm_done {w1 wr : World} {N B p : Nat} {R C : Nat → Nat} {l : List DT} (h : GM w1 wr N B R C (matR l p)) (e : p = l.length) : GM w1 wr N B R C (W0 l) := by subst e; exact h.congr fun a b _ _ => matR_end l a b

theorem one_news {w : World} {v : Value} {t : TypeId} : ∀ (j : Nat) (u : Value), [v][j]? = some u → (w.alloc (.cells #[v] t)).cell? ((⟨w.heap.size, 0, none⟩ : Addr).add j) = some u := World.news_of_block (heap_alloc_new w _)

theorem ps_round {N k i : Nat} {l : List DT} {M : Nat → Nat → Int} (h : PS (W0 l) N k i 0 M) (hi : i = N) : PS (W0 l) N (k + 1) 0 0 M := by subst hi; exact h.round_end

theorem GM.drewN {w1 wr : World} {N B : Nat} {R C : Nat → Nat} {M : Nat → Nat → Int} (h : GM w1 wr N B R C M) (k : Nat) : GM w1 (wr.drewN k) N B R C M :=
  ⟨⟨h.since.os, h.since.tape, h.since.output, h.since.size, h.since.block⟩, h.base, h.rbase, ⟨h.grid.top.of_block rfl, fun i hi => (h.grid.row i hi).of_block rfl, h.grid.inj, h.grid.apart, h.grid.cap⟩⟩

set_option maxHeartbeats 6400000 in
set_option maxRecDepth 1000000 in
theorem closeQ_walk (n : Int) (v : Value) (l : List DT) (w : World) (hv : PR w noX v (rowAV tD l false)) : Calls Try.prog 22 #[.int .i64 n, v] w (CloseQ n l w) := by
  have hval := calls25 (n := n) hv
  obtain ⟨a, b, o, cap, rfl, ha, hc⟩ := row_diff hv
  have H : Hid ((l ≠ [] → a = some ⟨b, o, none⟩) ∧ ∀ (p : Nat) (d : DT), l[p]? = some d → w.cell? ⟨b, o + p * 3, none⟩ = some (.int .i64 d.1) ∧ w.cell? ⟨b, o + p * 3 + 1, none⟩ = some (.int .i64 d.2.1) ∧ w.cell? ⟨b, o + p * 3 + 2, none⟩ = some (.int .i64 d.2.2.1)) := ⟨ha, hc⟩
  clear ha hc hv
  obtain ⟨vb, hvb⟩ : ∃ vb, vb = validC n l := ⟨_, rfl⟩
  rw [← hvb] at hval
  have Hv : Hid (vb = validC n l) := hvb
  clear hvb
  obtain ⟨i3, hi3, hz3, hs3, hb3⟩ := info_parts Try.info3
  obtain ⟨i22, hi22, hz22, hs22, hb22⟩ := info_parts Try.info22
  go_enter Try.func22, Try.ntmps22
  go_wp2_with (go_at_call 25; refine hval.mono ?_; rintro e w1 ⟨rfl, hw1⟩)
  · go_ret2
    have hvb := Hv.out
    exact closeQ_no (valid_no (by rw [← hvb]; simpa using ‹(!vb) = true›)) (since_of_below hw1)
  · have hvb := Hv.out
    have hvt : validC n l = true := by rw [← hvb]; simpa using ‹(!vb) = false›
    have hvb2 : vb = true := by simpa using ‹(!vb) = false›
    clear hvb
    subst hvb2
    obtain ⟨⟨n1, n2⟩, n3, n4⟩ := valid_iff.1 hvt
    obtain ⟨N, rfl⟩ := Int.eq_ofNat_of_zero_le (show 0 ≤ n by omega)
    have hN : N ≤ 41 := by omega
    have hN1 : 1 ≤ N := by omega
    have HV : Hid (validC (N : Int) l = true) := hvt
    have HN : Hid (∀ d ∈ l, okD (N : Int) d = true) := n4
    have HW : Hid (Below w.heap.size w w1) := hw1
    clear hval hvt n1 n2 n4 Hv hw1
    go_loopg [6, 7] N (fun g d i wr => ∃ (c : Nat) (dv : Value) (R C : Nat → Nat), c ≤ N ∧ g = N - c ∧ i = .int .i64 c ∧ dv = d ∧ Hid (RB w1 wr N c dv R C))
    case atStart => exact ⟨0, _, fun _ => 0, fun _ => 0, Nat.zero_le _, rfl, rfl, rfl, RB.start (World.Since.refl _ _) _ _⟩
    case round =>
      obtain ⟨c, dv, R, C, hc', rfl, rfl, rfl, HB⟩ := hrel
      by_cases hcN : c < N
      · go_wp2
        go_loopg [8, 9] N (fun g rv j wi => ∃ (q : Nat) (rx : Value), q ≤ N ∧ g = N - q ∧ j = .int .i64 q ∧ rx = rv ∧ Hid (RI w1 wi N c q dv rx R C))
        case atStart => exact ⟨0, _, Nat.zero_le _, rfl, rfl, rfl, RI.start HB.out⟩
        case round =>
          clear HB
          obtain ⟨q, rx, hq, rfl, rfl, rfl, HI⟩ := hrel
          by_cases hqN : q < N
          · go_wp2_with (at_builtin; refine wpList_append_lies _ rfl _ _ 22 rfl w1.heap.size 3 i3 (.int .i64 0) 1 8 Try.underlying22 hi3 hz3 hs3 hb3 rfl (by decide) rx q (List.replicate q (.int .i64 INF)) rfl (HI.out.own.alloc _) ⟨wr.heap.size, 0, none⟩ 1 1 [.int .i64 1099511627776] rfl rfl one_news (by intro u hu; simp at hu; subst hu; rfl) (by decide) (by unfold maxLen; omega) (by omega) (by have := HI.out.rb.since.size; simp; omega) (wr.heap.size + 1) (by simp) ?_; intro g1 cap1 w2 hown hgrow hat hlt)
            go_roundg (N - (q + 1))
            case measure => omega
            case rel => exact ⟨q + 1, _, by omega, rfl, by simp, rfl, HI.out.step hown hgrow hat⟩
          · have HF : Hid (RI w1 wr N c N dv rx R C) := ri_done HI.out (by omega)
            clear HI
            obtain ⟨g1, cap1, rfl, hg1, hg2⟩ := HF.out.own.form (by omega)
            have k1 : wr.cell? ⟨g1, c, none⟩ = some (.int .i64 INF) := by rw [HF.out.own.cellAt c (by omega), List.getElem?_replicate, if_pos hcN]
            have k2 : wr.frozen? ⟨g1, c, none⟩ = false := HF.out.own.frozenAt c
            have HD := (show Hid _ from HF.out.done hcN)
            go_wp2_with (at_builtin; refine wpList_append_lies _ rfl _ _ 30 rfl w1.heap.size 22 i22 (.slice none 0 0) 1 24 Try.underlying30 hi22 hz22 hs22 hb22 rfl (by decide) dv c ((List.range c).map fun a => .slice (some ⟨R a, 0, none⟩) N (C a)) rfl (HD.out.1.own.alloc _) ⟨wr.heap.size, 0, none⟩ 1 1 [.slice (some ⟨g1, 0, none⟩) N cap1] rfl rfl (by simpa using one_news (w := wr.setCell ⟨g1, c, none⟩ (.int .i64 0))) (by intro u hu; simp at hu; subst hu; rfl) (by decide) (by unfold maxLen; omega) (by omega) (by have := HD.out.1.since.size; simp at this ⊢; omega) (wr.heap.size + 1) (by simp) ?_; intro g2 cap2 w2 hown hgrow hat hlt)
            go_roundg (N - (c + 1))
            case measure => omega
            case rel => exact ⟨c + 1, _, _, _, by omega, rfl, by simp, rfl, HD.out.1.step HD.out.2.1 HD.out.2.2.1 HD.out.2.2.2.1 HD.out.2.2.2.2.1 HD.out.2.2.2.2.2 hown hgrow (by simpa using hat)⟩
      · have HF : Hid (RB w1 wr N N dv R C) := rb_done HB.out (by omega)
        clear HB
        obtain ⟨B, cap1, rfl, hg1, hg2⟩ := HF.out.own.form (by omega)
        have HC : Hid (N ≤ cap1) := HF.out.whole.2
        have HM : Hid (GM w1 wr N B R C (matR l 0)) := HF.out.whole.1.congr fun a b _ _ => matR_start l a b
        clear HF hg1 hg2
        go_wp2
        generalize decide (c < N) = s20
        go_loopg [10] l.length (fun g i wr => ∃ p : Nat, p ≤ l.length ∧ g = l.length - p ∧ i = .int .i64 p ∧ Hid (GM w1 wr N B R C (matR l p)))
        case atStart => exact ⟨0, Nat.zero_le _, rfl, rfl, HM⟩
        case round =>
          clear HM
          obtain ⟨p, hp, rfl, rfl, HM⟩ := hrel
          by_cases hlt : p < l.length
          · as_aux_lemma =>
            obtain ⟨d, hd⟩ : ∃ d, l[p]? = some d := ⟨_, List.getElem?_eq_getElem hlt⟩
            have hne : l ≠ [] := fun e => by rw [e] at hlt; simp at hlt
            have := H.out.1 hne
            subst this
            obtain ⟨c1, c2, c3⟩ := H.out.2 p d hd
            have hb : b < w.heap.size := World.block_lt_of_cell? _ _ c1
            have hbb : b < w1.heap.size := Nat.lt_of_lt_of_le hb HW.out.size
            obtain ⟨⟨o1, o2⟩, ⟨o3, o4⟩, _⟩ := okD_iff.1 (HN.out d (List.mem_of_getElem? hd))
            obtain ⟨x, y, z, ⟨⟩⟩ := d
            simp only at o1 o2 o3 o4 c1 c2 c3
            obtain ⟨f, rfl⟩ : ∃ f : Nat, x = (f : Int) := ⟨x.toNat, by omega⟩
            obtain ⟨t, rfl⟩ : ∃ t : Nat, y = (t : Int) := ⟨y.toNat, by omega⟩
            have hs := since_trans HW.out HM.out.since
            have k1 : wr.cell? ⟨b, o + p * 3, none⟩ = some (.int .i64 f) := by rw [hs.cell (a := ⟨b, o + p * 3, none⟩) hb]; exact c1
            have k2 : wr.cell? ⟨b, o + p * 3 + 1, none⟩ = some (.int .i64 t) := by rw [hs.cell (a := ⟨b, o + p * 3 + 1, none⟩) hb]; exact c2
            have k3 : wr.cell? ⟨b, o + p * 3 + 2, none⟩ = some (.int .i64 z) := by rw [hs.cell (a := ⟨b, o + p * 3 + 2, none⟩) hb]; exact c3
            have hf : f < N := by omega
            have ht : t < N := by omega
            have hs2 := fun x => since_trans HW.out (HM.out.set (j := t) hf x).since
            have k4 : ∀ x, (wr.setCell ⟨R f, t, none⟩ (.int .i64 x)).cell? ⟨b, o + p * 3, none⟩ = some (.int .i64 f) := fun x => by rw [(hs2 x).cell (a := ⟨b, o + p * 3, none⟩) hb]; exact c1
            have k5 : ∀ x, (wr.setCell ⟨R f, t, none⟩ (.int .i64 x)).cell? ⟨b, o + p * 3 + 1, none⟩ = some (.int .i64 t) := fun x => by rw [(hs2 x).cell (a := ⟨b, o + p * 3 + 1, none⟩) hb]; exact c2
            have k6 : ∀ x, (wr.setCell ⟨R f, t, none⟩ (.int .i64 x)).cell? ⟨b, o + p * 3 + 2, none⟩ = some (.int .i64 z) := fun x => by rw [(hs2 x).cell (a := ⟨b, o + p * 3 + 2, none⟩) hb]; exact c3
            have j1 : wr.cell? ⟨B, f, none⟩ = some (.slice (some ⟨R f, 0, none⟩) N (C f)) := HM.out.grid.top.cell hf
            have j2 : wr.cell? ⟨R f, t, none⟩ = some (.int .i64 (matR l p f t)) := (HM.out.grid.row f hf).cell ht
            have j3 : wr.frozen? ⟨R f, t, none⟩ = false := (HM.out.grid.row f hf).frozen t
            clear c1 c2 c3 hs hs2
            go_wp2
            go_region
            generalize hval : (if z < matR l p f t then z else matR l p f t) = val
            have hmin : Hid (val = min (matR l p f t) z) := (show val = min (matR l p f t) z by rw [← hval]; split <;> omega)
            clear hval
            by_cases hft : f = t
            · subst hft
              by_cases hz : z < 0
              · as_aux_lemma =>
                go_wp2
                all_goals go_quiet (fail)
                all_goals go_wp2
                all_goals (
                  go_ret2
                  exact closeQ_no (diag_no HV.out hd hz hf) (since_trans HW.out ((HM.out.set hf _).drew.drewN _).since))
              · as_aux_lemma =>
                go_wp2
                all_goals go_quiet (fail)
                all_goals go_wp2
                all_goals (
                  go_roundg (l.length - (p + 1))
                  case measure => omega
                  case rel => exact ⟨p + 1, by omega, rfl, by simp, ((HM.out.set hf _).drewN _).congr fun a b _ _ => matR_step hd hmin.out a b⟩)
            · as_aux_lemma =>
              have hft3 : ¬ ((f : Int) = (t : Int)) := by omega
              have hq1 : ((f : Int) == (t : Int)) = false := beq_eq_false_iff_ne.2 hft3
              go_wp2
              all_goals go_quiet (fail)
              all_goals go_wp2
              all_goals (
                go_roundg (l.length - (p + 1))
                case measure => omega
                case rel => exact ⟨p + 1, by omega, rfl, by simp, ((HM.out.set hf _).drewN _).congr fun a b _ _ => matR_step hd hmin.out a b⟩)
          · have HM2 : Hid (GM w1 wr N B R C (W0 l)) := gm_done HM.out (by omega)
            have HP : Hid (PS (W0 l) N 0 0 0 (W0 l)) := PS.start (fun a b _ _ => rfl)
            clear HM H
            go_wp2
            generalize decide (p < l.length) = s39
            go_loopg [11] N (fun g i wr => ∃ k : Nat, k ≤ N ∧ g = N - k ∧ i = .int .i64 k ∧ ∃ M, Hid (PS (W0 l) N k 0 0 M) ∧ Hid (GM w1 wr N B R C M) ∧ Hid (k = 0 ∨ ∀ q, q < N → 0 ≤ M q q))
            case atStart => exact ⟨0, Nat.zero_le _, rfl, rfl, _, HP, HM2, .inl rfl⟩
            case round =>
              clear HP HM2
              obtain ⟨k, hk', rfl, rfl, M0, HP0, HM0, HD0⟩ := hrel
              by_cases hk : k < N
              · go_wp2
                go_loopg [12] N (fun g i wr => ∃ i' : Nat, i' ≤ N ∧ g = N - i' ∧ i = .int .i64 i' ∧ ∃ M, Hid (PS (W0 l) N k i' 0 M) ∧ Hid (GM w1 wr N B R C M))
                case atStart => exact ⟨0, Nat.zero_le _, rfl, rfl, _, HP0, HM0⟩
                case round =>
                  clear HP0 HM0 HD0
                  obtain ⟨i, hi', rfl, rfl, M1, HP1, HM1⟩ := hrel
                  by_cases hi : i < N
                  · go_wp2
                    go_loopg [13] N (fun g i' wr => ∃ j : Nat, j ≤ N ∧ g = N - j ∧ i' = .int .i64 j ∧ ∃ M, Hid (PS (W0 l) N k i j M) ∧ Hid (GM w1 wr N B R C M))
                    case atStart => exact ⟨0, Nat.zero_le _, rfl, rfl, _, HP1, HM1⟩
                    case round =>
                      clear HP1 HM1
                      obtain ⟨j, hj', rfl, rfl, M, HP, HM⟩ := hrel
                      by_cases hj : j < N
                      · as_aux_lemma =>
                        have j1 : wr.cell? ⟨B, i, none⟩ = some (.slice (some ⟨R i, 0, none⟩) N (C i)) := HM.out.grid.top.cell hi
                        have j2 : wr.cell? ⟨B, k, none⟩ = some (.slice (some ⟨R k, 0, none⟩) N (C k)) := HM.out.grid.top.cell hk
                        have j3 : wr.cell? ⟨R i, k, none⟩ = some (.int .i64 (M i k)) := (HM.out.grid.row i hi).cell hk
                        have j4 : wr.cell? ⟨R k, j, none⟩ = some (.int .i64 (M k j)) := (HM.out.grid.row k hk).cell hj
                        have j5 : wr.cell? ⟨R i, j, none⟩ = some (.int .i64 (M i j)) := (HM.out.grid.row i hi).cell hj
                        have j6 : wr.frozen? ⟨R i, j, none⟩ = false := (HM.out.grid.row i hi).frozen j
                        have q1 := HP.out.inf i k hi hk
                        have q2 := HP.out.inf k j hk hj
                        by_cases h1 : M i k < 1099511627776
                        · by_cases h2 : M k j < 1099511627776
                          · go_wp2
                            go_region
                            all_goals go_wp2
                            all_goals (
                              go_roundg (N - (j + 1))
                              case measure => omega
                              case rel => exact ⟨j + 1, by omega, rfl, by simp, FW.upd M i j (min (M i j) (w64 (M i k + M k j))), HP.out.store (w_small HN.out) (by omega) hk hi hj (by unfold INF; omega) (by unfold INF; omega),
                                ((HM.out.set hi _).drew).congr fun a b _ _ => congrFun (congrFun (congrArg (FW.upd M i j) (by rw [show w64 (M i k + M k j) = wrap64 (M i k + M k j) by unfold wrap64; exact IntKind.wrap_i64 _]; omega)) a) b⟩)
                          · go_wp2
                            go_roundg (N - (j + 1))
                            case measure => omega
                            case rel => exact ⟨j + 1, by omega, rfl, by simp, M, HP.out.skip hk hi hj (.inr (by unfold INF at *; omega)), HM⟩
                        · go_wp2
                          go_roundg (N - (j + 1))
                          case measure => omega
                          case rel => exact ⟨j + 1, by omega, rfl, by simp, M, HP.out.skip hk hi hj (.inl (by unfold INF at *; omega)), HM⟩
                      · go_wp2
                        go_roundg (N - (i + 1))
                        case measure => omega
                        case rel => exact ⟨i + 1, by omega, rfl, by simp, M, row_done HP.out (by omega), HM⟩
                  · have HP2 : Hid (PS (W0 l) N (k + 1) 0 0 M1) := ps_round HP1.out (by omega)
                    clear HP1
                    go_wp2
                    generalize decide (i < N) = s40
                    go_loopg [14] N (fun g i wr => ∃ q : Nat, q ≤ N ∧ g = N - q ∧ i = .int .i64 q ∧ Hid (∀ x, x < q → 0 ≤ M1 x x) ∧ Hid (GM w1 wr N B R C M1))
                    case atStart => exact ⟨0, Nat.zero_le _, rfl, rfl, fun x hx => absurd hx (Nat.not_lt_zero _), HM1⟩
                    case round =>
                      clear HM1
                      obtain ⟨q, hq', rfl, rfl, HD, HM⟩ := hrel
                      by_cases hq : q < N
                      · have j2 : wr.cell? ⟨B, q, none⟩ = some (.slice (some ⟨R q, 0, none⟩) N (C q)) := HM.out.grid.top.cell hq
                        have j3 : wr.cell? ⟨R q, q, none⟩ = some (.int .i64 (M1 q q)) := (HM.out.grid.row q hq).cell hq
                        by_cases hneg : M1 q q < 0
                        · go_wp2
                          go_ret2
                          exact closeQ_no (alld_no (HP2.out.neg hk hq hneg)) (since_trans HW.out HM.out.since)
                        · go_wp2
                          go_roundg (N - (q + 1))
                          case measure => omega
                          case rel => exact ⟨q + 1, by omega, rfl, by simp, fun x hx => by
                            by_cases ex : x = q
                            · subst ex; omega
                            · exact HD.out x (by omega), HM⟩
                      · go_wp2
                        go_roundg (N - (k + 1))
                        case measure => omega
                        case rel => exact ⟨k + 1, by omega, rfl, by simp, M1, HP2, HM, .inr (fun x hx => HD.out x (by omega))⟩
              · have HPN : Hid (PS (W0 l) N N 0 0 M0) := (show k = N by omega) ▸ HP0.out
                have HDN : Hid (∀ q, q < N → 0 ≤ M0 q q) := HD0.out.resolve_left (by omega)
                clear HP0 HD0
                go_wp2
                go_ret2
                exact closeQ_yes HV.out HW.out HM0.out HC.out HPN.out HDN.out

end Go.Proofs.Ytcklpclgiaeopaa

namespace Go.Proofs.Ytcklpclgiaeopaa
open Go Go.Abs Go.RowKit Go.FW
theorem hand22 : CallOK Try.prog 22 (pureC hfClose) := new_ok (entered Try.func22 rfl (by decide)) (by
  intro args v h
  unfold hfClose at h
  split at h
  · rename_i n l tg
    have := Tr.mean_ret h
    subst this
    intro w X vals hsz hv
    have h0 := PR.int_inv (hv 0 _ rfl)
    have h1 := pr_tight (pr_no (hv 1 _ rfl))
    have hvv := two_vals' (v := vals.getD 1 undef) (by simpa using hsz) h0 rfl
    rw [hvv]
    refine (closeQ_walk n (vals.getD 1 undef) l w h1).mono ?_
    rintro e w' ⟨u, rfl, hs, hu⟩
    refine ⟨_, rfl, Kept.of_since hs, fun X' ρ ℓ hX => ?_⟩
    have hx : ∀ b o, w.heap.size ≤ b → ¬ X' b o := fun b o hb hx => by have := hX b o hx; omega
    have key : PR w' X' u (d1 ℓ (.row (.row (.int .i64)) (cloL n l) false)) := by
      unfold cloL
      cases hc : closeB n l
      · rw [hc] at hu
        rw [show u = .slice none 0 0 from hu]
        exact .lst0 none 0 _ false (fun e => by cases e)
      · rw [hc] at hu
        obtain ⟨B, cap, R, C, b1, b2, b3, rfl, hg⟩ := hu
        exact hg.rel (fun o => hx _ o b1) (fun i o hi => hx _ o (b2 i hi)) cap b3 ℓ
    refine .tup _ _ rfl (fun i x hi => ?_)
    match i with
    | 0 => cases hi; exact .pur _ _ key
    | 1 => cases hi; exact .pur _ _ (.bool _)
    | i + 2 => exact absurd (show (none : Option AV) = some x from hi) (by simp)
  · exact (Tr.mean_fail h).elim)

end Go.Proofs.Ytcklpclgiaeopaa
