/- Calls told by hand whose result lies in new memory: rows, rows of rows. -/
import Derived.Test.YtcblbcpnfidndaaPxN
import Derived.Test.YtcblbcpnfidndaaPxJ
import Derived.Deep.OwnRows
set_option linter.unusedSimpArgs false
set_option linter.unusedVariables false
namespace Go.Abs
open Go

theorem new_ok {P : Program} {f : FuncId} {F : List SV → Tr SV} (hent : Entered P f)
    (h : ∀ args v, (F args).mean = some v → ∀ (w : World) (X : XT) (vals : Array Value), vals.size = args.length → (∀ (i : Nat) (x : SV), args[i]? = some x → PR w X (vals.getD i undef) (d1 (fun _ => 0) x)) →
      Calls P f vals w fun e w' => ∃ u, e = .returned u ∧ Kept w w' ∧ ∀ (X' : XT) (ρ : Rho) (ℓ : Lens), (∀ b o, X' b o → b < w.heap.size) → VR w' X' ρ u (dV ℓ v)) : CallOK P f (pureC F) := by
  intro args sub out hc ℓ0 ℓ' _ _
  refine ⟨hent, ?_⟩
  unfold pureC at hc
  split at hc
  · obtain ⟨hall, hc⟩ := Tr.mean_when hc
    obtain ⟨v, h1, h2⟩ := Tr.mean_bind hc
    have := Tr.mean_ret h2
    subst this
    have hw := h args v h1
    intro Y w ρ vals hr hsz hv
    refine (hw w (XU Y ρ (heapOf [])) vals (by simpa using hsz) (fun i x hi => ?_)).mono ?_
    · have hp : isPure x = true := (List.all_eq_true.1 hall) x (List.mem_of_getElem? hi)
      have := isPure_rel hp (hv i (dV ℓ0 x) (by rw [List.getElem?_map, hi]; rfl))
      cases x <;> first | exact this | (simp [isPure] at hp; done)
    rintro e w' ⟨u, rfl, k, hu⟩
    have hH : ∀ g, get (heapBack (([] : List (Option Blk))) ([] : List Blk)) g = none := fun g => by simp [get, heapBack]
    have hXX : ∀ b o, ¬ XX ρ (heapBack [] []) b o := by
      rintro b o ⟨g, k, a1, _⟩
      rw [hH] at a1; cases a1
    refine ⟨u, ρ, rfl, ?_, ?_, ?_, fun _ _ h => h⟩
    · refine ⟨fun g k hg => ?_, fun g g' k k' b hg => ?_, fun g b hb => ?_, fun g b hb => ?_, fun g k b o hg => ?_, fun b o hy => ?_⟩
      · exact absurd ((hH g).symm.trans hg) (by simp)
      · exact absurd ((hH g).symm.trans hg) (by simp)
      · exact hr.dom g b hb
      · have := hr.lt g b hb; have := k.size; omega
      · exact absurd ((hH g).symm.trans hg) (by simp)
      · have := hr.ylt b o hy; have := k.size; omega
    · refine hu _ ρ ℓ' (fun b o hx => ?_)
      rcases hx with hx | hx
      · exact absurd hx (hXX b o)
      · exact hr.ylt b o hx
    · refine ⟨k.os, k.tape, k.output, k.size, fun b o hb _ => ⟨hXX b o, cell_same (k.old b hb) o⟩, fun b hb => ?_, fun b hb _ => k.old b hb⟩
      simp only [bsize, k.old b hb]
  · exact (Tr.mean_fail hc).elim

theorem Kept.of_since {w w' : World} (h : w.Since w.heap.size w') : Kept w w' := ⟨h.os, h.tape, h.output, h.size, fun i hi => h.block i hi⟩

/-- A row of at least n cells. -/
def RowGe (w : World) (b : Nat) (t : TypeId) (n : Nat) (f : Nat → Value) : Prop := ∃ c : Array Value, w.heap[b]? = some (.cells c t (0, 0)) ∧ n ≤ c.size ∧ ∀ i, i < n → c[i]? = some (f i)

theorem RowGe.of_is {w : World} {b t n : Nat} {f : Nat → Value} (h : w.rowIs b t n f) : RowGe w b t n f := by
  obtain ⟨c, h1, h2, h3⟩ := h
  exact ⟨c, h1, by omega, h3⟩
theorem RowGe.cell {w : World} {b t n : Nat} {f : Nat → Value} (h : RowGe w b t n f) {i : Nat} (hi : i < n) : w.cell? ⟨b, i, none⟩ = some (f i) := by
  obtain ⟨c, hb, _, hc⟩ := h
  simp [World.cell?, hb, hc i hi]
theorem RowGe.frozen {w : World} {b t n : Nat} {f : Nat → Value} (h : RowGe w b t n f) (i : Nat) : w.frozen? ⟨b, i, none⟩ = false := by
  obtain ⟨c, hb, _, _⟩ := h
  simp [World.frozen?, hb]
theorem RowGe.lt {w : World} {b t n : Nat} {f : Nat → Value} (h : RowGe w b t n f) : b < w.heap.size := by
  obtain ⟨c, hb, _, _⟩ := h
  exact (Array.getElem?_eq_some_iff.1 hb).1
theorem RowGe.congr {w : World} {b t n : Nat} {f g : Nat → Value} (h : RowGe w b t n f) (e : ∀ i, i < n → f i = g i) : RowGe w b t n g := by
  obtain ⟨c, hb, hn, hc⟩ := h
  exact ⟨c, hb, hn, fun i hi => by rw [hc i hi, e i hi]⟩
theorem RowGe.of_block {w w' : World} {b t n : Nat} {f : Nat → Value} (h : RowGe w b t n f) (e : w'.heap[b]? = w.heap[b]?) : RowGe w' b t n f := by
  obtain ⟨c, hb, hn, hc⟩ := h
  exact ⟨c, e.trans hb, hn, hc⟩
theorem RowGe.alloc {w : World} {b t n : Nat} {f : Nat → Value} (h : RowGe w b t n f) (X : Obj) : RowGe (w.alloc X) b t n f := by
  refine h.of_block ?_
  have := h.lt
  simp only [World.alloc]
  rw [Array.getElem?_push, if_neg (by omega)]
theorem RowGe.drew {w : World} {b t n : Nat} {f : Nat → Value} (h : RowGe w b t n f) : RowGe w.drew b t n f := h.of_block rfl
theorem RowGe.set {w : World} {b t n : Nat} {f : Nat → Value} (h : RowGe w b t n f) (i : Nat) (v : Value) : RowGe (w.setCell ⟨b, i, none⟩ v) b t n (fun j => if j = i then v else f j) := by
  obtain ⟨c, hb, hn, hc⟩ := h
  refine ⟨c.setIfInBounds i v, by simp [World.setCell, Array.getElem?_modify, hb], by simpa using hn, fun j hj => ?_⟩
  rw [Array.getElem?_setIfInBounds]
  by_cases e : j = i
  · subst e
    rw [if_pos rfl, if_pos (by omega)]
    simp
  · rw [if_neg (fun h => e h.symm)]
    simp only [if_neg e]
    exact hc j hj
theorem RowGe.setOther {w : World} {b t n : Nat} {f : Nat → Value} (h : RowGe w b t n f) {a : Addr} (hne : b ≠ a.block) (v : Value) : RowGe (w.setCell a v) b t n f := by
  refine h.of_block ?_
  simp only [World.setCell]
  rw [Array.getElem?_modify, if_neg (fun e => hne e.symm)]

/-- A row of integers of its own. -/
theorem ints_rel {w : World} {X : XT} {b T n : Nat} {M : Nat → Int} (h : RowGe w b T n (fun j => .int .i64 (M j))) (hX : ∀ o, ¬ X b o) (c : Nat) (hc : n ≤ c) :
    PR w X (.slice (some ⟨b, 0, none⟩) n c) (.lst (lsz 1 ((List.range n).map fun j => AV.int .i64 (M j))) ((List.range n).map fun j => AV.int .i64 (M j)) false) := by
  refine PR.canon (.lst b 0 n c 1 false _ (fun j _ => .int .i64 (M j)) (by simp) hc (by simp) ?_ ?_ ?_)
  · intro i x hi
    rw [List.getElem?_map] at hi
    obtain ⟨y, _, rfl⟩ := Option.map_eq_some_iff.1 hi
    rfl
  · intro i x hi j u hj
    have hl := (List.getElem?_eq_some_iff.1 hi).1
    rw [List.length_map, List.length_range] at hl
    rw [List.getElem?_map] at hi
    obtain ⟨y, _, rfl⟩ := Option.map_eq_some_iff.1 hi
    have hj0 : j = 0 := by
      have := (List.getElem?_eq_some_iff.1 hj).1
      simp [AV.cells] at this; exact this
    subst hj0
    refine ⟨hX _, ?_, rfl⟩
    rw [show 0 + (i * 1 + 0) = i by omega]
    exact h.cell hl
  · intro i x hi j u hj
    rw [List.getElem?_map] at hi
    obtain ⟨y, hy, rfl⟩ := Option.map_eq_some_iff.1 hi
    have hl := (List.getElem?_eq_some_iff.1 hy).1
    rw [List.length_range] at hl
    rw [List.getElem?_range hl] at hy
    cases hy
    have hj0 : j = 0 := by
      have := (List.getElem?_eq_some_iff.1 hj).1
      simp [AV.cells] at this; exact this
    subst hj0
    cases hj
    exact .int _ _

/-- Rows of integers of their own. -/
structure Grid (w : World) (b To Ti n m : Nat) (R : Nat → Nat) (C : Nat → Nat) (M : Nat → Nat → Int) : Prop where
  top : RowGe w b To n (fun i => .slice (some ⟨R i, 0, none⟩) m (C i))
  row : ∀ i, i < n → RowGe w (R i) Ti m (fun j => .int .i64 (M i j))
  inj : ∀ i j, i < n → j < n → R i = R j → i = j
  apart : ∀ i, i < n → R i ≠ b
  cap : ∀ i, i < n → m ≤ C i

def gridL (n m : Nat) (M : Nat → Nat → Int) : List (List Int) := (List.range n).map fun i => (List.range m).map (M i)

theorem Grid.set {w : World} {b To Ti n m : Nat} {R C : Nat → Nat} {M : Nat → Nat → Int} (h : Grid w b To Ti n m R C M) {i j : Nat} (hi : i < n) (v : Int) :
    Grid (w.setCell ⟨R i, j, none⟩ (.int .i64 v)) b To Ti n m R C (fun a c => if a = i ∧ c = j then v else M a c) := by
  refine ⟨h.top.setOther (fun e => h.apart i hi e.symm) _, fun a ha => ?_, h.inj, h.apart, h.cap⟩
  by_cases e : a = i
  · subst e
    refine ((h.row a ha).set j _).congr (fun c _ => ?_)
    by_cases e2 : c = j
    · simp [e2]
    · simp [e2]
  · refine ((h.row a ha).setOther (fun e2 => e (h.inj a i ha hi e2)) _).congr (fun c _ => ?_)
    simp [e]

theorem Grid.congr {w : World} {b To Ti n m : Nat} {R C : Nat → Nat} {M N : Nat → Nat → Int} (h : Grid w b To Ti n m R C M) (e : ∀ i j, i < n → j < m → M i j = N i j) : Grid w b To Ti n m R C N :=
  ⟨h.top, fun i hi => (h.row i hi).congr (fun j hj => by rw [e i j hi hj]), h.inj, h.apart, h.cap⟩

theorem Grid.drew {w : World} {b To Ti n m : Nat} {R C : Nat → Nat} {M : Nat → Nat → Int} (h : Grid w b To Ti n m R C M) : Grid w.drew b To Ti n m R C M :=
  ⟨h.top.drew, fun i hi => (h.row i hi).drew, h.inj, h.apart, h.cap⟩

theorem Grid.rel {w : World} {X : XT} {b To Ti n m : Nat} {R C : Nat → Nat} {M : Nat → Nat → Int} (h : Grid w b To Ti n m R C M) (hX : ∀ o, ¬ X b o) (hXR : ∀ i o, i < n → ¬ X (R i) o) (c : Nat) (hc : n ≤ c) (ℓ : Lens) :
    PR w X (.slice (some ⟨b, 0, none⟩) n c) (d1 ℓ (.row (.row (.int .i64)) (gridL n m M) false)) := by
  show PR w X _ (rowAV (.row (.int .i64)) (gridL n m M) false)
  have e : (@List.map (Ty.den (.row (.int .i64))) AV (enc (.row (.int .i64))) (gridL n m M)) = (List.range n).map fun i => AV.lst (lsz 1 ((List.range m).map fun j => AV.int .i64 (M i j))) ((List.range m).map fun j => AV.int .i64 (M i j)) false := by
    refine (List.map_map (g := enc (.row (.int .i64))) (f := fun i => (List.range m).map (M i)) (l := List.range n)).trans ?_
    refine List.map_congr_left (fun i _ => ?_)
    show AV.lst (lsz 1 (((List.range m).map (M i)).map (fun x => AV.int .i64 x))) (((List.range m).map (M i)).map (fun x => AV.int .i64 x)) false = _
    rw [List.map_map]
    rfl
  unfold rowAV
  rw [e]
  refine PR.canon (.lst b 0 n c 1 false _ (fun i _ => .slice (some ⟨R i, 0, none⟩) m (C i)) (by simp) hc (by simp) ?_ ?_ ?_)
  · intro i x hi
    rw [List.getElem?_map] at hi
    obtain ⟨y, _, rfl⟩ := Option.map_eq_some_iff.1 hi
    rfl
  · intro i x hi j u hj
    have hl := (List.getElem?_eq_some_iff.1 hi).1
    rw [List.length_map, List.length_range] at hl
    rw [List.getElem?_map] at hi
    obtain ⟨y, _, rfl⟩ := Option.map_eq_some_iff.1 hi
    have hj0 : j = 0 := by
      have := (List.getElem?_eq_some_iff.1 hj).1
      simp [AV.cells] at this; exact this
    subst hj0
    refine ⟨hX _, ?_, rfl⟩
    rw [show 0 + (i * 1 + 0) = i by omega]
    exact h.top.cell hl
  · intro i x hi j u hj
    rw [List.getElem?_map] at hi
    obtain ⟨y, hy, rfl⟩ := Option.map_eq_some_iff.1 hi
    have hl := (List.getElem?_eq_some_iff.1 hy).1
    rw [List.length_range] at hl
    rw [List.getElem?_range hl] at hy
    cases hy
    have hj0 : j = 0 := by
      have := (List.getElem?_eq_some_iff.1 hj).1
      simp [AV.cells] at this; exact this
    subst hj0
    cases hj
    exact ints_rel (h.row i hl) (hXR i · hl) _ (h.cap i hl)

section
variable {P : Program} {w : World}
/-- The call of a function that answers yes or no. -/
theorem bool_calls {f : FuncId} {fn : Func} {body : Code} {b : Bool} (hfn : P.funcs[f]? = some fn) (hbody : fn.body = some body) {tys : List Ty} {r : Nat} {m : (Sg.den ⟨List.range' 0 tys.length, datS tys, .nil⟩) → Option (Sg.den ⟨[r], .dat .bool .nil, .nil⟩)}
    (hok : SpecOK P f ⟨0, ⟨List.range' 0 tys.length, datS tys, .nil⟩, ⟨[r], .dat .bool .nil, .nil⟩, m⟩) (hnt : tys.length ≤ fn.ntmps)
    (hfin : (finishS P fn 0 (Sg.un ⟨[r], .dat .bool .nil, .nil⟩ ((b, ()), ()))).mean = some (.bool b, [], []))
    {x : (datS tys).den} (hx : m (x, ()) = some ((b, ()), ())) {args : Array Value} (hargs : args.size = tys.length)
    (hrel : ∀ (ℓ : Lens) (i : Nat) (u : SV), ((datS tys).un x)[i]? = some u → ∃ v, args.toList[i]? = some v ∧ PR w noX v (dV ℓ u)) :
    Calls P f args w fun e w' => e = .returned (.bool b) ∧ RowKit.Below w.heap.size w w' := by
  obtain ⟨ℓ, _, e, he, hto⟩ := hok fn body hfn hbody (x, ()) ((b, ()), ()) hx (lenS (Sg.un ⟨[r], .dat .bool .nil, .nil⟩ ((b, ()), ())).hp) (lenS_agr _)
  have hst : dS ℓ (Sg.un ⟨List.range' 0 tys.length, datS tys, .nil⟩ (x, ())) = { fr := frOf (((datS tys).un x).map (dV ℓ)) 0, hp := heapOf [] } := by
    simp only [dS, Sg.un]
    congr 1
    rw [← frOfS_d]
    congr 1
    rw [← length_datS tys x]
    exact zip_range _ _
  rw [hst] at hto
  have hc := contract_of (args := ((datS tys).un x).map (dV ℓ)) (sub := []) hfn hbody (by rw [List.length_map, length_datS]; exact hnt) hto he
    (finishS_spec hfin (ℓ' := fun _ => 0) (fun j b hb => by simp at hb))
  have hemp : ∀ g, get (heapOf []) g = none := fun g => by simp [get, heapOf]
  have hXX : ∀ (ρ : Rho) b o, ¬ XX ρ (heapOf []) b o := fun ρ b o ⟨g, k, hg, _⟩ => by rw [hemp] at hg; cases hg
  have hr : HR noX w (fun _ => none) (heapOf []) := by
    refine ⟨fun g k hg => ?_, fun g g' k k' b hg => ?_, fun g b hb => ?_, fun g b hb => ?_, fun g k b o hg => ?_, fun b o h => h.elim⟩
    · rw [hemp] at hg; cases hg
    · rw [hemp] at hg; cases hg
    · cases hb
    · cases hb
    · rw [hemp] at hg; cases hg
  refine (hc noX w (fun _ => none) args hr (by rw [List.length_map, length_datS]; exact hargs) (fun i u hu => ?_)).mono ?_
  · rw [List.getElem?_map] at hu
    obtain ⟨s, hs, rfl⟩ := Option.map_eq_some_iff.1 hu
    obtain ⟨v, h1, h2⟩ := hrel ℓ i s hs
    have : args.getD i undef = v := by
      simp only [Array.getD_eq_getD_getElem?]
      have : args[i]? = some v := by simpa using h1
      rw [this]; rfl
    rw [this]
    exact .pur _ _ (h2.mono ((Stable.refl w noX).less fun b o _ hxu => by
      rcases hxu with hxu | hxu
      · exact (hXX _ _ _ hxu).elim
      · exact hxu))
  · rintro e w' ⟨v, ρ', rfl, _, hv, hstab, _⟩
    refine ⟨?_, hstab.below (hXX _)⟩
    have := hv.boolInv
    rw [this]
end

end Go.Abs
