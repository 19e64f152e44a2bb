/- Arguments that are read as data are typed data. -/
import Derived.Test.YtcblbcpnfidndaaPxH
import Derived.Carry
import Derived.OpenShut
import Derived.ChangeSame
set_option linter.unusedSimpArgs false
set_option linter.unusedVariables false
namespace Go.Abs
open Go

def layFs (P : Program) (ok : TypeId → Bool) : List Field → Nat → Option Nat
  | [], off => some off
  | f :: r, off => if f.offset = off ∧ ok f.type = true then layFs P ok r (off + P.cellsOf f.type) else none

/-- The cells of a type lie as its parts say. -/
def layOK (P : Program) : Nat → TypeId → Bool
  | 0, _ => false
  | d + 1, t =>
    match P.underlying t with
    | some (.int _) | some .bool | some .string => decide (P.cellsOf t = 1)
    | some (.slice e) => decide (P.cellsOf t = 1 ∧ 0 < P.cellsOf e) && layOK P d e
    | some (.struct fs) => decide (layFs P (layOK P d) fs.toList 0 = some (P.cellsOf t))
    | some (.array n e) => decide (P.cellsOf t = n * P.cellsOf e) && layOK P d e
    | _ => false

/-- The numbers are of their kinds, the lengths such as they can be. -/
def InR : (t : Ty) → t.den → Prop
  | .int k, n => k.min ≤ (show Int from n) ∧ (show Int from n) ≤ k.max
  | .bool, _ => True
  | .str, s => s.size ≤ maxLen
  | .row t, l => List.length l ≤ maxLen ∧ ∀ x : t.den, x ∈ (show List t.den from l) → InR t x
  | .unit, _ => True
  | .cons a b, x => InR a x.1 ∧ InR b x.2

theorem exists_list {α : Type} {Q : Nat → α → Prop} : ∀ (n : Nat), (∀ i, i < n → ∃ x, Q i x) → ∃ l : List α, l.length = n ∧ ∀ (i : Nat) (x : α), l[i]? = some x → Q i x := by
  intro n
  induction n with
  | zero => intro _; exact ⟨[], rfl, fun i x h => by simp at h⟩
  | succ n ih =>
    intro h
    obtain ⟨l, h1, h2⟩ := ih (fun i hi => h i (by omega))
    obtain ⟨x, hx⟩ := h n (by omega)
    refine ⟨l ++ [x], by simp [h1], fun i y hy => ?_⟩
    rcases Nat.lt_or_ge i n with hi | hi
    · rw [List.getElem?_append_left (by omega)] at hy; exact h2 i y hy
    · rw [List.getElem?_append_right (by omega)] at hy
      have : i - l.length = 0 := by have := (List.getElem?_eq_some_iff.1 hy).1; simp at this; omega
      rw [this] at hy
      simp at hy
      subst hy
      have : i = n := by omega
      rw [this]; exact hx

section
variable {H : Type} {enc0 : TypeId × Value → H} {P : Program} {w : World} {sp : Nat → Bool} {held : Bool}

abbrev noX : XT := fun _ _ => False

def CellsOf (w : World) (cs : List Value) (off : Nat) (es : List AV) : Prop := ∀ (j : Nat) (u : AV), es[j]? = some u → ∃ c, cs[off + j]? = some c ∧ c.oneCell' = true ∧ PR w noX c u

theorem CellsOf.append {cs : List Value} {off : Nat} {a b : List AV} (h : CellsOf w cs off a) (k : CellsOf w cs (off + a.length) b) : CellsOf w cs off (a ++ b) := by
  intro j u hj
  rcases Nat.lt_or_ge j a.length with hlt | hge
  · rw [List.getElem?_append_left hlt] at hj; exact h j u hj
  · rw [List.getElem?_append_right hge] at hj
    obtain ⟨c, h1, h2⟩ := k (j - a.length) u hj
    refine ⟨c, ?_, h2⟩
    rw [← h1]
    congr 1
    omega

theorem CellsOf.piece {cs : List Value} {off n : Nat} {a : List AV} (h : CellsOf w ((cs.drop off).take n) 0 a) : CellsOf w cs off a := by
  intro j u hj
  obtain ⟨c, h1, h2⟩ := h j u hj
  refine ⟨c, ?_, h2⟩
  rw [Nat.zero_add] at h1
  have hj := (List.getElem?_eq_some_iff.1 h1).1
  simp at hj
  rw [List.getElem?_take_of_lt (by omega), List.getElem?_drop] at h1
  exact h1

def Reads (w : World) (t : Ty) (cs : List Value) : Prop := ∃ x : t.den, InR t x ∧ CellsOf w cs 0 (encC t x)

theorem addr_two {a : Addr} (h : a.spot = none) (n m : Nat) : (a.add n).add m = ⟨a.block, a.off + (n + m), none⟩ := by
  obtain ⟨b, o, s⟩ := a
  simp only at h
  subst h
  unfold Addr.add
  by_cases h1 : n = 0
  · by_cases h2 : m = 0
    · simp [h1, h2]
    · simp [h1, h2]
  · by_cases h2 : m = 0
    · simp [h1, h2]
    · simp [h1, h2]; omega

theorem trod_typed : ∀ (d : Nat) (t : TypeId) (ty : Ty), tyOf P d t = some ty → layOK P d t = true → P.cellsOf t = ty.size ∧
    ∀ (fuel : Nat) (cs : List Value) (y : DataW H × List MemPlace), DataW.trod enc0 P w 0 sp held fuel t cs = some y → cs.length = ty.size ∧ Reads w ty cs := by
  intro d
  induction d with
  | zero => intro t ty h; cases h
  | succ d ih =>
    intro t ty h hl
    unfold tyOf at h
    unfold layOK at hl
    split at h
    · rename_i k hu
      cases h
      rw [hu] at hl
      refine ⟨of_decide_eq_true hl, fun fuel cs y hy => ?_⟩
      obtain ⟨n, rfl, rfl, hw⟩ := DataW.trod_int hu hy
      simp only [Lit.wf, Bool.and_eq_true, decide_eq_true_eq] at hw
      refine ⟨rfl, n, hw, fun j u hj => ?_⟩
      cases j with
      | zero => simp [encC] at hj; subst hj; exact ⟨_, rfl, rfl, .int _ _⟩
      | succ j => simp [encC] at hj
    · rename_i hu
      cases h
      rw [hu] at hl
      refine ⟨of_decide_eq_true hl, fun fuel cs y hy => ?_⟩
      obtain ⟨b, rfl, rfl⟩ := DataW.trod_bool hu hy
      refine ⟨rfl, b, trivial, fun j u hj => ?_⟩
      cases j with
      | zero => simp [encC] at hj; subst hj; exact ⟨_, rfl, rfl, .bool _⟩
      | succ j => simp [encC] at hj
    · rename_i hu
      cases h
      rw [hu] at hl
      refine ⟨of_decide_eq_true hl, fun fuel cs y hy => ?_⟩
      obtain ⟨s, rfl, hs⟩ := DataW.trod_string hu hy
      refine ⟨rfl, s, hs.2, fun j u hj => ?_⟩
      cases j with
      | zero => simp [encC] at hj; subst hj; exact ⟨_, rfl, rfl, .str _⟩
      | succ j => simp [encC] at hj
    · rename_i e hu
      rw [hu] at hl
      obtain ⟨te, h1, rfl⟩ := Option.map_eq_some_iff.1 h
      simp only [Bool.and_eq_true, decide_eq_true_eq] at hl
      obtain ⟨⟨hl1, hl2⟩, hl3⟩ := hl
      obtain ⟨i1, i2⟩ := ih e te h1 hl3
      refine ⟨hl1, fun fuel cs y hy => ?_⟩
      rcases DataW.trod_slice hu hy with ⟨rfl, _⟩ | ⟨a, len, cap, elems, rest, n, _, rfl, _, _, hlc, hcap, hlen, hel, _, _⟩
      · refine ⟨rfl, [], ⟨Nat.zero_le _, fun x hx => by cases hx⟩, fun j u hj => ?_⟩
        cases j with
        | zero => simp [encC] at hj; subst hj; exact ⟨_, rfl, rfl, .lst0 _ _ _ _ (fun e => by cases e)⟩
        | succ j => simp [encC] at hj
      · refine ⟨rfl, ?_⟩
        have each : ∀ i, i < len → ∃ x : te.den, InR te x ∧ ∃ cs, w.cells? 0 (a.add (i * P.cellsOf e)) (P.cellsOf e) = some cs ∧ CellsOf w cs 0 (encC te x) := by
          intro i hi
          have hb := hel i hi
          rw [List.getElem?_eq_getElem (by omega)] at hb
          obtain ⟨cs, hcs, hy'⟩ := Option.bind_eq_some_iff.1 hb
          obtain ⟨_, x, hx1, hx2⟩ := i2 _ _ _ hy'
          exact ⟨x, hx1, cs, hcs, hx2⟩
        obtain ⟨l, hl4, hl5⟩ := exists_list len each
        refine ⟨l, ⟨by rw [hl4]; exact Nat.le_trans hlc hcap, fun x hx => ?_⟩, fun j u hj => ?_⟩
        · obtain ⟨i, hi⟩ := List.getElem?_of_mem hx
          exact (hl5 i x hi).1
        · cases j with
          | succ j => simp [encC] at hj
          | zero =>
            simp [encC] at hj
            subst hj
            refine ⟨_, rfl, rfl, ?_⟩
            cases len with
            | zero =>
              have : l = [] := List.length_eq_zero_iff.1 hl4
              subst this
              exact .lst0 _ _ _ _ (fun e => by cases e)
            | succ len =>
              have hne : 0 < (l.map fun x => wrap te.agg (encC te x)).length := by simp [hl4]
              have hz : lsz te.size (l.map fun x => wrap te.agg (encC te x)) = te.size := lsz_pos hne
              -- the row lies where its first element lies
              have hspot : a.spot = none := by
                obtain ⟨x, _, cs, hcs, _⟩ := each 0 (by omega)
                obtain ⟨_, hn, hc⟩ := World.cells?_some hcs
                have h0 := hc 0 hl2
                rw [List.getElem?_eq_getElem (by omega)] at h0
                simp only [Nat.zero_mul, Addr.add, if_true] at h0
                unfold World.cell? at h0
                split at h0
                · cases hs : a.spot with
                  | none => rfl
                  | some s => rw [hs] at h0; simp at h0
                · cases h0
              have ea : a = ⟨a.block, a.off, none⟩ := by obtain ⟨b, o, s⟩ := a; simp only at hspot; subst hspot; rfl
              have cell : ∀ (i : Nat) (x : AV), (l.map fun x => wrap te.agg (encC te x))[i]? = some x → ∀ (j : Nat) (u : AV), x.cells[j]? = some u →
                  ∃ c, w.cell? ⟨a.block, a.off + (i * te.size + j), none⟩ = some c ∧ c.oneCell' = true ∧ PR w noX c u := by
                intro i x hx j u hu'
                rw [List.getElem?_map] at hx
                obtain ⟨z, hz1, rfl⟩ := Option.map_eq_some_iff.1 hx
                have hz2 : (wrap te.agg (encC te z)).cells = encC te z := cells_enc te z
                rw [hz2] at hu'
                obtain ⟨_, cs, hcs, hcell⟩ := hl5 i z hz1
                obtain ⟨c, h3, h4, h5⟩ := hcell j u hu'
                obtain ⟨_, hn, hc⟩ := World.cells?_some hcs
                rw [Nat.zero_add] at h3
                have hj : j < P.cellsOf e := by rw [← hn]; exact (List.getElem?_eq_some_iff.1 h3).1
                refine ⟨c, ?_, h4, h5⟩
                rw [← h3, ← hc j hj, addr_two hspot, i1]
              rw [hz, ea]
              refine .lst a.block a.off (len + 1) cap te.size false _ (fun i j => (w.cell? ⟨a.block, a.off + (i * te.size + j), none⟩).getD undef) (by simp [hl4]) hlc (fun e => by cases e) (fun i x hx => ?_) (fun i x hx j u hu' => ?_) (fun i x hx j u hu' => ?_)
              · rw [List.getElem?_map] at hx
                obtain ⟨z, _, rfl⟩ := Option.map_eq_some_iff.1 hx
                rw [show (wrap te.agg (encC te z)).cells = encC te z from cells_enc te z, length_encC]
              · obtain ⟨c, h3, h4, h5⟩ := cell i x hx j u hu'
                rw [h3]
                exact ⟨fun e => e.elim, rfl, h4⟩
              · obtain ⟨c, h3, h4, h5⟩ := cell i x hx j u hu'
                simp only [h3, Option.getD_some]
                exact h5
    · rename_i fs hu
      rw [hu] at hl
      have hl := of_decide_eq_true hl
      -- field by field
      have flds : ∀ (l : List Field) (off fin : Nat) (ty : Ty), l.foldr (fun f r => match tyOf P d f.type, r with
          | some a, some b => some (Ty.cons a b)
          | _, _ => none) (some .unit) = some ty → layFs P (layOK P d) l off = some fin → fin = off + ty.size ∧
          ∀ (cs : List Value), (∀ f ∈ l, ∃ n y, DataW.trod enc0 P w 0 sp held n f.type ((cs.drop f.offset).take (P.cellsOf f.type)) = some y) → ∃ x : ty.den, InR ty x ∧ CellsOf w cs off (encC ty x) := by
        intro l
        induction l with
        | nil =>
          intro off fin ty h1 h2
          cases h1
          cases h2
          exact ⟨rfl, fun cs _ => ⟨(), trivial, fun j u hj => by simp [encC] at hj⟩⟩
        | cons f r ihl =>
          intro off fin ty h1 h2
          simp only [List.foldr_cons] at h1
          split at h1
          · rename_i a b ha hb
            cases h1
            simp only [layFs] at h2
            split at h2
            · rename_i hc
              obtain ⟨rfl, hok⟩ := hc
              obtain ⟨j1, j2⟩ := ih f.type a ha hok
              obtain ⟨k1, k2⟩ := ihl _ _ _ hb h2
              refine ⟨by rw [k1, j1]; simp only [Ty.size]; omega, fun cs hcs => ?_⟩
              obtain ⟨n, y, hy⟩ := hcs f (by simp)
              obtain ⟨_, x, hx1, hx2⟩ := j2 _ _ _ hy
              obtain ⟨z, hz1, hz2⟩ := k2 cs (fun g hg => hcs g (by simp [hg]))
              refine ⟨(x, z), ⟨hx1, hz1⟩, ?_⟩
              simp only [encC]
              refine hx2.piece.append ?_
              rw [length_encC, ← j1]
              exact hz2
            · cases h2
          · cases h1
      obtain ⟨f1, f2⟩ := flds _ 0 _ ty h hl
      refine ⟨by omega, fun fuel cs y hy => ?_⟩
      obtain ⟨xs, n, _, _, hlen, hxs, hf⟩ := DataW.trod_struct hu hy
      refine ⟨by omega, f2 cs (fun f hfm => ?_)⟩
      obtain ⟨i, hi⟩ := List.getElem?_of_mem hfm
      have hi' : fs[i]? = some f := by simpa using hi
      have hlt : i < fs.size := (Array.getElem?_eq_some_iff.1 hi').1
      exact ⟨n, xs[i]'(by omega), by rw [hf i f hi', List.getElem?_eq_getElem (by omega)]⟩
    · rename_i n e hu
      rw [hu] at hl
      simp only [Bool.and_eq_true, decide_eq_true_eq] at hl
      obtain ⟨hl1, hl2⟩ := hl
      split at h
      · rename_i te he
        cases h
        obtain ⟨i1, i2⟩ := ih e te he hl2
        have elts : ∀ (n off : Nat), ((List.replicate n te).foldr Ty.cons .unit).size = n * te.size ∧ ∀ (cs : List Value), (∀ i, i < n → ∃ m y, DataW.trod enc0 P w 0 sp held m e ((cs.drop (off + i * P.cellsOf e)).take (P.cellsOf e)) = some y) →
            ∃ x : ((List.replicate n te).foldr Ty.cons .unit).den, InR _ x ∧ CellsOf w cs off (encC _ x) := by
          intro n
          induction n with
          | zero => intro off; exact ⟨by simp [Ty.size], fun cs _ => ⟨(), trivial, fun j u hj => by simp [encC] at hj⟩⟩
          | succ n ihn =>
            intro off
            refine ⟨?_, fun cs hcs => ?_⟩
            · simp only [List.replicate_succ, List.foldr_cons, Ty.size, (ihn 0).1, Nat.succ_mul]; omega
            · obtain ⟨m, y, hy⟩ := hcs 0 (by omega)
              rw [Nat.zero_mul, Nat.add_zero] at hy
              obtain ⟨_, x, hx1, hx2⟩ := i2 _ _ _ hy
              obtain ⟨z, hz1, hz2⟩ := (ihn (off + P.cellsOf e)).2 cs (fun i hi => by
                obtain ⟨m, y, hy⟩ := hcs (i + 1) (by omega)
                refine ⟨m, y, ?_⟩
                rw [← hy]
                congr 3
                rw [Nat.succ_mul]; omega)
              refine ⟨(x, z), ⟨hx1, hz1⟩, ?_⟩
              show CellsOf w cs off (encC te x ++ encC _ z)
              refine hx2.piece.append ?_
              rw [length_encC, ← i1]
              exact hz2
        obtain ⟨f1, f2⟩ := elts n 0
        refine ⟨by rw [f1, hl1, i1], fun fuel cs y hy => ?_⟩
        obtain ⟨xs, m, _, _, hlen, hxs, hf⟩ := DataW.trod_array hu hy
        refine ⟨by rw [f1, hlen, hl1, i1], f2 cs (fun i hi => ?_)⟩
        exact ⟨m, xs[i]'(by omega), by rw [Nat.zero_add, hf i hi, List.getElem?_eq_getElem (by omega)]⟩
      · cases h
    · cases h

end
end Go.Abs
