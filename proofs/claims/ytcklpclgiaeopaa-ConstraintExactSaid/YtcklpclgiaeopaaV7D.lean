/- Lemmas for the statement of the last text of this claim. -/
import Derived.Test.YtcklpclgiaeopaaPxK
import Derived.Test.YtcklpclgiaeopaaPxQ
import Derived.Test.YtcklpclgiaeopaaChecked
import Derived.ProofKit
import Derived.WalkKit
import Derived.BigCall
import Derived.Deep.LoopGhost
import Derived.Deep.OwnRows
import Derived.Test.YtcklpclgiaeopaaPxR
import Derived.Deep.AppendLies
import Derived.Laws.OwnMore
import Derived.BigQuiet
import Derived.Test.YtcklpclgiaeopaaV7C
set_option linter.unusedSimpArgs false
set_option linter.unusedVariables false
namespace Go.Proofs.Ytcklpclgiaeopaa
open Go Go.Abs Go.FW Go.Plain
abbrev Dice := List Int × Int × Unit

def DOK (d : Dice) : Prop := 0 ≤ d.2.1 ∧ d.2.1 ≤ d.1.length ∧ d.1.length ≤ 500

theorem dok0 {l : List Int} (h : l.length ≤ 500) : DOK (l, 0, ()) := ⟨Int.le_refl _, Int.natCast_nonneg _, h⟩

theorem next_spec (n : Int) (d : Dice) (hd : DOK d) (hn : n ≤ 9223372036854775807) :
    ∃ (r : Int) (d' : Dice), m11 ((n, ()), ((d, ()), ())) = some ((r, ()), ((d', ()), ())) ∧ DOK d' ∧ (1 ≤ n → 0 ≤ r ∧ r < n) ∧ (n < 1 → r = 0) := by
  obtain ⟨l, at_, u⟩ := d
  obtain ⟨h1, h2, h3⟩ := hd
  simp only at h1 h2 h3
  unfold m11
  simp only [rowAt_G]
  by_cases c1 : at_ ≥ (l.length : Int)
  · refine ⟨0, (l, at_, ()), ?_, ⟨h1, h2, h3⟩, fun h => ⟨by omega, by omega⟩, fun _ => rfl⟩
    simp only [decide_eq_true c1, sumE, sS]
  · by_cases c2 : n < 1
    · refine ⟨0, (l, at_, ()), ?_, ⟨h1, h2, h3⟩, fun h => ⟨by omega, by omega⟩, fun _ => rfl⟩
      simp only [decide_eq_false c1, decide_eq_true c2, sumE, sS]
    · have hat : w64 (at_ + 1) = at_ + 1 := w64_id (by omega) (by omega)
      have hne : n ≠ 0 := by omega
      obtain ⟨e, he⟩ := getD_some (l := l) (i := at_.toNat) (by omega)
      have hb := Int.tmod_lt_of_pos e (show (0 : Int) < n by omega)
      have hb2 : -n < e.tmod n := by
        have := Int.lt_tmod_of_pos e (show (0 : Int) < n by omega)
        omega
      by_cases c3 : e.tmod n < 0
      · refine ⟨e.tmod n + n, (l, at_ + 1, ()), ?_, ⟨by simp only; omega, by simp only; omega, h3⟩, fun h => ⟨by omega, by omega⟩, fun h => by omega⟩
        simp only [decide_eq_false c1, decide_eq_false c2, sumE, sS, rowG_int h1 he, decide_eq_true hne, decide_eq_true c3, hat, w64_id (x := e.tmod n + n) (by omega) (by omega)]
      · refine ⟨e.tmod n, (l, at_ + 1, ()), ?_, ⟨by simp only; omega, by simp only; omega, h3⟩, fun h => ⟨by omega, by omega⟩, fun h => by omega⟩
        simp only [decide_eq_false c1, decide_eq_false c2, sumE, sS, rowG_int h1 he, decide_eq_true hne, decide_eq_false c3, hat]

theorem sane9 : m9 ((), ()) = some ((true, ()), ()) := by kernel_rfl

theorem light8 (l : List Int) : m8 ((l, ()), ()) = some ((decide (l.length ≤ 500), ()), ()) := by
  unfold m8
  rw [show decide (((l.length : Int) : Int) ≤ 500) = decide (l.length ≤ 500) from decide_eq_decide.2 (by omega)]

theorem roll10 (l : List Int) : m10 ((l, ()), ()) = some ((), (((l, (0, ())), ()), ())) := rfl

/-- An element of a row of one's own. -/
theorem blk_G {A B : Type} {l : List A} {n : Int} (F : A → Option B) : (bif decide ((0 : Int) ≤ n ∧ (n : Int) < l.length) then (l[n.toNat]?).bind F else none) = rowG l n F := by
  unfold rowG
  by_cases h : 0 ≤ n
  · by_cases g : n < l.length
    · rw [decide_eq_true (And.intro h g), decide_eq_true h]
    · rw [decide_eq_false (fun e : _ ∧ _ => g e.2), decide_eq_true h, List.getElem?_eq_none (by omega)]; rfl
  · rw [decide_eq_false (fun e : _ ∧ _ => h e.1), decide_eq_false h]

theorem grid_at {n m : Nat} {M : Nat → Nat → Int} {i : Nat} (h : i < n) : (gridL n m M)[i]? = some ((List.range m).map (M i)) := by
  unfold gridL
  rw [List.getElem?_map, List.getElem?_range h]; rfl

theorem line_at {m : Nat} {f : Nat → Int} {i : Nat} (h : i < m) : ((List.range m).map f)[i]? = some (f i) := by
  rw [List.getElem?_map, List.getElem?_range h]; rfl

theorem grid_G {B : Type} {n m : Nat} {M : Nat → Nat → Int} {i j : Nat} (h : i < n) (g : j < m) (F : Int → Option B) : (rowG (gridL n m M) (i : Int) fun e => rowG e (j : Int) F) = F (M i j) := by
  rw [rowG_nat (grid_at h), rowG_nat (line_at g)]

theorem grid_I {B : Type} {n m : Nat} {M : Nat → Nat → Int} {i j : Int} (h0 : 0 ≤ i) (h : i < n) (g0 : 0 ≤ j) (g : j < m) (F : Int → Option B) : (rowG (gridL n m M) i fun e => rowG e j F) = F (M i.toNat j.toNat) := by
  rw [rowG_int h0 (grid_at (by omega)), rowG_int g0 (line_at (by omega))]

theorem grid_len (n m : Nat) (M : Nat → Nat → Int) : (gridL n m M).length = n := by
  unfold gridL
  rw [List.length_map, List.length_range]

theorem m36_eq' (a b c : Int) : m36 ((a, b, c, ()), ()) = some ((decide (b ≤ a ∧ a ≤ c), ()), ()) := by
  unfold m36
  by_cases h : a ≥ b
  · by_cases g : a ≤ c
    · simp only [decide_eq_true h, decide_eq_true g, decide_eq_true (show b ≤ a ∧ a ≤ c from ⟨h, g⟩), sumE, sS]
    · simp only [decide_eq_true h, decide_eq_false g, decide_eq_false (show ¬ (b ≤ a ∧ a ≤ c) from fun e => g e.2), sumE, sS]
  · simp only [decide_eq_false h, decide_eq_false (show ¬ (b ≤ a ∧ a ≤ c) from fun e => h e.1), sumE, sS]

theorem m32_eq' (a b c : Int) : m32 ((a, b, c, ()), ()) = some ((decide (b ≤ a ∧ a ≤ c), ()), ()) := by
  unfold m32
  by_cases h : a ≥ b
  · by_cases g : a ≤ c
    · simp only [decide_eq_true h, decide_eq_true g, decide_eq_true (show b ≤ a ∧ a ≤ c from ⟨h, g⟩), sumE, sS]
    · simp only [decide_eq_true h, decide_eq_false g, decide_eq_false (show ¬ (b ≤ a ∧ a ≤ c) from fun e => g e.2), sumE, sS]
  · simp only [decide_eq_false h, decide_eq_false (show ¬ (b ≤ a ∧ a ≤ c) from fun e => h e.1), sumE, sS]

theorem okD_def' (n : Int) (d : DT) : okD n d = (decide (0 ≤ d.1 ∧ d.1 ≤ n - 1) && (decide (0 ≤ d.2.1 ∧ d.2.1 ≤ n - 1) && decide (-17179869184 ≤ d.2.2.1 ∧ d.2.2.1 ≤ 17179869184))) := rfl

theorem m24_eq (n : Int) (l : List DT) : m24 ((n, l, ()), ()) = some ((validC n l, ()), ()) := by
  unfold m24 validC
  simp only [m36_eq', sumE, sS]
  by_cases h1 : 1 ≤ n ∧ n ≤ 41
  · by_cases h2 : (l.length : Int) > 4000
    · simp only [decide_eq_true h1, decide_eq_true h2, decide_eq_false (show ¬ l.length ≤ 4000 by omega), sumE, sS]
    · have hw1 : w64 (n - 1) = n - 1 := w64_id (by omega) (by omega)
      have h := loop_list0 (f := l24_2_2) l (fun i (_ : Unit) => (((i : Int), l, (l.length : Int), ()), ((n, ()), ()))) (fun i _ d => bif !okD n d then .inr (.inl (((i : Int), ()), ((n, ()), ()))) else .inl ()) (fun _ => .inr ((), ((n, ()), ()))) ?_ ?_ ()
      · obtain ⟨j, _, hj⟩ := runL_any (fun d => !okD n d) (fun i : Nat => (Sum.inl (((i : Int), ()), ((n, ()), ())) : ((Int × Unit) × ((Int × Unit) × Unit)) ⊕ (Unit × ((Int × Unit) × Unit)))) (.inr ((), ((n, ()), ()))) l 0
        simp only [decide_eq_true h1, decide_eq_false h2, decide_eq_true (show l.length ≤ 4000 by omega), sumE, sS]
        rw [show loopT l24_2_2 ((0, l, (l.length : Int), ()), ((n, ()), ())) = _ from h.trans (congrArg some hj), any_not]
        have hj0 : decide ((j : Int) ≥ 0) = true := decide_eq_true (by omega)
        cases l.all (okD n) <;> simp only [sumE, sS, hj0, Bool.not_true, Bool.not_false]
      · intro i d _ hd hi
        have hw : w64 ((i : Int) + 1) = ((i + 1 : Nat) : Int) := w64_nat (by omega)
        rw [okD_def']
        simp only [l24_2_2, rowAt_G, rowG_nat hd, lt_t hi, m36_eq', hw1, sumE, sS]
        cases decide (0 ≤ d.1 ∧ d.1 ≤ n - 1) <;> cases decide (0 ≤ d.2.1 ∧ d.2.1 ≤ n - 1) <;> cases decide (-17179869184 ≤ d.2.2.1 ∧ d.2.2.1 ≤ 17179869184) <;> simp only [sumE, sS, hw, Bool.not_true, Bool.not_false]
      · intro _
        simp only [l24_2_2, lt_f, sumE, sS]
  · simp only [decide_eq_false h1, sumE, sS]

theorem m25_eq (n : Int) (l : List DT) : m25 ((n, l, ()), ()) = some ((validC n l, ()), ()) := by
  unfold m25 validC
  simp only [m32_eq', sumE, sS]
  by_cases h1 : 1 ≤ n ∧ n ≤ 41
  · by_cases h2 : (l.length : Int) > 4000
    · simp only [decide_eq_true h1, decide_eq_true h2, decide_eq_false (show ¬ l.length ≤ 4000 by omega), sumE, sS]
    · have hw1 : w64 (n - 1) = n - 1 := w64_id (by omega) (by omega)
      have h := loop_list0 (f := l25_0_4) l (fun i (_ : Unit) => (((i : Int), l, n, ()), ())) (fun i _ d => bif !okD n d then .inr (.inl ((false, ()), ())) else .inl ()) (fun _ => .inr ((), ())) ?_ ?_ ()
      · obtain ⟨j, _, hj⟩ := runL_any (fun d => !okD n d) (fun _ : Nat => (Sum.inl ((false, ()), ()) : ((Bool × Unit) × Unit) ⊕ (Unit × Unit))) (.inr ((), ())) l 0
        simp only [decide_eq_true h1, decide_eq_false h2, decide_eq_true (show l.length ≤ 4000 by omega), sumE, sS]
        rw [show loopT l25_0_4 ((0, l, n, ()), ()) = _ from h.trans (congrArg some hj), any_not]
        cases l.all (okD n) <;> simp only [sumE, sS, Bool.not_true, Bool.not_false]
      · intro i d _ hd hi
        have hw : w64 ((i : Int) + 1) = ((i + 1 : Nat) : Int) := w64_nat (by omega)
        rw [okD_def']
        simp only [l25_0_4, rowAt_G, rowG_nat hd, lt_t hi, m32_eq', hw1, sumE, sS]
        cases decide (0 ≤ d.1 ∧ d.1 ≤ n - 1) <;> cases decide (0 ≤ d.2.1 ∧ d.2.1 ≤ n - 1) <;> cases decide (-17179869184 ≤ d.2.2.1 ∧ d.2.2.1 ≤ 17179869184) <;> simp only [sumE, sS, hw, Bool.not_true, Bool.not_false]
      · intro _
        simp only [l25_0_4, lt_f, sumE, sS]
  · simp only [decide_eq_false h1, sumE, sS]

theorem m35_eq (e : Int) : m35 ((e, ()), ()) = some ((!decide (-1099511627776 ≤ e ∧ e ≤ 1099511627776), ()), ()) := by
  unfold m35
  simp only [m36_eq', sumE, sS]

end Go.Proofs.Ytcklpclgiaeopaa

namespace Go.Proofs.Ytcklpclgiaeopaa
open Go Go.Abs Go.FW Go.Plain
/-- What the drawn bounds are: of the places, small, and the hidden numbers fulfil them. -/
structure HidOK (n : Nat) (h : List Int) (l : List DT) : Prop where
  ok : ∀ c ∈ l, okD n c = true
  sol : Sol l fun i => h.getD i 0

end Go.Proofs.Ytcklpclgiaeopaa

namespace Go.Proofs.Ytcklpclgiaeopaa
open Go Go.Abs Go.FW Go.Plain
/-- What the drawn bounds are. -/
def SmallC (n : Nat) (c : DT) : Prop := (0 ≤ c.1 ∧ c.1 < n) ∧ (0 ≤ c.2.1 ∧ c.2.1 < n) ∧ -100 ≤ c.2.2.1 ∧ c.2.2.1 ≤ 100

theorem SmallC.ok {n : Nat} {c : DT} (h : SmallC n c) : okD n c = true := by
  obtain ⟨h1, h2, h3⟩ := h
  refine okD_iff.2 ⟨by omega, by omega, ?_⟩
  unfold DMX; omega

theorem small_add {n : Nat} {l : List DT} (h : ∀ c ∈ l, SmallC n c) {a b m : Int} (ha : 0 ≤ a ∧ a < n) (hb : 0 ≤ b ∧ b < n) (h1 : -100 ≤ m) (h2 : m ≤ 100) : ∀ c ∈ l ++ [(a, b, m, ())], SmallC n c := fun c hc => by
  rcases List.mem_append.1 hc with hc | hc
  · exact h c hc
  · rw [List.mem_singleton] at hc; subst hc; exact ⟨ha, hb, h1, h2⟩

theorem loop123 {n : Nat} (hn : n ≤ 41) (d : Dice) (hd : DOK d) : ∃ b, loopT l12_0_3 ((0, ((n : Int), ())), ((d, ()), ([], ()))) = some b ∧
    ∃ (h : List Int) (d' : Dice), b = (((n : Int), ()), ((d', ()), (h, ()))) ∧ DOK d' ∧ h.length = n ∧ ∀ e ∈ h, 0 ≤ e ∧ e < 40 := by
  refine loop_ind (f := l12_0_3) (fun i a => ∃ (h : List Int) (d : Dice), a = (((i : Int), ((n : Int), ())), ((d, ()), (h, ()))) ∧ DOK d ∧ h.length = i ∧ ∀ e ∈ h, 0 ≤ e ∧ e < 40) n (fun i a hi ha => ?_) (fun a ha => ?_) _ ⟨[], d, rfl, hd, rfl, fun e he => by cases he⟩
  · obtain ⟨h, d, rfl, hd, hl, hb⟩ := ha
    obtain ⟨r, d', e1, hd', hr, _⟩ := next_spec 40 d hd (by omega)
    refine ⟨_, ?_, h ++ [r], d', rfl, hd', by simp [hl], fun e he => ?_⟩
    · simp only [l12_0_3, lt_t hi, e1, sumE, sS]
      rw [decide_eq_true (by simp; omega), cond_true, w64_nat (by omega)]
    · rcases List.mem_append.1 he with he | he
      · exact hb e he
      · rw [List.mem_singleton] at he; subst he; exact hr (by omega)
  · obtain ⟨h, d, rfl, hd, hl, hb⟩ := ha
    refine ⟨_, ?_, h, d, rfl, hd, hl, hb⟩
    simp only [l12_0_3, lt_f, sumE, sS]

theorem loop128 {n : Nat} (hn : n ≤ 41) (hn1 : 1 ≤ n) (h : List Int) (hl : h.length = n) (hb : ∀ e ∈ h, 0 ≤ e ∧ e < 40) (k : Nat) (hk : k ≤ 100) (d : Dice) (hd : DOK d) : ∃ b, loopT l12_0_8 (((k : Int), ((n : Int), ())), ((d, ()), (h, ([], ())))) = some b ∧
    ∃ (l : List DT) (d' : Dice), b = (((n : Int), ()), ((d', ()), (l, ()))) ∧ DOK d' ∧ (∀ c ∈ l, SmallC n c) ∧ l.length = k := by
  refine loop_ind (f := l12_0_8) (fun i a => ∃ (l : List DT) (d : Dice), a = (((k : Int) - i, ((n : Int), ())), ((d, ()), (h, (l, ())))) ∧ DOK d ∧ (∀ c ∈ l, SmallC n c) ∧ l.length = i) k
    (fun i a hi ha => ?_) (fun a ha => ?_) _ ⟨[], d, by rw [Int.natCast_zero, Int.sub_zero], hd, fun c hc => (by cases hc), rfl⟩
  · obtain ⟨l, d, rfl, hd, H, hll⟩ := ha
    obtain ⟨x, d1, e1, hd1, hx, _⟩ := next_spec n d hd (by omega)
    have hx := hx (by omega)
    obtain ⟨y, d2, e2, hd2, hy, _⟩ := next_spec n d1 hd1 (by omega)
    have hy := hy (by omega)
    obtain ⟨r, d3, e3, hd3, hr, _⟩ := next_spec 6 d2 hd2 (by omega)
    have hr := hr (by omega)
    obtain ⟨u, hu⟩ := getD_some (l := h) (i := x.toNat) (by omega)
    obtain ⟨v, hv⟩ := getD_some (l := h) (i := y.toNat) (by omega)
    have hub := hb u (List.mem_of_getElem? hu)
    have hvb := hb v (List.mem_of_getElem? hv)
    refine ⟨_, ?_, l ++ [(x, y, v - u + r, ())], d3, rfl, hd3, small_add H hx hy (by omega) (by omega), by simp [hll]⟩
    simp only [l12_0_8, decide_eq_true (show (k : Int) - i > 0 by omega), e1, e2, e3, sumE, sS, blk_G, rowG_int hx.1 hu, rowG_int hy.1 hv]
    rw [decide_eq_true (by simp; omega), cond_true, w64_id (x := v - u) (by omega) (by omega), w64_id (x := v - u + r) (by omega) (by omega), w64_id (by omega) (by omega), show (k : Int) - i - 1 = (k : Int) - (i + 1 : Nat) by omega]
  · obtain ⟨l, d, rfl, hd, H, hll⟩ := ha
    refine ⟨_, ?_, l, d, rfl, hd, H, hll⟩
    rw [Int.sub_self]
    simp only [l12_0_8, decide_eq_false (show ¬ (0 : Int) > 0 by omega), sumE, sS]

theorem diffs12 {n : Nat} (hn : n ≤ 41) (hn1 : 1 ≤ n) (d : Dice) (hd : DOK d) : ∃ (l : List DT) (d' : Dice), m12 (((n : Int), ()), ((d, ()), ())) = some ((), ((d', ()), (l, ()))) ∧ DOK d' ∧ (∀ c ∈ l, SmallC n c) ∧ l.length ≤ 100 := by
  obtain ⟨_, f1, h, d1, rfl, hd1, hl, hb⟩ := loop123 hn d hd
  obtain ⟨k, d2, e2, hd2, hk, _⟩ := next_spec 14 d1 hd1 (by omega)
  have hk := hk (by omega)
  obtain ⟨m, hm⟩ : ∃ q : Nat, (q : Int) = k := ⟨k.toNat, by omega⟩
  subst hm
  obtain ⟨_, f3, l, d3, rfl, hd3, H, hll⟩ := loop128 hn hn1 h hl hb m (by omega) d2 hd2
  obtain ⟨q, d4, e4, hd4, _, _⟩ := next_spec 4 d3 hd3 (by omega)
  unfold m12
  simp only [f1, e2, f3, e4, sumE, sS]
  cases hq : (q == 0)
  · exact ⟨l, d4, by simp only [sumE, sS], hd4, H, by omega⟩
  · obtain ⟨x, d5, e5, hd5, hx, _⟩ := next_spec n d4 hd4 (by omega)
    obtain ⟨y, d6, e6, hd6, hy, _⟩ := next_spec n d5 hd5 (by omega)
    obtain ⟨r, d7, e7, hd7, hr, _⟩ := next_spec 20 d6 hd6 (by omega)
    have hr := hr (by omega)
    refine ⟨l ++ [(x, y, r - 15, ())], d7, ?_, hd7, small_add H (hx (by omega)) (hy (by omega)) (by omega) (by omega), by simp; omega⟩
    simp only [e5, e6, e7, sumE, sS]
    rw [decide_eq_true (by simp; omega), cond_true, w64_id (x := r - 15) (by omega) (by omega)]
    rfl

section
variable {n : Nat} {A S X : Nat → Nat → Int} {p : Bool}
end
theorem cloL_true {n : Nat} {l : List DT} (h : closeB n l = true) : cloL (n : Int) l = gridL n n (rounds (W0 l) n) := by
  unfold cloL
  rw [h, if_pos rfl, Int.toNat_natCast]

end Go.Proofs.Ytcklpclgiaeopaa

namespace Go.Proofs.Ytcklpclgiaeopaa
open Go Go.Abs Go.FW Go.Plain
/-- The closure of a list keeps the bounds of another. -/
def Dom (n : Nat) (l l' : List DT) : Prop := ∀ d ∈ l', rounds (W0 l) n d.1.toNat d.2.1.toNat ≤ d.2.2.1

theorem closN {n : Nat} {l : List DT} (h : closeB n l = true) : Clos l n (rounds (W0 l) n) := by
  have C := closeB_clos h
  rwa [Int.toNat_natCast] at C

theorem W0_def (l : List DT) (i j : Nat) : W0 l i j = if i = j then min (dirM l i j) 0 else dirM l i j := rfl

theorem dom_walk {n : Nat} {l l' : List DT} (hc : closeB n l = true) (hv : validC n l' = true) (hd : Dom n l l') {i j : Nat} {w : Int} (hw : Wk (W0 l') n i j w) : i < n → j < n → rounds (W0 l) n i j ≤ w ∧ rounds (W0 l) n i j < INF := by
  have C := closN hc
  induction hw with
  | edge i j hf =>
    intro hi hj
    rw [W0_def] at hf
    rw [W0_def l']
    have key : dirM l' i j < INF → rounds (W0 l) n i j ≤ dirM l' i j := fun h => by
      obtain ⟨d, hd', e1, e2, he⟩ := dir_some h
      have := hd d hd'
      rw [e1, e2, Int.toNat_natCast, Int.toNat_natCast] at this
      omega
    by_cases e : i = j
    · subst e
      rw [if_pos rfl] at hf ⊢
      have hz := C.zero i hi
      rw [hz]
      by_cases h : dirM l' i i < INF
      · have := key h
        rw [hz] at this
        unfold INF; omega
      · unfold INF at *; omega
    · rw [if_neg e] at hf ⊢
      have := key hf
      omega
  | step i q j u v _ hq _ ih1 ih2 =>
    intro hi hj
    obtain ⟨a1, a2⟩ := ih1 hi hq
    obtain ⟨b1, b2⟩ := ih2 hq hj
    obtain ⟨c1, c2⟩ := C.tri i q j hi hq hj a2 b2
    exact ⟨by omega, c2⟩

theorem dom_ok {n : Nat} {l l' : List DT} (hc : closeB n l = true) (hv : validC n l' = true) (hd : Dom n l l') : closeB n l' = true := by
  refine closeB_iff.2 ⟨hv, fun i hi => ?_⟩
  rw [Int.toNat_natCast] at hi ⊢
  have hf : rounds (W0 l') n i i < INF := by
    have := rounds_diag l' n i
    unfold INF; omega
  have := (dom_walk hc hv hd (rounds_walk (W0 l') n i i hf) hi hi).1
  have := (closN hc).zero i hi
  omega

theorem dom_le {n : Nat} {l l' : List DT} (hc : closeB n l = true) (hc' : closeB n l' = true) (hd : Dom n l l') {i j : Nat} (hi : i < n) (hj : j < n) : rounds (W0 l) n i j ≤ rounds (W0 l') n i j := by
  by_cases hf : rounds (W0 l') n i j < INF
  · exact (dom_walk hc (closeB_iff.1 hc').1 hd ((closN hc').walk i j hf) hi hj).1
  · have := (closN hc).inf i j
    omega

theorem ok_places {n : Nat} {d : DT} (h : okD n d = true) : d.1.toNat < n ∧ d.2.1.toNat < n ∧ ((d.1.toNat : Nat) : Int) = d.1 ∧ ((d.2.1.toNat : Nat) : Int) = d.2.1 := by
  have := okD_iff.1 h
  omega

theorem dom_mem {n : Nat} {l l' : List DT} (hc : closeB n l = true) (h : ∀ d ∈ l', d ∈ l) : Dom n l l' := fun d hd => by
  have p := ok_places ((valid_iff.1 (closeB_iff.1 hc).1).2.2 d (h d hd))
  exact (closN hc).edge d (h d hd) _ _ p.2.2.1.symm p.2.2.2.symm

/-- Implied, among bounds that have a closure. -/
theorem imp19 {n : Nat} {l : List DT} {c : DT} (hc : closeB n l = true) (hok : okD n c = true) : m19 (((n : Int), (l, (c, ()))), ()) = some ((decide (rounds (W0 l) n c.1.toNat c.2.1.toNat ≤ c.2.2.1), ()), ()) := by
  have p := okD_iff.1 hok
  have C := closN hc
  obtain ⟨hv, _⟩ := closeB_iff.1 hc
  obtain ⟨hn, _, _⟩ := valid_iff.1 hv
  unfold m19 cloB
  have hw : w64 ((n : Int) - 1) = (n : Int) - 1 := w64_id (by omega) (by omega)
  have g := fun (B : Type) (F : Int → Option B) => grid_I (n := n) (m := n) (M := rounds (W0 l) n) (i := c.1) (j := c.2.1) (by omega) (by omega) (by omega) (by omega) F
  simp only [hc, m36_eq', hw, cloL_true hc, rowAt_G, decide_eq_true p.1, decide_eq_true p.2.1, sumE, sS]
  simp only [g]
  have hi := C.inf c.1.toNat c.2.1.toNat
  have hm := p.2.2
  unfold DMX at hm
  by_cases h : rounds (W0 l) n c.1.toNat c.2.1.toNat = 1099511627776
  · rw [h, decide_eq_false (show ¬ (1099511627776 : Int) ≤ c.2.2.1 by omega)]
    rfl
  · have : (rounds (W0 l) n c.1.toNat c.2.1.toNat != 1099511627776) = true := bne_iff_ne.2 h
    simp only [this, sumE, sS]

theorem loop_eq {A B E : Type} [DecidableEq E] {f : A → Option (A ⊕ B)} (a b : List E) (hl : a.length = b.length) (st : Nat → A) (no yes : B)
    (h1 : ∀ i x y, a[i]? = some x → b[i]? = some y → i < a.length → f (st i) = some (bif decide (x = y) then .inl (st (i + 1)) else .inr no)) (h2 : f (st a.length) = some (.inr yes)) :
    loopT f (st 0) = some (bif decide (a = b) then yes else no) := by
  have key : ∀ (k i : Nat), i + k = a.length → loopT f (st i) = some (bif decide (a.drop i = b.drop i) then yes else no) := by
    intro k
    induction k with
    | zero =>
      intro i h
      obtain rfl : i = a.length := by omega
      rw [List.drop_length, hl, List.drop_length, decide_eq_true rfl, ← hl]
      exact loopT_inr h2
    | succ k ih =>
      intro i h
      obtain ⟨x, hx, hd⟩ := drop_at (l := a) (i := i) (by omega)
      obtain ⟨y, hy, hd'⟩ := drop_at (l := b) (i := i) (by omega)
      have q := h1 i x y hx hy (by omega)
      rw [hd, hd']
      by_cases e : x = y
      · rw [decide_eq_true e] at q
        have := ih (i + 1) (by omega)
        rw [loopT_inl q, this]
        congr 2
        exact decide_eq_decide.2 ⟨fun h => by rw [e, h], fun h => (List.cons.inj h).2⟩
      · rw [decide_eq_false e] at q
        rw [decide_eq_false (fun h => e (List.cons.inj h).1)]
        exact loopT_inr q
  have := key a.length 0 (by omega)
  rwa [List.drop_zero, List.drop_zero] at this

theorem m26_eq (a b : List Int) (hl : a.length = b.length) (hn : a.length ≤ 100) : m26 ((a, (b, ())), ()) = some ((decide (a = b), ()), ()) := by
  have h := loop_eq (f := l26_0_4) a b hl (fun i => (((i : Int), (b, (a, ()))), ())) (.inl ((false, ()), ())) (.inr ((), ())) (fun i x y hx hy hi => by
    simp only [l26_0_4, rowAt_G, rowG_nat hx, rowG_nat hy, lt_t hi, sumE, sS, w64_nat (show i < 9223372036854775807 by omega)]
    by_cases e : x = y
    · subst e; simp only [sumE, sS]
    · rw [decide_eq_false e, bne_iff_ne.2 e]; rfl) (by simp only [l26_0_4, lt_f, sumE, sS])
  unfold m26
  rw [show (((a.length : Int) : Int) != (b.length : Int)) = false by rw [hl]; simp]
  simp only [sumE, sS]
  rw [show loopT l26_0_4 ((0, (b, (a, ()))), ()) = _ from h]
  cases decide (a = b) <;> rfl

theorem m20_eq (a b : List (List Int)) (hl : a.length = b.length) (hn : a.length ≤ 100) (hr : ∀ (i : Nat) x y, a[i]? = some x → b[i]? = some y → x.length = y.length ∧ x.length ≤ 100) : m20 ((a, (b, ())), ()) = some ((decide (a = b), ()), ()) := by
  have h := loop_eq (f := l20_0_4) a b hl (fun i => (((i : Int), (b, (a, ((a.length : Int), ())))), ())) (.inl ((false, ()), ())) (.inr ((), ())) (fun i x y hx hy hi => by
    obtain ⟨r1, r2⟩ := hr i x y hx hy
    simp only [l20_0_4, rowAt_G, rowG_nat hx, rowG_nat hy, lt_t hi, m26_eq x y r1 r2, sumE, sS, w64_nat (show i < 9223372036854775807 by omega)]
    cases decide (x = y) <;> rfl) (by simp only [l20_0_4, lt_f, sumE, sS])
  unfold m20
  rw [show (((a.length : Int) : Int) != (b.length : Int)) = false by rw [hl]; simp]
  simp only [sumE, sS]
  rw [show loopT l20_0_4 ((0, (b, (a, ((a.length : Int), ())))), ()) = _ from h]
  cases decide (a = b) <;> rfl

theorem same20 {n : Nat} (hn : n ≤ 41) (f g : Nat → Nat → Int) : m20 ((gridL n n f, (gridL n n g, ())), ()) = some ((decide (gridL n n f = gridL n n g), ()), ()) := by
  refine m20_eq _ _ (by rw [grid_len, grid_len]) (by rw [grid_len]; omega) (fun i x y hx hy => ?_)
  have hi := (List.getElem?_eq_some_iff.1 hx).1
  rw [grid_len] at hi
  rw [grid_at hi] at hx hy
  cases hx; cases hy
  rw [List.length_map, List.length_map, List.length_range]
  exact ⟨rfl, by omega⟩

/-- The bounds that are still wanted. -/
def Act (l : List DT) (fl : List Bool) (R : List DT) : Prop := ∀ d, d ∈ R ↔ ∃ j : Nat, l[j]? = some d ∧ fl[j]? = some true

theorem rest18 (l : List DT) (fl : List Bool) (hl : l.length ≤ 4000) (hf : fl.length = l.length) : ∃ R : List DT, loopT l18_1_2 ((0, (l, ((l.length : Int), ()))), ((l, ()), ((), (fl, ([], ()))))) = some ((), ((l, ()), ((), (fl, (R, ()))))) ∧ R.length ≤ l.length ∧ Act l fl R := by
  obtain ⟨b, h1, R, rfl, h2, h3⟩ := loop_ind (f := l18_1_2) (Q := fun b => ∃ R : List DT, b = ((), ((l, ()), ((), (fl, (R, ()))))) ∧ R.length ≤ l.length ∧ Act l fl R)
    (fun i a => ∃ R : List DT, a = (((i : Int), (l, ((l.length : Int), ()))), ((l, ()), ((), (fl, (R, ()))))) ∧ R.length ≤ i ∧ ∀ d, d ∈ R ↔ ∃ j : Nat, j < i ∧ l[j]? = some d ∧ fl[j]? = some true) l.length
    (fun i a hi ha => by
      obtain ⟨R, rfl, h1, h2⟩ := ha
      obtain ⟨c, hc⟩ := getD_some hi
      obtain ⟨q, hq⟩ := getD_some (l := fl) (i := i) (by omega)
      cases q
      · refine ⟨_, ?_, R, rfl, by omega, fun d => (h2 d).trans ⟨fun ⟨j, a, b⟩ => ⟨j, by omega, b⟩, fun ⟨j, a, b, e⟩ => ?_⟩⟩
        · simp only [l18_1_2, lt_t hi, rowAt_G, blk_G, rowG_nat hc, rowG_nat hq, sumE, sS, w64_nat (show i < 9223372036854775807 by omega)]
        · by_cases g : j = i
          · subst g; rw [hq] at e; cases e
          · exact ⟨j, by omega, b, e⟩
      · refine ⟨_, ?_, R ++ [c], rfl, by simp; omega, fun d => ⟨fun hd => ?_, fun ⟨j, a, b, e⟩ => ?_⟩⟩
        · have hg : decide (R.length + ([c] : List DT).length ≤ 4294967296) = true := decide_eq_true (by simp; omega)
          simp only [l18_1_2, lt_t hi, rowAt_G, blk_G, rowG_nat hc, rowG_nat hq, hg, sumE, sS, w64_nat (show i < 9223372036854775807 by omega)]
        · rcases List.mem_append.1 hd with hd | hd
          · obtain ⟨j, a, b⟩ := (h2 d).1 hd
            exact ⟨j, by omega, b⟩
          · rw [List.mem_singleton] at hd; subst hd
            exact ⟨i, by omega, hc, hq⟩
        · by_cases g : j = i
          · subst g; rw [hc] at b; cases b
            exact List.mem_append_right _ (List.mem_singleton.2 rfl)
          · exact List.mem_append_left _ ((h2 d).2 ⟨j, by omega, b, e⟩))
    (fun a ha => by
      obtain ⟨R, rfl, h1, h2⟩ := ha
      refine ⟨_, ?_, R, rfl, h1, fun d => (h2 d).trans ⟨fun ⟨j, a, b⟩ => ⟨j, b⟩, fun ⟨j, b, e⟩ => ⟨j, (List.getElem?_eq_some_iff.1 b).1, b, e⟩⟩⟩
      simp only [l18_1_2, lt_f, sumE, sS]) ((0, (l, ((l.length : Int), ()))), ((l, ()), ((), (fl, ([], ()))))) ⟨[], rfl, Nat.le_refl _, fun d => ⟨fun h => (by cases h), fun ⟨j, a, _⟩ => absurd a (by omega)⟩⟩
  exact ⟨R, h1, h2, h3⟩

/-- What holds while bounds are struck. -/
structure Need (n : Nat) (l : List DT) (i : Nat) (fl : List Bool) (K : List Int) : Prop where
  len : fl.length = l.length
  klen : K.length ≤ i
  kin : ∀ v ∈ K, 0 ≤ v ∧ v < i
  kup : K.Pairwise (· < ·)
  late : ∀ j, i ≤ j → j < l.length → fl[j]? = some true
  soon : ∀ j : Nat, j < i → (fl[j]? = some true ↔ (j : Int) ∈ K)
  dom : ∀ R : List DT, R.length ≤ 4000 → Act l fl R → Dom n R l
  wanted : ∀ v ∈ K, ∀ c, l[v.toNat]? = some c → ∀ R : List DT, closeB n R = true → (∀ d ∈ R, ∃ j : Nat, j ≠ v.toNat ∧ l[j]? = some d ∧ fl[j]? = some true) → ¬ rounds (W0 R) n c.1.toNat c.2.1.toNat ≤ c.2.2.1

theorem closeSub {n : Nat} {l R : List DT} (hc : closeB n l = true) (hl : R.length ≤ 4000) (h : ∀ d ∈ R, d ∈ l) : closeB n R = true := by
  have hv := valid_iff.1 (closeB_iff.1 hc).1
  exact dom_ok hc (valid_iff.2 ⟨hv.1, hl, fun d hd => hv.2.2 d (h d hd)⟩) (dom_mem hc h)

theorem act_in {l : List DT} {fl : List Bool} {R : List DT} (h : Act l fl R) : ∀ d ∈ R, d ∈ l := fun d hd => by
  obtain ⟨j, a, _⟩ := (h d).1 hd
  exact List.mem_of_getElem? a

end Go.Proofs.Ytcklpclgiaeopaa

namespace Go.Proofs.Ytcklpclgiaeopaa
open Go Go.Abs Go.FW Go.Plain
theorem bt {A : Type} {p : Prop} [Decidable p] {a b : A} (h : p) : (bif decide p then a else b) = a := by rw [decide_eq_true h]; rfl

end Go.Proofs.Ytcklpclgiaeopaa

namespace Go.Proofs.Ytcklpclgiaeopaa
open Go Go.Abs Go.FW Go.Plain
section
variable {n i : Nat} {D : Nat → Nat → Int}
/-- The numbers from a place. -/
structure XS (n i : Nat) (D : Nat → Nat → Int) (x : List Int) (done : Nat → Nat → Prop) : Prop where
  len : x.length = n
  finn : ∀ k, k < n → D i k < INF → x[k]? = some (D i k)
  inf : ∀ k, k < n → ¬ D i k < INF → ∃ j, j < n ∧ ¬ D i j < INF ∧ D j k < INF ∧ x[k]? = some (1000000 + D j k)
  le : ∀ j k, j < n → k < n → done j k → ¬ D i k < INF → ¬ D i j < INF → D j k < INF → ∃ v, x[k]? = some v ∧ v ≤ 1000000 + D j k

end
end Go.Proofs.Ytcklpclgiaeopaa

namespace Go.Proofs.Ytcklpclgiaeopaa
open Go Go.Abs Go.FW Go.Plain
/-- A row of numbers by their places. -/
def dL (n : Nat) (f : Nat → Int) : List Int := (List.range n).map f

theorem dL_len (n : Nat) (f : Nat → Int) : (dL n f).length = n := by unfold dL; rw [List.length_map, List.length_range]

theorem dL_at {n : Nat} {f : Nat → Int} {i : Nat} (h : i < n) : (dL n f)[i]? = some (f i) := line_at h

theorem dL_ext {n : Nat} {f g : Nat → Int} (h : ∀ i, i < n → f i = g i) : dL n f = dL n g := List.map_congr_left (fun i hi => h i (List.mem_range.1 hi))

theorem dL_set {n : Nat} {f : Nat → Int} {i : Nat} (h : i < n) (v : Int) : (dL n f).set i v = dL n (setN f i v) := by
  refine List.ext_getElem? (fun j => ?_)
  by_cases hj : j < n
  · rw [dL_at hj]
    by_cases e : j = i
    · subst e; rw [List.getElem?_set_self (by rw [dL_len]; omega)]; simp [setN]
    · rw [List.getElem?_set_ne (by omega), dL_at hj]; simp [setN, e]
  · rw [List.getElem?_eq_none (by rw [List.length_set, dL_len]; omega), List.getElem?_eq_none (by rw [dL_len]; omega)]

theorem dL_rep (n : Nat) : List.replicate n (0 : Int) = dL n (fun _ => 0) := by
  refine List.ext_getElem? (fun j => ?_)
  by_cases hj : j < n
  · rw [dL_at hj, List.getElem?_replicate, if_pos hj]
  · rw [List.getElem?_eq_none (by rw [List.length_replicate]; omega), List.getElem?_eq_none (by rw [dL_len]; omega)]

/-- A row of places. -/
def fL (n : Nat) (f : Nat → Nat) : List Int := dL n (fun x => (f x : Int))

theorem fL_set {n : Nat} {f : Nat → Nat} {i : Nat} (h : i < n) (v : Nat) : (fL n f).set i (v : Int) = fL n (setN f i v) := by
  unfold fL
  rw [dL_set h]
  refine dL_ext (fun j _ => ?_)
  unfold setN
  split <;> rfl

theorem fL_len (n : Nat) (f : Nat → Nat) : (fL n f).length = n := dL_len n _

theorem fL_at {n : Nat} {f : Nat → Nat} {i : Nat} (h : i < n) : (fL n f)[i]? = some ((f i : Nat) : Int) := dL_at h

section
variable {n : Nat} {l : List DT}
theorem dir_small (hv : validC n l = true) (i j : Nat) : dirM l i j < INF → -17179869184 ≤ dirM l i j ∧ dirM l i j ≤ 17179869184 := fun h => by
  obtain ⟨d, hd, _, _, he⟩ := dir_some h
  have := (okD_iff.1 ((valid_iff.1 hv).2.2 d hd)).2.2
  unfold DMX at this
  omega

theorem loop1413 (hv : validC n l = true) {r i : Nat} (hi : i < n) (n1 : Int) {dist : Nat → Int} {frm : Nat → Nat} {last : Nat} {R T : Nat → Nat} {clk c0 : Nat} (H : BF (dirM l) n (r + 1) i 0 dist frm last R T clk) (hc : clk ≤ c0) (hc0 : c0 ≤ 80000) :
    ∃ (dist' : Nat → Int) (frm' : Nat → Nat) (last' : Nat) (R' T' : Nat → Nat) (clk' : Nat), loopT l14_0_13 ((0, ((i : Int), (gridL n n (dirM l), ((n : Int), ((last : Int), (n1, ((r : Int), ((n : Int), ((i : Int), ((n : Int), ())))))))))), (dL n dist, (fL n frm, ()))) = some ((gridL n n (dirM l), ((n : Int), ((last' : Int), (n1, ((r : Int), ((n : Int), ((i : Int), ()))))))), (dL n dist', (fL n frm', ()))) ∧ BF (dirM l) n (r + 1) i n dist' frm' last' R' T' clk' ∧ clk' ≤ c0 + 41 := by
  obtain ⟨hn, _, _⟩ := valid_iff.1 hv
  obtain ⟨b, h1, dist', frm', last', R', T', clk', rfl, h2, h3⟩ := loop_ind (f := l14_0_13) (Q := fun b => ∃ (dist' : Nat → Int) (frm' : Nat → Nat) (last' : Nat) (R' T' : Nat → Nat) (clk' : Nat), b = ((gridL n n (dirM l), ((n : Int), ((last' : Int), (n1, ((r : Int), ((n : Int), ((i : Int), ()))))))), (dL n dist', (fL n frm', ()))) ∧ BF (dirM l) n (r + 1) i n dist' frm' last' R' T' clk' ∧ clk' ≤ c0 + 41)
    (fun j a => ∃ (dist : Nat → Int) (frm : Nat → Nat) (last : Nat) (R T : Nat → Nat) (clk : Nat), a = (((j : Int), ((i : Int), (gridL n n (dirM l), ((n : Int), ((last : Int), (n1, ((r : Int), ((n : Int), ((i : Int), ((n : Int), ())))))))))), (dL n dist, (fL n frm, ()))) ∧ BF (dirM l) n (r + 1) i j dist frm last R T clk ∧ clk ≤ c0 + j) n
    (fun j a hj ha => by
      obtain ⟨dist, frm, last, R, T, clk, rfl, H, hc⟩ := ha
      have g := fun (B : Type) (F : Int → Option B) => grid_G (M := dirM l) hi hj F
      have hw := w64_nat (show j < 9223372036854775807 by omega)
      by_cases hf : dirM l i j < INF
      · have hd := dir_small hv i j hf
        have hne : (dirM l i j != 1099511627776) = true := bne_iff_ne.2 (by unfold INF at hf; omega)
        have l1 := H.low i hi
        have l2 := H.low j hj
        have hww : w64 (dist i + dirM l i j) = dist i + dirM l i j := by
          unfold DMX at l1
          exact w64_id (by omega) (by omega)
        by_cases hs : dist i + dirM l i j < dist j
        · refine ⟨_, ?_, setN dist j (dist i + dirM l i j), setN frm j i, j, setN R j (r + 1), setN T j (clk + 1), clk + 1, rfl, H.fall (fun a b h => by have := dir_small hv a b h; unfold DMX; omega) (by omega) hi hj hf hs, by omega⟩
          have k1 : decide ((0 : Int) ≤ (j : Int) ∧ (j : Int) < ((dL n dist).length : Int)) = true := decide_eq_true (by rw [dL_len]; omega)
          have k2 : decide ((j : Int).toNat < (dL n dist).length) = true := decide_eq_true (by rw [dL_len]; omega)
          have k3 : decide ((0 : Int) ≤ (j : Int) ∧ (j : Int) < ((fL n frm).length : Int)) = true := decide_eq_true (by rw [fL_len]; omega)
          have k4 : decide ((j : Int).toNat < (fL n frm).length) = true := decide_eq_true (by rw [fL_len]; omega)
          simp only [l14_0_13, lt_t hj, rowAt_G, blk_G, sumE, sS]
          simp only [g, hne, rowG_nat (dL_at hi), rowG_nat (dL_at hj), hww, decide_eq_true hs, sumE, sS]
          simp only [g, k1, k2, k3, k4, rowG_nat (dL_at hi), hww, hw, sumE, sS]
          rw [Int.toNat_natCast, dL_set hj, fL_set hj]
        · refine ⟨_, ?_, dist, frm, last, R, T, clk, rfl, H.skip (by omega) (fun h => hs h.2), by omega⟩
          simp only [l14_0_13, lt_t hj, rowAt_G, blk_G, sumE, sS]
          simp only [g, hne, rowG_nat (dL_at hi), rowG_nat (dL_at hj), hww, decide_eq_false hs, hw, sumE, sS]
      · have hne : (dirM l i j != 1099511627776) = false := by
          have := dir_inf l i j
          unfold INF at hf this
          rw [show dirM l i j = 1099511627776 by omega]; rfl
        refine ⟨_, ?_, dist, frm, last, R, T, clk, rfl, H.skip (by omega) (fun h => hf h.1), by omega⟩
        simp only [l14_0_13, lt_t hj, rowAt_G, blk_G, sumE, sS]
        simp only [g, hne, hw, sumE, sS])
    (fun a ha => by
      obtain ⟨dist, frm, last, R, T, clk, rfl, H, hc⟩ := ha
      refine ⟨_, ?_, dist, frm, last, R, T, clk, rfl, H, by omega⟩
      simp only [l14_0_13, lt_f, sumE, sS])
    ((0, ((i : Int), (gridL n n (dirM l), ((n : Int), ((last : Int), (n1, ((r : Int), ((n : Int), ((i : Int), ((n : Int), ())))))))))), (dL n dist, (fL n frm, ()))) ⟨dist, frm, last, R, T, clk, rfl, H, hc⟩
  exact ⟨dist', frm', last', R', T', clk', h1, h2, h3⟩

theorem loop1410 (hv : validC n l = true) {r : Nat} (n1 : Int) {dist : Nat → Int} {frm : Nat → Nat} {last : Nat} {R T : Nat → Nat} {clk c0 : Nat} (H : BF (dirM l) n (r + 1) 0 0 dist frm last R T clk) (hc : clk ≤ c0) (hc0 : c0 ≤ 75000) :
    ∃ (dist' : Nat → Int) (frm' : Nat → Nat) (last' : Nat) (R' T' : Nat → Nat) (clk' : Nat), loopT l14_0_10 ((gridL n n (dirM l), (0, ((n : Int), ((last : Int), (n1, ((r : Int), ((n : Int), ()))))))), (dL n dist, (fL n frm, ()))) = some ((gridL n n (dirM l), ((n : Int), ((last' : Int), (n1, ((r : Int), ()))))), (dL n dist', (fL n frm', ()))) ∧ BF (dirM l) n (r + 1) n 0 dist' frm' last' R' T' clk' ∧ clk' ≤ c0 + 1681 := by
  obtain ⟨hn, _, _⟩ := valid_iff.1 hv
  obtain ⟨b, h1, dist', frm', last', R', T', clk', rfl, h2, h3⟩ := loop_ind (f := l14_0_10) (Q := fun b => ∃ (dist' : Nat → Int) (frm' : Nat → Nat) (last' : Nat) (R' T' : Nat → Nat) (clk' : Nat), b = ((gridL n n (dirM l), ((n : Int), ((last' : Int), (n1, ((r : Int), ()))))), (dL n dist', (fL n frm', ()))) ∧ BF (dirM l) n (r + 1) n 0 dist' frm' last' R' T' clk' ∧ clk' ≤ c0 + 1681)
    (fun i a => ∃ (dist : Nat → Int) (frm : Nat → Nat) (last : Nat) (R T : Nat → Nat) (clk : Nat), a = ((gridL n n (dirM l), ((i : Int), ((n : Int), ((last : Int), (n1, ((r : Int), ((n : Int), ()))))))), (dL n dist, (fL n frm, ()))) ∧ BF (dirM l) n (r + 1) i 0 dist frm last R T clk ∧ clk ≤ c0 + 41 * i) n
    (fun i a hi ha => by
      obtain ⟨dist, frm, last, R, T, clk, rfl, H, hc⟩ := ha
      obtain ⟨dist', frm', last', R', T', clk', f, H', hc'⟩ := loop1413 hv hi n1 H hc (by omega)
      refine ⟨_, ?_, dist', frm', last', R', T', clk', rfl, H'.row_end, by omega⟩
      simp only [l14_0_10, lt_t hi, f, sumE, sS, w64_nat (show i < 9223372036854775807 by omega)])
    (fun a ha => by
      obtain ⟨dist, frm, last, R, T, clk, rfl, H, hc⟩ := ha
      refine ⟨_, ?_, dist, frm, last, R, T, clk, rfl, H, by omega⟩
      simp only [l14_0_10, lt_f, sumE, sS])
    ((gridL n n (dirM l), (0, ((n : Int), ((last : Int), (n1, ((r : Int), ((n : Int), ()))))))), (dL n dist, (fL n frm, ()))) ⟨dist, frm, last, R, T, clk, rfl, H, hc⟩
  exact ⟨dist', frm', last', R', T', clk', h1, h2, h3⟩

theorem loop148 (hv : validC n l = true) (hcl : closeB n l = false) :
    ∃ (dist : Nat → Int) (frm : Nat → Nat) (last : Nat) (R T : Nat → Nat) (clk q : Nat), loopT l14_0_8 ((gridL n n (dirM l), ((n : Int), (0, (0, (((n + 1 : Nat) : Int), ()))))), (dL n (fun _ => 0), (fL n (fun _ => 0), ()))) = some (((last : Int), ((n : Int), ())), (fL n frm, ())) ∧ BF (dirM l) n q 0 0 dist frm last R T clk ∧ R last = n + 1 := by
  obtain ⟨hn, _, _⟩ := valid_iff.1 hv
  obtain ⟨b, h1, dist, frm, last, R, T, clk, rfl, h2, h3⟩ := loop_ind (f := l14_0_8) (Q := fun b => ∃ (dist : Nat → Int) (frm : Nat → Nat) (last : Nat) (R T : Nat → Nat) (clk : Nat), b = (((last : Int), ((n : Int), ())), (fL n frm, ())) ∧ BF (dirM l) n (n + 2) 0 0 dist frm last R T clk ∧ R last = n + 1)
    (fun r a => ∃ (dist : Nat → Int) (frm : Nat → Nat) (last : Nat) (R T : Nat → Nat) (clk : Nat), a = ((gridL n n (dirM l), ((n : Int), ((r : Int), ((last : Int), (((n + 1 : Nat) : Int), ()))))), (dL n dist, (fL n frm, ()))) ∧ BF (dirM l) n (r + 1) 0 0 dist frm last R T clk ∧ clk ≤ 1681 * r ∧ (r = n + 1 → R last = n + 1)) (n + 1)
    (fun r a hr ha => by
      obtain ⟨dist, frm, last, R, T, clk, rfl, H, hc, _⟩ := ha
      obtain ⟨dist', frm', last', R', T', clk', f, H', hc'⟩ := loop1410 hv ((n + 1 : Nat) : Int) H hc (by omega)
      refine ⟨_, ?_, dist', frm', last', R', T', clk', rfl, H'.round_end, by omega, fun e => ?_⟩
      · simp only [l14_0_8, lt_t hr, f, sumE, sS, w64_nat (show r < 9223372036854775807 by omega)]
      · obtain rfl : r = n := by omega
        exact H'.fell hv hcl (Int.toNat_natCast _))
    (fun a ha => by
      obtain ⟨dist, frm, last, R, T, clk, rfl, H, hc, hR⟩ := ha
      refine ⟨_, ?_, dist, frm, last, R, T, clk, rfl, H, hR rfl⟩
      simp only [l14_0_8, lt_f, sumE, sS])
    ((gridL n n (dirM l), ((n : Int), (0, (0, (((n + 1 : Nat) : Int), ()))))), (dL n (fun _ => 0), (fL n (fun _ => 0), ()))) ⟨fun _ => 0, fun _ => 0, 0, fun _ => 0, fun _ => 0, 0, rfl, BF.start (by omega), Nat.zero_le _, fun e => (by omega)⟩
  exact ⟨dist, frm, last, R, T, clk, n + 2, h1, h2, h3⟩

theorem loop1421 (hn : n ≤ 41) {frm : Nat → Nat} {last : Nat} (hb : ∀ k, back frm last k < n) : loopT l14_0_21 ((0, ((last : Int), ((n : Int), ()))), (fL n frm, ())) = some ((((back frm last n : Nat) : Int), ()), (fL n frm, ())) := by
  refine drop_e (loop_ind (f := l14_0_21) (Q := fun b => b = ((((back frm last n : Nat) : Int), ()), (fL n frm, ()))) (fun k a => a = (((k : Int), (((back frm last k : Nat) : Int), ((n : Int), ()))), (fL n frm, ()))) n (fun k a hk ha => ?_) (fun a ha => ?_) _ rfl)
  · subst ha
    refine ⟨_, ?_, rfl⟩
    simp only [l14_0_21, lt_t hk, blk_G, rowG_nat (fL_at (hb k)), sumE, sS, w64_nat (show k < 9223372036854775807 by omega)]
    rfl
  · subst ha
    refine ⟨_, ?_, rfl⟩
    simp only [l14_0_21, lt_f, sumE, sS]

theorem loop1426 {frm : Nat → Nat} {x p : Nat} (hp : 0 < p) (hpn : p ≤ 41) (hx : back frm x p = x) (hl : ∀ q, 0 < q → q < p → back frm x q ≠ x) (hb : ∀ k, back frm x k < n) :
    loopT l14_0_26 (((x : Int), ((x : Int), ())), (fL n frm, ([], ()))) = some ((), (dL p (fun k => ((back frm x k : Nat) : Int)), ())) := by
  refine drop_e (loop_ind (f := l14_0_26) (Q := fun b => b = ((), (dL p (fun k => ((back frm x k : Nat) : Int)), ()))) (fun k a => a = ((((back frm x k : Nat) : Int), ((x : Int), ())), (fL n frm, (dL k (fun k => ((back frm x k : Nat) : Int)), ())))) p (fun k a hk ha => ?_) (fun a ha => ?_) _ rfl)
  · subst ha
    refine ⟨_, ?_, rfl⟩
    have hgo : (bif ((((dL k (fun k => ((back frm x k : Nat) : Int))).length : Nat) : Int) == 0) then true else ((((back frm x k : Nat) : Int)) != (x : Int))) = true := by
      rw [dL_len]
      by_cases e : k = 0
      · subst e; rfl
      · rw [beq_eq_false_iff_ne.2 (show ((k : Nat) : Int) ≠ 0 by omega), cond_false, bne_iff_ne]
        have := hl k (by omega) hk
        omega
    have hg : decide ((dL k (fun k => ((back frm x k : Nat) : Int))).length + [((back frm x k : Nat) : Int)].length ≤ 4294967296) = true := decide_eq_true (by rw [dL_len]; simp; omega)
    have hap : dL k (fun k => ((back frm x k : Nat) : Int)) ++ [((back frm x k : Nat) : Int)] = dL (k + 1) (fun k => ((back frm x k : Nat) : Int)) := by
      unfold dL
      rw [List.range_succ, List.map_append]; rfl
    unfold l14_0_26
    simp only [blk_G]
    cases h0 : ((((dL k (fun k => ((back frm x k : Nat) : Int))).length : Nat) : Int) == 0)
    · rw [h0, cond_false] at hgo
      simp only [hgo, hg, rowG_nat (fL_at (hb k)), hap, sumE, sS]
      rfl
    · simp only [hg, rowG_nat (fL_at (hb k)), hap, sumE, sS]
      rfl
  · subst ha
    refine ⟨_, ?_, rfl⟩
    have h0 : ((((dL p (fun k => ((back frm x k : Nat) : Int))).length : Nat) : Int) == 0) = false := by
      rw [dL_len]; exact beq_eq_false_iff_ne.2 (by omega)
    simp only [l14_0_26, h0, hx, sumE, sS]

theorem rev1411 {p : Nat} (hp : 0 < p) (hpn : p ≤ 41) (g : Nat → Int) : loopT l14_1_1 ((((p : Int) - 1), (0, ())), (dL p g, ())) = some ((), (dL p (fun k => g (p - 1 - k)), ())) := by
  refine drop_e (loop_ind (f := l14_1_1) (Q := fun b => b = ((), (dL p (fun k => g (p - 1 - k)), ()))) (fun b a => a = ((((p : Int) - 1 - b), ((b : Int), ())), (dL p (fun k => if k < b ∨ p - 1 - b < k then g (p - 1 - k) else g k), ()))) (p / 2) (fun b a hb ha => ?_) (fun a ha => ?_) _ ?_)
  · subst ha
    refine ⟨_, ?_, rfl⟩
    obtain ⟨q, hq⟩ : ∃ q : Nat, q = p - 1 - b := ⟨_, rfl⟩
    have e : (p : Int) - 1 - b = (q : Int) := by omega
    rw [e]
    have hqp : q < p := by omega
    have hbp : b < p := by omega
    generalize hF : (fun k => if k < b ∨ p - 1 - b < k then g (p - 1 - k) else g k) = F
    have k1 : decide ((0 : Int) ≤ (b : Int) ∧ (b : Int) < ((dL p F).length : Int)) = true := decide_eq_true (by rw [dL_len]; omega)
    have k2 : decide ((b : Int).toNat < (dL p F).length) = true := decide_eq_true (by rw [dL_len]; omega)
    have k3 : ∀ v, decide ((0 : Int) ≤ (q : Int) ∧ (q : Int) < ((((dL p F).set (b : Int).toNat v).length : Nat) : Int)) = true := fun v => decide_eq_true (by rw [List.length_set, dL_len]; omega)
    have k4 : ∀ v, decide ((q : Int).toNat < ((dL p F).set (b : Int).toNat v).length) = true := fun v => decide_eq_true (by rw [List.length_set, dL_len]; omega)
    have w1 : w64 ((q : Int) - 1) = (p : Int) - 1 - (b + 1 : Nat) := by rw [w64_id (by omega) (by omega)]; omega
    have hlt : decide ((b : Int) < (q : Int)) = true := decide_eq_true (by omega)
    simp only [l14_1_1, hlt, blk_G, rowG_nat (dL_at hqp), rowG_nat (dL_at hbp), sumE, sS]
    simp only [k1, k2, k3, k4, w1, w64_nat (show b < 9223372036854775807 by omega), sumE, sS]
    rw [Int.toNat_natCast, Int.toNat_natCast, dL_set hbp, dL_set hqp]
    refine congrArg (fun z => some (Sum.inl (((p : Int) - 1 - ((b + 1 : Nat) : Int), (((b + 1 : Nat) : Int), ())), (z, ())))) (dL_ext (fun k hk => ?_))
    subst hF
    unfold setN
    dsimp only
    by_cases e1 : k = q
    · rw [if_pos e1, if_neg (by omega), if_pos (by omega)]
      congr 1; omega
    · rw [if_neg e1]
      by_cases e2 : k = b
      · rw [if_pos e2, if_neg (by omega), if_pos (by omega)]
        congr 1; omega
      · rw [if_neg e2]
        by_cases e3 : k < b ∨ p - 1 - b < k
        · rw [if_pos e3, if_pos (by omega)]
        · rw [if_neg e3, if_neg (by omega)]
  · subst ha
    refine ⟨_, ?_, rfl⟩
    have hlt : decide (((p / 2 : Nat) : Int) < (p : Int) - 1 - ((p / 2 : Nat) : Int)) = false := decide_eq_false (by omega)
    simp only [l14_1_1, hlt, sumE, sS]
    refine congrArg (fun z => some (Sum.inr ((), (z, ())))) (dL_ext (fun k hk => ?_))
    by_cases e3 : k < p / 2 ∨ p - 1 - p / 2 < k
    · rw [if_pos e3]
    · rw [if_neg e3]
      congr 1; omega
  · have : dL p g = dL p (fun k => if k < 0 ∨ p - 1 - 0 < k then g (p - 1 - k) else g k) := dL_ext (fun k hk => by rw [if_neg (by omega)])
    rw [this, Int.natCast_zero, Int.sub_zero]

/-- Cycle, without a closure. -/
theorem cycle14 (hv : validC n l = true) (hcl : closeB n l = false) : ∃ (frm : Nat → Nat) (x p : Nat), m14 (((n : Int), (l, ())), ()) = some ((true, ()), (dL p (fun k => ((back frm x (p - 1 - k) : Nat) : Int)), ())) ∧ 0 < p ∧ p ≤ n ∧ back frm x p = x ∧ (∀ q, 0 < q → q < p → back frm x q ≠ x) ∧ (∀ k, back frm x k < n) ∧ backW (dirM l) frm x p < 0 ∧ ∀ k, dirM l (frm (back frm x k)) (back frm x k) < INF := by
  obtain ⟨hn, _, _⟩ := valid_iff.1 hv
  obtain ⟨dist, frm, last, R, T, clk, q, f1, H, hR⟩ := loop148 hv hcl
  obtain ⟨p, p1, p2, p3, p4, p5⟩ := H.cycle (by omega)
  obtain ⟨n1, n2⟩ := H.negative p1 p3 p5
  have hb := fun k => (p5 k).1
  have f2 := loop1421 (n := n) (by omega) (fun k => (H.chain H.lst k).1)
  have f3 := loop1426 (n := n) p1 (by omega) p3 p4 hb
  have f4 := rev1411 p1 (by omega) (fun k => ((back frm (back frm last n) k : Nat) : Int))
  refine ⟨frm, back frm last n, p, ?_, p1, p2, p3, p4, hb, n1, n2⟩
  unfold m14 cloB vldB
  have hg : decide ((0 : Int) ≤ (n : Int) ∧ (n : Int) ≤ (n : Int) ∧ (n : Int) ≤ 4294967296) = true := decide_eq_true (by omega)
  have hd : dirL (n : Int) l = gridL n n (dirM l) := by unfold dirL; rw [Int.toNat_natCast]
  have hr : List.replicate n (0 : Int) = fL n (fun _ => 0) := dL_rep n
  have hw : w64 ((p : Int) - 1) = (p : Int) - 1 := w64_id (by omega) (by omega)
  simp only [hcl, m24_eq, hv, hg, hd, Int.toNat_natCast, w64_nat (show n < 9223372036854775807 by omega), sumE, sS]
  rw [show ((List.replicate n (0 : Int)), ((List.replicate n (0 : Int)), ())) = (dL n (fun _ => 0), (fL n (fun _ => 0), ())) by rw [← dL_rep, ← hr]]
  rw [f1]
  simp only [f2, f3, dL_len, hw, f4, sumE, sS]

end
end Go.Proofs.Ytcklpclgiaeopaa

namespace Go.Proofs.Ytcklpclgiaeopaa
open Go Go.Abs Go.FW Go.Plain
theorem has33 (l : List Int) (e : Int) (hl : l.length ≤ 4000) (h : e ∉ l) : m33 ((l, (e, ())), ()) = some ((false, ()), ()) := by
  have a : loopT l33_0_2 ((0, (e, (l, ()))), ()) = some (.inr ((), ())) := by
    refine loop_thru (f := l33_0_2) l (fun i => (((i : Int), (e, (l, ()))), ())) _ (fun i x hx hi => ?_) ?_
    · have hne : (x == e) = false := beq_eq_false_iff_ne.2 (fun he => h (he ▸ List.mem_of_getElem? hx))
      simp only [l33_0_2, rowAt_G, rowG_nat hx, lt_t hi, hne, sumE, sS, w64_nat (show i < 9223372036854775807 by omega)]
    · simp only [l33_0_2, lt_f, sumE, sS]
  unfold m33
  rw [a]; rfl

def stepD (u v : Nat) (m : Int) (d : DT) : Int := if d.1 = (u : Int) ∧ d.2.1 = (v : Int) then min m d.2.2.1 else m

theorem best1511 {n : Nat} {l : List DT} (hv : validC n l = true) (cyc : List Int) (i : Nat) {u v : Nat} (hu : cyc[i]? = some (u : Int)) (hi1 : i + 1 ≤ 4000) (hcl : 0 < cyc.length) (hvv : rowG cyc ((((i + 1 : Nat) : Int)).tmod (cyc.length : Int)) (fun e => some e) = some (v : Int)) (N s : Int) (hf : dirM l u v < INF) :
    loopT l15_0_11 ((0, (l, (0, (false, (cyc, ((i : Int), (N, (s, ())))))))), ()) = some ((l, (cyc, (N, ((i : Int), (dirM l u v, (s, (true, ()))))))), ()) := by
  obtain ⟨hn, hll, hok⟩ := valid_iff.1 hv
  have hmod : ∃ t : Nat, (((i + 1 : Nat) : Int)).tmod (cyc.length : Int) = (t : Int) ∧ cyc[t]? = some (v : Int) := by
    refine ⟨(i + 1) % cyc.length, ?_, ?_⟩
    · rw [Int.tmod_eq_emod_of_nonneg (by omega)]; rfl
    · have e : (((i + 1 : Nat) : Int)).tmod (cyc.length : Int) = (((i + 1) % cyc.length : Nat) : Int) := by
        rw [Int.tmod_eq_emod_of_nonneg (by omega)]; rfl
      rw [e] at hvv
      obtain ⟨x, hx⟩ := getD_some (l := cyc) (i := (i + 1) % cyc.length) (Nat.mod_lt _ hcl)
      rw [rowG_nat hx] at hvv
      cases hvv
      exact hx
  obtain ⟨t, ht, htv⟩ := hmod
  have hw1 : w64 ((i : Int) + 1) = ((i + 1 : Nat) : Int) := w64_nat (by omega)
  have hne0 : decide ((cyc.length : Int) ≠ (0 : Int)) = true := decide_eq_true (by omega)
  refine drop_e (loop_ind (f := l15_0_11) (Q := fun b => b = ((l, (cyc, (N, ((i : Int), (dirM l u v, (s, (true, ()))))))), ()))
    (fun k a => ∃ (best : Int) (found : Bool), a = (((k : Int), (l, (best, (found, (cyc, ((i : Int), (N, (s, ())))))))), ()) ∧ ((found = false ∧ (l.take k).foldl (stepD u v) INF = INF) ∨ (found = true ∧ (l.take k).foldl (stepD u v) INF = best))) l.length
    (fun k a hk ha => ?_) (fun a ha => ?_) _ ⟨0, false, rfl, .inl ⟨rfl, rfl⟩⟩)
  · obtain ⟨best, found, rfl, hb⟩ := ha
    obtain ⟨d, hd⟩ := getD_some hk
    have hnext : (l.take (k + 1)).foldl (stepD u v) INF = stepD u v ((l.take k).foldl (stepD u v) INF) d := by
      rw [List.take_add_one, hd, List.foldl_append]; rfl
    have hdm := (okD_iff.1 (hok d (List.mem_of_getElem? hd))).2.2
    have hwk := w64_nat (show k < 9223372036854775807 by omega)
    by_cases c1 : d.1 = (u : Int)
    · by_cases c2 : d.2.1 = (v : Int)
      · have hst : ∀ m, stepD u v m d = min m d.2.2.1 := fun m => by unfold stepD; rw [if_pos ⟨c1, c2⟩]
        have e1 : (d.1 == (u : Int)) = true := beq_iff_eq.2 c1
        have e2 : (d.2.1 == (v : Int)) = true := beq_iff_eq.2 c2
        cases found
        · rcases hb with ⟨_, hb⟩ | ⟨h, _⟩
          · refine ⟨_, ?_, d.2.2.1, true, rfl, .inr ⟨rfl, ?_⟩⟩
            · simp only [l15_0_11, lt_t hk, rowAt_G, rowG_nat hd, rowG_nat hu, hw1, ht, rowG_nat htv, hne0, e1, e2, hwk, sumE, sS]
            · rw [hnext, hb, hst]
              unfold INF; unfold DMX at hdm; omega
          · cases h
        · rcases hb with ⟨h, _⟩ | ⟨_, hb⟩
          · cases h
          · by_cases c3 : d.2.2.1 < best
            · refine ⟨_, ?_, d.2.2.1, true, rfl, .inr ⟨rfl, ?_⟩⟩
              · simp only [l15_0_11, lt_t hk, rowAt_G, rowG_nat hd, rowG_nat hu, hw1, ht, rowG_nat htv, hne0, e1, e2, hwk, decide_eq_true c3, sumE, sS]
              · rw [hnext, hb, hst]; omega
            · refine ⟨_, ?_, best, true, rfl, .inr ⟨rfl, ?_⟩⟩
              · simp only [l15_0_11, lt_t hk, rowAt_G, rowG_nat hd, rowG_nat hu, hw1, ht, rowG_nat htv, hne0, e1, e2, hwk, decide_eq_false c3, sumE, sS]
              · rw [hnext, hb, hst]; omega
      · have e1 : (d.1 == (u : Int)) = true := beq_iff_eq.2 c1
        have e2 : (d.2.1 == (v : Int)) = false := beq_eq_false_iff_ne.2 c2
        refine ⟨_, ?_, best, found, rfl, ?_⟩
        · simp only [l15_0_11, lt_t hk, rowAt_G, rowG_nat hd, rowG_nat hu, hw1, ht, rowG_nat htv, hne0, e1, e2, hwk, sumE, sS]
        · rw [hnext]; unfold stepD at *; rw [if_neg (fun h => c2 h.2)]; exact hb
    · have e1 : (d.1 == (u : Int)) = false := beq_eq_false_iff_ne.2 c1
      refine ⟨_, ?_, best, found, rfl, ?_⟩
      · simp only [l15_0_11, lt_t hk, rowAt_G, rowG_nat hd, rowG_nat hu, e1, hwk, sumE, sS]
      · rw [hnext]; unfold stepD at *; rw [if_neg (fun h => c1 h.1)]; exact hb
  · obtain ⟨best, found, rfl, hb⟩ := ha
    rw [List.take_length] at hb
    have hm : l.foldl (stepD u v) INF = dirM l u v := rfl
    rw [hm] at hb
    rcases hb with ⟨_, h⟩ | ⟨rfl, h⟩
    · omega
    · subst h
      refine ⟨_, ?_, rfl⟩
      simp only [l15_0_11, lt_f, sumE, sS]

theorem back_per {frm : Nat → Nat} {x p : Nat} (hx : back frm x p = x) (hl : ∀ q, 0 < q → q < p → back frm x q ≠ x) {a b : Nat} (hab : a < b) (hb : b < p) : back frm x a ≠ back frm x b := fun e => by
  have h1 : back frm x (a + (p - b)) = back frm x (b + (p - b)) := by rw [back_add, back_add, e]
  rw [show b + (p - b) = p by omega, hx] at h1
  exact hl (a + (p - b)) (by omega) (by omega) h1

theorem contra15 {n : Nat} {l : List DT} (hv : validC n l = true) {frm : Nat → Nat} {x p : Nat} (hp : 0 < p) (hpn : p ≤ n) (hx : back frm x p = x) (hl : ∀ q, 0 < q → q < p → back frm x q ≠ x) (hb : ∀ k, back frm x k < n) (hneg : backW (dirM l) frm x p < 0) (hfin : ∀ k, dirM l (frm (back frm x k)) (back frm x k) < INF) :
    m15 (((n : Int), (l, (dL p (fun k => ((back frm x (p - 1 - k) : Nat) : Int)), ()))), ()) = some ((true, ()), ()) := by
  obtain ⟨hn, hll, hok⟩ := valid_iff.1 hv
  generalize hC : dL p (fun k => ((back frm x (p - 1 - k) : Nat) : Int)) = cyc
  have hcl : cyc.length = p := by rw [← hC, dL_len]
  have hca : ∀ i, i < p → cyc[i]? = some ((back frm x (p - 1 - i) : Nat) : Int) := fun i hi => by rw [← hC]; exact dL_at hi
  have hsm : ∀ k, -17179869184 ≤ dirM l (frm (back frm x k)) (back frm x k) ∧ dirM l (frm (back frm x k)) (back frm x k) ≤ 17179869184 := fun k => dir_small hv _ _ (hfin k)
  have hw : w64 ((n : Int) - 1) = (n : Int) - 1 := w64_id (by omega) (by omega)
  have key : ∃ b, loopT l15_0_5 ((l, (cyc, (0, (0, ((n : Int), ()))))), ()) = some b ∧ b = .inr ((backW (dirM l) frm x p, ()), ()) := by
    refine loop_ind (f := l15_0_5) (fun i a => ∃ s : Int, a = ((l, (cyc, ((i : Int), (s, ((n : Int), ()))))), ()) ∧ -(17179869184 * (i : Int)) ≤ s ∧ s ≤ 17179869184 * (i : Int) ∧ (i < p → s + backW (dirM l) frm x (p - 1 - i) = backW (dirM l) frm x (p - 1)) ∧ (i = p → s = backW (dirM l) frm x p)) p
      (fun i a hi ha => ?_) (fun a ha => ?_) _ ⟨0, rfl, by omega, by omega, fun _ => by rw [Int.zero_add, Nat.sub_zero], fun e => (by omega)⟩
    · obtain ⟨s, rfl, s1, s2, s3, _⟩ := ha
      have hci := hca i hi
      obtain ⟨k, hk⟩ : ∃ k : Nat, k = if i + 1 = p then p - 1 else p - 2 - i := ⟨_, rfl⟩
      -- the edge from this place to the next
      have hfrom : back frm x (p - 1 - i) = frm (back frm x k) := by
        by_cases e : i + 1 = p
        · rw [hk, if_pos e, show p - 1 - i = 0 by omega]
          show x = back frm x (p - 1 + 1)
          rw [show p - 1 + 1 = p by omega, hx]
        · rw [hk, if_neg e, show p - 1 - i = (p - 2 - i) + 1 by omega]; rfl
      have hto : rowG cyc ((((i + 1 : Nat) : Int)).tmod (cyc.length : Int)) (fun e => some e) = some ((back frm x k : Nat) : Int) := by
        rw [hcl, Int.tmod_eq_emod_of_nonneg (by omega), show (((i + 1 : Nat) : Int)) % (p : Int) = (((i + 1) % p : Nat) : Int) from rfl]
        by_cases e : i + 1 = p
        · rw [e, Nat.mod_self, rowG_nat (hca 0 hp), hk, if_pos e]; rfl
        · rw [Nat.mod_eq_of_lt (by omega), rowG_nat (hca (i + 1) (by omega)), hk, if_neg e, show p - 1 - (i + 1) = p - 2 - i by omega]
      have hfi := hfin k
      rw [← hfrom] at hfi
      have f1 := best1511 hv cyc i hci (by omega) (by omega) hto (n : Int) s hfi
      have hs := hsm k
      rw [← hfrom] at hs
      have hws : w64 (s + dirM l (back frm x (p - 1 - i)) (back frm x k)) = s + dirM l (back frm x (p - 1 - i)) (back frm x k) := w64_id (by omega) (by omega)
      have hin : decide ((0 : Int) ≤ ((back frm x (p - 1 - i) : Nat) : Int) ∧ ((back frm x (p - 1 - i) : Nat) : Int) ≤ (n : Int) - 1) = true := decide_eq_true (by have := hb (p - 1 - i); omega)
      have hnot : ((back frm x (p - 1 - i) : Nat) : Int) ∉ cyc.take i := fun hm => by
        obtain ⟨q, hq⟩ := List.getElem?_of_mem hm
        rw [List.getElem?_take] at hq
        split at hq
        · rw [hca q (by omega)] at hq
          have := back_per hx hl (a := p - 1 - i) (b := p - 1 - q) (by omega) (by omega)
          have := Option.some.inj hq
          omega
        · cases hq
      have f2 := has33 (cyc.take i) ((back frm x (p - 1 - i) : Nat) : Int) (by rw [List.length_take]; omega) hnot
      refine ⟨_, ?_, s + dirM l (back frm x (p - 1 - i)) (back frm x k), rfl, ?_, ?_, fun h => ?_, fun h => ?_⟩
      · have h1 : decide ((i : Int) < (cyc.length : Int)) = true := decide_eq_true (by omega)
        have h2 : decide ((0 : Int) ≤ (i : Int)) = true := decide_eq_true (by omega)
        have h3 : decide (0 ≤ i ∧ i ≤ cyc.length) = true := decide_eq_true (by omega)
        simp only [l15_0_5, h1, rowAt_G, rowG_nat hci, sumE, sS]
        simp only [m32_eq', hw, hin, h2, Int.toNat_natCast, h3, f2, f1, hws, sumE, sS, w64_nat (show i < 9223372036854775807 by omega)]
      · omega
      · omega
      · have := s3 hi
        have e : i + 1 ≠ p := by omega
        rw [hfrom]
        have hk' : k = p - 2 - i := by rw [hk, if_neg e]
        have hstep : backW (dirM l) frm x (p - 1 - i) = backW (dirM l) frm x k + dirM l (frm (back frm x k)) (back frm x k) := by
          rw [show p - 1 - i = k + 1 by omega]; rfl
        rw [show p - 1 - (i + 1) = k by omega]
        omega
      · have := s3 hi
        rw [hfrom]
        have hk' : k = p - 1 := by rw [hk, if_pos h]
        have hstep : backW (dirM l) frm x p = backW (dirM l) frm x k + dirM l (frm (back frm x k)) (back frm x k) := by
          rw [show p = k + 1 by omega]; rfl
        rw [show p - 1 - i = 0 by omega] at this
        have h0 : backW (dirM l) frm x 0 = 0 := rfl
        rw [hk'] at hstep ⊢
        omega
    · obtain ⟨s, rfl, _, _, _, s4⟩ := ha
      rw [s4 rfl]
      refine ⟨_, ?_, rfl⟩
      have h1 : decide ((p : Int) < (cyc.length : Int)) = false := decide_eq_false (by omega)
      simp only [l15_0_5, h1, sumE, sS]
  have key := drop_e key
  unfold m15
  have h0 : (((cyc.length : Int) : Int) == 0) = false := beq_eq_false_iff_ne.2 (by omega)
  simp only [m25_eq, hv, h0, key, decide_eq_true hneg, sumE, sS]

end Go.Proofs.Ytcklpclgiaeopaa

namespace Go.Proofs.Ytcklpclgiaeopaa
open Go Go.Abs Go.FW Go.Plain
theorem m23_m17 : m23 = m17 := rfl

theorem valid_nat {n : Int} {l : List DT} (h : validC n l = true) : ∃ N : Nat, n = (N : Int) ∧ 1 ≤ N ∧ N ≤ 41 := by
  obtain ⟨h1, _, _⟩ := valid_iff.1 h
  exact ⟨n.toNat, by omega, by omega, by omega⟩

theorem close_valid {n : Int} {l : List DT} (h : closeB n l = true) : validC n l = true := (closeB_iff.1 h).1

theorem sameclo (n : Int) (l : List DT) : m20 ((cloL n l, (cloL n l, ())), ()) = some ((true, ()), ()) := by
  cases hc : closeB n l
  · have : cloL n l = [] := by unfold cloL; rw [hc]; rfl
    rw [this, m20_eq [] [] rfl (by simp) (fun i x y h => by simp at h), decide_eq_true rfl]
  · obtain ⟨N, rfl, h1, h2⟩ := valid_nat (close_valid hc)
    rw [cloL_true hc, same20 h2, decide_eq_true rfl]

theorem same26 (x : List Int) (hx : x.length ≤ 100) : m26 ((x, (x, ())), ()) = some ((true, ()), ()) := by rw [m26_eq x x rfl hx, decide_eq_true rfl]

theorem early17 (n : Int) (l : List DT) : ∃ (b : Bool) (x : List Int), m17 ((n, (l, ())), ()) = some ((b, ()), (x, ())) ∧ x.length ≤ 41 := by
  cases hc : closeB n l
  · refine ⟨false, [], ?_, by simp⟩
    unfold m17 cloB
    rw [hc]; rfl
  · obtain ⟨N, rfl, h1, h2⟩ := valid_nat (close_valid hc)
    have C := closN hc
    obtain ⟨d, h, hd⟩ := loop_inv (f := l17_0_6) (fun a => ∃ (i : Nat) (y : List Int), a = (((i : Int), (gridL N N (rounds (W0 l) N), ((N : Int), ()))), (y, ())) ∧ i ≤ N ∧ y.length = i) (fun a => N - (show Int from a.1.1).toNat)
      (fun d => d = .inl ((false, ()), ([], ())) ∨ ∃ y : List Int, d = .inr ((), (y, ())) ∧ y.length ≤ 41) (fun a ha => by
        obtain ⟨i, y, rfl, hi, hy⟩ := ha
        by_cases hiN : i < N
        · have g0 : ∀ (B : Type) (F : Int → Option B), (rowG (gridL N N (rounds (W0 l) N)) (i : Int) fun e => rowG e 0 F) = F (rounds (W0 l) N i 0) := fun B F => grid_G (n := N) (m := N) (M := rounds (W0 l) N) (i := i) (j := 0) hiN (by omega) F
          cases he : (rounds (W0 l) N i 0 == 1099511627776)
          · left
            refine ⟨_, ?_, ⟨i + 1, y ++ [w64 (0 - rounds (W0 l) N i 0)], rfl, by omega, by simp [hy]⟩, ?_⟩
            · simp only [l17_0_6, rowAt_G, lt_t hiN, sumE, sS]
              rw [g0]
              simp only [he, cond_false, g0]
              rw [decide_eq_true (by simp; omega), cond_true, w64_nat (by omega)]
            · show N - ((i + 1 : Nat) : Int).toNat < N - ((i : Nat) : Int).toNat
              omega
          · right
            refine ⟨_, ?_, .inl rfl⟩
            simp only [l17_0_6, rowAt_G, lt_t hiN, sumE, sS]
            rw [g0]
            simp only [he, cond_true]
        · right
          obtain rfl : i = N := by omega
          refine ⟨_, ?_, .inr ⟨y, rfl, by omega⟩⟩
          simp only [l17_0_6, lt_f, sumE, sS]) ((0, (gridL N N (rounds (W0 l) N), ((N : Int), ()))), ([], ())) ⟨0, [], rfl, Nat.zero_le _, rfl⟩
    unfold m17 cloB
    rw [hc, cloL_true hc]
    simp only [sumE, sS]
    rw [show loopT l17_0_6 ((0, (gridL N N (rounds (W0 l) N), ((N : Int), ()))), ([], ())) = some d from h]
    rcases hd with rfl | ⟨y, rfl, hy⟩
    · exact ⟨false, [], rfl, by simp⟩
    · exact ⟨true, y, rfl, hy⟩

def inX (e : Int) : Bool := decide (-1099511627776 ≤ e ∧ e ≤ 1099511627776)

def satB (x : List Int) (d : DT) : Bool := decide (x.getD d.2.1.toNat 0 - x.getD d.1.toNat 0 ≤ d.2.2.1)

def fitsB (n : Int) (l : List DT) (x : List Int) : Bool := validC n l && (decide ((x.length : Int) = n) && (x.all inX && l.all (satB x)))

theorem sat_at {n : Nat} {l : List DT} {x : List Int} (hok : ∀ d ∈ l, okD n d = true) (hl : x.length = n) (hx : x.all inX = true) {d : DT} (hd : d ∈ l) : ∃ u v : Int, x[d.2.1.toNat]? = some u ∧ x[d.1.toNat]? = some v ∧ w64 (u - v) = u - v ∧ 0 ≤ d.2.1 ∧ 0 ≤ d.1 ∧ satB x d = decide (u - v ≤ d.2.2.1) := by
  have ho := okD_iff.1 (hok d hd)
  obtain ⟨u, hu⟩ := getD_some (l := x) (i := d.2.1.toNat) (by omega)
  obtain ⟨v, hv⟩ := getD_some (l := x) (i := d.1.toNat) (by omega)
  have h1 := of_decide_eq_true (List.all_eq_true.1 hx u (List.mem_of_getElem? hu))
  have h2 := of_decide_eq_true (List.all_eq_true.1 hx v (List.mem_of_getElem? hv))
  refine ⟨u, v, hu, hv, w64_id (by omega) (by omega), ho.2.1.1, ho.1.1, ?_⟩
  unfold satB
  simp only [List.getD_eq_getElem?_getD, hu, hv, Option.getD_some]

theorem gt_not (a b : Int) : decide (a > b) = !decide (a ≤ b) := by
  by_cases h : a ≤ b
  · rw [decide_eq_true h, decide_eq_false (by omega)]; rfl
  · rw [decide_eq_false h, decide_eq_true (by omega)]; rfl

theorem m16_eq (n : Int) (l : List DT) (x : List Int) (hx : x.length ≤ 100) : m16 ((n, (l, (x, ()))), ()) = some ((fitsB n l x, ()), ()) := by
  unfold m16 fitsB
  simp only [m24_eq, sumE, sS]
  cases hv : validC n l
  · simp only [sumE, sS]
  · by_cases hl : (x.length : Int) = n
    · have hne : (((x.length : Int) : Int) != n) = false := by rw [hl]; simp
      have ha := loop_list0 (f := l16_2_2) x (fun i (_ : Unit) => (((i : Int), (x, ((x.length : Int), ()))), ())) (fun i _ e => bif !inX e then .inr (.inl (((i : Int), ()), ())) else .inl ()) (fun _ => .inr ((), ())) (fun i e _ he hi => by
        simp only [l16_2_2, rowAt_G, rowG_nat he, lt_t hi, m35_eq, sumE, sS, w64_nat (show i < 9223372036854775807 by omega)]
        unfold inX
        cases decide (-1099511627776 ≤ e ∧ e ≤ 1099511627776) <;> rfl) (fun _ => by simp only [l16_2_2, lt_f, sumE, sS]) ()
      obtain ⟨j, _, hj⟩ := runL_any (fun e => !inX e) (fun i : Nat => (Sum.inl (((i : Int), ()), ()) : ((Int × Unit) × Unit) ⊕ (Unit × Unit))) (.inr ((), ())) x 0
      have ha := ha.trans (congrArg some hj)
      rw [any_not] at ha
      simp only [hne, sumE, sS, decide_eq_true hl]
      rw [show loopT l16_2_2 ((0, (x, ((x.length : Int), ()))), ()) = _ from ha]
      cases hin : x.all inX
      · simp only [sumE, sS, decide_eq_true (show (j : Int) ≥ 0 by omega)]
      · obtain ⟨N, rfl, _, _⟩ := valid_nat hv
        obtain ⟨_, hll, hok⟩ := valid_iff.1 hv
        have hb := loop_list0 (f := l16_4_2) l (fun i (_ : Unit) => (((i : Int), (l, ((l.length : Int), ()))), ((x, ()), ()))) (fun i _ d => bif !satB x d then .inr (.inl (((i : Int), ()), ((x, ()), ()))) else .inl ()) (fun _ => .inr ((), ((x, ()), ()))) (fun i d _ hd hi => by
          obtain ⟨u, v, hu, hvv, hw, h1, h2, hs⟩ := sat_at hok (by omega) hin (List.mem_of_getElem? hd)
          simp only [l16_4_2, rowAt_G, rowG_nat hd, lt_t hi, rowG_int h1 hu, rowG_int h2 hvv, hw, hs, gt_not, sumE, sS, w64_nat (show i < 9223372036854775807 by omega)]
          cases decide (u - v ≤ d.2.2.1) <;> rfl) (fun _ => by simp only [l16_4_2, lt_f, sumE, sS]) ()
        obtain ⟨k, _, hk⟩ := runL_any (fun d => !satB x d) (fun i : Nat => (Sum.inl (((i : Int), ()), ((x, ()), ())) : ((Int × Unit) × (((List Int) × Unit) × Unit)) ⊕ (Unit × (((List Int) × Unit) × Unit)))) (.inr ((), ((x, ()), ()))) l 0
        have hb := hb.trans (congrArg some hk)
        rw [any_not] at hb
        simp only [sumE, sS]
        rw [show loopT l16_4_2 ((0, (l, ((l.length : Int), ()))), ((x, ()), ())) = _ from hb]
        cases l.all (satB x) <;> simp only [sumE, sS, decide_eq_true (show (k : Int) ≥ 0 by omega)]
    · have hne : (((x.length : Int) : Int) != n) = true := bne_iff_ne.2 hl
      simp only [hne, sumE, sS, decide_eq_false hl]

theorem m28_eq (n : Int) (l : List DT) (x : List Int) (hx : x.length ≤ 100) : m28 ((n, (l, (x, ()))), ()) = some ((fitsB n l x, ()), ()) := by
  unfold m28 fitsB
  simp only [m25_eq, sumE, sS]
  cases hv : validC n l
  · simp only [sumE, sS]
  · by_cases hl : (x.length : Int) = n
    · have hne : (((x.length : Int) : Int) != n) = false := by rw [hl]; simp
      have ha := loop_list0 (f := l28_0_4) x (fun i (_ : Unit) => (((i : Int), (x, (l, (n, ())))), ())) (fun i _ e => bif !inX e then .inr (.inl ((false, ()), ())) else .inl ()) (fun _ => .inr ((l, (x, ())), ())) (fun i e _ he hi => by
        have hi' : decide ((i : Int) < n) = true := decide_eq_true (by omega)
        simp only [l28_0_4, rowAt_G, rowG_nat he, hi', m32_eq', sumE, sS, w64_nat (show i < 9223372036854775807 by omega)]
        unfold inX
        cases decide (-1099511627776 ≤ e ∧ e ≤ 1099511627776) <;> rfl) (fun _ => by
        have hi' : decide ((x.length : Int) < n) = false := decide_eq_false (by omega)
        simp only [l28_0_4, hi', sumE, sS]) ()
      obtain ⟨j, _, hj⟩ := runL_any (fun e => !inX e) (fun _ : Nat => (Sum.inl ((false, ()), ()) : ((Bool × Unit) × Unit) ⊕ ((List DT × List Int × Unit) × Unit))) (.inr ((l, (x, ())), ())) x 0
      have ha := ha.trans (congrArg some hj)
      rw [any_not] at ha
      simp only [hne, sumE, sS, decide_eq_true hl]
      rw [show loopT l28_0_4 ((0, (x, (l, (n, ())))), ()) = _ from ha]
      cases hin : x.all inX
      · simp only [sumE, sS]
      · obtain ⟨N, rfl, _, _⟩ := valid_nat hv
        obtain ⟨_, hll, hok⟩ := valid_iff.1 hv
        have hb := loop_list0 (f := l28_0_9) l (fun i (_ : Unit) => (((i : Int), (l, (x, ()))), ())) (fun i _ d => bif !satB x d then .inr (.inl ((false, ()), ())) else .inl ()) (fun _ => .inr ((), ())) (fun i d _ hd hi => by
          obtain ⟨u, v, hu, hvv, hw, h1, h2, hs⟩ := sat_at hok (by omega) hin (List.mem_of_getElem? hd)
          simp only [l28_0_9, rowAt_G, rowG_nat hd, lt_t hi, rowG_int h1 hu, rowG_int h2 hvv, hw, hs, gt_not, sumE, sS, w64_nat (show i < 9223372036854775807 by omega)]
          cases decide (u - v ≤ d.2.2.1) <;> rfl) (fun _ => by simp only [l28_0_9, lt_f, sumE, sS]) ()
        obtain ⟨k, _, hk⟩ := runL_any (fun d => !satB x d) (fun _ : Nat => (Sum.inl ((false, ()), ()) : ((Bool × Unit) × Unit) ⊕ (Unit × Unit))) (.inr ((), ())) l 0
        have hb := hb.trans (congrArg some hk)
        rw [any_not] at hb
        simp only [sumE, sS]
        rw [show loopT l28_0_9 ((0, (l, (x, ()))), ()) = _ from hb]
        cases l.all (satB x) <;> simp only [sumE, sS]
    · have hne : (((x.length : Int) : Int) != n) = true := bne_iff_ne.2 hl
      simp only [hne, sumE, sS, decide_eq_false hl]

/-- Implied, both. -/
theorem implied_both (n : Int) (l : List DT) (c : DT) : ∃ b : Bool, m19 ((n, (l, (c, ()))), ()) = some ((b, ()), ()) ∧ m29 ((n, (l, (c, ()))), ()) = some ((b, ()), ()) := by
  unfold m19 m29 cloB
  cases hc : closeB n l
  · exact ⟨false, rfl, rfl⟩
  · obtain ⟨N, rfl, h1, h2⟩ := valid_nat (close_valid hc)
    have C := closN hc
    have hw : w64 ((N : Int) - 1) = (N : Int) - 1 := w64_id (by omega) (by omega)
    unfold m41
    simp only [m36_eq', m32_eq', hw, rowAt_G, cloL_true hc, sumE, sS]
    by_cases p1 : 0 ≤ c.1 ∧ c.1 ≤ (N : Int) - 1
    · by_cases p2 : 0 ≤ c.2.1 ∧ c.2.1 ≤ (N : Int) - 1
      · have g := fun (B : Type) (F : Int → Option B) => grid_I (n := N) (m := N) (M := rounds (W0 l) N) (i := c.1) (j := c.2.1) (by omega) (by omega) (by omega) (by omega) F
        have hi := C.inf c.1.toNat c.2.1.toNat
        simp only [decide_eq_true p1, decide_eq_true p2, g, sumE, sS]
        generalize hD : rounds (W0 l) N c.1.toNat c.2.1.toNat = D at hi
        by_cases e : c.1 = c.2.1
        · have hz : D = 0 := by rw [← hD, ← e]; exact C.zero _ (by omega)
          subst hz
          refine ⟨decide (c.2.2.1 ≥ 0), rfl, ?_⟩
          rw [e]
          simp only [sumE, sS]
        · have e' : (c.1 == c.2.1) = false := beq_eq_false_iff_ne.2 e
          by_cases hd : D = 1099511627776
          · subst hd
            refine ⟨false, rfl, ?_⟩
            simp only [e', sumE, sS]
            rfl
          · have b1 : (D != 1099511627776) = true := bne_iff_ne.2 hd
            have b2 : decide (D < 1099511627776) = true := decide_eq_true (by unfold INF at hi; omega)
            refine ⟨decide (c.2.2.1 ≥ D), ?_, ?_⟩
            · simp only [b1, sumE, sS]
            · simp only [e', b2, sumE, sS]
      · refine ⟨false, ?_, ?_⟩ <;> simp only [decide_eq_true p1, decide_eq_false p2, sumE, sS]
    · refine ⟨false, ?_, ?_⟩ <;> simp only [decide_eq_false p1, sumE, sS]

/-- Cycle, and what Contradicts says to it. -/
theorem cycle_all (n : Int) (l : List DT) : (!(validC n l && !closeB n l)) = true ∧ m14 ((n, (l, ())), ()) = some ((false, ()), ([], ())) ∨ (validC n l && !closeB n l) = true ∧ ∃ cyc : List Int, m14 ((n, (l, ())), ()) = some ((true, ()), (cyc, ())) ∧ m15 ((n, (l, (cyc, ()))), ()) = some ((true, ()), ()) := by
  cases hv : validC n l
  · left
    have hc : closeB n l = false := (by unfold closeB; rw [hv]; rfl)
    refine ⟨rfl, ?_⟩
    unfold m14 cloB
    simp only [hc, m24_eq, hv, sumE, sS]
  · cases hc : closeB n l
    · right
      obtain ⟨N, rfl, _, _⟩ := valid_nat hv
      obtain ⟨frm, x, p, f1, p1, p2, p3, p4, p5, p6, p7⟩ := cycle14 hv hc
      exact ⟨rfl, _, f1, contra15 hv p1 p2 p3 p4 p5 p6 p7⟩
    · left
      refine ⟨rfl, ?_⟩
      unfold m14 cloB
      simp only [hc, sumE, sS]

end Go.Proofs.Ytcklpclgiaeopaa

namespace Go.Proofs.Ytcklpclgiaeopaa
open Go Go.Abs Go.FW Go.Plain
def actL (l : List DT) (fl : List Bool) : List DT := ((l.zip fl).filter (fun p => p.2)).map (fun p => p.1)

theorem actL_len (l : List DT) (fl : List Bool) : (actL l fl).length ≤ l.length := by
  unfold actL
  rw [List.length_map]
  refine Nat.le_trans (List.length_filter_le _ _) ?_
  rw [List.length_zip]
  omega

theorem actL_act (l : List DT) (fl : List Bool) : Act l fl (actL l fl) := fun d => by
  unfold actL
  constructor
  · intro h
    obtain ⟨p, hp, rfl⟩ := List.mem_map.1 h
    obtain ⟨h1, h2⟩ := List.mem_filter.1 hp
    obtain ⟨j, hj⟩ := List.getElem?_of_mem h1
    obtain ⟨a, b⟩ := List.getElem?_zip_eq_some.1 hj
    exact ⟨j, a, by rw [b, h2]⟩
  · intro ⟨j, a, b⟩
    refine List.mem_map.2 ⟨(d, true), List.mem_filter.2 ⟨List.mem_of_getElem? (List.getElem?_zip_eq_some.2 ⟨a, b⟩), rfl⟩, rfl⟩

theorem act_same {n : Nat} {l : List DT} (hc : closeB n l = true) {fl : List Bool} {R R' : List DT} (h : Act l fl R) (h' : Act l fl R') (hl : R.length ≤ 4000) (hl' : R'.length ≤ 4000) {i j : Nat} (hi : i < n) (hj : j < n) : rounds (W0 R) n i j = rounds (W0 R') n i j := by
  have c := closeSub hc hl (act_in h)
  have c' := closeSub hc hl' (act_in h')
  have h1 := dom_le c c' (dom_mem c (fun d hd => (h d).2 ((h' d).1 hd))) hi hj
  have h2 := dom_le c' c (dom_mem c' (fun d hd => (h' d).2 ((h d).1 hd))) hi hj
  omega

/-- Whether a bound follows from those that are still wanted. -/
def impS (n : Nat) (l : List DT) (fl : List Bool) (i : Nat) : Bool := match l[i]? with
  | some c => decide (rounds (W0 (actL l fl)) n c.1.toNat c.2.1.toNat ≤ c.2.2.1)
  | none => false

def flS (n : Nat) (l : List DT) : Nat → List Bool
  | 0 => List.replicate l.length true
  | i + 1 => (flS n l i).set i (!impS n l ((flS n l i).set i false) i)

def keepS (n : Nat) (l : List DT) : Nat → List Int
  | 0 => []
  | i + 1 => bif impS n l ((flS n l i).set i false) i then keepS n l i else keepS n l i ++ [(i : Int)]

theorem flS_succ (n : Nat) (l : List DT) (i : Nat) : flS n l (i + 1) = (flS n l i).set i (!impS n l ((flS n l i).set i false) i) := rfl

theorem keepS_succ (n : Nat) (l : List DT) (i : Nat) : keepS n l (i + 1) = bif impS n l ((flS n l i).set i false) i then keepS n l i else keepS n l i ++ [(i : Int)] := rfl

theorem flS_len (n : Nat) (l : List DT) : ∀ i, (flS n l i).length = l.length
  | 0 => List.length_replicate ..
  | i + 1 => by unfold flS; rw [List.length_set, flS_len n l i]

theorem keepS_len (n : Nat) (l : List DT) : ∀ i, (keepS n l i).length ≤ i
  | 0 => Nat.le_refl _
  | i + 1 => by
    have := keepS_len n l i
    unfold keepS
    cases impS n l ((flS n l i).set i false) i
    · simp; omega
    · simp; omega

theorem flS_fix (n : Nat) (l : List DT) {j : Nat} (hj : j < l.length) : ∀ k, (flS n l (j + 1 + k))[j]? = some (!impS n l ((flS n l j).set j false) j)
  | 0 => by
    show ((flS n l j).set j (!impS n l ((flS n l j).set j false) j))[j]? = _
    rw [List.getElem?_set_self (by rw [flS_len]; exact hj)]
  | k + 1 => by
    show ((flS n l (j + 1 + k)).set (j + 1 + k) _)[j]? = _
    rw [List.getElem?_set_ne (by omega)]
    exact flS_fix n l hj k

theorem imp_eq {n : Nat} {l : List DT} (hc : closeB n l = true) (hl : l.length ≤ 3000) {fl : List Bool} {R : List DT} (hR : Act l fl R) (hRl : R.length ≤ l.length) {i : Nat} {c : DT} (hci : l[i]? = some c) :
    m19 (((n : Int), (R, (c, ()))), ()) = some ((impS n l fl i, ()), ()) := by
  have hok := (valid_iff.1 (closeB_iff.1 hc).1).2.2 c (List.mem_of_getElem? hci)
  have p := ok_places hok
  have ha := actL_len l fl
  rw [imp19 (closeSub hc (by omega) (act_in hR)) hok, act_same hc hR (actL_act l fl) (by omega) (by omega) p.1 p.2.1]
  unfold impS
  rw [hci]

theorem need18 {n : Nat} {l : List DT} (hc : closeB n l = true) (hl : l.length ≤ 3000) : m18 (((n : Int), (l, ())), ()) = some ((), (keepS n l l.length, ())) := by
  have a : loopT l18_0_6 ((0, ((n : Int), ((l.length : Int), ()))), ((), ((l, ()), (List.replicate l.length false, ())))) = some ((((n : Int), ()), ((), ((l, ()), (List.replicate l.length true, ()))))) := by
    refine drop_e (loop_ind (f := l18_0_6) (Q := fun b => b = (((n : Int), ()), ((), ((l, ()), (List.replicate l.length true, ())))))
      (fun i a => ∃ m : List Bool, a = (((i : Int), ((n : Int), ((l.length : Int), ()))), ((), ((l, ()), (m, ())))) ∧ m.length = l.length ∧ ∀ j, j < i → m[j]? = some true) l.length
      (fun i a hi ha => ?_) (fun a ha => ?_) _ ⟨List.replicate l.length false, rfl, List.length_replicate .., fun j hj => (by omega)⟩)
    · obtain ⟨m, rfl, h1, h2⟩ := ha
      refine ⟨_, ?_, m.set i true, rfl, by rw [List.length_set, h1], fun j hj => ?_⟩
      · have g1 : decide ((0 : Int) ≤ (i : Int) ∧ (i : Int) < (m.length : Int)) = true := decide_eq_true (by omega)
        have g2 : decide ((i : Int).toNat < m.length) = true := decide_eq_true (by omega)
        simp only [l18_0_6, lt_t hi, g1, g2, sumE, sS, w64_nat (show i < 9223372036854775807 by omega)]
        rfl
      · by_cases e : j = i
        · subst e; rw [List.getElem?_set_self (by omega)]
        · rw [List.getElem?_set_ne (by omega)]; exact h2 j (by omega)
    · obtain ⟨m, rfl, h1, h2⟩ := ha
      have : m = List.replicate l.length true := by
        refine List.ext_getElem? (fun j => ?_)
        by_cases hj : j < l.length
        · rw [h2 j hj, List.getElem?_replicate, if_pos hj]
        · rw [List.getElem?_eq_none (by omega), List.getElem?_eq_none (by rw [List.length_replicate]; omega)]
      subst this
      refine ⟨_, ?_, rfl⟩
      simp only [l18_0_6, lt_f, sumE, sS]
  have h1 := drop_e (loop_ind (f := l18_0_13) (Q := fun b => b = ((), (keepS n l l.length, ())))
    (fun i a => a = (((i : Int), ((n : Int), (l, ((l.length : Int), ())))), (keepS n l i, ((), ((l, ()), (flS n l i, ())))))) l.length
    (fun i a hi ha => by
      subst ha
      refine ⟨_, ?_, rfl⟩
      have hlen := flS_len n l i
      have hkl := keepS_len n l i
      obtain ⟨c, hci⟩ := getD_some hi
      obtain ⟨R, f1, hRl, hR⟩ := rest18 l ((flS n l i).set i false) (by omega) (by rw [List.length_set, hlen])
      have f2 := imp_eq hc hl hR hRl hci
      have g1 : decide ((0 : Int) ≤ (i : Int) ∧ (i : Int) < ((flS n l i).length : Int)) = true := decide_eq_true (by omega)
      have g2 : decide ((i : Int).toNat < (flS n l i).length) = true := decide_eq_true (by omega)
      have g4 : decide ((0 : Int) ≤ (i : Int) ∧ (i : Int) < (((flS n l i).set i false).length : Int)) = true := decide_eq_true (by rw [List.length_set]; omega)
      have g5 : decide (i < ((flS n l i).set i false).length) = true := decide_eq_true (by rw [List.length_set]; omega)
      have g6 : decide ((keepS n l i).length + [(i : Int)].length ≤ 4294967296) = true := decide_eq_true (by simp; omega)
      have ht : (i : Int).toNat = i := Int.toNat_natCast i
      simp only [l18_0_13, lt_t hi, rowAt_G, rowG_nat hci, g1, g2, sumE, sS]
      rw [ht, f1]
      simp only [sumE, sS, f2]
      rw [keepS_succ, flS_succ]
      cases impS n l ((flS n l i).set i false) i
      · simp only [g4, g5, g6, sumE, sS, w64_nat (show i < 9223372036854775807 by omega)]
        rw [List.set_set]
      · simp only [sumE, sS, w64_nat (show i < 9223372036854775807 by omega)])
    (fun a ha => by
      subst ha
      refine ⟨_, ?_, rfl⟩
      simp only [l18_0_13, lt_f, sumE, sS]) ((0, ((n : Int), (l, ((l.length : Int), ())))), ([], ((), ((l, ()), (List.replicate l.length true, ()))))) rfl)
  unfold m18 cloB
  have g1 : decide ((0 : Int) ≤ (l.length : Int) ∧ ((l.length : Int) : Int) ≤ (l.length : Int) ∧ ((l.length : Int) : Int) ≤ 4294967296) = true := decide_eq_true (by omega)
  simp only [hc, g1, Int.toNat_natCast, List.length_replicate, sumE, sS, a, h1]

theorem rest27 (n : Int) (l : List DT) (i : Nat) (fl lf : List Bool) (hl : l.length ≤ 4000) (hf : fl.length = l.length) (hlf : ∀ (j : Nat) b, fl[j]? = some b → lf[j]? = some (!b)) (hlen : lf.length = l.length) :
    ∃ R : List DT, loopT l27_0_10 ((0, (l, ((i : Int), (n, ())))), ([], (lf, ()))) = some ((l, (n, ((i : Int), ()))), (lf, (R, ()))) ∧ R.length ≤ l.length ∧ Act l (fl.set i false) R := by
  obtain ⟨b, h1, R, rfl, h2, h3⟩ := loop_ind (f := l27_0_10) (Q := fun b => ∃ R : List DT, b = ((l, (n, ((i : Int), ()))), (lf, (R, ()))) ∧ R.length ≤ l.length ∧ Act l (fl.set i false) R)
    (fun k a => ∃ R : List DT, a = (((k : Int), (l, ((i : Int), (n, ())))), (R, (lf, ()))) ∧ R.length ≤ k ∧ ∀ d, d ∈ R ↔ ∃ j : Nat, j < k ∧ l[j]? = some d ∧ (fl.set i false)[j]? = some true) l.length
    (fun k a hk ha => by
      obtain ⟨R, rfl, h1, h2⟩ := ha
      obtain ⟨c, hc⟩ := getD_some hk
      obtain ⟨q, hq⟩ := getD_some (l := fl) (i := k) (by omega)
      have hq' := hlf k q hq
      have hg : decide (R.length + ([c] : List DT).length ≤ 4294967296) = true := decide_eq_true (by simp; omega)
      have hskip : ¬ (fl.set i false)[k]? = some true → ∀ d, d ∈ R ↔ ∃ j : Nat, j < k + 1 ∧ l[j]? = some d ∧ (fl.set i false)[j]? = some true := fun hn d => (h2 d).trans ⟨fun ⟨j, a, b⟩ => ⟨j, by omega, b⟩, fun ⟨j, a, b, e⟩ => by
        by_cases g : j = k
        · subst g; exact absurd e hn
        · exact ⟨j, by omega, b, e⟩⟩
      have hadd : (fl.set i false)[k]? = some true → ∀ d, d ∈ R ++ [c] ↔ ∃ j : Nat, j < k + 1 ∧ l[j]? = some d ∧ (fl.set i false)[j]? = some true := fun hn d => ⟨fun hd => by
        rcases List.mem_append.1 hd with hd | hd
        · obtain ⟨j, a, b⟩ := (h2 d).1 hd
          exact ⟨j, by omega, b⟩
        · rw [List.mem_singleton] at hd; subst hd
          exact ⟨k, by omega, hc, hn⟩, fun ⟨j, a, b, e⟩ => by
        by_cases g : j = k
        · subst g; rw [hc] at b; cases b
          exact List.mem_append_right _ (List.mem_singleton.2 rfl)
        · exact List.mem_append_left _ ((h2 d).2 ⟨j, by omega, b, e⟩)⟩
      by_cases e : k = i
      · subst e
        have hne : ((k : Int) != (k : Int)) = false := by simp
        refine ⟨_, ?_, R, rfl, by omega, hskip (by rw [List.getElem?_set_self (by omega)]; simp)⟩
        simp only [l27_0_10, lt_t hk, hne, sumE, sS, w64_nat (show k < 9223372036854775807 by omega)]
      · have hne : ((k : Int) != (i : Int)) = true := bne_iff_ne.2 (by omega)
        have hs : (fl.set i false)[k]? = some q := by rw [List.getElem?_set_ne (by omega)]; exact hq
        cases q
        · refine ⟨_, ?_, R, rfl, by omega, hskip (by rw [hs]; simp)⟩
          simp only [l27_0_10, lt_t hk, hne, blk_G, rowG_nat hq', Bool.not_false, Bool.not_true, sumE, sS, w64_nat (show k < 9223372036854775807 by omega)]
        · refine ⟨_, ?_, R ++ [c], rfl, by simp; omega, hadd hs⟩
          simp only [l27_0_10, lt_t hk, hne, rowAt_G, blk_G, rowG_nat hq', rowG_nat hc, hg, Bool.not_false, Bool.not_true, sumE, sS, w64_nat (show k < 9223372036854775807 by omega)])
    (fun a ha => by
      obtain ⟨R, rfl, h1, h2⟩ := ha
      refine ⟨_, ?_, R, rfl, h1, fun d => (h2 d).trans ⟨fun ⟨j, a, b⟩ => ⟨j, b⟩, fun ⟨j, b, e⟩ => ⟨j, (List.getElem?_eq_some_iff.1 b).1, b, e⟩⟩⟩
      simp only [l27_0_10, lt_f, sumE, sS]) ((0, (l, ((i : Int), (n, ())))), ([], (lf, ()))) ⟨[], rfl, Nat.le_refl _, fun d => ⟨fun h => (by cases h), fun ⟨j, a, _⟩ => absurd a (by omega)⟩⟩
  exact ⟨R, h1, h2, h3⟩

theorem need27 {n : Nat} {l : List DT} (hc : closeB n l = true) (hl : l.length ≤ 3000) : m27 (((n : Int), (l, ())), ()) = some ((), (keepS n l l.length, ())) := by
  obtain ⟨b, f1, lf, rfl, L1, L2⟩ := loop_ind (f := l27_0_6) (Q := fun b => ∃ lf : List Bool, b = ((l, ()), (lf, ())) ∧ lf.length = l.length ∧ ∀ (j : Nat) b, (flS n l l.length)[j]? = some b → lf[j]? = some (!b))
    (fun i a => ∃ lf : List Bool, a = ((l, ((i : Int), ((n : Int), ()))), (lf, ())) ∧ lf.length = l.length ∧ ∀ (j : Nat) b, (flS n l i)[j]? = some b → lf[j]? = some (!b)) l.length
    (fun i a hi ha => by
      obtain ⟨lf, rfl, L1, L2⟩ := ha
      obtain ⟨c, hci⟩ := getD_some hi
      obtain ⟨R, f1, hRl, hR⟩ := rest27 (n : Int) l i (flS n l i) lf (by omega) (flS_len n l i) L2 L1
      have f2 := imp_eq hc hl hR hRl hci
      obtain ⟨b, e1, e2⟩ := implied_both (n : Int) R c
      rw [e1] at f2
      have hb : b = impS n l ((flS n l i).set i false) i := by cases f2; rfl
      rw [hb] at e2
      have g1 : decide ((0 : Int) ≤ (i : Int) ∧ (i : Int) < (lf.length : Int)) = true := decide_eq_true (by omega)
      have g2 : decide ((i : Int).toNat < lf.length) = true := decide_eq_true (by omega)
      have ht : (i : Int).toNat = i := Int.toNat_natCast i
      refine ⟨_, ?_, lf.set i (impS n l ((flS n l i).set i false) i), rfl, by rw [List.length_set, L1], fun j b hj => ?_⟩
      · simp only [l27_0_6, lt_t hi, f1, rowAt_G, rowG_nat hci, e2, g1, g2, sumE, sS, w64_nat (show i < 9223372036854775807 by omega)]
        rw [ht]
      · rw [flS_succ] at hj
        by_cases e : j = i
        · subst e
          rw [List.getElem?_set_self (by rw [flS_len]; exact hi)] at hj
          cases hj
          rw [List.getElem?_set_self (by omega), Bool.not_not]
        · rw [List.getElem?_set_ne (by omega)] at hj ⊢
          exact L2 j b hj)
    (fun a ha => by
      obtain ⟨lf, rfl, L1, L2⟩ := ha
      refine ⟨_, ?_, lf, rfl, L1, L2⟩
      simp only [l27_0_6, lt_f, sumE, sS]) ((l, (0, ((n : Int), ()))), (List.replicate l.length false, ())) ⟨List.replicate l.length false, rfl, List.length_replicate .., fun j b hj => by
        unfold flS at hj
        rw [List.getElem?_replicate] at hj ⊢
        split at hj
        · rename_i h; cases hj; rw [if_pos h]; rfl
        · cases hj⟩
  have f2 := drop_e (loop_ind (f := l27_0_17) (Q := fun b => b = ((), (keepS n l l.length, ())))
    (fun i a => a = (((i : Int), (l, ())), (keepS n l i, (lf, ())))) l.length
    (fun i a hi ha => by
      subst ha
      refine ⟨_, ?_, rfl⟩
      have hkl := keepS_len n l i
      have hfx := flS_fix n l hi (l.length - (i + 1))
      rw [show i + 1 + (l.length - (i + 1)) = l.length by omega] at hfx
      have hlf := L2 i _ hfx
      rw [Bool.not_not] at hlf
      have g6 : decide ((keepS n l i).length + [(i : Int)].length ≤ 4294967296) = true := decide_eq_true (by simp; omega)
      simp only [l27_0_17, lt_t hi, blk_G, rowG_nat hlf, g6, sumE, sS]
      rw [keepS_succ]
      cases impS n l ((flS n l i).set i false) i <;> simp only [Bool.not_true, Bool.not_false, sumE, sS, w64_nat (show i < 9223372036854775807 by omega)])
    (fun a ha => by
      subst ha
      refine ⟨_, ?_, rfl⟩
      simp only [l27_0_17, lt_f, sumE, sS]) ((0, (l, ())), ([], (lf, ()))) rfl)
  unfold m27 cloB
  have g1 : decide ((0 : Int) ≤ (l.length : Int) ∧ ((l.length : Int) : Int) ≤ (l.length : Int) ∧ ((l.length : Int) : Int) ≤ 4294967296) = true := decide_eq_true (by omega)
  simp only [hc, g1, Int.toNat_natCast, sumE, sS, f1, f2]

theorem need_both (n : Int) (l : List DT) (hl : l.length ≤ 100) : ∃ K : List Int, m18 ((n, (l, ())), ()) = some ((), (K, ())) ∧ m27 ((n, (l, ())), ()) = some ((), (K, ())) ∧ K.length ≤ 100 := by
  cases hc : closeB n l
  · refine ⟨[], ?_, ?_, by simp⟩
    · unfold m18 cloB; rw [hc]; rfl
    · unfold m27 cloB; rw [hc]; rfl
  · obtain ⟨N, rfl, _, _⟩ := valid_nat (close_valid hc)
    exact ⟨_, need18 hc (by omega), need27 hc (by omega), Nat.le_trans (keepS_len N l l.length) hl⟩

end Go.Proofs.Ytcklpclgiaeopaa

namespace Go.Proofs.Ytcklpclgiaeopaa
open Go Go.Abs Go.FW Go.Plain
theorem one21 (l : List Int) (h0 : 0 < l.length) (hl : l.length ≤ 100) (d : Dice) (hd : DOK d) : ∃ (e : Int) (d' : Dice), m21 ((l, ()), ((d, ()), ())) = some ((e, ()), ((d', ()), ())) ∧ DOK d' := by
  obtain ⟨r, d', e1, hd', hr, _⟩ := next_spec l.length d hd (by omega)
  have hr := hr (by omega)
  obtain ⟨e, he⟩ := getD_some (l := l) (i := r.toNat) (by omega)
  refine ⟨e, d', ?_, hd'⟩
  unfold m21
  simp only [e1, rowAt_G, rowG_int hr.1 he, sumE, sS]

theorem z729 (q : List DT) (m : Int) (x : List Int) (a1 a2 a3 a4 a5 a6 : Int) (zs : List (List Int)) (hz : ∀ z ∈ zs, z.length ≤ 100) (hl : zs.length ≤ 100) (r : DT) (d : Dice) (ms : List Int) (ls : List (List DT)) (e : DT) :
    loopT l7_0_29 ((0, (q, (m, (x, (a1, (a2, (a3, (a4, (a5, (a6, ((zs.length : Int), ()))))))))))), (zs, ((r, ()), ((d, ()), (ms, (ls, ((e, ()), ()))))))) = some (.inr ((q, (x, (a1, (a2, (a3, (a4, (a5, (a6, (m, ()))))))))), ((r, ()), ((d, ()), (ms, (ls, ((e, ()), ()))))))) := by
  refine loop_thru (f := l7_0_29) zs (fun i => (((i : Int), (q, (m, (x, (a1, (a2, (a3, (a4, (a5, (a6, ((zs.length : Int), ()))))))))))), (zs, ((r, ()), ((d, ()), (ms, (ls, ((e, ()), ())))))))) _ (fun i z hzi hi => ?_) ?_
  · have hzl := hz z (List.mem_of_getElem? hzi)
    simp only [l7_0_29, lt_t hi, blk_G, rowG_nat hzi, m16_eq m q z hzl, m28_eq m q z hzl, sumE, sS, w64_nat (show i < 9223372036854775807 by omega)]
  · simp only [l7_0_29, lt_f, sumE, sS]

theorem m714 (q : List DT) (hq : q.length ≤ 100) (x : List Int) (hx : x.length ≤ 60) (k n L i : Int) (hk : 1 ≤ k ∧ k ≤ 41) (r : DT) (d : Dice) (hd : DOK d) (ms : List Int) (hms : ms.length = 3) (ls : List (List DT)) :
    ∃ b, loopT l7_0_14 ((q, (0, (x, (k, (n, (L, (i, (3, ())))))))), ((r, ()), ((d, ()), (ms, (ls, ()))))) = some b ∧ ∃ d' : Dice, b = .inr ((x, (k, (n, (L, (i, ()))))), ((r, ()), ((d', ()), (ls, ())))) ∧ DOK d' := by
  refine loop_ind (f := l7_0_14) (fun j a => ∃ d : Dice, a = ((q, ((j : Int), (x, (k, (n, (L, (i, (3, ())))))))), ((r, ()), ((d, ()), (ms, (ls, ()))))) ∧ DOK d) 3 (fun j a hj ha => ?_) (fun a ha => ?_) _ ⟨d, rfl, hd⟩
  · obtain ⟨d, rfl, hd⟩ := ha
    obtain ⟨m, hm⟩ := getD_some (l := ms) (i := j) (by omega)
    obtain ⟨c, hc⟩ : ∃ c : Int, c = if m > 50 then 50 else m := ⟨_, rfl⟩
    obtain ⟨b, u, e1, hu⟩ := early17 c q
    obtain ⟨K, e2, e3, hK⟩ := need_both c q hq
    obtain ⟨d1, dd1, e4, hd1, _, _⟩ := next_spec (k + 2) d hd (by omega)
    obtain ⟨d2, dd2, e5, hd2, _, _⟩ := next_spec k dd1 hd1 (by omega)
    obtain ⟨d3, dd3, e6, hd3, _, _⟩ := next_spec 30 dd2 hd2 (by omega)
    have hw : w64 (k + 2) = k + 2 := w64_id (by omega) (by omega)
    obtain ⟨b1, e7, e8⟩ := implied_both c q r
    obtain ⟨b2, e9, e10⟩ := implied_both c q (w64 (d1 - 1), d2, w64 (d3 - 10), ())
    have hz : ∀ z ∈ [x, u, u ++ [0]], z.length ≤ 100 := fun z hz => by
      simp only [List.mem_cons, List.not_mem_nil, or_false] at hz
      rcases hz with rfl | rfl | rfl
      · omega
      · omega
      · simp; omega
    have hg1 : decide (0 + u.length ≤ 4294967296) = true := decide_eq_true (by omega)
    have hg2 : decide (u.length + [(0 : Int)].length ≤ 4294967296) = true := decide_eq_true (by simp; omega)
    have hlen3 : ((([x, u, (u ++ [0])] : List (List Int)).length : Nat) : Int) = 3 := rfl
    have hlt : decide ((j : Int) < 3) = true := decide_eq_true (by omega)
    have z := z729 q c x k n L i 3 j [x, u, u ++ [0]] hz (by simp) r dd3 ms ls (w64 (d1 - 1), d2, w64 (d3 - 10), ())
    rw [hlen3] at z
    refine ⟨_, ?_, dd3, rfl, hd3⟩
    simp only [l7_0_14, hlt, blk_G, rowG_nat hm, m23_m17, sumE, sS]
    have hcap : (bif decide (m > 50) then some ((q, (50, (x, (k, (n, (L, (i, ((3 : Int), ((j : Int), ()))))))))), ((r, ()), ((d, ()), (ms, (ls, ()))))) else some ((q, (m, (x, (k, (n, (L, (i, ((3 : Int), ((j : Int), ()))))))))), ((r, ()), ((d, ()), (ms, (ls, ())))))) = some ((q, (c, (x, (k, (n, (L, (i, ((3 : Int), ((j : Int), ()))))))))), ((r, ()), ((d, ()), (ms, (ls, ()))))) := by
      rw [hc]
      by_cases h : m > 50
      · rw [decide_eq_true h, if_pos h]; rfl
      · rw [decide_eq_false h, if_neg h]; rfl
    rw [hcap]
    have hw3 : w64 ((j : Int) + 1) = ((j + 1 : Nat) : Int) := w64_nat (by omega)
    rcases cycle_all c q with ⟨y1, y2⟩ | ⟨y1, cyc, y2, y3⟩
    · have y1' : (validC c q && !closeB c q) = false := by
        cases h : (validC c q && !closeB c q)
        · rfl
        · rw [h] at y1; cases y1
      have hl0 : decide (((([] : List Int).length : Nat) : Int) > 0) = false := rfl
      cases hv : validC c q <;> cases hcb : closeB c q <;> rw [hv, hcb] at y1' <;> first
        | exact absurd y1' (by decide)
        | (simp only [e1, m24_eq, m25_eq, hv, cloB, hcb, sameclo, same26 u (by omega), e2, e3, same26 K hK, y2, hl0, hw, e4, e5, e6, hg1, hg2, hlen3, z, e7, e8, e9, e10, hw3, sumE, sS]; exact bt (by simp; omega))
    · cases hv : validC c q <;> cases hcb : closeB c q <;> rw [hv, hcb] at y1 <;> first
        | exact absurd y1 (by decide)
        | (simp only [e1, m24_eq, m25_eq, hv, cloB, hcb, sameclo, same26 u (by omega), e2, e3, same26 K hK, y2, y3, hw, e4, e5, e6, hg1, hg2, hlen3, z, e7, e8, e9, e10, hw3, sumE, sS]; exact bt (by simp; omega))
  · obtain ⟨d, rfl, hd⟩ := ha
    have hlt : decide ((((3 : Nat) : Int)) < 3) = false := rfl
    refine ⟨_, ?_, d, rfl, hd⟩
    simp only [l7_0_14, hlt, sumE, sS]

theorem q711 (x : List Int) (hx : x.length ≤ 60) (k n : Int) (hk : 1 ≤ k ∧ k ≤ 41) (r : DT) (d : Dice) (hd : DOK d) (ls : List (List DT)) (hls : ls.length = 3) (hq : ∀ q ∈ ls, q.length ≤ 100) :
    loopT l7_0_11 ((x, (k, (0, (n, (3, ()))))), ((r, ()), ((d, ()), (ls, ())))) = some (.inr ((), ())) := by
  refine drop_e (loop_ind (f := l7_0_11) (Q := fun b => b = .inr ((), ())) (fun i a => ∃ d : Dice, a = ((x, (k, ((i : Int), (n, (3, ()))))), ((r, ()), ((d, ()), (ls, ())))) ∧ DOK d) 3 (fun i a hi ha => ?_) (fun a ha => ?_) _ ⟨d, rfl, hd⟩)
  · obtain ⟨d, rfl, hd⟩ := ha
    obtain ⟨q, hqi⟩ := getD_some (l := ls) (i := i) (by omega)
    obtain ⟨d1, dd1, e1, hd1, _, _⟩ := next_spec 9 d hd (by omega)
    obtain ⟨_, f, dd2, rfl, hd2⟩ := m714 q (hq q (List.mem_of_getElem? hqi)) x hx k n 3 i hk r dd1 hd1 [k, n, w64 (d1 - 1)] rfl ls
    have hlt : decide ((i : Int) < 3) = true := decide_eq_true (by omega)
    have hlen3 : ((([k, n, w64 (d1 - 1)]).length : Nat) : Int) = 3 := rfl
    refine ⟨_, ?_, dd2, rfl, hd2⟩
    simp only [l7_0_11, hlt, blk_G, rowG_nat hqi, e1, hlen3, f, sumE, sS, w64_nat (show i < 9223372036854775807 by omega)]
  · obtain ⟨d, rfl, hd⟩ := ha
    have hlt : decide ((((3 : Nat) : Int)) < 3) = false := rfl
    refine ⟨_, ?_, rfl⟩
    simp only [l7_0_11, hlt, sumE, sS]

theorem law7 : ∀ x, Abs.InRs [.row (.int .i64), .row (.cons (.int .i64) (.cons (.int .i64) (.cons (.int .i64) .unit))), .row (.int .i64), .int .i64, .cons (.int .i64) (.cons (.int .i64) (.cons (.int .i64) .unit))] x → m7 (x, ()) = some ((true, ()), ()) := by
  intro y _
  have ex : y = ((show List Int from y.1), ((show List DT from y.2.1), ((show List Int from y.2.2.1), ((show Int from y.2.2.2.1), ((show DT from y.2.2.2.2.1), ()))))) := rfl
  rw [ex]
  generalize (show List Int from y.1) = ds
  generalize (show List DT from y.2.1) = raw
  generalize (show List Int from y.2.2.1) = x
  generalize (show Int from y.2.2.2.1) = n
  generalize (show DT from y.2.2.2.2.1) = r
  clear ex
  unfold m7
  simp only [light8, sane9, roll10, sumE, sS]
  by_cases hds : ds.length ≤ 500
  · by_cases hraw : (raw.length : Int) > 40
    · simp only [decide_eq_true hds, decide_eq_true hraw, sumE, sS]
    · by_cases hx : (x.length : Int) > 60
      · simp only [decide_eq_true hds, decide_eq_false hraw, decide_eq_true hx, sumE, sS]
      · obtain ⟨k, d1, e1, hd1, hk, _⟩ := next_spec 7 (ds, 0, ()) (dok0 hds) (by omega)
        have hk := hk (by omega)
        obtain ⟨N, hN⟩ : ∃ N : Nat, (N : Int) = 1 + k := ⟨(1 + k).toNat, by omega⟩
        have hw : w64 (1 + k) = (N : Int) := by rw [w64_id (by omega) (by omega), hN]
        obtain ⟨l, d2, e2, hd2, H, hl⟩ := diffs12 (n := N) (by omega) (by omega) d1 hd1
        have hg : decide (0 + l.length ≤ 4294967296) = true := decide_eq_true (by omega)
        have hls : ∀ (large : List DT), large.length ≤ 100 → ∀ q ∈ [l, large, raw], q.length ≤ 100 := fun large hla q hq => by
          simp only [List.mem_cons, List.not_mem_nil, or_false] at hq
          rcases hq with rfl | rfl | rfl <;> omega
        have hlen3 : ∀ large : List DT, ((([l, large, raw] : List (List DT)).length : Nat) : Int) = 3 := fun _ => rfl
        simp only [decide_eq_true hds, decide_eq_false hraw, decide_eq_false hx, e1, hw, e2, hg, sumE, sS]
        by_cases h0 : ((l.length : Nat) : Int) > 0
        · obtain ⟨j, d3, e3, hd3, hj, _⟩ := next_spec l.length d2 hd2 (by omega)
          have hj := hj (by omega)
          obtain ⟨c, hc⟩ := getD_some (l := l) (i := j.toNat) (by omega)
          obtain ⟨u, d4, e4, hd4⟩ := one21 [c.1, -1, (N : Int)] (by simp) (by simp) d3 hd3
          obtain ⟨v, d5, e5, hd5⟩ := one21 [c.2.2.1, 17179869184, 17179869185, -17179869184, -17179869185] (by simp) (by simp) d4 hd4
          have hgj : decide ((0 : Int) ≤ j ∧ j < (l.length : Int)) = true := decide_eq_true (by omega)
          have hset : (l.set j.toNat (u, c.2))[j.toNat]? = some (u, c.2) := List.getElem?_set_self (by omega)
          have f := fun (large : List DT) (hla : large.length ≤ 100) => q711 x (by omega) (N : Int) n (by omega) r d5 hd5 [l, large, raw] rfl (hls large hla)
          simp only [decide_eq_true h0, e3, hgj, hc, e4, e5, hset, hlen3, sumE, sS]
          rw [f _ (by rw [List.length_set, List.length_set]; exact hl)]
          rfl
        · have f := q711 x (by omega) (N : Int) n (by omega) r d2 hd2 [l, l, raw] rfl (hls l hl)
          simp only [decide_eq_false h0, hlen3, sumE, sS]
          rw [f]
          rfl
  · simp only [decide_eq_false hds, sumE, sS]

end Go.Proofs.Ytcklpclgiaeopaa
