import Derived.Test.YtnmfcglhgaocoaaM
import Derived.Test.YtnmfcglhgaocoaaPxK
namespace Go.Proofs.Ytnmfcglhgaocoaa
open Go Go.Abs

abbrev Dice := List Int × Int × Unit
def DOK (d : Dice) : Prop := 0 ≤ d.2.1 ∧ d.2.1 ≤ d.1.length ∧ d.1.length ≤ 500

theorem next_spec (n : Int) (d : Dice) (hd : DOK d) (hn : n ≤ 9223372036854775807) :
    ∃ r d', m12 ((n, ()), ((d, ()), ())) = some ((r, ()), ((d', ()), ())) ∧ DOK d' ∧ (1 ≤ n → 0 ≤ r ∧ r < n) ∧ (n < 1 → r = 0) := by
  obtain ⟨l, at_, u⟩ := d
  obtain ⟨h1, h2, h3⟩ := hd
  simp only at h1 h2 h3
  unfold m12
  simp only
  by_cases c1 : at_ ≥ (l.length : Int)
  · refine ⟨0, (l, at_, ()), ?_, ⟨h1, h2, h3⟩, fun h => ⟨by omega, by omega⟩, fun _ => rfl⟩
    simp [c1]
  · by_cases c2 : n < 1
    · refine ⟨0, (l, at_, ()), ?_, ⟨h1, h2, h3⟩, fun h => ⟨by omega, by omega⟩, fun _ => rfl⟩
      simp [c1, c2]
    · have hat : w64 (at_ + 1) = at_ + 1 := w64_id (by omega) (by omega)
      have hne : n ≠ 0 := by omega
      obtain ⟨e, _, _, he⟩ := rowAt_mem (B := (Int × Unit) × ((((List Int) × Int × Unit) × Unit) × Unit)) (l := l) (n := at_) (fun e17 => bif (decide (n ≠ (0 : Int))) then
        ((let x18 := (decide (((e17.tmod n) : Int) < 0))
        bif x18 then (some (((w64 ((e17.tmod n) + n)), ()), (((l, ((w64 (at_ + 1)), ())), ()), ())))
        else (some ((e17.tmod n, ()), (((l, ((w64 (at_ + 1)), ())), ()), ())))) : Option ((Int × Unit) × ((((List Int) × Int × Unit) × Unit) × Unit))).bind fun v19 =>
        some ((v19.1.1, ()), ((v19.2.1.1, ()), ()))
        else none) h1 (by omega)
      have hb := Int.tmod_lt_of_pos e (show (0 : Int) < n by omega)
      have hb2 : -n < e.tmod n := by
        have := Int.lt_tmod_of_pos e (show (0 : Int) < n by omega)
        omega
      by_cases c3 : e.tmod n < 0
      · refine ⟨e.tmod n + n, (l, at_ + 1, ()), ?_, ⟨by simp only; omega, by simp only; omega, h3⟩, fun h => ⟨by omega, by omega⟩, fun h => by omega⟩
        simp only [c1, c2, decide_false, cond_false, Option.bind_some]
        refine he.trans ?_
        simp [hne, c3, hat, w64_id (x := e.tmod n + n) (by omega) (by omega)]
      · refine ⟨e.tmod n, (l, at_ + 1, ()), ?_, ⟨by simp only; omega, by simp only; omega, h3⟩, fun h => ⟨by omega, by omega⟩, fun h => by omega⟩
        simp only [c1, c2, decide_false, cond_false, Option.bind_some]
        refine he.trans ?_
        simp [hne, c3, hat]

theorem one_spec (l : List Int) (d : Dice) (hd : DOK d) (h0 : 0 < l.length) (h1 : l.length ≤ 4294967296) :
    ∃ r d', m13 ((l, ()), ((d, ()), ())) = some ((r, ()), ((d', ()), ())) ∧ DOK d' ∧ r ∈ l := by
  obtain ⟨n, d', e1, e2, e3, _⟩ := next_spec l.length d hd (by omega)
  obtain ⟨hn0, hn1⟩ := e3 (by omega)
  obtain ⟨r, hr, _, he⟩ := rowAt_mem (l := l) (n := n) (fun e5 : Int => some ((e5, ()), ((d', ()), ()))) hn0 (by omega)
  refine ⟨r, d', ?_, e2, hr⟩
  unfold m13
  simp only [e1, Option.bind_some]
  exact he

abbrev Fate := Bool × Int × Int × Int × Unit
abbrev Chan := Int × Int × Int × Int × Unit

theorem fate_spec (d : Dice) (hd : DOK d) : ∃ f d', m16 ((), ((d, ()), ())) = some ((), ((d', ()), ((f, ()), ()))) ∧ DOK d' ∧
    f.2.1 ∈ [0, 5, 30, 31, 200, 86400, 86401] ∧ f.2.2.1 ∈ [0, 0, 7, 100, -1] ∧ f.2.2.2.1 ∈ [-1, 0, 10, 90, -2] := by
  obtain ⟨n, d1, e1, h1, _⟩ := next_spec 3 d hd (by omega)
  obtain ⟨a, d2, e2, h2, a2⟩ := one_spec [0, 5, 30, 31, 200, 86400, 86401] d1 h1 (by simp) (by simp)
  obtain ⟨b, d3, e3, h3, a3⟩ := one_spec [0, 0, 7, 100, -1] d2 h2 (by simp) (by simp)
  obtain ⟨c, d4, e4, h4, a4⟩ := one_spec [-1, 0, 10, 90, -2] d3 h3 (by simp) (by simp)
  refine ⟨(n == 0, a, b, c, ()), d4, ?_, h4, a2, a3, a4⟩
  unfold m16
  simp only [e1, e2, e3, e4, Option.bind_some]

theorem channel_spec (d : Dice) (hd : DOK d) : ∃ c d', m11 ((), ((d, ()), ())) = some ((), ((d', ()), ((c, ()), ()))) ∧ DOK d' ∧
    (0 ≤ c.1 ∧ c.1 < 3) ∧ c.2.1 ∈ [0, 30, 60, 3600] ∧ (1 ≤ c.2.2.1 ∧ c.2.2.1 ≤ 4) ∧ c.2.2.2.1 ∈ [1, 30, 60, 120] := by
  obtain ⟨n, d1, e1, h1, b1, _⟩ := next_spec 3 d hd (by omega)
  obtain ⟨a, d2, e2, h2, a2⟩ := one_spec [0, 30, 60, 3600] d1 h1 (by simp) (by simp)
  obtain ⟨b, d3, e3, h3, b3, _⟩ := next_spec 4 d2 h2 (by omega)
  obtain ⟨c, d4, e4, h4, a4⟩ := one_spec [1, 30, 60, 120] d3 h3 (by simp) (by simp)
  have b1 := b1 (by omega)
  have b3 := b3 (by omega)
  refine ⟨(n, a, 1 + b, c, ()), d4, ?_, h4, ⟨b1.1, b1.2⟩, a2, ⟨by simp only; omega, by simp only; omega⟩, a4⟩
  unfold m11
  simp only [e1, e2, e3, e4, Option.bind_some]
  rw [w64_id (by omega) (by omega)]

/-! ### The pure functions -/

def inB (a b c : Int) : Bool := decide (b ≤ a) && decide (a ≤ c)

theorem m33_eq (a b c : Int) : m33 ((a, b, c, ()), ()) = some ((inB a b c, ()), ()) := by
  unfold m33 inB
  by_cases h : a ≥ b <;> simp [h]
theorem m37_eq (a b c : Int) : m37 ((a, b, c, ()), ()) = some ((inB a b c, ()), ()) := by
  unfold m37 inB
  by_cases h : a ≥ b <;> simp [h]

def validF (f : Fate) : Bool := inB f.2.1 0 86400 && (inB f.2.2.1 0 86400 && inB f.2.2.2.1 (-1) 86400)
def validC (c : Chan) : Bool := inB c.1 0 2 && (inB c.2.1 0 3600 && (inB c.2.2.1 1 6 && inB c.2.2.2.1 1 3600))

theorem m32_eq (f : Fate) : m32 ((f, ()), ()) = some ((validF f, ()), ()) := by
  unfold m32 validF
  simp only [m33_eq, Option.bind_some]
  cases inB f.2.1 0 86400 <;> cases inB f.2.2.1 0 86400 <;> simp
theorem m19_eq (f : Fate) : m19 ((f, ()), ()) = some ((validF f, ()), ()) := by
  unfold m19 validF
  simp only [m37_eq, Option.bind_some]
  cases inB f.2.1 0 86400 <;> cases inB f.2.2.1 0 86400 <;> simp
theorem m29_eq (c : Chan) : m29 ((c, ()), ()) = some ((validC c, ()), ()) := by
  unfold m29 validC
  simp only [m33_eq, Option.bind_some]
  cases inB c.1 0 2 <;> cases inB c.2.1 0 3600 <;> cases inB c.2.2.1 1 6 <;> simp
theorem m30_eq (c : Chan) : m30 ((c, ()), ()) = some ((validC c, ()), ()) := by
  unfold m30 validC
  simp only [m37_eq, Option.bind_some]
  cases inB c.1 0 2 <;> cases inB c.2.1 0 3600 <;> cases inB c.2.2.1 1 6 <;> simp

theorem inB_iff {a b c : Int} : inB a b c = true ↔ b ≤ a ∧ a ≤ c := by simp [inB]

theorem validF_iff {f : Fate} : validF f = true ↔ (0 ≤ f.2.1 ∧ f.2.1 ≤ 86400) ∧ (0 ≤ f.2.2.1 ∧ f.2.2.1 ≤ 86400) ∧ (-1 ≤ f.2.2.2.1 ∧ f.2.2.2.1 ≤ 86400) := by
  simp [validF, inB_iff]
theorem validC_iff {c : Chan} : validC c = true ↔ (0 ≤ c.1 ∧ c.1 ≤ 2) ∧ (0 ≤ c.2.1 ∧ c.2.1 ≤ 3600) ∧ (1 ≤ c.2.2.1 ∧ c.2.2.1 ≤ 6) ∧ (1 ≤ c.2.2.2.1 ∧ c.2.2.2.1 ≤ 3600) := by
  simp [validC, inB_iff]

/-- When an attempt arrives. -/
def arr (t : Int) (f : Fate) : List Int :=
  if inB t 0 8589956192 = true ∧ validF f = true ∧ f.1 = false then
    (if f.2.2.1 = 0 then [t + f.2.1] else [t + f.2.1, t + f.2.1 + f.2.2.1])
  else []

theorem m20_eq (t : Int) (f : Fate) : m20 ((t, f, ()), ()) = some ((), (arr t f, ())) := by
  unfold m20 arr
  simp only [m33_eq, m32_eq, Option.bind_some]
  cases h1 : inB t 0 8589956192 with
  | false => simp
  | true =>
    cases h2 : validF f with
    | false => simp
    | true =>
      cases h3 : f.1 with
      | true => simp [h3]
      | false =>
        have b1 := inB_iff.1 h1
        have b2 := validF_iff.1 h2
        by_cases h4 : f.2.2.1 = 0
        · simp [h3, h4, w64_id (x := t + f.2.1) (by omega) (by omega)]
        · have h5 : (f.2.2.1 != 0) = true := by simpa using h4
          simp [h3, h4, h5, w64_id (x := t + f.2.1) (by omega) (by omega), w64_id (x := t + f.2.1 + f.2.2.1) (by omega) (by omega)]

theorem m26_eq (t : Int) (f : Fate) : m26 ((t, f, ()), ()) = some ((), (arr t f, ())) := by
  unfold m26 arr
  simp only [m37_eq, m19_eq, Option.bind_some]
  cases h1 : inB t 0 8589956192 with
  | false => simp
  | true =>
    cases h2 : validF f with
    | false => simp
    | true =>
      cases h3 : f.1 with
      | true => simp [h3]
      | false =>
        have b1 := inB_iff.1 h1
        have b2 := validF_iff.1 h2
        by_cases h4 : f.2.2.1 = 0
        · simp [h3, h4, w64_id (x := t + f.2.1) (by omega) (by omega)]
        · have h5 : (f.2.2.1 != 0) = true := by simpa using h4
          simp [h3, h4, h5, w64_id (x := t + f.2.1) (by omega) (by omega), w64_id (x := t + f.2.1 + f.2.2.1) (by omega) (by omega)]

def rcp (t : Int) (f : Fate) : List Int := if f.2.2.2.1 = -1 then [] else (arr t f).map (· + f.2.2.2.1)

theorem arr_cases (t : Int) (f : Fate) : arr t f = [] ∨ (validF f = true ∧ f.1 = false ∧ (0 ≤ t ∧ t ≤ 8589956192) ∧ (arr t f = [t + f.2.1] ∨ (f.2.2.1 ≠ 0 ∧ arr t f = [t + f.2.1, t + f.2.1 + f.2.2.1]))) := by
  unfold arr
  split
  · rename_i h
    right
    refine ⟨h.2.1, h.2.2, inB_iff.1 h.1, ?_⟩
    split
    · exact .inl rfl
    · rename_i h4; exact .inr ⟨h4, rfl⟩
  · exact .inl rfl

theorem m27_eq (t : Int) (f : Fate) : m27 ((t, f, ()), ()) = some ((), (rcp t f, ())) := by
  unfold m27 rcp
  simp only [m20_eq, Option.bind_some]
  by_cases h : f.2.2.2.1 = -1
  · simp [h]
  · have hb : (f.2.2.2.1 == -1) = false := by simpa using h
    simp only [hb, cond_false, if_neg h]
    rcases arr_cases t f with e | ⟨hv, _, ht, e | ⟨_, e⟩⟩
    · rw [e]
      rw [loopT_inr (d := ((), ([], ()))) (by unfold l27_0_5; simp)]
      simp
    · have b2 := validF_iff.1 hv
      rw [e]
      rw [loopT_inl (a' := ((1, 1, ()), ((f, ()), ([t + f.2.1 + f.2.2.2.1], ())))) (by unfold l27_0_5; simp [w64_id (x := t + f.2.1 + f.2.2.2.1) (by omega) (by omega), w64_id (x := 1) (by omega) (by omega)])]
      rw [loopT_inr (d := ((), ([t + f.2.1 + f.2.2.2.1], ()))) (by unfold l27_0_5; simp)]
      simp
    · have b2 := validF_iff.1 hv
      rw [e]
      rw [loopT_inl (a' := ((1, 2, ()), ((f, ()), ([t + f.2.1 + f.2.2.2.1, t + f.2.1 + f.2.2.1], ())))) (by unfold l27_0_5; simp [w64_id (x := t + f.2.1 + f.2.2.2.1) (by omega) (by omega), w64_id (x := 1) (by omega) (by omega)])]
      rw [loopT_inl (a' := ((2, 2, ()), ((f, ()), ([t + f.2.1 + f.2.2.2.1, t + f.2.1 + f.2.2.1 + f.2.2.2.1], ())))) (by unfold l27_0_5; simp [w64_id (x := t + f.2.1 + f.2.2.1 + f.2.2.2.1) (by omega) (by omega), w64_id (x := 2) (by omega) (by omega)])]
      rw [loopT_inr (d := ((), ([t + f.2.1 + f.2.2.2.1, t + f.2.1 + f.2.2.1 + f.2.2.2.1], ()))) (by unfold l27_0_5; simp)]
      simp

/-! ### Fates, the first arrival -/

def lost : Fate := (true, 0, 0, 0, ())
def fates (l : List Fate) (k : Int) : Fate :=
  if 0 ≤ k ∧ k < l.length ∧ validF (l.getD k.toNat lost) = true then l.getD k.toNat lost else lost

theorem fates_valid {l : List Fate} {k : Int} (h : (fates l k).1 = false) : validF (fates l k) = true := by
  unfold fates at h ⊢
  split at h
  · rename_i h1; rw [if_pos h1]; exact h1.2.2
  · cases h

theorem getD_of {l : List Fate} {k : Int} {e : Fate} (h : l[k.toNat]? = some e) : l.getD k.toNat lost = e := by
  rw [List.getD_eq_getElem?_getD, h]; rfl

theorem m21_eq (l : List Fate) (k : Int) (hl : l.length ≤ 9223372036854775807) : m21 ((l, k, ()), ()) = some ((), ((fates l k, ()), ())) := by
  unfold m21
  have hw : w64 ((l.length : Int) - 1) = (l.length : Int) - 1 := w64_id (by omega) (by omega)
  simp only [m33_eq, hw, Option.bind_some]
  by_cases h : 0 ≤ k ∧ k < l.length
  · have hb : inB k 0 ((l.length : Int) - 1) = true := inB_iff.2 ⟨h.1, by omega⟩
    obtain ⟨e, _, he, _⟩ := rowAt_mem (B := Unit) (l := l) (n := k) (fun _ => none) h.1 h.2
    simp only [hb, cond_true]
    rw [rowAt_some' _ h.1 he]
    simp only [m32_eq, Option.bind_some]
    unfold fates
    rw [getD_of he]
    cases hv : validF e with
    | true => simp only [cond_true]; rw [rowAt_some' _ h.1 he, if_pos ⟨h.1, h.2, trivial⟩]
    | false => simp only [cond_false]; rw [if_neg (by simp)]; rfl
  · have hb : inB k 0 ((l.length : Int) - 1) = false := by
      cases hh : inB k 0 ((l.length : Int) - 1) with
      | false => rfl
      | true => exact absurd ⟨(inB_iff.1 hh).1, by have := (inB_iff.1 hh).2; omega⟩ h
    simp only [hb, cond_false, Option.bind_some]
    unfold fates
    rw [if_neg (fun hh => h ⟨hh.1, hh.2.1⟩)]
    rfl

theorem m24_eq (l : List Fate) (k : Int) : m24 ((l, k, ()), ()) = some ((), ((fates l k, ()), ())) := by
  unfold m24
  by_cases h0 : k < 0
  · unfold fates
    rw [if_neg (fun hh => by omega)]
    simp [h0, lost]
  · by_cases h1 : k ≥ (l.length : Int)
    · unfold fates
      rw [if_neg (fun hh => by omega)]
      simp [h0, h1, lost]
    · obtain ⟨e, _, he, _⟩ := rowAt_mem (B := Unit) (l := l) (n := k) (fun _ => none) (by omega) (by omega)
      simp only [h0, h1, decide_false, cond_false]
      rw [rowAt_some' _ (by omega) he]
      simp only [m19_eq, Option.bind_some]
      unfold fates
      rw [getD_of he]
      cases hv : validF e with
      | true => simp only [Bool.not_true, cond_false]; rw [rowAt_some' _ (by omega) he, if_pos ⟨by omega, by omega, trivial⟩]
      | false => simp only [Bool.not_false, cond_true]; rw [if_neg (by simp)]; rfl

/-- The first arrival among n attempts from the i-th on. -/
def reachL (t p : Int) (l : List Fate) : Nat → Int → Bool → Int → Bool × Int
  | 0, _, fo, fi => (fo, fi)
  | n + 1, i, fo, fi =>
    if (fates l i).1 = true then reachL t p l n (i + 1) fo fi
    else if fo = false ∨ t + i * p + (fates l i).2.1 < fi then reachL t p l n (i + 1) true (t + i * p + (fates l i).2.1)
    else reachL t p l n (i + 1) fo fi

theorem loop14 {c : Chan} (hc : validC c = true) {t : Int} (ht : 0 ≤ t ∧ t ≤ 8589934592) {l : List Fate} (hl : l.length ≤ 9223372036854775807) : ∀ (n : Nat) (i : Int) (fo : Bool) (fi : Int), 0 ≤ i → i + n = c.2.2.1 →
    loopT l14_1_2 ((i, l, c.2.2.1, ()), ((t, ()), ((c, ()), ((fo, ()), ((fi, ()), ()))))) = some ((), ((t, ()), ((c, ()), (((reachL t c.2.2.2.1 l n i fo fi).1, ()), (((reachL t c.2.2.2.1 l n i fo fi).2, ()), ()))))) := by
  obtain ⟨c1, c2, c3, c4⟩ := validC_iff.1 hc
  intro n
  induction n with
  | zero =>
    intro i fo fi h0 h1
    refine loopT_inr ?_
    have : ¬ i < c.2.2.1 := by omega
    simp [l14_1_2, this, reachL]
  | succ n ih =>
    intro i fo fi h0 h1
    have hlt : i < c.2.2.1 := by omega
    have hi : w64 (i + 1) = i + 1 := w64_id (by omega) (by omega)
    unfold reachL
    cases hlo : (fates l i).1 with
    | true =>
      simp only [if_true]
      rw [loopT_inl (a' := ((i + 1, l, c.2.2.1, ()), ((t, ()), ((c, ()), ((fo, ()), ((fi, ()), ())))))) (by
        unfold l14_1_2; simp [m21_eq l i hl, hlo, hlt, hi])]
      exact ih (i + 1) fo fi (by omega) (by omega)
    | false =>
      have hv := validF_iff.1 (fates_valid hlo)
      have hmul : 0 ≤ i * c.2.2.2.1 ∧ i * c.2.2.2.1 ≤ 21600 := by
        constructor
        · exact Int.mul_nonneg h0 (by omega)
        · calc i * c.2.2.2.1 ≤ 6 * c.2.2.2.1 := Int.mul_le_mul_of_nonneg_right (by omega) (by omega)
            _ ≤ 6 * 3600 := Int.mul_le_mul_of_nonneg_left c4.2 (by omega)
      have hw1 : w64 (i * c.2.2.2.1) = i * c.2.2.2.1 := w64_id (by omega) (by omega)
      have hw2 : w64 (t + i * c.2.2.2.1) = t + i * c.2.2.2.1 := w64_id (by omega) (by omega)
      have hw3 : w64 (t + i * c.2.2.2.1 + (fates l i).2.1) = t + i * c.2.2.2.1 + (fates l i).2.1 := w64_id (by omega) (by omega)
      simp only [Bool.false_eq_true, if_false]
      by_cases hcond : fo = false ∨ t + i * c.2.2.2.1 + (fates l i).2.1 < fi
      · rw [if_pos hcond]
        rw [loopT_inl (a' := ((i + 1, l, c.2.2.1, ()), ((t, ()), ((c, ()), ((true, ()), ((t + i * c.2.2.2.1 + (fates l i).2.1, ()), ())))))) (by
          unfold l14_1_2
          rcases hcond with h | h
          · simp [m21_eq l i hl, hlo, hlt, hi, hw1, hw2, hw3, h]
          · cases fo <;> simp [m21_eq l i hl, hlo, hlt, hi, hw1, hw2, hw3, h])]
        exact ih (i + 1) true _ (by omega) (by omega)
      · rw [if_neg hcond]
        have hf : fo = true := by cases fo with | true => rfl | false => exact absurd (.inl rfl) hcond
        have hn : ¬ (t + i * c.2.2.2.1 + (fates l i).2.1 < fi) := fun h => hcond (.inr h)
        rw [loopT_inl (a' := ((i + 1, l, c.2.2.1, ()), ((t, ()), ((c, ()), ((fo, ()), ((fi, ()), ())))))) (by
          unfold l14_1_2; simp [m21_eq l i hl, hlo, hlt, hi, hw1, hw2, hw3, hf, hn])]
        exact ih (i + 1) fo fi (by omega) (by omega)

theorem loop22 {c : Chan} (hc : validC c = true) {t : Int} (ht : 0 ≤ t ∧ t ≤ 8589934592) {l : List Fate} : ∀ (n : Nat) (i : Int) (fo : Bool) (fi : Int), 0 ≤ i → i + n = c.2.2.1 →
    loopT l22_0_5 ((i, fi, fo, t, l, ()), ((c, ()), ())) = some (((reachL t c.2.2.2.1 l n i fo fi).1, (reachL t c.2.2.2.1 l n i fo fi).2, ()), ()) := by
  obtain ⟨c1, c2, c3, c4⟩ := validC_iff.1 hc
  intro n
  induction n with
  | zero =>
    intro i fo fi h0 h1
    refine loopT_inr ?_
    have : ¬ i < c.2.2.1 := by omega
    simp [l22_0_5, this, reachL]
  | succ n ih =>
    intro i fo fi h0 h1
    have hlt : i < c.2.2.1 := by omega
    have hi : w64 (i + 1) = i + 1 := w64_id (by omega) (by omega)
    unfold reachL
    cases hlo : (fates l i).1 with
    | true =>
      simp only [if_true]
      rw [loopT_inl (a' := ((i + 1, fi, fo, t, l, ()), ((c, ()), ()))) (by
        unfold l22_0_5; simp [m24_eq l i, hlo, hlt, hi])]
      exact ih (i + 1) fo fi (by omega) (by omega)
    | false =>
      have hv := validF_iff.1 (fates_valid hlo)
      have hmul : 0 ≤ i * c.2.2.2.1 ∧ i * c.2.2.2.1 ≤ 21600 := by
        constructor
        · exact Int.mul_nonneg h0 (by omega)
        · calc i * c.2.2.2.1 ≤ 6 * c.2.2.2.1 := Int.mul_le_mul_of_nonneg_right (by omega) (by omega)
            _ ≤ 6 * 3600 := Int.mul_le_mul_of_nonneg_left c4.2 (by omega)
      have hw1 : w64 (i * c.2.2.2.1) = i * c.2.2.2.1 := w64_id (by omega) (by omega)
      have hw2 : w64 (t + i * c.2.2.2.1) = t + i * c.2.2.2.1 := w64_id (by omega) (by omega)
      have hw3 : w64 (t + i * c.2.2.2.1 + (fates l i).2.1) = t + i * c.2.2.2.1 + (fates l i).2.1 := w64_id (by omega) (by omega)
      simp only [Bool.false_eq_true, if_false]
      by_cases hcond : fo = false ∨ t + i * c.2.2.2.1 + (fates l i).2.1 < fi
      · rw [if_pos hcond]
        rw [loopT_inl (a' := ((i + 1, t + i * c.2.2.2.1 + (fates l i).2.1, true, t, l, ()), ((c, ()), ()))) (by
          unfold l22_0_5
          rcases hcond with h | h
          · simp [m24_eq l i, hlo, hlt, hi, hw1, hw2, hw3, h]
          · cases fo <;> simp [m24_eq l i, hlo, hlt, hi, hw1, hw2, hw3, h])]
        exact ih (i + 1) true _ (by omega) (by omega)
      · rw [if_neg hcond]
        have hf : fo = true := by cases fo with | true => rfl | false => exact absurd (.inl rfl) hcond
        have hn : ¬ (t + i * c.2.2.2.1 + (fates l i).2.1 < fi) := fun h => hcond (.inr h)
        rw [loopT_inl (a' := ((i + 1, fi, fo, t, l, ()), ((c, ()), ()))) (by
          unfold l22_0_5; simp [m24_eq l i, hlo, hlt, hi, hw1, hw2, hw3, hf, hn])]
        exact ih (i + 1) fo fi (by omega) (by omega)

def reach (c : Chan) (t : Int) (l : List Fate) : Int × Bool :=
  if validC c = true ∧ inB t 0 8589934592 = true then ((reachL t c.2.2.2.1 l c.2.2.1.toNat 0 false 0).2, (reachL t c.2.2.2.1 l c.2.2.1.toNat 0 false 0).1) else (0, false)

theorem m14_eq (c : Chan) (t : Int) (l : List Fate) (hl : l.length ≤ 9223372036854775807) : m14 ((c, t, l, ()), ()) = some (((reach c t l).1, (reach c t l).2, ()), ()) := by
  unfold m14 reach
  simp only [m29_eq, m33_eq, Option.bind_some]
  cases hc : validC c with
  | false => simp
  | true =>
    cases ht : inB t 0 8589934592 with
    | false => simp
    | true =>
      have := loop14 hc (inB_iff.1 ht) hl c.2.2.1.toNat 0 false 0 (by omega) (by have := validC_iff.1 hc; omega)
      simp [this]

theorem m22_eq (c : Chan) (t : Int) (l : List Fate) : m22 ((c, t, l, ()), ()) = some (((reach c t l).1, (reach c t l).2, ()), ()) := by
  unfold m22 reach
  simp only [m30_eq, m37_eq, Option.bind_some]
  cases hc : validC c with
  | false => simp
  | true =>
    cases ht : inB t 0 8589934592 with
    | false => simp
    | true =>
      have := loop22 hc (inB_iff.1 ht) (l := l) c.2.2.1.toNat 0 false 0 (by omega) (by have := validC_iff.1 hc; omega)
      simp [this]

/-! ### Whether a channel works -/

def worksL (lat : Int) (l : List Fate) : Nat → Int → Bool
  | 0, _ => false
  | n + 1, i => (!(fates l i).1 && decide ((fates l i).2.1 ≤ lat)) || worksL lat l n (i + 1)

theorem loop17 {c : Chan} (hc : validC c = true) {l : List Fate} (hl : l.length ≤ 9223372036854775807) : ∀ (n : Nat) (i : Int) (b : Bool), 0 ≤ i → i + n = c.2.2.1 →
    loopT l17_1_2 ((i, l, c.2.2.1, ()), ((b, ()), ((c, ()), ()))) = some ((), ((b || worksL c.2.1 l n i, ()), ((c, ()), ()))) := by
  obtain ⟨c1, c2, c3, c4⟩ := validC_iff.1 hc
  intro n
  induction n with
  | zero =>
    intro i b h0 h1
    refine loopT_inr ?_
    have : ¬ i < c.2.2.1 := by omega
    simp [l17_1_2, this, worksL]
  | succ n ih =>
    intro i b h0 h1
    have hlt : i < c.2.2.1 := by omega
    have hi : w64 (i + 1) = i + 1 := w64_id (by omega) (by omega)
    rw [loopT_inl (a' := ((i + 1, l, c.2.2.1, ()), ((b || (!(fates l i).1 && decide ((fates l i).2.1 ≤ c.2.1)), ()), ((c, ()), ())))) (by
      unfold l17_1_2
      cases hlo : (fates l i).1 <;> cases b <;> simp [m21_eq l i hl, hlo, hlt, hi])]
    rw [ih (i + 1) _ (by omega) (by omega)]
    simp only [worksL, Bool.or_assoc]

theorem loop23 {c : Chan} (hc : validC c = true) {l : List Fate} : ∀ (n : Nat) (i : Int), 0 ≤ i → i + n = c.2.2.1 →
    loopT l23_0_4 ((i, l, ()), ((c, ()), ())) = some (if worksL c.2.1 l n i = true then .inl ((true, ()), ()) else .inr ((), ())) := by
  obtain ⟨c1, c2, c3, c4⟩ := validC_iff.1 hc
  intro n
  induction n with
  | zero =>
    intro i h0 h1
    refine loopT_inr ?_
    have : ¬ i < c.2.2.1 := by omega
    simp [l23_0_4, this, worksL]
  | succ n ih =>
    intro i h0 h1
    have hlt : i < c.2.2.1 := by omega
    have hi : w64 (i + 1) = i + 1 := w64_id (by omega) (by omega)
    by_cases hw : (!(fates l i).1 && decide ((fates l i).2.1 ≤ c.2.1)) = true
    · refine loopT_inr ?_
      simp only [Bool.and_eq_true, Bool.not_eq_true', decide_eq_true_eq] at hw
      simp [l23_0_4, worksL, m24_eq l i, hw.1, hw.2, hlt]
    · rw [loopT_inl (a' := ((i + 1, l, ()), ((c, ()), ()))) (by
        unfold l23_0_4
        cases hlo : (fates l i).1 with
        | true => simp [m24_eq l i, hlo, hlt, hi]
        | false =>
          have : ¬ ((fates l i).2.1 ≤ c.2.1) := by simpa [hlo] using hw
          simp [m24_eq l i, hlo, hlt, hi, this])]
      rw [ih (i + 1) (by omega) (by omega)]
      have hw' : (!(fates l i).1 && decide ((fates l i).2.1 ≤ c.2.1)) = false := by simpa using hw
      simp only [worksL, hw', Bool.false_or]

def works (c : Chan) (l : List Fate) : Bool := validC c && worksL c.2.1 l c.2.2.1.toNat 0

theorem m17_eq (c : Chan) (l : List Fate) (hl : l.length ≤ 9223372036854775807) : m17 ((c, l, ()), ()) = some ((works c l, ()), ()) := by
  unfold m17 works
  simp only [m29_eq, Option.bind_some]
  cases hc : validC c with
  | false => simp
  | true =>
    have := loop17 hc hl c.2.2.1.toNat 0 false (by omega) (by have := validC_iff.1 hc; omega)
    simp [this]

theorem m23_eq (c : Chan) (l : List Fate) : m23 ((c, l, ()), ()) = some ((works c l, ()), ()) := by
  unfold m23 works
  simp only [m30_eq, Option.bind_some]
  cases hc : validC c with
  | false => simp
  | true =>
    have := loop23 hc (l := l) c.2.2.1.toNat 0 (by omega) (by have := validC_iff.1 hc; omega)
    simp only [Bool.not_true, cond_false, this, Option.bind_some, Bool.true_and]
    cases hw : worksL c.2.1 l c.2.2.1.toNat 0 <;> simp [sumE]

def worst (c : Chan) : Int := if validC c = true then (c.2.2.1 - 1) * c.2.2.2.1 + c.2.1 else 0

theorem worst_w {c : Chan} (hc : validC c = true) : w64 (w64 (w64 (c.2.2.1 - 1) * c.2.2.2.1) + c.2.1) = (c.2.2.1 - 1) * c.2.2.2.1 + c.2.1 := by
  obtain ⟨c1, c2, c3, c4⟩ := validC_iff.1 hc
  have hmul : 0 ≤ (c.2.2.1 - 1) * c.2.2.2.1 ∧ (c.2.2.1 - 1) * c.2.2.2.1 ≤ 21600 := by
    constructor
    · exact Int.mul_nonneg (by omega) (by omega)
    · calc (c.2.2.1 - 1) * c.2.2.2.1 ≤ 6 * c.2.2.2.1 := Int.mul_le_mul_of_nonneg_right (by omega) (by omega)
        _ ≤ 6 * 3600 := Int.mul_le_mul_of_nonneg_left c4.2 (by omega)
  rw [w64_id (x := c.2.2.1 - 1) (by omega) (by omega), w64_id (x := (c.2.2.1 - 1) * c.2.2.2.1) (by omega) (by omega), w64_id (by omega) (by omega)]

theorem m15_eq (c : Chan) : m15 ((c, ()), ()) = some ((worst c, ()), ()) := by
  unfold m15 worst
  simp only [m29_eq, Option.bind_some]
  cases hc : validC c with
  | false => simp
  | true => simp [worst_w hc]
theorem m31_eq (c : Chan) : m31 ((c, ()), ()) = some ((worst c, ()), ()) := by
  unfold m31 worst
  simp only [m30_eq, Option.bind_some]
  cases hc : validC c with
  | false => simp
  | true => simp [worst_w hc]

theorem m9_eq : m9 ((), ()) = some ((true, ()), ()) := by
  unfold m9
  rw [m14_eq _ _ _ (by simp), m17_eq _ _ (by simp)]
  simp only [m15_eq, m20_eq, Option.bind_some]
  have h1 : reach (0, 30, 3, 60, ()) 1000 [(true, 0, 0, 0, ()), (true, 0, 0, 0, ()), (false, 30, 0, 0, ())] = (1150, true) := by decide +kernel
  have h2 : worst (0, 30, 3, 60, ()) = 150 := by decide +kernel
  have h3 : works (0, 30, 3, 60, ()) [(true, 0, 0, 0, ()), (true, 0, 0, 0, ()), (false, 30, 0, 0, ())] = true := by decide +kernel
  have h4 : (arr 5 (false, 0, 2, 0, ())).length = 2 := by decide +kernel
  simp [h1, h2, h3, h4]

theorem m8_eq (l : List Int) : m8 ((l, ()), ()) = some ((decide ((l.length : Int) ≤ 500), ()), ()) := rfl
theorem m10_eq (l : List Int) : m10 ((l, ()), ()) = some ((), (((l, 0, ()), ()), ())) := rfl

theorem dice0 {l : List Int} (h : (l.length : Int) ≤ 500) : DOK (l, 0, ()) := ⟨by simp, by simp, by simp; omega⟩

end Go.Proofs.Ytnmfcglhgaocoaa
