/- Patterns, as lists of bytes. -/
set_option linter.unusedSimpArgs false
set_option linter.unusedVariables false
namespace Go.Lab

def anyTail (f : List UInt8 → Bool) : List UInt8 → Bool
  | [] => f []
  | x :: v => f (x :: v) || anyTail f v

/-- Whether a pattern fits a value: 42 stands for any bytes, 63 for one. -/
def like : List UInt8 → List UInt8 → Bool
  | [], v => v.isEmpty
  | c :: p, v => if c = 42 then anyTail (like p) v else match v with
    | [] => false
    | x :: u => (c == 63 || c == x) && like p u

theorem anyTail_iff {f : List UInt8 → Bool} : ∀ {v : List UInt8}, anyTail f v = true ↔ ∃ k, k ≤ v.length ∧ f (v.drop k) = true
  | [] => by
    constructor
    · intro h; exact ⟨0, Nat.le_refl _, h⟩
    · rintro ⟨k, _, h⟩; simpa [anyTail] using h
  | x :: v => by
    simp only [anyTail, Bool.or_eq_true]
    constructor
    · rintro (h | h)
      · exact ⟨0, Nat.zero_le _, h⟩
      · obtain ⟨k, h1, h2⟩ := anyTail_iff.1 h
        exact ⟨k + 1, by simpa using h1, by simpa using h2⟩
    · rintro ⟨k, h1, h2⟩
      cases k with
      | zero => exact .inl h2
      | succ k => exact .inr (anyTail_iff.2 ⟨k, by simpa using h1, by simpa using h2⟩)

theorem like_star (p v : List UInt8) : like (42 :: p) v = anyTail (like p) v := by simp [like]
theorem like_byte {c : UInt8} (h : c ≠ 42) (p : List UInt8) (x : UInt8) (v : List UInt8) : like (c :: p) (x :: v) = ((c == 63 || c == x) && like p v) := by simp [like, h]
theorem like_end {c : UInt8} (h : c ≠ 42) (p : List UInt8) : like (c :: p) [] = false := by simp [like, h]

/-- Whether bytes without 42 fit the beginning of a value. -/
def fitsB : List UInt8 → List UInt8 → Bool
  | [], _ => true
  | _ :: _, [] => false
  | c :: s, x :: u => (c == 63 || c == x) && fitsB s u

theorem fitsB_le : ∀ {s u : List UInt8}, fitsB s u = true → s.length ≤ u.length
  | [], _, _ => Nat.zero_le _
  | _ :: _, [], h => by cases h
  | _ :: s, _ :: u, h => by
    simp only [fitsB, Bool.and_eq_true] at h
    have := fitsB_le h.2
    simpa using this

theorem like_seg : ∀ (s r u : List UInt8), (∀ c ∈ s, c ≠ 42) → like (s ++ r) u = (fitsB s u && like r (u.drop s.length))
  | [], r, u, _ => by simp [fitsB]
  | c :: s, r, [], h => by
    rw [List.cons_append, like_end (h c (by simp))]
    simp [fitsB]
  | c :: s, r, x :: u, h => by
    rw [List.cons_append, like_byte (h c (by simp)), like_seg s r u (fun d hd => h d (by simp [hd]))]
    simp [fitsB, Bool.and_assoc]

theorem fitsB_snoc : ∀ (s : List UInt8) (c x : UInt8) (u : List UInt8), fitsB s u = true → u[s.length]? = some x → fitsB (s ++ [c]) u = (c == 63 || c == x)
  | [], c, x, u, _, h => by
    cases u with
    | nil => cases h
    | cons y u => simp at h; subst h; simp [fitsB]
  | d :: s, c, x, [], h, _ => by cases h
  | d :: s, c, x, y :: u, h, hx => by
    simp only [fitsB, Bool.and_eq_true] at h
    simp only [List.cons_append, fitsB]
    rw [fitsB_snoc s c x u h.2 (by simpa using hx), h.1, Bool.true_and]

/-- What holds at the head of the program's loop: place in the pattern, place in the value, place behind the last star, where it began. -/
structure LInv (P V : List UInt8) (p v : Nat) (star : Option (Nat × Nat)) : Prop where
  hp : p ≤ P.length
  hv : v ≤ V.length
  ok : match star with
    | none => like P V = like (P.drop p) (V.drop v)
    | some (s, f) => s + 1 ≤ p ∧ f ≤ v ∧ p - (s + 1) = v - f ∧ (∀ c ∈ (P.drop (s + 1)).take (p - (s + 1)), c ≠ 42) ∧ fitsB ((P.drop (s + 1)).take (p - (s + 1))) (V.drop f) = true ∧ like P V = anyTail (like (P.drop (s + 1))) (V.drop f)

theorem LInv.start (P V : List UInt8) : LInv P V 0 0 none := ⟨Nat.zero_le _, Nat.zero_le _, by simp⟩

theorem drop_split {P : List UInt8} {a p : Nat} (h : a ≤ p) : P.drop a = (P.drop a).take (p - a) ++ P.drop p := by
  conv => lhs; rw [← List.take_append_drop (p - a) (P.drop a)]
  rw [List.drop_drop]
  congr 2
  omega

theorem drop_cons {P : List UInt8} {p : Nat} {c : UInt8} (h : P[p]? = some c) : P.drop p = c :: P.drop (p + 1) := by
  obtain ⟨h1, h2⟩ := List.getElem?_eq_some_iff.1 h
  rw [List.drop_eq_getElem_cons h1, h2]

/-- A star. -/
theorem LInv.onStar {P V : List UInt8} {p v : Nat} {star : Option (Nat × Nat)} (h : LInv P V p v star) (hc : P[p]? = some 42) : LInv P V (p + 1) v (some (p, v)) := by
  have hp : p < P.length := (List.getElem?_eq_some_iff.1 hc).1
  refine ⟨hp, h.hv, Nat.le_refl _, Nat.le_refl _, by simp, by simp, by simp [fitsB], ?_⟩
  have hd := drop_cons hc
  cases star with
  | none =>
    have e : like P V = like (P.drop p) (V.drop v) := h.ok
    rw [e, hd, like_star]
  | some q =>
    obtain ⟨s, f⟩ := q
    obtain ⟨h1, h2, h3, h4, h5, h6⟩ := (h.ok : _ ∧ _ ∧ _ ∧ _ ∧ _ ∧ _)
    rw [h6]
    have hsp := drop_split (P := P) h1
    generalize hseg : (P.drop (s + 1)).take (p - (s + 1)) = seg at h4 h5 hsp
    have hsl : seg.length = v - f := by rw [← hseg, List.length_take, List.length_drop]; omega
    rw [Bool.eq_iff_iff, anyTail_iff, anyTail_iff]
    rw [hsp, hd]
    constructor
    · rintro ⟨k, k1, k2⟩
      rw [like_seg _ _ _ h4, Bool.and_eq_true, like_star, anyTail_iff] at k2
      obtain ⟨k3, j, j1, j2⟩ := k2
      have := fitsB_le k3
      simp only [List.length_drop, List.drop_drop] at j1 j2 this k1 ⊢
      refine ⟨k + j, by omega, ?_⟩
      rw [show v + (k + j) = f + k + seg.length + j by omega]
      exact j2
    · rintro ⟨j, j1, j2⟩
      refine ⟨0, Nat.zero_le _, ?_⟩
      rw [List.drop_zero, like_seg _ _ _ h4, h5, Bool.true_and, like_star, anyTail_iff]
      simp only [List.length_drop, List.drop_drop] at j1 j2 ⊢
      refine ⟨j, by omega, ?_⟩
      rw [show f + seg.length + j = v + j by omega]
      exact j2

/-- A byte that fits. -/
theorem LInv.onByte {P V : List UInt8} {p v : Nat} {star : Option (Nat × Nat)} (h : LInv P V p v star) {c x : UInt8} (hc : P[p]? = some c) (hx : V[v]? = some x) (h42 : c ≠ 42) (hm : (c == 63 || c == x) = true) : LInv P V (p + 1) (v + 1) star := by
  have hp : p < P.length := (List.getElem?_eq_some_iff.1 hc).1
  have hv : v < V.length := (List.getElem?_eq_some_iff.1 hx).1
  refine ⟨hp, hv, ?_⟩
  cases star with
  | none =>
    have e : like P V = like (P.drop p) (V.drop v) := h.ok
    rw [drop_cons hc, drop_cons hx, like_byte h42, hm, Bool.true_and] at e
    exact e
  | some q =>
    obtain ⟨s, f⟩ := q
    obtain ⟨h1, h2, h3, h4, h5, h6⟩ := (h.ok : _ ∧ _ ∧ _ ∧ _ ∧ _ ∧ _)
    have e : (P.drop (s + 1)).take (p + 1 - (s + 1)) = (P.drop (s + 1)).take (p - (s + 1)) ++ [c] := by
      rw [show p + 1 - (s + 1) = p - (s + 1) + 1 by omega, List.take_add_one, List.getElem?_drop, show s + 1 + (p - (s + 1)) = p by omega, hc]
      rfl
    have hsl : ((P.drop (s + 1)).take (p - (s + 1))).length = v - f := by rw [List.length_take, List.length_drop]; omega
    refine ⟨by omega, by omega, by omega, ?_, ?_, h6⟩
    · rw [e]
      intro d hd
      rcases List.mem_append.1 hd with hd | hd
      · exact h4 d hd
      · simp at hd; subst hd; exact h42
    · rw [e, fitsB_snoc _ c x _ h5 (by rw [hsl, List.getElem?_drop, show f + (v - f) = v by omega]; exact hx)]
      exact hm

/-- A byte that does not fit, behind a star. -/
theorem LInv.onMiss {P V : List UInt8} {p v s f : Nat} (h : LInv P V p v (some (s, f))) {x : UInt8} (hx : V[v]? = some x) (hm : ∀ c, P[p]? = some c → c ≠ 42 ∧ (c == 63 || c == x) = false) : LInv P V (s + 1) (f + 1) (some (s, f + 1)) := by
  have hv : v < V.length := (List.getElem?_eq_some_iff.1 hx).1
  obtain ⟨h1, h2, h3, h4, h5, h6⟩ := (h.ok : _ ∧ _ ∧ _ ∧ _ ∧ _ ∧ _)
  have hp := h.hp
  refine ⟨by omega, by omega, Nat.le_refl _, Nat.le_refl _, by simp, by simp, by simp [fitsB], ?_⟩
  rw [h6]
  have hff : f < V.length := by omega
  have hno : like (P.drop (s + 1)) (V.drop f) = false := by
    have hsp := drop_split (P := P) h1
    have hsl : ((P.drop (s + 1)).take (p - (s + 1))).length = v - f := by rw [List.length_take, List.length_drop]; omega
    rw [hsp, like_seg _ _ _ h4, h5, Bool.true_and, hsl, List.drop_drop, show f + (v - f) = v by omega, drop_cons hx]
    cases hpc : P[p]? with
    | none =>
      rw [List.drop_eq_nil_of_le (List.getElem?_eq_none_iff.1 hpc)]
      rfl
    | some c =>
      obtain ⟨m1, m2⟩ := hm c hpc
      rw [drop_cons hpc, like_byte m1, m2, Bool.false_and]
  rw [List.drop_eq_getElem_cons hff]
  show (like _ _ || _) = _
  rw [← List.drop_eq_getElem_cons hff, hno, Bool.false_or]

/-- .. without a star. -/
theorem LInv.onFail {P V : List UInt8} {p v : Nat} (h : LInv P V p v none) {x : UInt8} (hx : V[v]? = some x) (hm : ∀ c, P[p]? = some c → c ≠ 42 ∧ (c == 63 || c == x) = false) : like P V = false := by
  have e : like P V = like (P.drop p) (V.drop v) := h.ok
  rw [e, drop_cons hx]
  cases hpc : P[p]? with
  | none =>
    rw [List.drop_eq_nil_of_le (List.getElem?_eq_none_iff.1 hpc)]
    rfl
  | some c =>
    obtain ⟨m1, m2⟩ := hm c hpc
    rw [drop_cons hpc, like_byte m1, m2, Bool.false_and]

theorem like_nil : ∀ p : List UInt8, like p [] = p.all (· == 42)
  | [] => rfl
  | c :: p => by
    by_cases h : c = 42
    · subst h
      rw [like_star]
      simp [anyTail, like_nil p]
    · rw [like_end h]
      simp [h]

theorem LInv.onEnd {P V : List UInt8} {p v : Nat} {star : Option (Nat × Nat)} (h : LInv P V p v star) (hv : v = V.length) : like P V = (P.drop p).all (· == 42) := by
  rw [← like_nil]
  cases star with
  | none =>
    have e : like P V = like (P.drop p) (V.drop v) := h.ok
    rw [e, show V.drop v = [] from List.drop_eq_nil_of_le (by omega)]
  | some q =>
    obtain ⟨s, f⟩ := q
    obtain ⟨h1, h2, h3, h4, h5, h6⟩ := (h.ok : _ ∧ _ ∧ _ ∧ _ ∧ _ ∧ _)
    have hp := h.hp
    rw [h6]
    have hsp := drop_split (P := P) h1
    have hsl : ((P.drop (s + 1)).take (p - (s + 1))).length = v - f := by rw [List.length_take, List.length_drop]; omega
    generalize (P.drop (s + 1)).take (p - (s + 1)) = seg at h4 h5 hsp hsl
    rw [Bool.eq_iff_iff, anyTail_iff, hsp]
    constructor
    · rintro ⟨k, k1, k2⟩
      rw [like_seg _ _ _ h4, Bool.and_eq_true] at k2
      have := fitsB_le k2.1
      simp only [List.length_drop] at this k1
      have hk : k = 0 := by omega
      subst hk
      have k3 := k2.2
      rw [List.drop_zero, List.drop_drop, show V.drop (f + seg.length) = [] from List.drop_eq_nil_of_le (by omega)] at k3
      exact k3
    · intro hr
      refine ⟨0, Nat.zero_le _, ?_⟩
      rw [List.drop_zero, like_seg _ _ _ h4, h5, Bool.true_and, List.drop_drop, show V.drop (f + seg.length) = [] from List.drop_eq_nil_of_le (by omega)]
      exact hr

/-! ### The table of the reference -/

/-- One row of the table: which beginnings of the value fit the pattern up to a byte, out of those that fit it up to the byte ahead. -/
def rowOK (c : UInt8) (V : List UInt8) (r r' : List Bool) : Prop :=
  r'.length = V.length + 1 ∧ ∀ k, k ≤ V.length → r'[k]?.getD false = if c = 42 then (r[k]?.getD false || (decide (0 < k) && r'[k - 1]?.getD false)) else (decide (0 < k) && r[k - 1]?.getD false && (c == 63 || some c == V[k - 1]?))

/-- What a row says. -/
def RInv (P V : List UInt8) (i : Nat) (r : List Bool) : Prop := r.length = V.length + 1 ∧ (like P V = true ↔ ∃ k, k ≤ V.length ∧ r[k]?.getD false = true ∧ like (P.drop i) (V.drop k) = true)

theorem RInv.start (P V : List UInt8) : RInv P V 0 (true :: List.replicate V.length false) := by
  refine ⟨by simp, ⟨fun h => ⟨0, Nat.zero_le _, rfl, by simpa using h⟩, ?_⟩⟩
  rintro ⟨k, h1, h2, h3⟩
  cases k with
  | zero => simpa using h3
  | succ k =>
    simp only [List.getElem?_cons_succ, List.getElem?_replicate] at h2
    split at h2 <;> simp at h2

theorem RInv.step {P V : List UInt8} {i : Nat} {c : UInt8} {r r' : List Bool} (h : RInv P V i r) (hc : P[i]? = some c) (hr : rowOK c V r r') : RInv P V (i + 1) r' := by
  refine ⟨hr.1, h.2.trans ?_⟩
  rw [drop_cons hc]
  by_cases h42 : c = 42
  · subst h42
    have hrow : ∀ k, k ≤ V.length → r'[k]?.getD false = (r[k]?.getD false || (decide (0 < k) && r'[k - 1]?.getD false)) := fun k hk => by rw [hr.2 k hk, if_pos rfl]
    have key : ∀ k, k ≤ V.length → (r'[k]?.getD false = true ↔ ∃ j, j ≤ k ∧ r[j]?.getD false = true) := by
      intro k
      induction k with
      | zero =>
        intro hk
        rw [hrow 0 hk]
        simp
      | succ k ih =>
        intro hk
        rw [hrow (k + 1) hk]
        simp only [Nat.zero_lt_succ, decide_true, Bool.true_and, Nat.add_sub_cancel, Bool.or_eq_true, ih (by omega)]
        constructor
        · rintro (h | ⟨j, h1, h2⟩)
          · exact ⟨k + 1, Nat.le_refl _, h⟩
          · exact ⟨j, by omega, h2⟩
        · rintro ⟨j, h1, h2⟩
          by_cases e : j = k + 1
          · subst e; exact .inl h2
          · exact .inr ⟨j, by omega, h2⟩
    constructor
    · rintro ⟨k, h1, h2, h3⟩
      rw [like_star, anyTail_iff] at h3
      obtain ⟨j, j1, j2⟩ := h3
      simp only [List.length_drop, List.drop_drop] at j1 j2
      exact ⟨k + j, by omega, (key _ (by omega)).2 ⟨k, by omega, h2⟩, j2⟩
    · rintro ⟨k, h1, h2, h3⟩
      obtain ⟨j, j1, j2⟩ := (key k h1).1 h2
      refine ⟨j, by omega, j2, ?_⟩
      rw [like_star, anyTail_iff]
      refine ⟨k - j, by rw [List.length_drop]; omega, ?_⟩
      rw [List.drop_drop, show j + (k - j) = k by omega]
      exact h3
  · have hrow : ∀ k, k ≤ V.length → r'[k]?.getD false = (decide (0 < k) && r[k - 1]?.getD false && (c == 63 || some c == V[k - 1]?)) := fun k hk => by rw [hr.2 k hk, if_neg h42]
    constructor
    · rintro ⟨k, h1, h2, h3⟩
      cases hx : V[k]? with
      | none =>
        rw [List.drop_eq_nil_of_le (List.getElem?_eq_none_iff.1 hx), like_end h42] at h3
        cases h3
      | some x =>
        have hk := (List.getElem?_eq_some_iff.1 hx).1
        rw [drop_cons hx, like_byte h42, Bool.and_eq_true] at h3
        refine ⟨k + 1, by omega, ?_, h3.2⟩
        rw [hrow (k + 1) (by omega)]
        simp only [Nat.zero_lt_succ, decide_true, Bool.true_and, Nat.add_sub_cancel, h2, hx]
        have := h3.1
        simpa using this
    · rintro ⟨k, h1, h2, h3⟩
      rw [hrow k h1] at h2
      simp only [Bool.and_eq_true, decide_eq_true_eq] at h2
      obtain ⟨⟨k0, k1⟩, k2⟩ := h2
      refine ⟨k - 1, by omega, k1, ?_⟩
      cases hx : V[k - 1]? with
      | none => have := List.getElem?_eq_none_iff.1 hx; omega
      | some x =>
        rw [drop_cons hx, like_byte h42, show k - 1 + 1 = k by omega, h3, Bool.and_true]
        rw [hx] at k2
        simpa using k2

theorem RInv.done {P V : List UInt8} {r : List Bool} (h : RInv P V P.length r) : r[V.length]?.getD false = like P V := by
  rw [Bool.eq_iff_iff, h.2, List.drop_length]
  constructor
  · intro hr; exact ⟨V.length, Nat.le_refl _, hr, by simp [like]⟩
  · rintro ⟨k, h1, h2, h3⟩
    have : V.drop k = [] := by simpa [like] using h3
    have := List.drop_eq_nil_iff.1 this
    have : k = V.length := by omega
    subst this; exact h2

end Go.Lab
