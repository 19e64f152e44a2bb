/- Patterns: what the law says of them. -/
import Derived.Test.YtcblbcpnfidndaaPlA
set_option linter.unusedSimpArgs false
set_option linter.unusedVariables false
namespace Go.Lab

def plainB (s : List UInt8) : Prop := ∀ c ∈ s, c ≠ 42 ∧ c ≠ 63

theorem fitsB_iff {s u : List UInt8} (h : plainB s) : fitsB s u = true ↔ ∃ r, u = s ++ r := by
  induction s generalizing u with
  | nil => exact ⟨fun _ => ⟨u, rfl⟩, fun _ => rfl⟩
  | cons c s ih =>
    have hs : plainB s := fun d hd => h d (by simp [hd])
    have h63 : (c == 63) = false := by have := (h c (by simp)).2; simpa using this
    cases u with
    | nil => simp [fitsB]
    | cons x u =>
      simp only [fitsB, h63, Bool.false_or, Bool.and_eq_true, beq_iff_eq, ih hs, List.cons_append, List.cons.injEq]
      constructor
      · rintro ⟨rfl, r, rfl⟩; exact ⟨r, rfl, rfl⟩
      · rintro ⟨r, rfl, rfl⟩; exact ⟨rfl, r, rfl⟩

theorem plain_no42 {s : List UInt8} (h : plainB s) : ∀ c ∈ s, c ≠ 42 := fun c hc => (h c hc).1

theorem like_plain {s u : List UInt8} (h : plainB s) : like s u = (s == u) := by
  have := like_seg s [] u (plain_no42 h)
  rw [List.append_nil] at this
  rw [this, Bool.eq_iff_iff, Bool.and_eq_true, fitsB_iff h]
  simp only [like, List.isEmpty_iff, beq_iff_eq]
  constructor
  · rintro ⟨⟨r, rfl⟩, h2⟩
    rw [List.drop_left] at h2
    rw [h2, List.append_nil]
  · rintro rfl
    exact ⟨⟨[], by simp⟩, by simp⟩

theorem like_any (v : List UInt8) : like [42] v = true := by
  rw [like_star, anyTail_iff]
  exact ⟨v.length, Nat.le_refl _, by simp [like]⟩

theorem like_star_skip {p v : List UInt8} (h : like p v = true) (u : List UInt8) : like (42 :: p) (u ++ v) = true := by
  rw [like_star, anyTail_iff]
  exact ⟨u.length, by simp, by simpa using h⟩

theorem like_snoc_star : ∀ (p u v : List UInt8), like p u = true → like (p ++ [42]) (u ++ v) = true
  | [], u, v, h => by
    have : u = [] := by simpa [like] using h
    subst this
    exact like_any v
  | c :: p, u, v, h => by
    by_cases hc : c = 42
    · subst hc
      rw [like_star, anyTail_iff] at h
      obtain ⟨k, h1, h2⟩ := h
      rw [List.cons_append, like_star, anyTail_iff]
      refine ⟨k, by simp; omega, ?_⟩
      rw [List.drop_append_of_le_length h1]
      exact like_snoc_star p _ v h2
    · cases u with
      | nil => rw [like_end hc] at h; cases h
      | cons x u =>
        rw [like_byte hc, Bool.and_eq_true] at h
        rw [List.cons_append, List.cons_append, like_byte hc, h.1, Bool.true_and]
        exact like_snoc_star p u v h.2

theorem like_self : ∀ s : List UInt8, like s s = true
  | [] => rfl
  | c :: s => by
    by_cases hc : c = 42
    · subst hc
      exact like_star_skip (like_self s) [42]
    · rw [like_byte hc, beq_self_eq_true, Bool.or_true, Bool.true_and]
      exact like_self s

theorem like_marks : ∀ (n : Nat) (s : List UInt8), like (List.replicate n 63) s = decide (s.length = n)
  | 0, s => by cases s <;> simp [like]
  | n + 1, [] => by rw [List.replicate_succ, like_end (by decide)]; simp
  | n + 1, x :: s => by
    rw [List.replicate_succ, like_byte (by decide), like_marks n s]
    simp

theorem like_head {s v : List UInt8} : like (s ++ [42]) (s ++ v) = true := like_snoc_star s s v (like_self s)
theorem like_tail {s v : List UInt8} : like (42 :: s) (v ++ s) = true := like_star_skip (like_self s) v
theorem like_mid {s u v : List UInt8} : like (42 :: (s ++ [42])) (u ++ (s ++ v)) = true := like_star_skip like_head u

end Go.Lab
