/- Quoted values: what is written is read back. -/
import Derived.Test.YtcblbcpnfidndaaPlB
set_option linter.unusedSimpArgs false
set_option linter.unusedVariables false
namespace Go.Lab

/-- A value with a 92 ahead of each 34 and 92. -/
def esc : List UInt8 → List UInt8
  | [] => []
  | c :: s => if c = 34 ∨ c = 92 then 92 :: c :: esc s else c :: esc s

/-- A value up to a 34 that has no 92 ahead of it, and what is behind it. -/
def unq : List UInt8 → Option (List UInt8 × List UInt8)
  | [] => none
  | 34 :: s => some ([], s)
  | [92] => none
  | 92 :: d :: s => (unq s).map fun p => (d :: p.1, p.2)
  | c :: s => (unq s).map fun p => (c :: p.1, p.2)

theorem unq_end (s : List UInt8) : unq (34 :: s) = some ([], s) := rfl
theorem unq_esc2 (d : UInt8) (s : List UInt8) : unq (92 :: d :: s) = (unq s).map fun p => (d :: p.1, p.2) := by
  rw [unq]
theorem unq_last : unq [92] = none := rfl
theorem unq_byte {c : UInt8} (h1 : c ≠ 34) (h2 : c ≠ 92) (s : List UInt8) : unq (c :: s) = (unq s).map fun p => (c :: p.1, p.2) := by
  rw [unq]
  · exact h1
  all_goals
    intros
    first | exact absurd (by assumption) h2 | simp_all

theorem unq_le : ∀ {s v r : List UInt8}, unq s = some (v, r) → r.length < s.length ∧ v.length < s.length
  | [], _, _, h => by cases h
  | c :: s, v, r, h => by
    by_cases h1 : c = 34
    · subst h1
      rw [unq_end] at h; cases h
      simp
    · by_cases h2 : c = 92
      · subst h2
        cases s with
        | nil => cases h
        | cons d s =>
          rw [unq_esc2] at h
          obtain ⟨p, hp, he⟩ := Option.map_eq_some_iff.1 h
          cases he
          have := unq_le (v := p.1) (r := p.2) hp
          simp only [List.length_cons]
          omega
      · rw [unq_byte h1 h2] at h
        obtain ⟨p, hp, he⟩ := Option.map_eq_some_iff.1 h
        cases he
        have := unq_le (v := p.1) (r := p.2) hp
        simp only [List.length_cons]
        omega

theorem unq_esc : ∀ (v r : List UInt8), unq (esc v ++ 34 :: r) = some (v, r)
  | [], r => rfl
  | c :: v, r => by
    simp only [esc]
    split
    · rw [List.cons_append, List.cons_append, unq_esc2, unq_esc v r]
      rfl
    · rename_i h
      have h1 : c ≠ 34 := fun e => h (.inl e)
      have h2 : c ≠ 92 := fun e => h (.inr e)
      rw [List.cons_append, unq_byte h1 h2, unq_esc v r]
      rfl

/-- Up to the first byte for which a test holds. -/
def upTo (p : UInt8 → Bool) : List UInt8 → List UInt8
  | [] => []
  | c :: s => if p c then [] else c :: upTo p s

theorem upTo_append {p : UInt8 → Bool} : ∀ {k r : List UInt8} {c : UInt8}, (∀ x ∈ k, p x = false) → p c = true → upTo p (k ++ c :: r) = k
  | [], r, c, _, hc => by simp [upTo, hc]
  | x :: k, r, c, h, hc => by
    rw [List.cons_append, upTo, h x (by simp)]
    simp only [Bool.false_eq_true, if_false]
    rw [upTo_append (fun y hy => h y (by simp [hy])) hc]

/-- Parts with a 44 between them. -/
def commas : List (List UInt8) → List UInt8
  | [] => []
  | [x] => x
  | x :: y :: l => x ++ 44 :: commas (y :: l)

theorem commas_cons (x : List UInt8) {l : List (List UInt8)} (h : l ≠ []) : commas (x :: l) = x ++ 44 :: commas l := by
  cases l with
  | nil => exact absurd rfl h
  | cons y l => rfl

/-- Key, operator, value. -/
def item (k op v : List UInt8) : List UInt8 := k ++ (op ++ (34 :: (esc v ++ [34])))

end Go.Lab
