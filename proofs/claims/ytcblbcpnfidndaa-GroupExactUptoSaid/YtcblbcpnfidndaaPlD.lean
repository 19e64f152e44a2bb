/- Texts of labels and matchers: what is written is read back. -/
import Derived.Test.YtcblbcpnfidndaaPlC
set_option linter.unusedSimpArgs false
set_option linter.unusedVariables false
namespace Go.Lab

def keyChar (c : UInt8) : Bool := (decide (97 ≤ c) && decide (c ≤ 122)) || (decide (48 ≤ c) && decide (c ≤ 57)) || c == 95
/-- Whether bytes are a key. -/
def keyL (s : List UInt8) : Bool := match s with
  | [] => false
  | c :: _ => decide (s.length ≤ 24) && (decide (97 ≤ c) && decide (c ≤ 122)) && s.all keyChar
/-- Whether bytes are a value. -/
def valL (s : List UInt8) : Bool := s.all (fun c => decide (32 ≤ c) && decide (c ≤ 126)) && decide (s.length ≤ 64)

theorem keyChar_ne {c d : UInt8} (h : keyChar c = true) (hd : keyChar d = false) : c ≠ d := fun e => by subst e; rw [h] at hd; cases hd

theorem key_all {s : List UInt8} (h : keyL s = true) : s ≠ [] ∧ s.length ≤ 24 ∧ ∀ c ∈ s, keyChar c = true := by
  cases s with
  | nil => cases h
  | cons c s =>
    simp only [keyL, Bool.and_eq_true, decide_eq_true_eq, List.all_eq_true] at h
    exact ⟨by simp, h.1.1, h.2⟩

theorem key_no {s : List UInt8} (h : keyL s = true) {d : UInt8} (hd : keyChar d = false) : d ∉ s := fun hm => keyChar_ne ((key_all h).2.2 d hm) hd rfl

/-- A text split at the first 61. -/
def cutEq : List UInt8 → Option (List UInt8 × List UInt8)
  | [] => none
  | c :: s => if c = 61 then some ([], s) else (cutEq s).map fun p => (c :: p.1, p.2)

theorem cutEq_at : ∀ (k r : List UInt8), 61 ∉ k → cutEq (k ++ 61 :: r) = some (k, r)
  | [], r, _ => by simp [cutEq]
  | c :: k, r, h => by
    simp only [List.mem_cons, not_or] at h
    rw [List.cons_append, cutEq, if_neg (fun e => h.1 e.symm), cutEq_at k r h.2]
    rfl

theorem cutEq_le : ∀ {s k r : List UInt8}, cutEq s = some (k, r) → s = k ++ 61 :: r
  | [], _, _, h => by cases h
  | c :: s, k, r, h => by
    simp only [cutEq] at h
    split at h
    · rename_i e; cases h; subst e; rfl
    · obtain ⟨p, hp, he⟩ := Option.map_eq_some_iff.1 h
      cases he
      rw [cutEq_le (k := p.1) (r := p.2) hp]; rfl

theorem item_ne {k op v : List UInt8} : item k op v ≠ [] := by
  simp [item]

theorem commas_ne {l : List (List UInt8)} {x : List UInt8} (h : x ≠ []) : commas (x :: l) ≠ [] := by
  cases l with
  | nil => exact h
  | cons y l => simp [commas]

theorem esc_len (v : List UInt8) : (esc v).length ≤ 2 * v.length := by
  induction v with
  | nil => exact Nat.le_refl _
  | cons c v ih =>
    simp only [esc]
    split <;> simp only [List.length_cons] <;> omega

theorem commas_len : ∀ (l : List (List UInt8)) (n : Nat), (∀ x ∈ l, x.length ≤ n) → (commas l).length ≤ l.length * (n + 1)
  | [], _, _ => Nat.zero_le _
  | [x], n, h => by have := h x (by simp); simp [commas]; omega
  | x :: y :: l, n, h => by
    have h1 := h x (by simp)
    have h2 := commas_len (y :: l) n (fun z hz => h z (by simp [List.mem_cons] at hz ⊢; exact .inr hz))
    simp only [commas, List.length_append, List.length_cons, Nat.add_mul] at h2 ⊢
    omega

end Go.Lab
