/- Plain aids: numbers that fit, elements of lists, loops. -/
import Derived.Test.YtcblbcpnfidndaaPxJ
set_option linter.unusedSimpArgs false
set_option linter.unusedVariables false
namespace Go.Abs
open Go

theorem w64_id {x : Int} (h1 : -9223372036854775808 ≤ x) (h2 : x ≤ 9223372036854775807) : w64 x = x := by
  unfold w64 IntKind.wrap
  simp only [IntKind.bits, IntKind.signed, Bool.true_and]
  split <;> (rename_i h; simp at h; omega)

theorem w64_range (x : Int) : -9223372036854775808 ≤ w64 x ∧ w64 x ≤ 9223372036854775807 := by
  unfold w64 IntKind.wrap
  simp only [IntKind.bits, IntKind.signed, Bool.true_and]
  split <;> (rename_i h; simp at h; omega)

theorem rowAt_eq {A B : Type} {l : List A} {n : Int} (F : A → Option B) (h0 : 0 ≤ n) (h1 : n < l.length) : rowAt l n (fun e _ => F e) = F (l[n.toNat]'(by omega)) := by
  unfold rowAt
  rw [show decide (0 ≤ n) = true from decide_eq_true h0, cond_true]
  have : l[n.toNat]? = some (l[n.toNat]'(by omega)) := List.getElem?_eq_getElem _
  generalize hq : l[n.toNat]? = o at this
  subst this
  rfl

theorem rowAt_mem {A B : Type} {l : List A} {n : Int} (F : A → Option B) (h0 : 0 ≤ n) (h1 : n < l.length) : ∃ e, e ∈ l ∧ l[n.toNat]? = some e ∧ rowAt l n (fun e _ => F e) = F e :=
  ⟨_, List.getElem_mem (by omega), List.getElem?_eq_getElem _, rowAt_eq F h0 h1⟩

theorem rowAt_some' {A B : Type} {l : List A} {n : Int} (F : A → Option B) {e : A} (h0 : 0 ≤ n) (h : l[n.toNat]? = some e) : rowAt l n (fun e _ => F e) = F e := by
  have h1 : n < l.length := by have := (List.getElem?_eq_some_iff.1 h).1; omega
  rw [rowAt_eq F h0 h1]
  congr 1
  exact (List.getElem?_eq_some_iff.1 h).2

/-- A loop with a measure. -/
theorem loop_inv {A D : Type} {f : A → Option (A ⊕ D)} (I : A → Prop) (μ : A → Nat) (Q : D → Prop)
    (h : ∀ a, I a → (∃ a', f a = some (.inl a') ∧ I a' ∧ μ a' < μ a) ∨ (∃ d, f a = some (.inr d) ∧ Q d)) : ∀ a, I a → ∃ d, loopT f a = some d ∧ Q d := by
  have key : ∀ n a, μ a ≤ n → I a → ∃ d, loopT f a = some d ∧ Q d := by
    intro n
    induction n with
    | zero =>
      intro a hn ha
      rcases h a ha with ⟨a', _, _, hlt⟩ | ⟨d, h1, h2⟩
      · omega
      · exact ⟨d, loopT_inr h1, h2⟩
    | succ n ih =>
      intro a hn ha
      rcases h a ha with ⟨a', h1, h2, h3⟩ | ⟨d, h1, h2⟩
      · rw [loopT_inl h1]; exact ih a' (by omega) h2
      · exact ⟨d, loopT_inr h1, h2⟩
  intro a ha
  exact key (μ a) a (Nat.le_refl _) ha

end Go.Abs
