/- Chapter 32, law 6 (Quorums): the plain law. -/
import Derived.Test.YtigpidafkicggaaM
import Derived.Test.YtigpidafkicggaaPxK
namespace Go.Proofs.Ytigpidafkicggaa
open Go Go.Abs

theorem sane_eq : m9 ((), ()) = some ((true, ()), ()) := by kernel_rfl

theorem m43_eq (a b c : Int) : m43 ((a, b, c, ()), ()) = some ((decide (b ≤ a) && decide (a ≤ c), ()), ()) := by
  unfold m43
  by_cases h : a ≥ b <;> simp [h]

theorem m20_in {n : Int} (h0 : 1 ≤ n) (h1 : n ≤ 5) : m20 ((n, ()), ()) = some ((n.tdiv 2 + 1, ()), ()) := by
  unfold m20
  have h2 := Int.tdiv_nonneg (a := n) (b := 2) (by omega) (by omega)
  have h3 : n.tdiv 2 ≤ 2 := by rw [Int.tdiv_eq_ediv_of_nonneg (by omega)]; omega
  simp only [m43_eq, h0, h1, decide_true, Bool.and_self, Bool.not_true, cond_false, Option.bind_some]
  rw [w64_id (x := n.tdiv 2) (by omega) (by omega), w64_id (by omega) (by omega)]
theorem m20_0 : m20 ((0, ()), ()) = some ((0, ()), ()) := by kernel_rfl
theorem m20_6 : m20 ((6, ()), ()) = some ((0, ()), ()) := by kernel_rfl

theorem loop65 {a b q k : Int} (hk : k ≤ 5) : ∀ (n : Nat) (i s y x : Int), 0 ≤ i → i + n = k → 0 ≤ s → 0 ≤ y → 0 ≤ x → s ≤ i → y ≤ i → x ≤ i → x + y ≤ i + s →
    ∃ s' y' x', loopT l6_0_5 ((i, s, y, x, b, a, q, k, ()), ()) = some ((s', q, y', x', k, ()), ()) ∧ 0 ≤ s' ∧ x' + y' ≤ k + s' := by
  intro n
  induction n with
  | zero =>
    intro i s y x h0 h1 h2 h3 h4 h5 h6 h7 h8
    refine ⟨s, y, x, loopT_inr ?_, h2, by omega⟩
    have : ¬ i < k := by omega
    simp [l6_0_5, this]
  | succ n ih =>
    intro i s y x h0 h1 h2 h3 h4 h5 h6 h7 h8
    have hlt : i < k := by omega
    have hi : w64 (i + 1) = i + 1 := w64_id (by omega) (by omega)
    have hs : w64 (s + 1) = s + 1 := w64_id (by omega) (by omega)
    have hy : w64 (y + 1) = y + 1 := w64_id (by omega) (by omega)
    have hx : w64 (x + 1) = x + 1 := w64_id (by omega) (by omega)
    have hw : (0 : Int) ≤ IntKind.wrap .u64 i := by
      have : IntKind.wrap .u64 i = i := by
        rcases (show i = 0 ∨ i = 1 ∨ i = 2 ∨ i = 3 ∨ i = 4 by omega) with e | e | e | e | e <;> subst e <;> rfl
      omega
    have step : ∃ s' y' x', l6_0_5 ((i, s, y, x, b, a, q, k, ()), ()) = some (.inl ((i + 1, s', y', x', b, a, q, k, ()), ())) ∧ 0 ≤ s' ∧ 0 ≤ y' ∧ 0 ≤ x' ∧ s' ≤ i + 1 ∧ y' ≤ i + 1 ∧ x' ≤ i + 1 ∧ x' + y' ≤ i + 1 + s' := by
      unfold l6_0_5
      simp only [hlt, decide_true, cond_true, hw]
      generalize ((bitI .and .u8 (shrI .u8 a (IntKind.wrap .u64 i)) 1 : Int) == 1) = p
      generalize ((bitI .and .u8 (shrI .u8 b (IntKind.wrap .u64 i)) 1 : Int) == 1) = r
      cases p <;> cases r
      · exact ⟨s, y, x, by simp only [cond_false, Option.bind_some, hi], by omega⟩
      · exact ⟨s, y + 1, x, by simp only [cond_false, cond_true, Option.bind_some, hi, hy], by omega⟩
      · exact ⟨s, y, x + 1, by simp only [cond_false, cond_true, Option.bind_some, hi, hx], by omega⟩
      · exact ⟨s + 1, y + 1, x + 1, by simp only [cond_true, Option.bind_some, hi, hx, hy, hs], by omega⟩
    obtain ⟨s', y', x', e, g⟩ := step
    obtain ⟨s2, y2, x2, e2, g2⟩ := ih (i + 1) s' y' x' (by omega) (by omega) g.1 g.2.1 g.2.2.1 g.2.2.2.1 g.2.2.2.2.1 g.2.2.2.2.2.1 g.2.2.2.2.2.2
    exact ⟨s2, y2, x2, by rw [loopT_inl e]; exact e2, g2⟩

theorem law6c (n a b : Int) (n0 : 0 ≤ n) (n1 : n ≤ 255) : m6 ((n, a, b, ()), ()) = some ((true, ()), ()) := by
  unfold m6
  have hn : w64 n = n := w64_id (by omega) (by omega)
  have t0 := Int.tmod_nonneg (a := n) 5 n0
  have t1 := Int.tmod_lt_of_pos n (show (0 : Int) < 5 by omega)
  have hk : w64 (1 + n.tmod 5) = 1 + n.tmod 5 := w64_id (by omega) (by omega)
  simp only [hn, hk]
  generalize hkk : 1 + n.tmod 5 = k
  have k0 : 1 ≤ k := by omega
  have k1 : k ≤ 5 := by omega
  simp only [m20_in k0 k1, Option.bind_some]
  obtain ⟨s, y, x, e, g1, g2⟩ := loop65 (a := a) (b := b) (q := k.tdiv 2 + 1) k1 k.toNat 0 0 0 0 (by omega) (by omega) (by omega) (by omega) (by omega) (by omega) (by omega) (by omega) (by omega)
  rw [show loopT l6_0_5 ((0, (0, (0, (0, (b, (a, (k.tdiv 2 + 1, (k, ())))))))), ()) = _ from e]
  have hq : k.tdiv 2 = k / 2 := Int.tdiv_eq_ediv_of_nonneg (by omega)
  rw [hq]
  have q0 : k / 2 + 1 > 0 := by omega
  have w1 : w64 (2 * (k / 2 + 1)) = 2 * (k / 2 + 1) := w64_id (by omega) (by omega)
  have w2 : w64 (k / 2 + 1 - 1) = k / 2 := by rw [w64_id (by omega) (by omega)]; omega
  have w3 : w64 (2 * (k / 2)) = 2 * (k / 2) := w64_id (by omega) (by omega)
  have q1 : 2 * (k / 2 + 1) > k := by omega
  have q2 : 2 * (k / 2) ≤ k := by omega
  simp only [Option.bind_some, q0, w1, w2, w3, q1, q2, decide_true, cond_true, m20_0, m20_6, sane_eq, beq_self_eq_true]
  by_cases c1 : x < k / 2 + 1
  · simp only [c1, decide_true, cond_true, Option.bind_some]
  · by_cases c2 : y < k / 2 + 1
    · simp only [c1, c2, decide_true, decide_false, cond_true, cond_false, Option.bind_some]
    · have c3 : s > 0 := by omega
      simp only [c1, c2, c3, decide_true, decide_false, cond_true, cond_false, Option.bind_some]

theorem law6 : ∀ x, Abs.InRs [(.int .u8), (.int .u8), (.int .u8)] x → m6 (x, ()) = some ((true, ()), ()) :=
  fun x h => law6c x.1 x.2.1 x.2.2.1 h.1.1 h.1.2
end Go.Proofs.Ytigpidafkicggaa
