/- Lemmas for the statement of the last text of this claim. -/
import Derived.Test.YtfbikpbejkgegaaChecked
import Derived.Test.YtfbikpbejkgegaaPxL
import Derived.ProofKit
import Derived.Test.YtfbikpbejkgegaaPxK
import Derived.Test.YtfbikpbejkgegaaV9C
set_option linter.unusedSimpArgs false
set_option linter.unusedVariables false
namespace Go.Proofs.Ytfbikpbejkgegaa
open Go Go.Abs Go.Raft
theorem Keeps.next {a b c : RT} (h : Keeps a b) (k : Keeps b c) : Keeps a c := by
  obtain ⟨h1, h2, h3⟩ := h
  obtain ⟨k1, k2, k3⟩ := k
  refine ⟨by omega, by omega, ?_⟩
  have := congrArg (List.take a.commit.toNat) k3
  rw [List.take_take, List.take_take, show min a.commit.toNat b.commit.toNat = a.commit.toNat by omega] at this
  rw [this, h3]

/-- What was committed stays at its place. -/
theorem keeps_committed {n : Int} {r x : RT} (hr : Chk n r) (hx : Chk n x) (h : Keeps r x) : (committed r).length ≤ (committed x).length ∧ (committed x).take (committed r).length = committed r := by
  obtain ⟨a1, a2⟩ := committed_len hr
  obtain ⟨b1, b2⟩ := committed_len hx
  obtain ⟨h1, h2, h3⟩ := h
  refine ⟨by omega, ?_⟩
  rw [a1]
  unfold committed
  rw [← List.map_take, List.take_take, show min r.commit.toNat x.commit.toNat = r.commit.toNat by omega, h3]

theorem loop9a (n i : Int) (m8 : Int × Int × Int × Int × Int × Int × Int × Bool × Unit) (r : RT) : ∀ (q : Nat) (d : Dice) (ents : Log OpT), DOK d → q ≤ 1000 → ents.length + q ≤ 1000 →
    ∃ (ents' : Log OpT) (d' : Dice), loopT l9_0_12 (((q : Int), n, i, ()), ((m8, ()), ((d, ()), ((r, ()), (ents, ()))))) = some ((n, i, ()), ((d', ()), ((r, ()), ((m8, ()), (ents', ()))))) ∧ DOK d' ∧ ents'.length ≤ 1000 := by
  obtain ⟨k, f, t, tm, p, pt, cm, ok, ⟨⟩⟩ := m8
  intro q
  induction q with
  | zero =>
    intro d ents hd _ hl
    refine ⟨ents, d, loopT_inr ?_, hd, hl⟩
    simp only [l9_0_12, show decide (((0 : Nat) : Int) > 0) = false from rfl, decide_true, decide_false, cond_true, cond_false, Option.bind_some, Bool.not_true, Bool.not_false, sumE, Bool.true_and, Bool.and_true, Bool.false_and, Bool.and_false, beq_self_eq_true, bne_self_eq_false]
  | succ q ih =>
    intro d ents hd hq hl
    have hpos : decide (((q + 1 : Nat) : Int) > 0) = true := decide_eq_true (by omega)
    obtain ⟨a, d1, e1, hd1, _⟩ := one_spec [tm, (if (1 : Int) > r.term then 1 else r.term), 1] d hd (by simp) (by simp)
    obtain ⟨b, d2, e2, hd2, _⟩ := next_spec 60 d1 hd1 (by omega)
    obtain ⟨ents', d', e3, h1, h2⟩ := ih d2 (ents ++ [(a, (w64 (1 + b), 2, 0, 0, 0, 0, 0, 0, 0, (0, 0, 0, 0, 0, 0, ()), (0, 0, 0, 0, 0, ()), ()), ())]) hd2 (by omega) (by simp only [List.length_append, List.length_singleton]; omega)
    refine ⟨ents', d', ?_, h1, h2⟩
    rw [← e3]
    refine loopT_inl ?_
    have hw : w64 (((q + 1 : Nat) : Int) - 1) = (q : Int) := by rw [w64_id (by omega) (by omega)]; omega
    have hlen : decide (ents.length + ([(a, (w64 (1 + b), 2, 0, 0, 0, 0, 0, 0, 0, (0, 0, 0, 0, 0, 0, ()), (0, 0, 0, 0, 0, ()), ()), ())] : Log OpT).length ≤ 4294967296) = true := decide_eq_true (by simp only [List.length_singleton]; omega)
    simp only [l9_0_12, hpos, decide_true, decide_false, cond_true, cond_false, Option.bind_some, Bool.not_true, Bool.not_false, sumE, Bool.true_and, Bool.and_true, Bool.false_and, Bool.and_false, beq_self_eq_true, bne_self_eq_false]
    rw [show m41 (([tm, (if (1 : Int) > r.2.1 then 1 else r.2.1), 1], ()), ((d, ()), ())) = _ from e1]
    simp only [decide_true, decide_false, cond_true, cond_false, Option.bind_some, Bool.not_true, Bool.not_false, sumE, Bool.true_and, Bool.and_true, Bool.false_and, Bool.and_false, beq_self_eq_true, bne_self_eq_false, e2, hw]
    rw [hlen]
    rfl

theorem loop9b (n : Int) (hn1 : 1 ≤ n) (hn5 : n ≤ 5) : ∀ (q j : Nat) (d : Dice) (r : RT), j + q = 8 → DOK d → Chk n r →
    loopT l9_0_8 (((j : Int), n, ()), ((d, ()), ((r, ()), ()))) = some (.inr ((), ())) := by
  intro q
  induction q with
  | zero =>
    intro j d r hj hd hC
    refine loopT_inr ?_
    have : ¬ (j : Int) < 8 := by omega
    simp only [l9_0_8, decide_eq_false this, decide_true, decide_false, cond_true, cond_false, Option.bind_some, Bool.not_true, Bool.not_false, sumE, Bool.true_and, Bool.and_true, Bool.false_and, Bool.and_false, beq_self_eq_true, bne_self_eq_false]
  | succ q ih =>
    intro j d r hj hd hC
    have hlt : decide ((j : Int) < 8) = true := decide_eq_true (by omega)
    have hn0 : decide (n ≠ (0 : Int)) = true := decide_eq_true (by omega)
    have hs := shrt_of hC
    have hll := hC.ll
    obtain ⟨a1, d1, e1, hd1, _⟩ := next_spec 2 d hd (by omega)
    have hw2 : w64 ((r.log.length : Int) + 2) = (r.log.length : Int) + 2 := w64_id (by omega) (by omega)
    obtain ⟨a2, d2, e2, hd2, _⟩ := next_spec ((r.log.length : Int) + 2) d1 hd1 (by omega)
    obtain ⟨a3, d3, e3, hd3, _⟩ := one_spec [lastT r.log, r.term, 1] d2 hd2 (by simp) (by simp)
    obtain ⟨a4, d4, e4, hd4, _⟩ := next_spec 6 d3 hd3 (by omega)
    obtain ⟨a5, d5, e5, hd5, b5, _⟩ := next_spec 3 d4 hd4 (by omega)
    have b5 := b5 (by omega)
    obtain ⟨ents, d6, e6, hd6, hle⟩ := loop9a n (j : Int) (3, ((w64 (r.id + 1)).tmod n), r.id, (w64 ((if (1 : Int) > r.term then 1 else r.term) + a1)), a2, a3, a4, false, ()) r a5.toNat d5 [] hd5 (by omega) (by simp only [List.length_nil]; omega)
    rw [Int.toNat_of_nonneg b5.1] at e6
    obtain ⟨a7, d7, e7, hd7, _⟩ := next_spec 4 d6 hd6 (by omega)
    have hm := m47_eq n r (mg 3 ((w64 (r.id + 1)).tmod n) r.id (w64 ((if (1 : Int) > r.term then 1 else r.term) + a1)) a2 a3 a4 ents false) hs (show ents.length ≤ 1000000 by omega)
    generalize hA : accept n r (mg 3 ((w64 (r.id + 1)).tmod n) r.id (w64 ((if (1 : Int) > r.term then 1 else r.term) + a1)) a2 a3 a4 ents false) = A at hm
    have hCA : Chk n A.1 := by rw [← hA]; exact chk_accept hC
    have hKA : Keeps r A.1 := by rw [← hA]; exact keeps_accept _ hC
    have e49 := m49_eq n A.1 (shrt_of hCA)
    simp only [restartE, chk_iff.2 hCA, if_true] at e49
    obtain ⟨x, hx⟩ : ∃ x : RT, x = if a7 = 0 then restartR A.1 else A.1 := ⟨_, rfl⟩
    have hCx : Chk n x := by rw [hx]; split; exact chk_restart hCA; exact hCA
    have hKx : Keeps r x := by rw [hx]; split; exact Keeps.next hKA (keeps_restart _); exact hKA
    obtain ⟨k1, k2⟩ := keeps_committed hC hCx hKx
    rw [← ih (j + 1) d7 x (by omega) hd7 hCx]
    refine loopT_inl ?_
    simp only [l9_0_8, hlt, hn0, decide_true, decide_false, cond_true, cond_false, Option.bind_some, Bool.not_true, Bool.not_false, sumE, Bool.true_and, Bool.and_true, Bool.false_and, Bool.and_false, beq_self_eq_true, bne_self_eq_false, e1]
    rw [show w64 ((r.2.2.2.2.1.length : Int) + 2) = _ from hw2]
    simp only [e2, m22_eq r hs, decide_true, decide_false, cond_true, cond_false, Option.bind_some, Bool.not_true, Bool.not_false, sumE, Bool.true_and, Bool.and_true, Bool.false_and, Bool.and_false, beq_self_eq_true, bne_self_eq_false]
    rw [show m41 (([lastT r.log, r.2.1, 1], ()), ((d2, ()), ())) = _ from e3]
    simp only [decide_true, decide_false, cond_true, cond_false, Option.bind_some, Bool.not_true, Bool.not_false, sumE, Bool.true_and, Bool.and_true, Bool.false_and, Bool.and_false, beq_self_eq_true, bne_self_eq_false, e4, e5]
    rw [show loopT l9_0_12 ((a5, (n, ((j : Int), ()))), (((3, (((w64 (r.1 + 1)).tmod n), (r.1, ((w64 ((if (1 : Int) > r.2.1 then 1 else r.2.1) + a1)), (a2, (a3, (a4, (false, ())))))))), ()), ((d5, ()), (((r.1, (r.2.1, r.2.2)), ()), ([], ()))))) = _ from e6]
    simp only [decide_true, decide_false, cond_true, cond_false, Option.bind_some, Bool.not_true, Bool.not_false, sumE, Bool.true_and, Bool.and_true, Bool.false_and, Bool.and_false, beq_self_eq_true, bne_self_eq_false]
    rw [show m47 ((n, (r, ((3, (((w64 (r.id + 1)).tmod n), (r.id, ((w64 ((if (1 : Int) > r.term then 1 else r.term) + a1)), (a2, (a3, (a4, (ents, (false, ()))))))))), ()))), ()) = _ from hm]
    simp only [decide_true, decide_false, cond_true, cond_false, Option.bind_some, Bool.not_true, Bool.not_false, sumE, Bool.true_and, Bool.and_true, Bool.false_and, Bool.and_false, beq_self_eq_true, bne_self_eq_false]
    refine bind_of ((n, (j : Int), ()), ((d7, ()), ((r, ()), ((x, ()), ())))) ?_ ?_
    · simp only [e7, decide_true, decide_false, cond_true, cond_false, Option.bind_some, Bool.not_true, Bool.not_false, sumE, Bool.true_and, Bool.and_true, Bool.false_and, Bool.and_false, beq_self_eq_true, bne_self_eq_false, beq_decide]
      by_cases h0 : a7 = 0
      · rw [hx, if_pos h0]
        simp only [decide_eq_true h0, decide_true, decide_false, cond_true, cond_false, Option.bind_some, Bool.not_true, Bool.not_false, sumE, Bool.true_and, Bool.and_true, Bool.false_and, Bool.and_false, beq_self_eq_true, bne_self_eq_false, e49]
        rfl
      · rw [hx, if_neg h0]
        simp only [decide_eq_false h0, decide_true, decide_false, cond_true, cond_false, Option.bind_some, Bool.not_true, Bool.not_false, sumE, Bool.true_and, Bool.and_true, Bool.false_and, Bool.and_false, beq_self_eq_true, bne_self_eq_false]
    · have e50 := m50_eq r (by omega)
      have e50x := m50_eq x (by have := hCx.ll; omega)
      have e27 := m27_eq n x (shrt_of hCx)
      rw [chk_iff.2 hCx] at e27
      have ht : decide (x.term < r.term) = false := decide_eq_false (by have := hKx.1; omega)
      have hlc : decide (((committed x).length : Int) < ((committed r).length : Int)) = false := decide_eq_false (by omega)
      have g1 : decide ((0 : Int) ≤ ((committed r).length : Int)) = true := decide_eq_true (by omega)
      have g2 : decide (0 ≤ (committed r).length ∧ (committed r).length ≤ (committed x).length) = true := decide_eq_true ⟨by omega, k1⟩
      have g3 : decide (0 + (committed r).length ≤ (committed x).length) = true := decide_eq_true (by omega)
      have e51 := m51_refl (committed r) (by have := committed_len hC; omega)
      simp only [e50, e50x, e27, decide_true, decide_false, cond_true, cond_false, Option.bind_some, Bool.not_true, Bool.not_false, sumE, Bool.true_and, Bool.and_true, Bool.false_and, Bool.and_false, beq_self_eq_true, bne_self_eq_false]
      rw [show decide (x.2.1 < r.2.1) = false from ht]
      simp only [decide_true, decide_false, cond_true, cond_false, Option.bind_some, Bool.not_true, Bool.not_false, sumE, Bool.true_and, Bool.and_true, Bool.false_and, Bool.and_false, beq_self_eq_true, bne_self_eq_false, hlc, g1]
      simp only [Int.toNat_natCast, g2, g3, decide_true, decide_false, cond_true, cond_false, Option.bind_some, Bool.not_true, Bool.not_false, sumE, Bool.true_and, Bool.and_true, Bool.false_and, Bool.and_false, beq_self_eq_true, bne_self_eq_false, List.drop_zero, k2, e51, w64_nat (show j ≤ 4294967296 by omega)]

theorem law9c (l : List Int) : m9 ((l, ()), ()) = some ((true, ()), ()) := by
  unfold m9
  simp only [light, Option.bind_some, sane33]
  by_cases hl : l.length ≤ 500
  · simp only [decide_eq_true hl, decide_true, decide_false, cond_true, cond_false, Option.bind_some, Bool.not_true, Bool.not_false, sumE, Bool.true_and, Bool.and_true, Bool.false_and, Bool.and_false, beq_self_eq_true, bne_self_eq_false, roll]
    obtain ⟨c, d1, e1, hc, hd1, ht⟩ := m19_ok 20 (by omega) (by omega) (dok0 hl)
    simp only [e1, Option.bind_some]
    have n1 := hc.n1; have n5 := hc.n5
    obtain ⟨i, d2, e2, hd2, b2, _⟩ := next_spec c.reps.length d1 hd1 (by omega)
    have b2 := b2 (by omega)
    rw [show m20 (((c.1.length : Int), ()), ((d1, ()), ())) = _ from e2]
    obtain ⟨r, hr, _⟩ := rep_at b2.1 b2.2
    have hC := (hc.v.rp _ r hr).2
    simp only [decide_true, decide_false, cond_true, cond_false, Option.bind_some, Bool.not_true, Bool.not_false, sumE, Bool.true_and, Bool.and_true, Bool.false_and, Bool.and_false, beq_self_eq_true, bne_self_eq_false, rowAt_G, rowG_int b2.1 (show c.1[i.toNat]? = some r from hr)]
    have lp := loop9b (c.reps.length : Int) (by omega) (by omega) 8 0 d2 r (by omega) hd2 hC
    rw [show loopT l9_0_8 ((0, ((c.1.length : Int), ())), ((d2, ()), ((r, ()), ()))) = _ from lp]
    simp only [decide_true, decide_false, cond_true, cond_false, Option.bind_some, Bool.not_true, Bool.not_false, sumE, Bool.true_and, Bool.and_true, Bool.false_and, Bool.and_false, beq_self_eq_true, bne_self_eq_false]
  · simp only [decide_eq_false hl, decide_true, decide_false, cond_true, cond_false, Option.bind_some, Bool.not_true, Bool.not_false, sumE, Bool.true_and, Bool.and_true, Bool.false_and, Bool.and_false, beq_self_eq_true, bne_self_eq_false]

theorem law9 : ∀ x, Abs.InRs [.row (.int .i64)] x → m9 (x, ()) = some ((true, ()), ()) := fun x _ => law9c x.1

end Go.Proofs.Ytfbikpbejkgegaa
