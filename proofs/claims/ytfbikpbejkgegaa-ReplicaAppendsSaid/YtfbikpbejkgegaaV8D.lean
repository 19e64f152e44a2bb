/- Lemmas for the statement of the last text of this claim. -/
import Derived.Test.YtfbikpbejkgegaaChecked
import Derived.Test.YtfbikpbejkgegaaPxL
import Derived.ProofKit
import Derived.Test.YtfbikpbejkgegaaPxK
import Derived.Test.YtfbikpbejkgegaaV8C
set_option linter.unusedSimpArgs false
set_option linter.unusedVariables false
namespace Go.Proofs.Ytfbikpbejkgegaa
open Go Go.Abs Go.Raft
abbrev Dice := List Int × Int × Unit

def DOK (d : Dice) : Prop := 0 ≤ d.2.1 ∧ d.2.1 ≤ d.1.length ∧ d.1.length ≤ 500

theorem next_spec (n : Int) (d : Dice) (hd : DOK d) (hn : n ≤ 9223372036854775807) :
    ∃ (r : Int) (d' : Dice), m20 ((n, ()), ((d, ()), ())) = some ((r, ()), ((d', ()), ())) ∧ DOK d' ∧ (1 ≤ n → 0 ≤ r ∧ r < n) ∧ (n < 1 → r = 0) := by
  obtain ⟨l, at_, u⟩ := d
  obtain ⟨h1, h2, h3⟩ := hd
  simp only at h1 h2 h3
  unfold m20
  simp only [rowAt_G]
  by_cases c1 : at_ ≥ (l.length : Int)
  · refine ⟨0, (l, at_, ()), ?_, ⟨h1, h2, h3⟩, fun h => ⟨by omega, by omega⟩, fun _ => rfl⟩
    simp only [decide_eq_true c1, decide_true, decide_false, cond_true, cond_false, Option.bind_some, Bool.not_true, Bool.not_false, sumE, Bool.true_and, Bool.and_true, Bool.false_and, Bool.and_false, beq_self_eq_true, bne_self_eq_false]
  · by_cases c2 : n < 1
    · refine ⟨0, (l, at_, ()), ?_, ⟨h1, h2, h3⟩, fun h => ⟨by omega, by omega⟩, fun _ => rfl⟩
      simp only [decide_eq_false c1, decide_eq_true c2, decide_true, decide_false, cond_true, cond_false, Option.bind_some, Bool.not_true, Bool.not_false, sumE, Bool.true_and, Bool.and_true, Bool.false_and, Bool.and_false, beq_self_eq_true, bne_self_eq_false]
    · have hat : w64 (at_ + 1) = at_ + 1 := w64_id (by omega) (by omega)
      have hne : n ≠ 0 := by omega
      obtain ⟨e, he⟩ := getD_some (l := l) (i := at_.toNat) (by omega)
      have hb := Int.tmod_lt_of_pos e (show (0 : Int) < n by omega)
      have hb2 : -n < e.tmod n := by
        have := Int.lt_tmod_of_pos e (show (0 : Int) < n by omega)
        omega
      by_cases c3 : e.tmod n < 0
      · refine ⟨e.tmod n + n, (l, at_ + 1, ()), ?_, ⟨by simp only; omega, by simp only; omega, h3⟩, fun h => ⟨by omega, by omega⟩, fun h => by omega⟩
        simp only [decide_eq_false c1, decide_eq_false c2, decide_true, decide_false, cond_true, cond_false, Option.bind_some, Bool.not_true, Bool.not_false, sumE, Bool.true_and, Bool.and_true, Bool.false_and, Bool.and_false, beq_self_eq_true, bne_self_eq_false, rowG_int h1 he, decide_eq_true hne, decide_eq_true c3, hat, w64_id (x := e.tmod n + n) (by omega) (by omega)]
      · refine ⟨e.tmod n, (l, at_ + 1, ()), ?_, ⟨by simp only; omega, by simp only; omega, h3⟩, fun h => ⟨by omega, by omega⟩, fun h => by omega⟩
        simp only [decide_eq_false c1, decide_eq_false c2, decide_true, decide_false, cond_true, cond_false, Option.bind_some, Bool.not_true, Bool.not_false, sumE, Bool.true_and, Bool.and_true, Bool.false_and, Bool.and_false, beq_self_eq_true, bne_self_eq_false, rowG_int h1 he, decide_eq_true hne, decide_eq_false c3, hat]

theorem one_spec (l : List Int) (d : Dice) (hd : DOK d) (h0 : 0 < l.length) (h1 : l.length ≤ 4294967296) :
    ∃ (r : Int) (d' : Dice), m41 ((l, ()), ((d, ()), ())) = some ((r, ()), ((d', ()), ())) ∧ DOK d' ∧ r ∈ l := by
  obtain ⟨n, d', e1, e2, e3, _⟩ := next_spec l.length d hd (by omega)
  obtain ⟨hn0, hn1⟩ := e3 (by omega)
  obtain ⟨r, hr⟩ := getD_some (l := l) (i := n.toNat) (by omega)
  refine ⟨r, d', ?_, e2, List.mem_of_getElem? hr⟩
  unfold m41
  simp only [e1, Option.bind_some, rowAt_G, rowG_int hn0 hr]

theorem bind_ex {A B : Type} {o : Option A} {f : A → Option B} {P : A → Prop} {Q : B → Prop} (h : ∃ a, o = some a ∧ P a) (h2 : ∀ a, P a → ∃ b, f a = some b ∧ Q b) : ∃ b, o.bind f = some b ∧ Q b := by
  obtain ⟨a, rfl, ha⟩ := h
  exact h2 a ha

/-- What a step of the dice leaves. -/
def ActP (c0 : CT) (b : Unit × ((Dice × Unit) × (CT × Unit) × Unit)) : Prop := ∃ (c : CT) (d : Dice), b = ((), ((d, ()), ((c, ()), ()))) ∧ CG c ∧ c.reps.length = c0.reps.length ∧ DOK d ∧ ∀ T, TB c0 T → TB c (T + 1)

theorem m74_ok {c : CT} (h : CG c) {d : Dice} (hd : DOK d) : ∃ b, m74 ((c, ()), ((d, ()), ())) = some b ∧ ActP c b := by
  have n1 := h.n1; have n5 := h.n5; have wl := h.wl
  have hs := h.sh
  unfold m74
  obtain ⟨i, d1, e1, hd1, b1, _⟩ := next_spec c.reps.length d hd (by omega)
  have b1 := b1 (by omega)
  simp only []
  rw [show m20 (((c.1.length : Int), ()), ((d, ()), ())) = _ from e1]
  simp only [Option.bind_some]
  refine bind_ex (P := fun v => ∃ (i : Int) (d : Dice), v = ((i, ()), ((d, ()), (u2, ((c, ()), ())))) ∧ 0 ≤ i ∧ i < (c.reps.length : Int) ∧ DOK d) ?_ ?_
  · simp only [m43_eq c hs, Option.bind_some]
    cases hl : (leaderC c).2
    · simp only [decide_true, decide_false, cond_true, cond_false, Option.bind_some, Bool.not_true, Bool.not_false, sumE, Bool.true_and, Bool.and_true, Bool.false_and, Bool.and_false, beq_self_eq_true, bne_self_eq_false]
      exact ⟨_, rfl, i, d1, rfl, b1.1, b1.2, hd1⟩
    · obtain ⟨n, d2, e2, hd2, b2, _⟩ := next_spec 3 d1 hd1 (by omega)
      have hk := leader_spec hl
      simp only [decide_true, decide_false, cond_true, cond_false, Option.bind_some, Bool.not_true, Bool.not_false, sumE, Bool.true_and, Bool.and_true, Bool.false_and, Bool.and_false, beq_self_eq_true, bne_self_eq_false, e2]
      by_cases hn : n > 0
      · simp only [decide_eq_true hn, decide_true, decide_false, cond_true, cond_false, Option.bind_some, Bool.not_true, Bool.not_false, sumE, Bool.true_and, Bool.and_true, Bool.false_and, Bool.and_false, beq_self_eq_true, bne_self_eq_false]
        exact ⟨_, rfl, _, d2, rfl, hk.2.1, hk.2.2.1, hd2⟩
      · simp only [decide_eq_false hn, decide_true, decide_false, cond_true, cond_false, Option.bind_some, Bool.not_true, Bool.not_false, sumE, Bool.true_and, Bool.and_true, Bool.false_and, Bool.and_false, beq_self_eq_true, bne_self_eq_false]
        exact ⟨_, rfl, _, d2, rfl, b1.1, b1.2, hd2⟩
  clear e1 hd1
  rintro _ ⟨i, d1, rfl, i0, i1, hd1⟩
  obtain ⟨k, d2, e2, hd2, _, _⟩ := next_spec c.wire.length d1 hd1 (by omega)
  simp only []
  rw [show m20 (((c.2.1.length : Int), ()), ((d1, ()), ())) = _ from e2]
  simp only [Option.bind_some]
  refine bind_ex (P := fun v => ∃ (k : Int) (d : Dice), v = ((i, (k, ())), ((d, ()), (u2, ((c, ()), ())))) ∧ DOK d) ?_ ?_
  · obtain ⟨n, d3, e3, hd3, _, _⟩ := next_spec 2 d2 hd2 (by omega)
    simp only [e3, Option.bind_some, beq_decide]
    by_cases hn : n = 0
    · simp only [decide_eq_true hn, decide_true, decide_false, cond_true, cond_false, Option.bind_some, Bool.not_true, Bool.not_false, sumE, Bool.true_and, Bool.and_true, Bool.false_and, Bool.and_false, beq_self_eq_true, bne_self_eq_false]
      exact ⟨_, rfl, 0, d3, rfl, hd3⟩
    · simp only [decide_eq_false hn, decide_true, decide_false, cond_true, cond_false, Option.bind_some, Bool.not_true, Bool.not_false, sumE, Bool.true_and, Bool.and_true, Bool.false_and, Bool.and_false, beq_self_eq_true, bne_self_eq_false]
      exact ⟨_, rfl, k, d3, rfl, hd3⟩
  clear e2 hd2 hd1
  rintro _ ⟨k, d1, rfl, hd1⟩
  refine bind_ex (P := fun v => ∃ (e : Int) (d : Dice) (x : CT), v = ((e, ()), ((d, ()), (u2, ((c, ()), ((x, ()), ()))))) ∧ DOK d ∧ (e = 0 → CG x ∧ x.reps.length = c.reps.length ∧ ∀ T, TB c T → TB x (T + 1))) ?_ ?_
  · obtain ⟨n, d2, e2, hd2, b2, _⟩ := next_spec 16 d1 hd1 (by omega)
    have b2 := b2 (by omega)
    simp only [e2, Option.bind_some, beq_decide]
    have hn : n = 0 ∨ n = 1 ∨ n = 2 ∨ n = 3 ∨ n = 4 ∨ n = 5 ∨ n = 6 ∨ n = 7 ∨ n = 8 ∨ n = 9 ∨ n = 10 ∨ n = 11 ∨ n = 12 ∨ n = 13 ∨ n = 14 ∨ n = 15 := by omega
    have up : ∀ {x : CT} {T : Int}, TB x T → TB x (T + 1) := fun h => h.le (by omega)
    rcases hn with rfl | rfl | rfl | rfl | rfl | rfl | rfl | rfl | rfl | rfl | rfl | rfl | rfl | rfl | rfl | rfl
    · simp only [decide_true, decide_false, cond_true, cond_false, Option.bind_some, Bool.not_true, Bool.not_false, sumE, Bool.true_and, Bool.and_true, Bool.false_and, Bool.and_false, beq_self_eq_true, bne_self_eq_false, m116_eq c i hs]
      exact ⟨_, rfl, _, d2, _, rfl, hd2, fun h0 => ⟨(cg_stand h h0).1, (cg_stand h h0).2, fun T hT => tb_stand h hT h0⟩⟩
    · obtain ⟨q, d3, e3, hd3, _, _⟩ := next_spec 60 d2 hd2 (by omega)
      simp only [Int.reduceEq, decide_true, decide_false, cond_true, cond_false, Option.bind_some, Bool.not_true, Bool.not_false, sumE, Bool.true_and, Bool.and_true, Bool.false_and, Bool.and_false, beq_self_eq_true, bne_self_eq_false, e3, m118_eq c _ _ hs]
      exact ⟨_, rfl, _, d3, _, rfl, hd3, fun h0 => ⟨(cg_propose h h0).1, (cg_propose h h0).2, fun T hT => up (tb_propose h hT h0)⟩⟩
    · obtain ⟨q, d3, e3, hd3, _, _⟩ := next_spec 60 d2 hd2 (by omega)
      simp only [Int.reduceEq, decide_true, decide_false, cond_true, cond_false, Option.bind_some, Bool.not_true, Bool.not_false, sumE, Bool.true_and, Bool.and_true, Bool.false_and, Bool.and_false, beq_self_eq_true, bne_self_eq_false, e3, m118_eq c _ _ hs]
      exact ⟨_, rfl, _, d3, _, rfl, hd3, fun h0 => ⟨(cg_propose h h0).1, (cg_propose h h0).2, fun T hT => up (tb_propose h hT h0)⟩⟩
    · simp only [Int.reduceEq, decide_true, decide_false, cond_true, cond_false, Option.bind_some, Bool.not_true, Bool.not_false, sumE, Bool.true_and, Bool.and_true, Bool.false_and, Bool.and_false, beq_self_eq_true, bne_self_eq_false, m117_eq c _ hs]
      exact ⟨_, rfl, _, d2, _, rfl, hd2, fun h0 => ⟨(cg_beat h h0).1, congrArg List.length (cg_beat h h0).2, fun T hT => up (tb_beat hT h0)⟩⟩
    · simp only [Int.reduceEq, decide_true, decide_false, cond_true, cond_false, Option.bind_some, Bool.not_true, Bool.not_false, sumE, Bool.true_and, Bool.and_true, Bool.false_and, Bool.and_false, beq_self_eq_true, bne_self_eq_false, m117_eq c _ hs]
      exact ⟨_, rfl, _, d2, _, rfl, hd2, fun h0 => ⟨(cg_beat h h0).1, congrArg List.length (cg_beat h h0).2, fun T hT => up (tb_beat hT h0)⟩⟩
    · simp only [Int.reduceEq, decide_true, decide_false, cond_true, cond_false, Option.bind_some, Bool.not_true, Bool.not_false, sumE, Bool.true_and, Bool.and_true, Bool.false_and, Bool.and_false, beq_self_eq_true, bne_self_eq_false, m105_eq c _ hs]
      exact ⟨_, rfl, _, d2, _, rfl, hd2, fun h0 => ⟨(cg_deliver h h0).1, (cg_deliver h h0).2.1, fun T hT => up (tb_deliver hT h0)⟩⟩
    · simp only [Int.reduceEq, decide_true, decide_false, cond_true, cond_false, Option.bind_some, Bool.not_true, Bool.not_false, sumE, Bool.true_and, Bool.and_true, Bool.false_and, Bool.and_false, beq_self_eq_true, bne_self_eq_false, m105_eq c _ hs]
      exact ⟨_, rfl, _, d2, _, rfl, hd2, fun h0 => ⟨(cg_deliver h h0).1, (cg_deliver h h0).2.1, fun T hT => up (tb_deliver hT h0)⟩⟩
    · simp only [Int.reduceEq, decide_true, decide_false, cond_true, cond_false, Option.bind_some, Bool.not_true, Bool.not_false, sumE, Bool.true_and, Bool.and_true, Bool.false_and, Bool.and_false, beq_self_eq_true, bne_self_eq_false, m105_eq c _ hs]
      exact ⟨_, rfl, _, d2, _, rfl, hd2, fun h0 => ⟨(cg_deliver h h0).1, (cg_deliver h h0).2.1, fun T hT => up (tb_deliver hT h0)⟩⟩
    · simp only [Int.reduceEq, decide_true, decide_false, cond_true, cond_false, Option.bind_some, Bool.not_true, Bool.not_false, sumE, Bool.true_and, Bool.and_true, Bool.false_and, Bool.and_false, beq_self_eq_true, bne_self_eq_false, m105_eq c _ hs]
      exact ⟨_, rfl, _, d2, _, rfl, hd2, fun h0 => ⟨(cg_deliver h h0).1, (cg_deliver h h0).2.1, fun T hT => up (tb_deliver hT h0)⟩⟩
    · simp only [Int.reduceEq, decide_true, decide_false, cond_true, cond_false, Option.bind_some, Bool.not_true, Bool.not_false, sumE, Bool.true_and, Bool.and_true, Bool.false_and, Bool.and_false, beq_self_eq_true, bne_self_eq_false, m105_eq c _ hs]
      exact ⟨_, rfl, _, d2, _, rfl, hd2, fun h0 => ⟨(cg_deliver h h0).1, (cg_deliver h h0).2.1, fun T hT => up (tb_deliver hT h0)⟩⟩
    · simp only [Int.reduceEq, decide_true, decide_false, cond_true, cond_false, Option.bind_some, Bool.not_true, Bool.not_false, sumE, Bool.true_and, Bool.and_true, Bool.false_and, Bool.and_false, beq_self_eq_true, bne_self_eq_false, m105_eq c _ hs]
      exact ⟨_, rfl, _, d2, _, rfl, hd2, fun h0 => ⟨(cg_deliver h h0).1, (cg_deliver h h0).2.1, fun T hT => up (tb_deliver hT h0)⟩⟩
    · simp only [Int.reduceEq, decide_true, decide_false, cond_true, cond_false, Option.bind_some, Bool.not_true, Bool.not_false, sumE, Bool.true_and, Bool.and_true, Bool.false_and, Bool.and_false, beq_self_eq_true, bne_self_eq_false, m119_eq c _ hs]
      exact ⟨_, rfl, _, d2, _, rfl, hd2, fun h0 => ⟨(cg_drop h h0).1, congrArg List.length (cg_drop h h0).2, fun T hT => up (tb_drop hT h0)⟩⟩
    · simp only [Int.reduceEq, decide_true, decide_false, cond_true, cond_false, Option.bind_some, Bool.not_true, Bool.not_false, sumE, Bool.true_and, Bool.and_true, Bool.false_and, Bool.and_false, beq_self_eq_true, bne_self_eq_false, m120_eq c _ hs]
      exact ⟨_, rfl, _, d2, _, rfl, hd2, fun h0 => ⟨(cg_double h h0).1, congrArg List.length (cg_double h h0).2, fun T hT => up (tb_double hT h0)⟩⟩
    · simp only [Int.reduceEq, decide_true, decide_false, cond_true, cond_false, Option.bind_some, Bool.not_true, Bool.not_false, sumE, Bool.true_and, Bool.and_true, Bool.false_and, Bool.and_false, beq_self_eq_true, bne_self_eq_false, m121_eq c _ hs]
      exact ⟨_, rfl, _, d2, _, rfl, hd2, fun h0 => ⟨(cg_crash h h0).1, congrArg List.length (cg_crash h h0).2, fun T hT => up (tb_crash hT h0)⟩⟩
    · obtain ⟨q, d3, e3, hd3, _, _⟩ := next_spec c.reps.length d2 hd2 (by omega)
      simp only [Int.reduceEq, decide_true, decide_false, cond_true, cond_false, Option.bind_some, Bool.not_true, Bool.not_false, sumE, Bool.true_and, Bool.and_true, Bool.false_and, Bool.and_false, beq_self_eq_true, bne_self_eq_false, e3, m122_eq c _ hs]
      exact ⟨_, rfl, _, d3, _, rfl, hd3, fun h0 => ⟨(cg_restart h h0).1, (cg_restart h h0).2, fun T hT => up (tb_restart hT h0)⟩⟩
    · obtain ⟨q, d3, e3, hd3, _, _⟩ := next_spec 2 d2 hd2 (by omega)
      obtain ⟨h1, h2⟩ := m123_eq c hs
      simp only [Int.reduceEq, decide_true, decide_false, cond_true, cond_false, Option.bind_some, Bool.not_true, Bool.not_false, sumE, Bool.true_and, Bool.and_true, Bool.false_and, Bool.and_false, beq_self_eq_true, bne_self_eq_false, h1, e3]
      by_cases hq : q = 0
      · obtain ⟨j, d4, e4, hd4, _, _⟩ := next_spec c.reps.length d3 hd3 (by omega)
        simp only [decide_eq_true hq, decide_true, decide_false, cond_true, cond_false, Option.bind_some, Bool.not_true, Bool.not_false, sumE, Bool.true_and, Bool.and_true, Bool.false_and, Bool.and_false, beq_self_eq_true, bne_self_eq_false, e4, m124_eq c _ _ hs]
        exact ⟨_, rfl, _, d4, _, rfl, hd4, fun h0 => ⟨(cg_cut h h0).1, congrArg List.length (cg_cut h h0).2, fun T hT => up (tb_cut hT h0)⟩⟩
      · simp only [decide_eq_false hq, decide_true, decide_false, cond_true, cond_false, Option.bind_some, Bool.not_true, Bool.not_false, sumE, Bool.true_and, Bool.and_true, Bool.false_and, Bool.and_false, beq_self_eq_true, bne_self_eq_false]
        refine ⟨_, rfl, 0, d3, (healC c), ?_, hd3, fun _ => ⟨(cg_heal h).1, congrArg List.length (cg_heal h).2.1, fun T hT => up (tb_heal h hT)⟩⟩
        rw [← h2]
  · rintro _ ⟨e, d2, x, rfl, hd2, hx⟩
    simp only [bne_decide]
    by_cases he : e = 0
    · simp only [he, ne_eq, not_true_eq_false, not_false_eq_true, eq_self, decide_true, decide_false, cond_true, cond_false, Option.bind_some, Bool.not_true, Bool.not_false, sumE, Bool.true_and, Bool.and_true, Bool.false_and, Bool.and_false, beq_self_eq_true, bne_self_eq_false]
      exact ⟨_, rfl, x, d2, rfl, (hx he).1, (hx he).2.1, hd2, (hx he).2.2⟩
    · simp only [he, ne_eq, not_true_eq_false, not_false_eq_true, eq_self, decide_true, decide_false, cond_true, cond_false, Option.bind_some, Bool.not_true, Bool.not_false, sumE, Bool.true_and, Bool.and_true, Bool.false_and, Bool.and_false, beq_self_eq_true, bne_self_eq_false]
      exact ⟨_, rfl, c, d2, rfl, h, rfl, hd2, fun T hT => hT.le (by omega)⟩

theorem acts_ok : ∀ (k : Nat) (c : CT) (d : Dice), k ≤ 1000 → CG c → DOK d → ∃ (c' : CT) (d' : Dice), loopT l19_0_5 (((k : Int), ()), ((d, ()), ((c, ()), (u2, ())))) = some ((), ((d', ()), (u2, ((c', ()), ())))) ∧ CG c' ∧ DOK d' ∧ ∀ T, TB c T → TB c' (T + k) := by
  intro k
  induction k with
  | zero =>
    intro c d _ h hd
    refine ⟨c, d, loopT_inr ?_, h, hd, fun T hT => hT.le (by omega)⟩
    have : ¬ ((0 : Nat) : Int) > 0 := by omega
    simp only [l19_0_5, decide_eq_false this, decide_true, decide_false, cond_true, cond_false, Option.bind_some, Bool.not_true, Bool.not_false, sumE, Bool.true_and, Bool.and_true, Bool.false_and, Bool.and_false, beq_self_eq_true, bne_self_eq_false]
  | succ k ih =>
    intro c d hk h hd
    obtain ⟨b, e1, c1, d1, rfl, h1, _, hd1, ht1⟩ := m74_ok h hd
    obtain ⟨c', d', e2, h2, hd2, ht2⟩ := ih c1 d1 (by omega) h1 hd1
    refine ⟨c', d', ?_, h2, hd2, fun T hT => (ht2 _ (ht1 T hT)).le (by omega)⟩
    rw [← e2]
    refine loopT_inl ?_
    have hp : ((k + 1 : Nat) : Int) > 0 := by omega
    have hw : w64 (((k + 1 : Nat) : Int) - 1) = (k : Int) := by rw [w64_id (by omega) (by omega)]; omega
    simp only [l19_0_5, decide_eq_true hp, decide_true, decide_false, cond_true, cond_false, Option.bind_some, Bool.not_true, Bool.not_false, sumE, Bool.true_and, Bool.and_true, Bool.false_and, Bool.and_false, beq_self_eq_true, bne_self_eq_false, e1, hw]

theorem stand_new {n i : Int} (h1 : 1 ≤ n) (h5 : n ≤ 5) (i0 : 0 ≤ i) (i1 : i < n) : readyE (newC n) i = 0 ∧ (standC (newC n) i).1 = 0 := by
  obtain ⟨hg, hl⟩ := cg_new h1 h5
  have hr : readyE (newC n) i = 0 := ready_iff.2 ⟨hg.v, i0, by omega⟩
  refine ⟨hr, ?_⟩
  unfold standC
  have hd : downAt (newC n) i = false := by
    show ((List.replicate n.toNat false)[i.toNat]?.getD false) = false
    rw [List.getElem?_replicate]; split <;> rfl
  obtain ⟨r, e1, e1'⟩ := rep_at (c := newC n) i0 (by omega)
  have hC := (hg.v.rp _ _ e1).2
  have ht : r.term = 0 := by
    have : ((List.range n.toNat).map (rep0 : Nat → RT))[i.toNat]? = some r := e1
    simp only [List.getElem?_map, Option.map_eq_some_iff] at this
    obtain ⟨j, _, rfl⟩ := this
    rfl
  rw [if_pos hr, if_neg (by rw [hd]; simp), e1']
  simp only
  have hs : (stand ((newC n).reps.length : Int) r).1 = 0 := by
    unfold stand
    rw [if_pos (chk_iff.2 hC), if_neg (by omega)]
  have hsl := stand_len ((newC n).reps.length : Int) r
  rw [if_pos hs, if_neg]
  show ¬ (([] : List MT).length + _ > 256)
  simp only [List.length_nil]; omega

theorem m19_ok (n : Int) (hn0 : 0 ≤ n) (hn : n ≤ 100) {d : Dice} (hd : DOK d) : ∃ (c : CT) (d' : Dice), m19 ((n, ()), ((d, ()), ())) = some ((), ((d', ()), ((c, ()), ()))) ∧ CG c ∧ DOK d' ∧ TB c (n + 1) := by
  obtain ⟨q, d1, e1, hd1, hq⟩ := one_spec [3, 3, 2, 5, 1] d hd (by simp) (by simp)
  have hq : 1 ≤ q ∧ q ≤ 5 := by simp at hq; omega
  obtain ⟨hg, hl⟩ := cg_new hq.1 hq.2
  obtain ⟨e2, _, _⟩ := m72_eq q
  have hne : newE q = (0, newC q) := by
    unfold newE
    rw [if_neg (by rw [quorum_eq hq.1 hq.2]; omega)]
  rw [hne] at e2
  have key : ∃ b, m19 ((n, ()), ((d, ()), ())) = some b ∧ ∃ (c : CT) (d' : Dice), b = ((), ((d', ()), ((c, ()), ()))) ∧ CG c ∧ DOK d' ∧ TB c (n + 1) := by
    unfold m19
    simp only [e1, Option.bind_some, e2]
    refine bind_ex (P := fun v => ∃ (d : Dice) (c : CT), v = ((n, ()), ((d, ()), ((c, ()), (u2, ())))) ∧ DOK d ∧ CG c ∧ TB c 1) ?_ ?_
    · obtain ⟨a, d2, e3, hd2, _, _⟩ := next_spec 2 d1 hd1 (by omega)
      simp only [e3, Option.bind_some, beq_decide]
      by_cases ha : a = 0
      · obtain ⟨i, d3, e4, hd3, b3, _⟩ := next_spec (newC q).reps.length d2 hd2 (by omega)
        have b3 := b3 (by omega)
        obtain ⟨s1, s2⟩ := stand_new hq.1 hq.2 b3.1 (by omega)
        obtain ⟨e, c', e5, g1, _, g3⟩ := m73_ok hg i
        have he := g3 s1 s2
        simp only [decide_eq_true ha, decide_true, decide_false, cond_true, cond_false, Option.bind_some, Bool.not_true, Bool.not_false, sumE, Bool.true_and, Bool.and_true, Bool.false_and, Bool.and_false, beq_self_eq_true, bne_self_eq_false, e4]
        rw [show m73 ((((newC q).reps, ([], ((newC q).down, ([], ())))), (i, ())), ()) = _ from e5]
        exact ⟨_, rfl, d3, c', rfl, hd3, (g1 he).1, (g1 he).2.2 0 (tb_new q)⟩
      · simp only [decide_eq_false ha, decide_true, decide_false, cond_true, cond_false, Option.bind_some, Bool.not_true, Bool.not_false, sumE, Bool.true_and, Bool.and_true, Bool.false_and, Bool.and_false, beq_self_eq_true, bne_self_eq_false]
        exact ⟨_, rfl, d2, newC q, rfl, hd2, hg, (tb_new q).le (by omega)⟩
    · rintro _ ⟨d2, c, rfl, hd2, hc, hT⟩
      have hw : w64 (n + 1) = n + 1 := w64_id (by omega) (by omega)
      obtain ⟨k, d3, e3, hd3, b3, _⟩ := next_spec (n + 1) d2 hd2 (by omega)
      have b3 := b3 (by omega)
      obtain ⟨c', d', e4, g1, g2, g3⟩ := acts_ok k.toNat c d3 (by omega) hc hd3
      rw [Int.toNat_of_nonneg b3.1] at e4
      simp only [hw, e3, Option.bind_some]
      rw [show loopT l19_0_5 ((k, ()), ((d3, ()), ((c, ()), (((), ()), ())))) = _ from e4]
      exact ⟨_, rfl, c', d', rfl, g1, g2, (g3 _ hT).le (by omega)⟩
  obtain ⟨b, h1, c, d', rfl, h2, h3, h4⟩ := key
  exact ⟨c, d', h1, h2, h3, h4⟩

end Go.Proofs.Ytfbikpbejkgegaa

namespace Go.Proofs.Ytfbikpbejkgegaa
open Go Go.Abs Go.Raft
theorem CG.voted {c : CT} (h : CG c) {j : Nat} {r : RT} (hj : c.reps[j]? = some r) (hr : r.role = 1 ∨ r.role = 2) : r.voted = (j : Int) := by
  obtain ⟨g, hi, _⟩ := h.gd
  have hn := hi.nod j r hj
  rcases hr with hr | hr
  · exact hn.v1 _ _ (hn.cd hr).1
  · obtain ⟨R, hR, hw, _⟩ := hn.ld hr
    have := (hi.rcd _ R hR).vt
    rw [hw] at this
    exact hn.v1 _ _ this

theorem asks_len' : ∀ n ≤ 5, ∀ i < n, ((List.range n).filter (fun (j : Nat) => decide ((j : Int) ≠ (i : Int)))).length = n - 1 := by decide

theorem light (l : List Int) : m16 ((l, ()), ()) = some ((decide (l.length ≤ 500), ()), ()) := by
  unfold m16
  have : decide ((l.length : Int) ≤ 500) = decide (l.length ≤ 500) := by
    by_cases h : l.length ≤ 500
    · rw [decide_eq_true h, decide_eq_true (by omega)]
    · rw [decide_eq_false h, decide_eq_false (by omega)]
  rw [this]

theorem roll (l : List Int) : m18 ((l, ()), ()) = some ((), (((l, (0, ())), ()), ())) := rfl

theorem dok0 {l : List Int} (h : l.length ≤ 500) : DOK (l, 0, ()) := ⟨Int.le_refl _, by simp only; omega, h⟩

end Go.Proofs.Ytfbikpbejkgegaa

namespace Go.Proofs.Ytfbikpbejkgegaa
open Go Go.Abs Go.Raft
theorem sane33 : m42 ((), ()) = some ((true, ()), ()) := by kernel_rfl

end Go.Proofs.Ytfbikpbejkgegaa

namespace Go.Proofs.Ytfbikpbejkgegaa
open Go Go.Abs Go.Raft
end Go.Proofs.Ytfbikpbejkgegaa

namespace Go.Proofs.Ytfbikpbejkgegaa
open Go Go.Abs Go.Raft
end Go.Proofs.Ytfbikpbejkgegaa

namespace Go.Proofs.Ytfbikpbejkgegaa
open Go Go.Abs Go.Raft
theorem agree_full {l e : Log OpT} (h : ∀ (i : Nat) (x : Ent OpT), e[i]? = some x → ∃ y : Ent OpT, l[i]? = some y ∧ y.1 = x.1) : agree l e = e.length := by
  have h1 := agree_le l e
  rcases Nat.lt_or_ge (agree l e) e.length with hlt | hge
  · obtain ⟨x, hx⟩ := getD_some hlt
    obtain ⟨y, hy, hxy⟩ := h _ x hx
    rcases agree_stop l e hlt with h2 | ⟨a, b, h2, h3, h4⟩
    · rw [hy] at h2; cases h2
    · rw [hy] at h2; rw [hx] at h3; cases h2; cases h3; exact absurd hxy h4
  · omega

theorem joined_again {l : Log OpT} {p : Nat} {e : Log OpT} (hp : p ≤ l.length) : joined (joined l p e).1 p e = ((joined l p e).1, (joined l p e).1.length) := by
  have hs := agree_le (l.drop p) e
  rw [List.length_drop] at hs
  have hf : agree ((joined l p e).1.drop p) e = e.length := by
    refine agree_full (fun i x hx => ?_)
    have hi := (List.getElem?_eq_some_iff.1 hx).1
    rw [List.getElem?_drop]
    unfold joined
    simp only
    split
    · rename_i hall
      obtain ⟨a, b, h1, h2, h3⟩ := agree_spec (l.drop p) e i (by omega)
      rw [hx] at h2; cases h2
      rw [List.getElem?_drop] at h1
      exact ⟨a, h1, h3⟩
    · rename_i hall
      rcases Nat.lt_or_ge i (agree (l.drop p) e) with hlt | hge
      · obtain ⟨a, b, h1, h2, h3⟩ := agree_spec (l.drop p) e i hlt
        rw [hx] at h2; cases h2
        rw [List.getElem?_drop] at h1
        refine ⟨a, ?_, h3⟩
        rw [List.getElem?_append_left (by rw [List.length_take]; omega), List.getElem?_take_of_lt (by omega)]
        exact h1
      · refine ⟨x, ?_, rfl⟩
        have hlen : (l.take (p + agree (l.drop p) e)).length = p + agree (l.drop p) e := by rw [List.length_take]; omega
        rw [List.getElem?_append_right (by omega), List.getElem?_drop, hlen, show agree (l.drop p) e + (p + i - (p + agree (l.drop p) e)) = i by omega]
        exact hx
  generalize (joined l p e).1 = q at hf
  unfold joined
  simp only
  rw [if_pos hf]

/-- What an accepted append makes. -/
theorem accept_ok {n : Int} {r : RT} {m : MT} (h2 : (accept n r m).2.2 = true) (h3 : (accept n r m).2.1.ok = true) :
    acceptable n r m = true ∧ fits (back r m.term) m = true ∧ logFits (joined (back r m.term).log m.prev.toNat m.ents).1 m.term = true ∧ (back r m.term).commit ≤ ((joined (back r m.term).log m.prev.toNat m.ents).2 : Int) ∧
    accept n r m = (rp (back r m.term).id (back r m.term).term (back r m.term).voted (back r m.term).role (joined (back r m.term).log m.prev.toNat m.ents).1 (max (back r m.term).commit (min m.commit (m.prev + m.ents.length))) (back r m.term).votes (back r m.term).mtch,
      mg 4 r.id m.frm (back r m.term).term (m.prev + m.ents.length) 0 0 [] true, true) := by
  by_cases ha : acceptable n r m = true
  · by_cases hf : fits (back r m.term) m = true
    · by_cases hj : (logFits (joined (back r m.term).log m.prev.toNat m.ents).1 m.term && decide ((back r m.term).commit ≤ ((joined (back r m.term).log m.prev.toNat m.ents).2 : Int))) = true
      · have hj' := hj
        rw [Bool.and_eq_true, decide_eq_true_eq] at hj'
        refine ⟨ha, hf, hj'.1, hj'.2, ?_⟩
        unfold accept
        rw [if_pos ha]
        simp only
        rw [if_pos hf, if_pos hj]
      · unfold accept at h2
        rw [if_pos ha] at h2
        simp only at h2
        rw [if_pos hf, if_neg hj] at h2
        cases h2
    · unfold accept at h3
      rw [if_pos ha] at h3
      simp only at h3
      rw [if_neg hf] at h3
      cases h3
  · unfold accept at h2
    rw [if_neg ha] at h2
    cases h2

theorem back_again {r : RT} {t : Int} (h : r.term = t) (hr : r.role = 0) : back r t = r := by
  unfold back
  have : fol r t = r := by unfold fol; rw [if_neg (by omega)]
  simp only [this]
  rw [if_neg (by omega)]

theorem pterm_take {l a : Log OpT} {p : Int} (h0 : 0 ≤ p) (e : a.take p.toNat = l.take p.toNat) : ptermAt a p = ptermAt l p := by
  unfold ptermAt
  split
  · have : a[(p - 1).toNat]? = l[(p - 1).toNat]? := by
      rw [← List.getElem?_take_of_lt (l := a) (show (p - 1).toNat < p.toNat by omega), e, List.getElem?_take_of_lt (by omega)]
    rw [this]
  · rfl

theorem accept_twice {n : Int} {r : RT} {m : MT} (h2 : (accept n r m).2.2 = true) (h3 : (accept n r m).2.1.ok = true) : accept n (accept n r m).1 m = accept n r m := by
  obtain ⟨ha, hf, hl, hc, e⟩ := accept_ok h2 h3
  have ha' := ha
  simp only [acceptable, Bool.and_eq_true, decide_eq_true_eq] at ha'
  obtain ⟨⟨⟨ho, hp⟩, hpt⟩, hcm⟩ := ha'
  obtain ⟨hC, hk, hto, hf0, hf1, hfi, ht1, ht2⟩ := toOK_iff.1 ho
  have hCA : Chk n (accept n r m).1 := chk_accept hC
  have hbid := back_id r m.term
  have hCb := chk_back (t := m.term) hC ht2
  rw [e] at hCA ⊢
  simp only at hCA ⊢
  generalize hx : back r m.term = x at *
  have hft := hf
  simp only [fits, Bool.and_eq_true, decide_eq_true_eq, Bool.or_eq_true] at hft
  obtain ⟨⟨⟨f1, f2⟩, f3⟩, f4⟩ := hft
  have hr0 : x.role = 0 := by
    rcases role_cases hCb.ro with h0 | h0 | h0
    · exact h0
    · exact absurd h0 (by rw [← hx] at f1 ⊢; exact back_role f1.symm)
    · exact absurd h0 f2
  have hpl : m.prev.toNat ≤ x.log.length := by omega
  have hja := joined_again (e := m.ents) hpl
  have hje := joined_end (e := m.ents) hpl
  have hjt : (joined x.log m.prev.toNat m.ents).1.take m.prev.toNat = x.log.take m.prev.toNat := by
    unfold joined
    simp only
    split
    · rfl
    · rw [List.take_append_of_le_length (by rw [List.length_take]; omega), List.take_take, Nat.min_eq_left (by omega)]
  generalize joined x.log m.prev.toNat m.ents = j at *
  have hA0 : toOK n (rp x.id x.term x.voted x.role j.1 (max x.commit (min m.commit (m.prev + m.ents.length))) x.votes x.mtch) m 3 = true :=
    toOK_iff.2 ⟨hCA, hk, by rw [hto]; exact hbid.symm, hf0, hf1, by simp only [rp_id]; omega, ht1, ht2⟩
  have hA : acceptable n (rp x.id x.term x.voted x.role j.1 (max x.commit (min m.commit (m.prev + m.ents.length))) x.votes x.mtch) m = true := by
    simp only [acceptable, Bool.and_eq_true, decide_eq_true_eq]
    exact ⟨⟨⟨hA0, hp⟩, hpt⟩, hcm⟩
  have hB : back (rp x.id x.term x.voted x.role j.1 (max x.commit (min m.commit (m.prev + m.ents.length))) x.votes x.mtch) m.term = rp x.id x.term x.voted x.role j.1 (max x.commit (min m.commit (m.prev + m.ents.length))) x.votes x.mtch :=
    back_again f1.symm hr0
  have hF : fits (rp x.id x.term x.voted x.role j.1 (max x.commit (min m.commit (m.prev + m.ents.length))) x.votes x.mtch) m = true := by
    simp only [fits, Bool.and_eq_true, decide_eq_true_eq, Bool.or_eq_true]
    refine ⟨⟨⟨f1, f2⟩, ?_⟩, f4.imp id fun h => ?_⟩
    · show m.prev ≤ (j.1.length : Int)
      omega
    · rw [← h]; exact pterm_take hp hjt
  have hcA := hCA.c1
  conv => lhs; unfold accept
  rw [if_pos hA, hB]
  simp only
  rw [if_pos hF]
  simp only [rp_log, rp_id, rp_term, rp_voted, rp_role, rp_commit, rp_votes, rp_mtch] at hcA ⊢
  rw [hja]
  simp only
  rw [if_pos (by rw [Bool.and_eq_true, decide_eq_true_eq]; exact ⟨hl, hcA⟩)]
  rw [hbid, show max (max x.commit (min m.commit (m.prev + (m.ents.length : Int)))) (min m.commit (m.prev + (m.ents.length : Int))) = max x.commit (min m.commit (m.prev + (m.ents.length : Int))) by omega]

theorem back_log (r : RT) (t : Int) : (back r t).log = r.log := by
  unfold back fol
  simp only
  split <;> split <;> rfl

/-- An accepted append brings a log to the leader's. -/
theorem accept_leader {n : Nat} {reps : List RT} {g : Gh OpT} (h : Inv n reps g) {i j : Nat} {l b : RT} (hi : reps[i]? = some l) (hj : reps[j]? = some b) {m : MT} (p1 : m.prev ≤ (l.log.length : Int)) (hpt : m.pterm = ptermAt l.log m.prev)
    (he : m.ents = l.log.drop m.prev.toNat) (h2 : (accept n b m).2.2 = true) (h3 : (accept n b m).2.1.ok = true) :
    (accept n b m).1.log.take l.log.length = l.log ∧ (accept n b m).2.1.prev = (l.log.length : Int) := by
  obtain ⟨ha, hf, hl, hc, e⟩ := accept_ok h2 h3
  simp only [acceptable, Bool.and_eq_true, decide_eq_true_eq] at ha
  obtain ⟨⟨⟨ho, p0⟩, _⟩, hcm⟩ := ha
  simp only [fits, Bool.and_eq_true, decide_eq_true_eq, Bool.or_eq_true, back_log] at hf
  obtain ⟨⟨⟨f1, f2⟩, f3⟩, f4⟩ := hf
  have hlp := (h.nod i l hi).lp
  have hbp := (h.nod j b hj).lp
  have hlen : m.ents.length = l.log.length - m.prev.toNat := by rw [he, List.length_drop]
  have htk : b.log.take m.prev.toNat = l.log.take m.prev.toNat := by
    rcases f4 with f4 | f4
    · rw [f4]; rfl
    · by_cases hz : m.prev = 0
      · rw [hz]; rfl
      · rw [hpt] at f4
        unfold ptermAt at f4
        rw [if_pos (by omega), if_pos (by omega)] at f4
        obtain ⟨x, hx⟩ := getD_some (l := b.log) (i := (m.prev - 1).toNat) (by omega)
        obtain ⟨y, hy⟩ := getD_some (l := l.log) (i := (m.prev - 1).toNat) (by omega)
        rw [hx, hy] at f4
        have := hbp.same hlp hx hy f4
        rwa [show (m.prev - 1).toNat + 1 = m.prev.toNat by omega] at this
  obtain ⟨j1, _, _⟩ := joined_spec (ents := m.ents) hbp hlp htk (by omega) (by omega) (by rw [he, List.length_drop]; exact List.take_of_length_le (by rw [List.length_drop]; exact Nat.le_refl _))
  rw [e]
  simp only [rp_log, mg_prev, back_log]
  constructor
  · rw [show m.prev.toNat + m.ents.length = l.log.length by omega, List.take_length] at j1
    exact j1
  · omega

theorem loop8 {c : CT} (h : CG c) {k : Nat} {l : RT} (hl : c.reps[k]? = some l) (hr : l.role = 2) (out : List MT) (ho : out.length ≤ 5)
    (hm : ∀ m ∈ out, ∃ j : Nat, j < c.reps.length ∧ m = appendM l j) : ∀ (q i : Nat), i + q = out.length →
    loopT l8_0_14 (((i : Int), (c.reps.length : Int), (out.length : Int), ()), ((l, ()), ((c, ()), (out, ())))) = some (.inr ((), ())) := by
  have hC := (h.v.rp k l hl).2
  obtain ⟨v1, v2, v3, v4, v5⟩ := (role2_iff hr).1 hC.ro
  have hll := hC.ll
  have n5 := h.n5
  intro q
  induction q with
  | zero =>
    intro i hi
    refine loopT_inr ?_
    have : ¬ (i : Int) < (out.length : Int) := by omega
    simp only [l8_0_14, decide_eq_false this, decide_true, decide_false, cond_true, cond_false, Option.bind_some, Bool.not_true, Bool.not_false, sumE, Bool.true_and, Bool.and_true, Bool.false_and, Bool.and_false, beq_self_eq_true, bne_self_eq_false]
  | succ q ih =>
    intro i hi
    obtain ⟨m, hmi⟩ := getD_some (l := out) (i := i) (by omega)
    obtain ⟨j, hj, hmj⟩ := hm m (List.mem_of_getElem? hmi)
    have hlt : decide ((i : Int) < (out.length : Int)) = true := decide_eq_true (by omega)
    have hbd : decide ((0 : Int) ≤ (i : Int) ∧ (i : Int) < (out.length : Int)) = true := decide_eq_true (by omega)
    obtain ⟨b, hb⟩ := getD_some (l := c.reps) (i := j) hj
    obtain ⟨p, hp⟩ := getD_some (l := l.mtch) (i := j) (by omega)
    obtain ⟨p0, p1⟩ := v5 p (List.mem_of_getElem? hp)
    have m_to : m.to = (j : Int) := by rw [hmj]; rfl
    have m_prev : m.prev = p := by rw [hmj]; unfold appendM; rw [mg_prev, hp]; rfl
    have m_pt : m.pterm = ptermAt l.log p := by rw [hmj]; unfold appendM; rw [mg_pterm, hp]; rfl
    have m_en : m.ents = l.log.drop p.toNat := by rw [hmj]; unfold appendM; rw [mg_ents, hp]; rfl
    have m_len : (m.ents.length : Int) = (l.log.length : Int) - p := by rw [m_en, List.length_drop]; omega
    clear hmj
    rw [← ih (i + 1) (by omega)]
    refine loopT_inl ?_
    have hCb := (h.v.rp j b hb).2
    have e47 := m47_eq (c.reps.length : Int) b m (shrt_of hCb) (by omega)
    have hs1 : decide (m.2.2.1 < 0) = false := decide_eq_false (show ¬ m.to < 0 by omega)
    have hs2 : decide (m.2.2.1 ≥ (c.reps.length : Int)) = false := decide_eq_false (show ¬ m.to ≥ _ by omega)
    have hs3 : (m.2.2.2.2.1 != p) = false := by rw [bne_decide]; exact decide_eq_false (fun hne => hne m_prev)
    have hw : w64 (m.2.2.2.2.1 + (m.2.2.2.2.2.2.2.1.length : Int)) = (l.log.length : Int) := by
      show w64 (m.prev + (m.ents.length : Int)) = _
      rw [m_prev, m_len, show p + ((l.log.length : Int) - p) = (l.log.length : Int) by omega]
      exact w64_id (by omega) (by omega)
    have hto : m.2.2.1 = (j : Int) := m_to
    have hs4 : ((l.log.length : Int) != (l.2.2.2.2.1.length : Int)) = false := bne_self_eq_false _
    simp only [l8_0_14, hlt, decide_true, decide_false, cond_true, cond_false, Option.bind_some, Bool.not_true, Bool.not_false, sumE, Bool.true_and, Bool.and_true, Bool.false_and, Bool.and_false, beq_self_eq_true, bne_self_eq_false]
    refine bind_of (.inl (((c.reps.length : Int), (out.length : Int), (i : Int), ()), ((l, ()), ((c, ()), (out, ()))))) ?_ ?_
    · simp only [hbd, decide_true, decide_false, cond_true, cond_false, Option.bind_some, Bool.not_true, Bool.not_false, sumE, Bool.true_and, Bool.and_true, Bool.false_and, Bool.and_false, beq_self_eq_true, bne_self_eq_false, Int.toNat_natCast, hmi]
      refine bind_of ((false, (c.reps.length : Int), (out.length : Int), (i : Int), ()), ((l, ()), ((c, ()), (out, ((m, ()), ()))))) ?_ ?_
      · simp only [hs1, hs2, decide_true, decide_false, cond_true, cond_false, Option.bind_some, Bool.not_true, Bool.not_false, sumE, Bool.true_and, Bool.and_true, Bool.false_and, Bool.and_false, beq_self_eq_true, bne_self_eq_false]
        simp only [rowAt_G, hto, rowG_nat (show l.2.2.2.2.2.2.2.1[j]? = some p from hp), hs3, decide_true, decide_false, cond_true, cond_false, Option.bind_some, Bool.not_true, Bool.not_false, sumE, Bool.true_and, Bool.and_true, Bool.false_and, Bool.and_false, beq_self_eq_true, bne_self_eq_false, hw, hs4]
      · simp only [decide_true, decide_false, cond_true, cond_false, Option.bind_some, Bool.not_true, Bool.not_false, sumE, Bool.true_and, Bool.and_true, Bool.false_and, Bool.and_false, beq_self_eq_true, bne_self_eq_false, rowAt_G, hto, rowG_nat (show c.1[j]? = some b from hb)]
        rw [show m47 (((c.reps.length : Int), (b, (m, ()))), ()) = _ from e47]
        generalize hA : accept (c.reps.length : Int) b m = A at e47
        simp only [decide_true, decide_false, cond_true, cond_false, Option.bind_some, Bool.not_true, Bool.not_false, sumE, Bool.true_and, Bool.and_true, Bool.false_and, Bool.and_false, beq_self_eq_true, bne_self_eq_false]
        refine bind_of ((!A.2.2 || !A.2.1.ok, (c.reps.length : Int), (out.length : Int), (i : Int), ()), ((l, ()), ((c, ()), (out, ((nm A.2.1, ()), ((A.1, ()), ((m, ()), ()))))))) ?_ ?_
        · cases hA2 : A.2.2
          · simp only [decide_true, decide_false, cond_true, cond_false, Option.bind_some, Bool.not_true, Bool.not_false, sumE, Bool.true_and, Bool.and_true, Bool.false_and, Bool.and_false, beq_self_eq_true, bne_self_eq_false, Bool.true_or]
          · simp only [decide_true, decide_false, cond_true, cond_false, Option.bind_some, Bool.not_true, Bool.not_false, sumE, Bool.true_and, Bool.and_true, Bool.false_and, Bool.and_false, beq_self_eq_true, bne_self_eq_false, Bool.false_or]
        · cases hbad : (!A.2.2 || !A.2.1.ok)
          · rw [Bool.or_eq_false_iff] at hbad
            obtain ⟨hb1, hb2⟩ := hbad
            have hb1 : A.2.2 = true := by simpa using hb1
            have hb2 : A.2.1.ok = true := by simpa using hb2
            obtain ⟨g, hi', _⟩ := h.gd
            obtain ⟨q1, q2⟩ := accept_leader hi' hl hb (m := m) (by omega) (by rw [m_pt, m_prev]) (by rw [m_en, m_prev]) (by rw [hA]; exact hb1) (by rw [hA]; exact hb2)
            have htw := accept_twice (n := (c.reps.length : Int)) (r := b) (m := m) (by rw [hA]; exact hb1) (by rw [hA]; exact hb2)
            have hCA : Chk (c.reps.length : Int) A.1 := by rw [← hA]; exact chk_accept hCb
            have hen := accept_ents (c.reps.length : Int) b m
            rw [hA] at q1 q2 htw hen
            have e47' := m47_eq (c.reps.length : Int) A.1 m (shrt_of hCA) (by omega)
            rw [htw] at e47'
            have hAl := hCA.ll
            have hle : l.log.length ≤ A.1.log.length := by
              have := congrArg List.length q1
              rw [List.length_take] at this
              omega
            obtain ⟨p', _, p2, p3, p4, p5⟩ := prefix_spec A.1.log l.log (by omega)
            have p6 := p5 l.log.length hle (Nat.le_refl _) (by rw [q1, List.take_length])
            have hs5 : decide ((p' : Int) < A.2.1.prev) = false := decide_eq_false (by omega)
            have e31 := m31_refl A.1 (shrt_of hCA)
            have e35 := m35_refl (mg A.2.1.kind A.2.1.frm A.2.1.to A.2.1.term A.2.1.prev A.2.1.pterm A.2.1.commit [] A.2.1.ok) (by simp)
            have hs6 : (A.2.1.prev != (l.2.2.2.2.1.length : Int)) = false := by rw [bne_decide]; exact decide_eq_false (fun hne => hne q2)
            simp only [decide_true, decide_false, cond_true, cond_false, Option.bind_some, Bool.not_true, Bool.not_false, sumE, Bool.true_and, Bool.and_true, Bool.false_and, Bool.and_false, beq_self_eq_true, bne_self_eq_false]
            rw [show m47 (((c.reps.length : Int), (A.1, (m, ()))), ()) = _ from e47']
            simp only [decide_true, decide_false, cond_true, cond_false, Option.bind_some, Bool.not_true, Bool.not_false, sumE, Bool.true_and, Bool.and_true, Bool.false_and, Bool.and_false, beq_self_eq_true, bne_self_eq_false]
            refine bind_of ((false, (c.reps.length : Int), (out.length : Int), (i : Int), ()), ((l, ()), ((c, ()), (out, ())))) ?_ ?_
            · rw [show m48 ((A.1.2.2.2.2.1, (l.2.2.2.2.1, ())), ()) = _ from p2]
              simp only [decide_true, decide_false, cond_true, cond_false, Option.bind_some, Bool.not_true, Bool.not_false, sumE, Bool.true_and, Bool.and_true, Bool.false_and, Bool.and_false, beq_self_eq_true, bne_self_eq_false]
              rw [show decide ((p' : Int) < (nm A.2.1).2.2.2.2.1) = false from hs5]
              simp only [decide_true, decide_false, cond_true, cond_false, Option.bind_some, Bool.not_true, Bool.not_false, sumE, Bool.true_and, Bool.and_true, Bool.false_and, Bool.and_false, beq_self_eq_true, bne_self_eq_false]
              rw [show m31 ((A.1, (A.1, ())), ()) = _ from e31]
              simp only [decide_true, decide_false, cond_true, cond_false, Option.bind_some, Bool.not_true, Bool.not_false, sumE, Bool.true_and, Bool.and_true, Bool.false_and, Bool.and_false, beq_self_eq_true, bne_self_eq_false]
              rw [show m35 ((((nm A.2.1).1, ((nm A.2.1).2.1, ((nm A.2.1).2.2.1, ((nm A.2.1).2.2.2.1, ((nm A.2.1).2.2.2.2.1, ((nm A.2.1).2.2.2.2.2.1, ((nm A.2.1).2.2.2.2.2.2.1, ([], ((nm A.2.1).2.2.2.2.2.2.2.1, ()))))))))), (((nm A.2.1).1, ((nm A.2.1).2.1, ((nm A.2.1).2.2.1, ((nm A.2.1).2.2.2.1, ((nm A.2.1).2.2.2.2.1, ((nm A.2.1).2.2.2.2.2.1, ((nm A.2.1).2.2.2.2.2.2.1, ([], ((nm A.2.1).2.2.2.2.2.2.2.1, ()))))))))), ())), ()) = _ from e35]
              simp only [decide_true, decide_false, cond_true, cond_false, Option.bind_some, Bool.not_true, Bool.not_false, sumE, Bool.true_and, Bool.and_true, Bool.false_and, Bool.and_false, beq_self_eq_true, bne_self_eq_false]
              rw [show ((nm A.2.1).2.2.2.2.1 != (l.2.2.2.2.1.length : Int)) = false from hs6]
            · simp only [decide_true, decide_false, cond_true, cond_false, Option.bind_some, Bool.not_true, Bool.not_false, sumE, Bool.true_and, Bool.and_true, Bool.false_and, Bool.and_false, beq_self_eq_true, bne_self_eq_false]
          · simp only [decide_true, decide_false, cond_true, cond_false, Option.bind_some, Bool.not_true, Bool.not_false, sumE, Bool.true_and, Bool.and_true, Bool.false_and, Bool.and_false, beq_self_eq_true, bne_self_eq_false]
    · simp only [decide_true, decide_false, cond_true, cond_false, Option.bind_some, Bool.not_true, Bool.not_false, sumE, Bool.true_and, Bool.and_true, Bool.false_and, Bool.and_false, beq_self_eq_true, bne_self_eq_false, w64_nat (show i ≤ 4294967296 by omega)]

theorem law8c (l : List Int) : m8 ((l, ()), ()) = some ((true, ()), ()) := by
  unfold m8
  simp only [light, Option.bind_some, sane33]
  by_cases hl : l.length ≤ 500
  · simp only [decide_eq_true hl, decide_true, decide_false, cond_true, cond_false, Option.bind_some, Bool.not_true, Bool.not_false, sumE, Bool.true_and, Bool.and_true, Bool.false_and, Bool.and_false, beq_self_eq_true, bne_self_eq_false, roll]
    obtain ⟨c, d1, e1, hc, hd1, ht⟩ := m19_ok 20 (by omega) (by omega) (dok0 hl)
    have n1 := hc.n1; have n5 := hc.n5
    simp only [e1, Option.bind_some, m43_eq c hc.sh]
    refine bind_of ((!(leaderC c).2 || decide ((c.reps.length : Int) < 2), (c.reps.length : Int), (leaderC c).1, ()), ((c, ()), ())) ?_ ?_
    · cases (leaderC c).2 <;> simp only [decide_true, decide_false, cond_true, cond_false, Option.bind_some, Bool.not_true, Bool.not_false, sumE, Bool.true_and, Bool.and_true, Bool.false_and, Bool.and_false, beq_self_eq_true, bne_self_eq_false, Bool.true_or, Bool.false_or]
    · cases hb : (!(leaderC c).2 || decide ((c.reps.length : Int) < 2))
      · rw [Bool.or_eq_false_iff] at hb
        obtain ⟨hb1, hb2⟩ := hb
        have hb2 := of_decide_eq_false hb2
        obtain ⟨V, k0, k1, k2, _⟩ := leader_spec (c := c) (by simpa using hb1)
        obtain ⟨r, hr, hra⟩ := rep_at k0 k1
        rw [hra] at k2
        have hC := (hc.v.rp _ r hr).2
        have hid := hc.id hr k0
        have hap : appendsE (c.reps.length : Int) r = appends (c.reps.length : Int) r := by unfold appendsE; rw [if_pos ⟨chk_iff.2 hC, k2⟩]
        have hlen : (appends (c.reps.length : Int) r).length = c.reps.length - 1 := by
          have := asks_len' c.reps.length n5 (leaderC c).1.toNat (by omega)
          rw [Int.toNat_of_nonneg k0] at this
          simp only [appends, List.length_map, Int.toNat_natCast, hid]
          exact this
        have hmem : ∀ m ∈ appends (c.reps.length : Int) r, ∃ j : Nat, j < c.reps.length ∧ m = appendM r j := by
          intro m hm
          rw [appends_range] at hm
          simp only [List.mem_map, List.mem_filter, List.mem_range', Int.toNat_natCast] at hm
          obtain ⟨j, ⟨⟨q, hq, rfl⟩, _⟩, rfl⟩ := hm
          exact ⟨_, by omega, rfl⟩
        have lp := loop8 hc hr k2 (appends (c.reps.length : Int) r) (by omega) hmem (appends (c.reps.length : Int) r).length 0 (by omega)
        have e46 := m46_eq (c.reps.length : Int) r (shrt_of hC)
        rw [hap] at e46
        have hw : w64 ((c.reps.length : Int) - 1) = (c.reps.length : Int) - 1 := w64_len (by omega)
        have hne : (((appends (c.reps.length : Int) r).length : Int) != (c.reps.length : Int) - 1) = false := by
          rw [bne_decide]; exact decide_eq_false (fun h => h (by omega))
        simp only [decide_true, decide_false, cond_true, cond_false, Option.bind_some, Bool.not_true, Bool.not_false, sumE, Bool.true_and, Bool.and_true, Bool.false_and, Bool.and_false, beq_self_eq_true, bne_self_eq_false, rowAt_G, rowG_int k0 (show c.1[(leaderC c).1.toNat]? = some r from hr)]
        rw [show m46 (((c.reps.length : Int), (r, ())), ()) = _ from e46]
        simp only [decide_true, decide_false, cond_true, cond_false, Option.bind_some, Bool.not_true, Bool.not_false, sumE, Bool.true_and, Bool.and_true, Bool.false_and, Bool.and_false, beq_self_eq_true, bne_self_eq_false, hw, hne]
        rw [show loopT l8_0_14 ((0, ((c.reps.length : Int), (((appends (c.reps.length : Int) r).length : Int), ()))), ((r, ()), ((c, ()), (appends (c.reps.length : Int) r, ())))) = _ from lp]
        simp only [decide_true, decide_false, cond_true, cond_false, Option.bind_some, Bool.not_true, Bool.not_false, sumE, Bool.true_and, Bool.and_true, Bool.false_and, Bool.and_false, beq_self_eq_true, bne_self_eq_false]
      · simp only [decide_true, decide_false, cond_true, cond_false, Option.bind_some, Bool.not_true, Bool.not_false, sumE, Bool.true_and, Bool.and_true, Bool.false_and, Bool.and_false, beq_self_eq_true, bne_self_eq_false]
  · simp only [decide_eq_false hl, decide_true, decide_false, cond_true, cond_false, Option.bind_some, Bool.not_true, Bool.not_false, sumE, Bool.true_and, Bool.and_true, Bool.false_and, Bool.and_false, beq_self_eq_true, bne_self_eq_false]

theorem law8 : ∀ x, Abs.InRs [.row (.int .i64)] x → m8 (x, ()) = some ((true, ()), ()) := fun x _ => law8c x.1

end Go.Proofs.Ytfbikpbejkgegaa
