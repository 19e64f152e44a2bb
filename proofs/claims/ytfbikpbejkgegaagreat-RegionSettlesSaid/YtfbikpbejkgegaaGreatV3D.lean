/- Lemmas for the statement of the last text of this claim. -/
import Derived.Test.YtfbikpbejkgegaaGreatChecked
import Derived.Test.YtfbikpbejkgegaaGreatPxM
import Derived.WalkKit
import Derived.ProofKit
import Derived.Deep.RegionLaw
import Derived.Deep.LoopGhost
import Derived.Lib.Walk
import Derived.Maps.Own
import Derived.Shelf.RegionOpenPlain
import Derived.Lib.LazyBuf
import Derived.Test.YtfbikpbejkgegaaGreatPxK
import Derived.Test.YtfbikpbejkgegaaGreatV3C
set_option linter.unusedSimpArgs false
set_option linter.unusedVariables false
namespace Go.Proofs.YtfbikpbejkgegaaGreat
open Go Go.Abs Go.Raft
abbrev Dice := List Int × Int × Unit

def DOK (d : Dice) : Prop := 0 ≤ d.2.1 ∧ d.2.1 ≤ d.1.length ∧ d.1.length ≤ 500

theorem next_spec (n : Int) (d : Dice) (hd : DOK d) (hn : n ≤ 9223372036854775807) :
    ∃ (r : Int) (d' : Dice), m17 ((n, ()), ((d, ()), ())) = some ((r, ()), ((d', ()), ())) ∧ DOK d' ∧ (1 ≤ n → 0 ≤ r ∧ r < n) ∧ (n < 1 → r = 0) := by
  obtain ⟨l, at_, u⟩ := d
  obtain ⟨h1, h2, h3⟩ := hd
  simp only at h1 h2 h3
  unfold m17
  simp only [rowAt_G]
  by_cases c1 : at_ ≥ (l.length : Int)
  · refine ⟨0, (l, at_, ()), ?_, ⟨h1, h2, h3⟩, fun h => ⟨by omega, by omega⟩, fun _ => rfl⟩
    simp only [decide_eq_true c1, sumE, sS]
  · by_cases c2 : n < 1
    · refine ⟨0, (l, at_, ()), ?_, ⟨h1, h2, h3⟩, fun h => ⟨by omega, by omega⟩, fun _ => rfl⟩
      simp only [decide_eq_false c1, decide_eq_true c2, sumE, sS]
    · have hat : w64 (at_ + 1) = at_ + 1 := w64_id (by omega) (by omega)
      have hne : n ≠ 0 := by omega
      obtain ⟨e, he⟩ := getD_some (l := l) (i := at_.toNat) (by omega)
      have hb := Int.tmod_lt_of_pos e (show (0 : Int) < n by omega)
      have hb2 : -n < e.tmod n := by
        have := Int.lt_tmod_of_pos e (show (0 : Int) < n by omega)
        omega
      by_cases c3 : e.tmod n < 0
      · refine ⟨e.tmod n + n, (l, at_ + 1, ()), ?_, ⟨by simp only; omega, by simp only; omega, h3⟩, fun h => ⟨by omega, by omega⟩, fun h => by omega⟩
        simp only [decide_eq_false c1, decide_eq_false c2, sumE, sS, rowG_int h1 he, decide_eq_true hne, decide_eq_true c3, hat, w64_id (x := e.tmod n + n) (by omega) (by omega)]
      · refine ⟨e.tmod n, (l, at_ + 1, ()), ?_, ⟨by simp only; omega, by simp only; omega, h3⟩, fun h => ⟨by omega, by omega⟩, fun h => by omega⟩
        simp only [decide_eq_false c1, decide_eq_false c2, sumE, sS, rowG_int h1 he, decide_eq_true hne, decide_eq_false c3, hat]

theorem one_spec (l : List Int) (d : Dice) (hd : DOK d) (h0 : 0 < l.length) (h1 : l.length ≤ 4294967296) :
    ∃ (r : Int) (d' : Dice), m52 ((l, ()), ((d, ()), ())) = some ((r, ()), ((d', ()), ())) ∧ DOK d' ∧ r ∈ l := by
  obtain ⟨n, d', e1, e2, e3, _⟩ := next_spec l.length d hd (by omega)
  obtain ⟨hn0, hn1⟩ := e3 (by omega)
  obtain ⟨r, hr⟩ := getD_some (l := l) (i := n.toNat) (by omega)
  refine ⟨r, d', ?_, e2, List.mem_of_getElem? hr⟩
  unfold m52
  simp only [e1, Option.bind_some, rowAt_G, rowG_int hn0 hr]

theorem bind_ex {A B : Type} {o : Option A} {f : A → Option B} {P : A → Prop} {Q : B → Prop} (h : ∃ a, o = some a ∧ P a) (h2 : ∀ a, P a → ∃ b, f a = some b ∧ Q b) : ∃ b, o.bind f = some b ∧ Q b := by
  obtain ⟨a, rfl, ha⟩ := h
  exact h2 a ha

/-! ### The wire grows by few messages -/
theorem wb_stand {c : CT} {i : Int} : (standC c i).2.wire.length ≤ c.wire.length + 5 := by
  unfold standC
  have := stand_len (c.reps.length : Int) (repAt c i)
  dsimp only
  repeat' split
  all_goals first | exact Nat.zero_le _ | (show (c.wire ++ (stand (c.reps.length : Int) (repAt c i)).2.2).length ≤ _; rw [List.length_append]; omega)

theorem wb_beat {c : CT} {i : Int} : (beatC c i).2.wire.length ≤ c.wire.length + 5 := by
  unfold beatC
  have := appends_len (c.reps.length : Int) (repAt c i)
  dsimp only
  repeat' split
  all_goals first | exact Nat.zero_le _ | (show (c.wire ++ appendsE (c.reps.length : Int) (repAt c i)).length ≤ _; rw [List.length_append]; omega)

theorem wb_propose {c : CT} {i : Int} {o : OpT} : (proposeC c i o).2.wire.length ≤ c.wire.length + 5 := by
  unfold proposeC
  dsimp only
  repeat' split
  all_goals first | exact Nat.zero_le _ | exact Nat.le_add_right _ _

theorem cutOut_le (l : List MT) (k : Nat) : (cutOut l k).length ≤ l.length := by
  unfold cutOut
  rw [List.length_append, List.length_take, List.length_drop]; omega

theorem wb_deliver {c : CT} {k : Int} : (deliverC c k).2.wire.length ≤ c.wire.length + 5 := by
  unfold deliverC
  have := cutOut_le c.wire k.toNat
  split
  · simp only
    split
    · exact Nat.le_trans this (Nat.le_add_right _ _)
    · show (cutOut c.wire k.toNat ++ _).length ≤ _
      rw [List.length_append]
      split
      · simp only [List.length_singleton]; omega
      · simp only [List.length_nil]; omega
  · exact Nat.zero_le _

theorem wb_drop {c : CT} {k : Int} : (dropC c k).2.wire.length ≤ c.wire.length + 5 := by
  unfold dropC
  have := cutOut_le c.wire k.toNat
  split
  · exact Nat.le_trans this (Nat.le_add_right _ _)
  · exact Nat.zero_le _

theorem wb_double {c : CT} {k : Int} : (doubleC c k).2.wire.length ≤ c.wire.length + 5 := by
  unfold doubleC
  repeat' split
  all_goals first | exact Nat.zero_le _ | (show (c.wire ++ _).length ≤ _; rw [List.length_append, List.length_singleton]; omega)

theorem wb_crash {c : CT} {i : Int} : (crashC c i).2.wire.length ≤ c.wire.length + 5 := by
  unfold crashC
  repeat' split
  all_goals first | exact Nat.zero_le _ | exact Nat.le_add_right _ _

theorem wb_restart {c : CT} {i : Int} : (restartC c i).2.wire.length ≤ c.wire.length + 5 := by
  unfold restartC
  repeat' split
  all_goals first | exact Nat.zero_le _ | exact Nat.le_add_right _ _

theorem wb_cut {c : CT} {i j : Int} : (cutC c i j).2.wire.length ≤ c.wire.length + 5 := by
  unfold cutC
  repeat' split
  all_goals first | exact Nat.zero_le _ | exact Nat.le_add_right _ _

theorem wb_heal {c : CT} : (healC c).wire.length ≤ c.wire.length + 5 := by
  unfold healC
  split
  · exact Nat.le_add_right _ _
  · exact Nat.zero_le _

/-- What a step of the dice leaves. -/
def ActP (c0 : CT) (b : Unit × ((Dice × Unit) × (CT × Unit) × Unit)) : Prop := ∃ (c : CT) (d : Dice), b = ((), ((d, ()), ((c, ()), ()))) ∧ CG c ∧ c.reps.length = c0.reps.length ∧ DOK d ∧ (∀ T, TB c0 T → TB c (T + 1)) ∧ c.wire.length ≤ c0.wire.length + 5

theorem m53_ok {c : CT} (h : CG c) {d : Dice} (hd : DOK d) : ∃ b, m53 ((c, ()), ((d, ()), ())) = some b ∧ ActP c b := by
  have n1 := h.n1; have n5 := h.n5; have wl := h.wl
  have hs := h.sh
  unfold m53
  obtain ⟨i, d1, e1, hd1, b1, _⟩ := next_spec c.reps.length d hd (by omega)
  have b1 := b1 (by omega)
  simp only []
  rw [show m17 (((c.1.length : Int), ()), ((d, ()), ())) = _ from e1]
  simp only [Option.bind_some]
  refine bind_ex (P := fun v => ∃ (i : Int) (d : Dice), v = ((i, ()), ((d, ()), (u2, ((c, ()), ())))) ∧ 0 ≤ i ∧ i < (c.reps.length : Int) ∧ DOK d) ?_ ?_
  · simp only [m43_eq c hs, Option.bind_some]
    cases hl : (leaderC c).2
    · simp only [sumE, sS]
      exact ⟨_, rfl, i, d1, rfl, b1.1, b1.2, hd1⟩
    · obtain ⟨n, d2, e2, hd2, b2, _⟩ := next_spec 3 d1 hd1 (by omega)
      have hk := leader_spec hl
      simp only [sumE, sS, e2]
      by_cases hn : n > 0
      · simp only [decide_eq_true hn, sumE, sS]
        exact ⟨_, rfl, _, d2, rfl, hk.2.1, hk.2.2.1, hd2⟩
      · simp only [decide_eq_false hn, sumE, sS]
        exact ⟨_, rfl, _, d2, rfl, b1.1, b1.2, hd2⟩
  clear e1 hd1
  rintro _ ⟨i, d1, rfl, i0, i1, hd1⟩
  obtain ⟨k, d2, e2, hd2, _, _⟩ := next_spec c.wire.length d1 hd1 (by omega)
  simp only []
  rw [show m17 (((c.2.1.length : Int), ()), ((d1, ()), ())) = _ from e2]
  simp only [Option.bind_some]
  refine bind_ex (P := fun v => ∃ (k : Int) (d : Dice), v = ((i, (k, ())), ((d, ()), (u2, ((c, ()), ())))) ∧ DOK d) ?_ ?_
  · obtain ⟨n, d3, e3, hd3, _, _⟩ := next_spec 2 d2 hd2 (by omega)
    simp only [e3, Option.bind_some, beq_decide]
    by_cases hn : n = 0
    · simp only [decide_eq_true hn, sumE, sS]
      exact ⟨_, rfl, 0, d3, rfl, hd3⟩
    · simp only [decide_eq_false hn, sumE, sS]
      exact ⟨_, rfl, k, d3, rfl, hd3⟩
  clear e2 hd2 hd1
  rintro _ ⟨k, d1, rfl, hd1⟩
  refine bind_ex (P := fun v => ∃ (e : Int) (d : Dice) (x : CT), v = ((e, ()), ((d, ()), (u2, ((c, ()), ((x, ()), ()))))) ∧ DOK d ∧ (e = 0 → CG x ∧ x.reps.length = c.reps.length ∧ (∀ T, TB c T → TB x (T + 1)) ∧ x.wire.length ≤ c.wire.length + 5)) ?_ ?_
  · obtain ⟨n, d2, e2, hd2, b2, _⟩ := next_spec 16 d1 hd1 (by omega)
    have b2 := b2 (by omega)
    simp only [e2, Option.bind_some, beq_decide]
    have hn : n = 0 ∨ n = 1 ∨ n = 2 ∨ n = 3 ∨ n = 4 ∨ n = 5 ∨ n = 6 ∨ n = 7 ∨ n = 8 ∨ n = 9 ∨ n = 10 ∨ n = 11 ∨ n = 12 ∨ n = 13 ∨ n = 14 ∨ n = 15 := by omega
    have up : ∀ {x : CT} {T : Int}, TB x T → TB x (T + 1) := fun h => h.le (by omega)
    rcases hn with rfl | rfl | rfl | rfl | rfl | rfl | rfl | rfl | rfl | rfl | rfl | rfl | rfl | rfl | rfl | rfl
    · simp only [sumE, sS, m29_eq c i hs]
      exact ⟨_, rfl, _, d2, _, rfl, hd2, fun h0 => ⟨(cg_stand h h0).1, (cg_stand h h0).2, fun T hT => tb_stand h hT h0, wb_stand⟩⟩
    · obtain ⟨q, d3, e3, hd3, _, _⟩ := next_spec 60 d2 hd2 (by omega)
      simp only [Int.reduceEq, sumE, sS, e3, m31_eq c _ _ hs]
      exact ⟨_, rfl, _, d3, _, rfl, hd3, fun h0 => ⟨(cg_propose h h0).1, (cg_propose h h0).2, fun T hT => up (tb_propose h hT h0), wb_propose⟩⟩
    · obtain ⟨q, d3, e3, hd3, _, _⟩ := next_spec 60 d2 hd2 (by omega)
      simp only [Int.reduceEq, sumE, sS, e3, m31_eq c _ _ hs]
      exact ⟨_, rfl, _, d3, _, rfl, hd3, fun h0 => ⟨(cg_propose h h0).1, (cg_propose h h0).2, fun T hT => up (tb_propose h hT h0), wb_propose⟩⟩
    · simp only [Int.reduceEq, sumE, sS, m33_eq c _ hs]
      exact ⟨_, rfl, _, d2, _, rfl, hd2, fun h0 => ⟨(cg_beat h h0).1, congrArg List.length (cg_beat h h0).2, fun T hT => up (tb_beat hT h0), wb_beat⟩⟩
    · simp only [Int.reduceEq, sumE, sS, m33_eq c _ hs]
      exact ⟨_, rfl, _, d2, _, rfl, hd2, fun h0 => ⟨(cg_beat h h0).1, congrArg List.length (cg_beat h h0).2, fun T hT => up (tb_beat hT h0), wb_beat⟩⟩
    · simp only [Int.reduceEq, sumE, sS, m34_eq c _ hs]
      exact ⟨_, rfl, _, d2, _, rfl, hd2, fun h0 => ⟨(cg_deliver h h0).1, (cg_deliver h h0).2.1, fun T hT => up (tb_deliver hT h0), wb_deliver⟩⟩
    · simp only [Int.reduceEq, sumE, sS, m34_eq c _ hs]
      exact ⟨_, rfl, _, d2, _, rfl, hd2, fun h0 => ⟨(cg_deliver h h0).1, (cg_deliver h h0).2.1, fun T hT => up (tb_deliver hT h0), wb_deliver⟩⟩
    · simp only [Int.reduceEq, sumE, sS, m34_eq c _ hs]
      exact ⟨_, rfl, _, d2, _, rfl, hd2, fun h0 => ⟨(cg_deliver h h0).1, (cg_deliver h h0).2.1, fun T hT => up (tb_deliver hT h0), wb_deliver⟩⟩
    · simp only [Int.reduceEq, sumE, sS, m34_eq c _ hs]
      exact ⟨_, rfl, _, d2, _, rfl, hd2, fun h0 => ⟨(cg_deliver h h0).1, (cg_deliver h h0).2.1, fun T hT => up (tb_deliver hT h0), wb_deliver⟩⟩
    · simp only [Int.reduceEq, sumE, sS, m34_eq c _ hs]
      exact ⟨_, rfl, _, d2, _, rfl, hd2, fun h0 => ⟨(cg_deliver h h0).1, (cg_deliver h h0).2.1, fun T hT => up (tb_deliver hT h0), wb_deliver⟩⟩
    · simp only [Int.reduceEq, sumE, sS, m34_eq c _ hs]
      exact ⟨_, rfl, _, d2, _, rfl, hd2, fun h0 => ⟨(cg_deliver h h0).1, (cg_deliver h h0).2.1, fun T hT => up (tb_deliver hT h0), wb_deliver⟩⟩
    · simp only [Int.reduceEq, sumE, sS, m35_eq c _ hs]
      exact ⟨_, rfl, _, d2, _, rfl, hd2, fun h0 => ⟨(cg_drop h h0).1, congrArg List.length (cg_drop h h0).2, fun T hT => up (tb_drop hT h0), wb_drop⟩⟩
    · simp only [Int.reduceEq, sumE, sS, m36_eq c _ hs]
      exact ⟨_, rfl, _, d2, _, rfl, hd2, fun h0 => ⟨(cg_double h h0).1, congrArg List.length (cg_double h h0).2, fun T hT => up (tb_double hT h0), wb_double⟩⟩
    · simp only [Int.reduceEq, sumE, sS, m18_eq c _ hs]
      exact ⟨_, rfl, _, d2, _, rfl, hd2, fun h0 => ⟨(cg_crash h h0).1, congrArg List.length (cg_crash h h0).2, fun T hT => up (tb_crash hT h0), wb_crash⟩⟩
    · obtain ⟨q, d3, e3, hd3, _, _⟩ := next_spec c.reps.length d2 hd2 (by omega)
      simp only [Int.reduceEq, sumE, sS, e3, m39_eq c _ hs]
      exact ⟨_, rfl, _, d3, _, rfl, hd3, fun h0 => ⟨(cg_restart h h0).1, (cg_restart h h0).2, fun T hT => up (tb_restart hT h0), wb_restart⟩⟩
    · obtain ⟨q, d3, e3, hd3, _, _⟩ := next_spec 2 d2 hd2 (by omega)
      obtain ⟨h1, h2⟩ := m9_eq c hs
      simp only [Int.reduceEq, sumE, sS, h1, e3]
      by_cases hq : q = 0
      · obtain ⟨j, d4, e4, hd4, _, _⟩ := next_spec c.reps.length d3 hd3 (by omega)
        simp only [decide_eq_true hq, sumE, sS, e4, m19_eq c _ _ hs]
        exact ⟨_, rfl, _, d4, _, rfl, hd4, fun h0 => ⟨(cg_cut h h0).1, congrArg List.length (cg_cut h h0).2, fun T hT => up (tb_cut hT h0), wb_cut⟩⟩
      · simp only [decide_eq_false hq, sumE, sS]
        refine ⟨_, rfl, 0, d3, (healC c), ?_, hd3, fun _ => ⟨(cg_heal h).1, congrArg List.length (cg_heal h).2.1, fun T hT => up (tb_heal h hT), wb_heal⟩⟩
        rw [← h2]
  · rintro _ ⟨e, d2, x, rfl, hd2, hx⟩
    simp only [bne_decide]
    by_cases he : e = 0
    · simp only [he, ne_eq, not_true_eq_false, not_false_eq_true, eq_self, sumE, sS]
      exact ⟨_, rfl, x, d2, rfl, (hx he).1, (hx he).2.1, hd2, (hx he).2.2.1, (hx he).2.2.2⟩
    · simp only [he, ne_eq, not_true_eq_false, not_false_eq_true, eq_self, sumE, sS]
      exact ⟨_, rfl, c, d2, rfl, h, rfl, hd2, fun T hT => hT.le (by omega), Nat.le_add_right _ _⟩

theorem acts_ok : ∀ (k : Nat) (c : CT) (d : Dice), k ≤ 1000 → CG c → DOK d → ∃ (c' : CT) (d' : Dice), loopT l10_0_5 (((k : Int), ()), ((d, ()), ((c, ()), (u2, ())))) = some ((), ((d', ()), (u2, ((c', ()), ())))) ∧ CG c' ∧ DOK d' ∧ (∀ T, TB c T → TB c' (T + k)) ∧ c'.wire.length ≤ c.wire.length + 5 * k := by
  intro k
  induction k with
  | zero =>
    intro c d _ h hd
    refine ⟨c, d, loopT_inr ?_, h, hd, fun T hT => hT.le (by omega), Nat.le_refl _⟩
    have : ¬ ((0 : Nat) : Int) > 0 := by omega
    simp only [l10_0_5, decide_eq_false this, sumE, sS]
  | succ k ih =>
    intro c d hk h hd
    obtain ⟨b, e1, c1, d1, rfl, h1, _, hd1, ht1, hw1⟩ := m53_ok h hd
    obtain ⟨c', d', e2, h2, hd2, ht2, hw2⟩ := ih c1 d1 (by omega) h1 hd1
    refine ⟨c', d', ?_, h2, hd2, fun T hT => (ht2 _ (ht1 T hT)).le (by omega), by omega⟩
    rw [← e2]
    refine loopT_inl ?_
    have hp : ((k + 1 : Nat) : Int) > 0 := by omega
    have hw : w64 (((k + 1 : Nat) : Int) - 1) = (k : Int) := by rw [w64_id (by omega) (by omega)]; omega
    simp only [l10_0_5, decide_eq_true hp, sumE, sS, e1, hw]

theorem stand_new {n i : Int} (h1 : 1 ≤ n) (h5 : n ≤ 5) (i0 : 0 ≤ i) (i1 : i < n) : readyE (newC n) i = 0 ∧ (standC (newC n) i).1 = 0 := by
  obtain ⟨hg, hl⟩ := cg_new h1 h5
  have hr : readyE (newC n) i = 0 := ready_iff.2 ⟨hg.v, i0, by omega⟩
  refine ⟨hr, ?_⟩
  unfold standC
  have hd : downAt (newC n) i = false := by
    show ((List.replicate n.toNat false)[i.toNat]?.getD false) = false
    rw [List.getElem?_replicate]; split <;> rfl
  obtain ⟨r, e1, e1'⟩ := rep_at (c := newC n) i0 (by omega)
  have hC := (hg.v.rp _ _ e1).2
  have ht : r.term = 0 := by
    have : ((List.range n.toNat).map (rep0 : Nat → RT))[i.toNat]? = some r := e1
    simp only [List.getElem?_map, Option.map_eq_some_iff] at this
    obtain ⟨j, _, rfl⟩ := this
    rfl
  rw [if_pos hr, if_neg (by rw [hd]; simp), e1']
  simp only
  have hs : (stand ((newC n).reps.length : Int) r).1 = 0 := by
    unfold stand
    rw [if_pos (chk_iff.2 hC), if_neg (by omega)]
  have hsl := stand_len ((newC n).reps.length : Int) r
  rw [if_pos hs, if_neg]
  show ¬ (([] : List MT).length + _ > 256)
  simp only [List.length_nil]; omega

theorem m10_okw (n : Int) (hn0 : 0 ≤ n) (hn : n ≤ 100) {d : Dice} (hd : DOK d) : ∃ (c : CT) (d' : Dice), m10 ((n, ()), ((d, ()), ())) = some ((), ((d', ()), ((c, ()), ()))) ∧ CG c ∧ DOK d' ∧ TB c (n + 1) ∧ (c.wire.length : Int) ≤ 5 * n := by
  obtain ⟨q, d1, e1, hd1, hq⟩ := one_spec [3, 3, 2, 5, 1] d hd (by simp) (by simp)
  have hq : 1 ≤ q ∧ q ≤ 5 := by simp at hq; omega
  obtain ⟨hg, hl⟩ := cg_new hq.1 hq.2
  obtain ⟨e2, _, _⟩ := m50_eq q
  have hne : newE q = (0, newC q) := by
    unfold newE
    rw [if_neg (by rw [quorum_eq hq.1 hq.2]; omega)]
  rw [hne] at e2
  have key : ∃ b, m10 ((n, ()), ((d, ()), ())) = some b ∧ ∃ (c : CT) (d' : Dice), b = ((), ((d', ()), ((c, ()), ()))) ∧ CG c ∧ DOK d' ∧ TB c (n + 1) ∧ (c.wire.length : Int) ≤ 5 * n := by
    unfold m10
    simp only [e1, Option.bind_some, e2]
    refine bind_ex (P := fun v => ∃ (d : Dice) (c : CT), v = ((n, ()), ((d, ()), ((c, ()), (u2, ())))) ∧ DOK d ∧ CG c ∧ TB c 1 ∧ c.wire = []) ?_ ?_
    · obtain ⟨a, d2, e3, hd2, _, _⟩ := next_spec 2 d1 hd1 (by omega)
      simp only [e3, Option.bind_some, beq_decide]
      by_cases ha : a = 0
      · obtain ⟨i, d3, e4, hd3, b3, _⟩ := next_spec (newC q).reps.length d2 hd2 (by omega)
        have b3 := b3 (by omega)
        obtain ⟨s1, s2⟩ := stand_new hq.1 hq.2 b3.1 (by omega)
        obtain ⟨e, c', e5, g1, _, g3⟩ := m41_okw hg i
        have he := g3 s1 s2
        simp only [decide_eq_true ha, sumE, sS, e4]
        rw [show m41 ((((newC q).reps, ([], ((newC q).down, ([], ())))), (i, ())), ()) = _ from e5]
        exact ⟨_, rfl, d3, c', rfl, hd3, (g1 he).1, (g1 he).2.2.1 0 (tb_new q), (g1 he).2.2.2⟩
      · simp only [decide_eq_false ha, sumE, sS]
        exact ⟨_, rfl, d2, newC q, rfl, hd2, hg, (tb_new q).le (by omega), rfl⟩
    · rintro _ ⟨d2, c, rfl, hd2, hc, hT, hw0⟩
      have hw : w64 (n + 1) = n + 1 := w64_id (by omega) (by omega)
      obtain ⟨k, d3, e3, hd3, b3, _⟩ := next_spec (n + 1) d2 hd2 (by omega)
      have b3 := b3 (by omega)
      obtain ⟨c', d', e4, g1, g2, g3, g4⟩ := acts_ok k.toNat c d3 (by omega) hc hd3
      rw [Int.toNat_of_nonneg b3.1] at e4
      simp only [hw, e3, Option.bind_some]
      rw [show loopT l10_0_5 ((k, ()), ((d3, ()), ((c, ()), (((), ()), ())))) = _ from e4]
      exact ⟨_, rfl, c', d', rfl, g1, g2, (g3 _ hT).le (by omega), by rw [hw0, List.length_nil] at g4; omega⟩
  obtain ⟨b, h1, c, d', rfl, h2, h3, h4, h5⟩ := key
  exact ⟨c, d', h1, h2, h3, h4, h5⟩

end Go.Proofs.YtfbikpbejkgegaaGreat

namespace Go.Proofs.YtfbikpbejkgegaaGreat
open Go Go.Abs Go.Raft
theorem CG.voted {c : CT} (h : CG c) {j : Nat} {r : RT} (hj : c.reps[j]? = some r) (hr : r.role = 1 ∨ r.role = 2) : r.voted = (j : Int) := by
  obtain ⟨g, hi, _⟩ := h.gd
  have hn := hi.nod j r hj
  rcases hr with hr | hr
  · exact hn.v1 _ _ (hn.cd hr).1
  · obtain ⟨R, hR, hw, _⟩ := hn.ld hr
    have := (hi.rcd _ R hR).vt
    rw [hw] at this
    exact hn.v1 _ _ this

theorem light (l : List Int) : m6 ((l, ()), ()) = some ((decide (l.length ≤ 500), ()), ()) := by
  unfold m6
  have : decide ((l.length : Int) ≤ 500) = decide (l.length ≤ 500) := by
    by_cases h : l.length ≤ 500
    · rw [decide_eq_true h, decide_eq_true (by omega)]
    · rw [decide_eq_false h, decide_eq_false (by omega)]
  rw [this]

theorem roll (l : List Int) : m8 ((l, ()), ()) = some ((), (((l, (0, ())), ()), ())) := rfl

theorem dok0 {l : List Int} (h : l.length ≤ 500) : DOK (l, 0, ()) := ⟨Int.le_refl _, by simp only; omega, h⟩

end Go.Proofs.YtfbikpbejkgegaaGreat

namespace Go.Proofs.YtfbikpbejkgegaaGreat
open Go Go.Abs Go.Raft
end Go.Proofs.YtfbikpbejkgegaaGreat

namespace Go.Proofs.YtfbikpbejkgegaaGreat
open Go Go.Abs Go.Raft
end Go.Proofs.YtfbikpbejkgegaaGreat

namespace Go.Proofs.YtfbikpbejkgegaaGreat
open Go Go.Abs Go.Raft
end Go.Proofs.YtfbikpbejkgegaaGreat

namespace Go.Proofs.YtfbikpbejkgegaaGreat
open Go Go.Abs Go.Raft
theorem m83_eq (a b c : Int) : m83 ((a, b, c, ()), ()) = some ((inn a b c, ()), ()) := by
  unfold m83 inn
  simp only []
  by_cases h : a ≥ b
  · simp only [decide_eq_true h, sumE, sS]
  · simp only [decide_eq_false h, sumE, sS]

def has (l : List CutT) (a b : Int) : Bool := l.any (fun p => decide (p.1 = a) && decide (p.2.1 = b))

theorem has_cut (l : List CutT) (a b : Int) : has l (min a b) (max a b) = isCut l a b := rfl

theorem loop134 (l : List CutT) (a b : Int) (hl : l.length ≤ 4294967295) : ∀ (k i : Nat), i + k = l.length →
    ∃ j : Int, loopT l107_0_2 (((i : Int), l, (l.length : Int), ()), (((a, b, ()), ()), ())) = some (if has (l.drop i) a b = true then .inl ((j, ()), ()) else .inr ((), ())) ∧ 0 ≤ j := by
  intro k
  induction k with
  | zero =>
    intro i h
    rw [List.drop_eq_nil_of_le (by omega)]
    refine ⟨0, loopT_inr ?_, Int.le_refl _⟩
    have : ¬ (i : Int) < (l.length : Int) := by omega
    simp only [l107_0_2, decide_eq_false this, sumE, sS, has, List.any_nil, Bool.false_eq_true, if_false]
  | succ k ih =>
    intro i h
    obtain ⟨e, he, hd⟩ := drop_at (l := l) (i := i) (by omega)
    have hlt : (i : Int) < (l.length : Int) := by omega
    rw [hd]
    unfold has
    rw [List.any_cons]
    cases hq : (decide (e.1 = a) && decide (e.2.1 = b))
    · obtain ⟨j, e1, e2⟩ := ih (i + 1) (by omega)
      refine ⟨j, ?_, e2⟩
      rw [Bool.false_or]
      refine (loopT_inl ?_).trans e1
      have hq' : (a == e.1 && (b == e.2.1 && true)) = false := by
        rw [← hq, Bool.and_true, beq_decide, beq_decide, decide_eq_decide.2 (eq_comm (a := a) (b := e.1)), decide_eq_decide.2 (eq_comm (a := b) (b := e.2.1))]
      simp only [l107_0_2, decide_eq_true hlt, sumE, sS, rowAt_G, rowG_nat he]
      rw [show (a == e.1 && (b == e.2.1)) = false by simpa using hq']
      simp only [sumE, sS, w64_nat (show i ≤ 4294967296 by omega)]
    · refine ⟨(i : Int), ?_, by omega⟩
      rw [Bool.true_or, if_pos rfl]
      refine loopT_inr ?_
      have hq' : (a == e.1 && (b == e.2.1)) = true := by
        rw [← hq, beq_decide, beq_decide, decide_eq_decide.2 (eq_comm (a := a) (b := e.1)), decide_eq_decide.2 (eq_comm (a := b) (b := e.2.1))]
      simp only [l107_0_2, decide_eq_true hlt, sumE, sS, rowAt_G, rowG_nat he]
      rw [hq']
      simp only [sumE, sS]

theorem m81_eq (l : List CutT) (a b : Int) (hl : l.length ≤ 4294967295) : m81 ((l, (a, b, ()), ()), ()) = some ((has l a b, ()), ()) := by
  unfold m81 m107
  obtain ⟨j, e, hj⟩ := loop134 l a b hl l.length 0 (by omega)
  rw [List.drop_zero] at e
  simp only []
  rw [show loopT l107_0_2 ((0, (l, ((l.length : Int), ()))), (((a, b, ()), ()), ())) = _ from e]
  cases has l a b
  · simp only [Bool.false_eq_true, if_false, sumE, sS]
    rfl
  · simp only [if_true, sumE, sS, decide_eq_true (show j ≥ 0 by omega)]

theorem loop106a (c : CT) (n : Int) (reps : List RT) (hr : ∀ r ∈ reps, Shrt r) (hl : reps.length ≤ 2147483647) : ∀ (k i : Nat), i + k = reps.length →
    loopT l44_0_5 (((i : Int), n, reps, (reps.length : Int), ()), ((c, ()), ())) = some (if repsOK n i (reps.drop i) then .inr ((n, ()), ((c, ()), ())) else .inl ((false, ()), ())) := by
  intro k
  induction k with
  | zero =>
    intro i h
    rw [List.drop_eq_nil_of_le (by omega)]
    refine loopT_inr ?_
    have : ¬ (i : Int) < (reps.length : Int) := by omega
    simp only [l44_0_5, decide_eq_false this, sumE, sS, repsOK, if_true]
  | succ k ih =>
    intro i h
    obtain ⟨e, he, hd⟩ := drop_at (l := reps) (i := i) (by omega)
    have hlt : (i : Int) < (reps.length : Int) := by omega
    have hsh := hr e (List.mem_of_getElem? he)
    rw [hd, repsOK]
    rcases Bool.eq_false_or_eq_true (decide (e.id = (i : Int))) with h1 | h1
    · cases h2 : chk n e
      · rw [h1, Bool.true_and, Bool.false_and, if_neg (by simp)]
        refine loopT_inr ?_
        simp only [l44_0_5, rowAt_G, rowG_nat he, decide_eq_true hlt, bne_decide, decide_not, h1, m84_eq n e hsh, h2, sumE, sS]
      · rw [show loopT l44_0_5 (((i : Int), n, reps, (reps.length : Int), ()), ((c, ()), ())) = loopT l44_0_5 ((((i + 1 : Nat) : Int), n, reps, (reps.length : Int), ()), ((c, ()), ())) from loopT_inl (by
          simp only [l44_0_5, rowAt_G, rowG_nat he, decide_eq_true hlt, bne_decide, decide_not, h1, m84_eq n e hsh, h2, sumE, sS, w64_nat (show i ≤ 4294967296 by omega)])]
        rw [ih (i + 1) (by omega), h1]
        simp only [sumE, sS]
    · rw [h1, Bool.false_and, Bool.false_and, if_neg (by simp)]
      refine loopT_inr ?_
      simp only [l44_0_5, rowAt_G, rowG_nat he, decide_eq_true hlt, bne_decide, decide_not, h1, sumE, sS]

theorem loop106b (c : CT) (n : Int) (wire : List MT) (hl : wire.length ≤ 2147483647) (hn : inn n 1 5 = true) : ∀ (k i : Nat), i + k = wire.length →
    loopT l44_0_11 (((i : Int), n, wire, (wire.length : Int), ()), ((c, ()), ())) = some (if wireOK n (wire.drop i) then .inr ((n, ()), ((c, ()), ())) else .inl ((false, ()), ())) := by
  intro k
  induction k with
  | zero =>
    intro i h
    rw [List.drop_eq_nil_of_le (by omega)]
    refine loopT_inr ?_
    have : ¬ (i : Int) < (wire.length : Int) := by omega
    simp only [l44_0_11, decide_eq_false this, sumE, sS, wireOK, List.all_nil, if_true]
  | succ k ih =>
    intro i h
    obtain ⟨e, he, hd⟩ := drop_at (l := wire) (i := i) (by omega)
    have hlt : (i : Int) < (wire.length : Int) := by omega
    rw [hd]
    unfold wireOK
    rw [List.all_cons]
    have hw := w64_pred hn
    have hbad : (inn e.frm 0 (n - 1) && inn e.to 0 (n - 1) && decide (e.frm ≠ e.to)) = false → l44_0_11 (((i : Int), n, wire, (wire.length : Int), ()), ((c, ()), ())) = some (.inr (.inl ((false, ()), ()))) := by
      intro hb
      cases h1 : inn e.frm 0 (n - 1)
      · simp only [l44_0_11, rowAt_G, rowG_nat he, decide_eq_true hlt, m83_eq, hw, h1, sumE, sS]
      · cases h2 : inn e.to 0 (n - 1)
        · simp only [l44_0_11, rowAt_G, rowG_nat he, decide_eq_true hlt, m83_eq, hw, h1, h2, sumE, sS]
        · rw [h1, h2] at hb
          have h3 : e.frm = e.to := by simpa using hb
          simp only [l44_0_11, rowAt_G, rowG_nat he, decide_eq_true hlt, m83_eq, hw, h1, h2, sumE, sS, h3]
    cases hq : (inn e.frm 0 (n - 1) && inn e.to 0 (n - 1) && decide (e.frm ≠ e.to))
    · rw [Bool.false_and, if_neg (by simp)]
      exact loopT_inr (hbad hq)
    · have hq' := hq
      simp only [Bool.and_eq_true, decide_eq_true_eq] at hq'
      obtain ⟨⟨h1, h2⟩, h3⟩ := hq'
      rw [show loopT l44_0_11 (((i : Int), n, wire, (wire.length : Int), ()), ((c, ()), ())) = loopT l44_0_11 ((((i + 1 : Nat) : Int), n, wire, (wire.length : Int), ()), ((c, ()), ())) from loopT_inl (by
        simp only [l44_0_11, rowAt_G, rowG_nat he, decide_eq_true hlt, m83_eq, hw, h1, h2, beq_decide, decide_eq_false h3, sumE, sS, w64_nat (show i ≤ 4294967296 by omega)])]
      rw [ih (i + 1) (by omega), Bool.true_and]
      rfl

theorem cutOK1_in (n : Int) (hn : inn n 1 5 = true) (x : CutT) : cutOK1 n x = (inn x.1 0 (n - 1) && inn x.2.1 (w64 (x.1 + 1)) (n - 1)) := by
  obtain ⟨n1, n5⟩ := inn_iff.1 hn
  unfold cutOK1
  by_cases h : 0 ≤ x.1 ∧ x.1 ≤ n - 1
  · rw [w64_id (x := x.1 + 1) (by omega) (by omega)]
    unfold inn
    rw [Bool.eq_iff_iff]
    simp only [Bool.and_eq_true, decide_eq_true_eq]
    omega
  · rw [show inn x.1 0 (n - 1) = false from Bool.eq_false_iff.2 fun e => h (inn_iff.1 e)]
    rw [Bool.eq_iff_iff]
    simp only [Bool.and_eq_true, decide_eq_true_eq, Bool.false_and, Bool.false_eq_true, iff_false]
    omega

theorem loop106c (reps : List RT) (wire : List MT) (down : List Bool) (cut : List CutT) (n : Int) (hl : cut.length ≤ 2147483647) (hn : inn n 1 5 = true) : ∀ (k i : Nat), i + k = cut.length →
    loopT l44_0_17 (((i : Int), n, cut, (cut.length : Int), ()), ((cl reps wire down cut, ()), ())) = some (if cutsOK n (cut.take i) (cut.drop i) then .inr ((), ()) else .inl ((false, ()), ())) := by
  intro k
  induction k with
  | zero =>
    intro i h
    rw [List.drop_eq_nil_of_le (by omega)]
    refine loopT_inr ?_
    have : ¬ (i : Int) < (cut.length : Int) := by omega
    simp only [l44_0_17, decide_eq_false this, sumE, sS, cutsOK, if_true]
  | succ k ih =>
    intro i h
    obtain ⟨e, he, hd⟩ := drop_at (l := cut) (i := i) (by omega)
    have hlt : (i : Int) < (cut.length : Int) := by omega
    rw [hd, cutsOK, ← take_at he]
    have b1 : (0 : Int) ≤ (i : Int) := by omega
    have b2 : 0 ≤ i ∧ i ≤ cut.length := by omega
    have b3 : (cut.take i).length ≤ 4294967295 := by simp; omega
    have hw := w64_pred hn
    rw [cutOK1_in n hn]
    cases h1 : inn e.1 0 (n - 1)
    · simp only [sumE, sS, Bool.false_eq_true, if_false]
      refine loopT_inr ?_
      simp only [l44_0_17, rowAt_G, rowG_nat he, decide_eq_true hlt, m83_eq, hw, h1, sumE, sS]
    · cases h2 : inn e.2.1 (w64 (e.1 + 1)) (n - 1)
      · simp only [sumE, sS, Bool.false_eq_true, if_false]
        refine loopT_inr ?_
        simp only [l44_0_17, rowAt_G, rowG_nat he, decide_eq_true hlt, m83_eq, hw, h1, h2, sumE, sS]
      · have hcut : isCut (cut.take i) e.1 e.2.1 = has (cut.take i) e.1 e.2.1 := by
          obtain ⟨a1, a2⟩ := inn_iff.1 h1
          obtain ⟨a3, a4⟩ := inn_iff.1 h2
          obtain ⟨n1, n5⟩ := inn_iff.1 hn
          rw [w64_id (x := e.1 + 1) (by omega) (by omega)] at a3
          rw [← has_cut, show min e.1 e.2.1 = e.1 by omega, show max e.1 e.2.1 = e.2.1 by omega]
        rw [hcut]
        cases h4 : has (cut.take i) e.1 e.2.1
        · rw [show loopT l44_0_17 (((i : Int), n, cut, (cut.length : Int), ()), ((cl reps wire down cut, ()), ())) = loopT l44_0_17 ((((i + 1 : Nat) : Int), n, cut, (cut.length : Int), ()), ((cl reps wire down cut, ()), ())) from loopT_inl (by
            simp only [l44_0_17, rowAt_G, rowG_nat he, decide_eq_true hlt, m83_eq, hw, h1, h2, sumE, sS, decide_eq_true b1]
            simp only [Int.toNat_natCast, b2, and_self, decide_true, cond_true]
            rw [show m81 ((cut.take i, (e, ())), ()) = _ from m81_eq (cut.take i) e.1 e.2.1 b3]
            simp only [h4, w64_nat (show i ≤ 4294967296 by omega), sumE, sS])]
          rw [ih (i + 1) (by omega)]
          simp only [sumE, sS]
        · simp only [sumE, sS, Bool.false_eq_true, if_false]
          refine loopT_inr ?_
          simp only [l44_0_17, rowAt_G, rowG_nat he, decide_eq_true hlt, m83_eq, hw, h1, h2, sumE, sS, decide_eq_true b1]
          simp only [Int.toNat_natCast, b2, and_self, decide_true, cond_true]
          rw [show m81 ((cut.take i, (e, ())), ()) = _ from m81_eq (cut.take i) e.1 e.2.1 b3]
          simp only [h4, sumE, sS]

theorem m44_eq (c : CT) (hs : ShC c) : m44 ((c, ()), ()) = some ((chkC c, ()), ()) := by
  obtain ⟨reps, wire, down, cut, ⟨⟩⟩ := c
  unfold m44 chkC
  have l1 := loop106a (cl reps wire down cut) reps.length reps hs.r hs.rl reps.length 0 (by omega)
  have l2 := fun h => loop106b (cl reps wire down cut) reps.length wire hs.wl h wire.length 0 (by omega)
  have l3 := fun h => loop106c reps wire down cut reps.length hs.cl h cut.length 0 (by omega)
  rw [List.drop_zero] at l1
  simp only [List.drop_zero, List.take_zero] at l2 l3
  simp only [CT.reps, CT.wire, CT.down, CT.cut, m83_eq, Option.bind_some]
  cases hn : inn (reps.length : Int) 1 5
  · simp only [sumE, sS]
  simp only [sumE, sS]
  by_cases hd : down.length = reps.length
  · have : ((down.length : Int) != (reps.length : Int)) = false := by rw [hd]; simp
    simp only [this, decide_eq_true hd, sumE, sS]
    by_cases hw : wire.length ≤ 256
    · have : ¬ (wire.length : Int) > 256 := by omega
      simp only [decide_eq_false this, decide_eq_true hw, sumE, sS]
      rw [show loopT l44_0_5 ((0, ((reps.length : Int), (reps, ((reps.length : Int), ())))), (((reps, wire, down, cut, PUnit.unit), ()), ())) = _ from l1]
      cases repsOK reps.length 0 reps
      · simp only [Bool.false_eq_true, if_false, sumE, sS]
      simp only [if_true, sumE, sS]
      rw [show loopT l44_0_11 ((0, ((reps.length : Int), (wire, ((wire.length : Int), ())))), ((cl reps wire down cut, ()), ())) = _ from l2 hn]
      cases wireOK reps.length wire
      · simp only [Bool.false_eq_true, if_false, sumE, sS]
      simp only [if_true, sumE, sS]
      rw [show loopT l44_0_17 ((0, ((reps.length : Int), (cut, ((cut.length : Int), ())))), ((cl reps wire down cut, ()), ())) = _ from l3 hn]
      cases cutsOK reps.length [] cut
      · simp only [Bool.false_eq_true, if_false, sumE, sS]
      · simp only [if_true, sumE, sS]
    · have : (wire.length : Int) > 256 := by omega
      simp only [decide_eq_true this, decide_eq_false hw, sumE, sS]
  · have : ((down.length : Int) != (reps.length : Int)) = true := by rw [bne_decide, decide_eq_true_eq]; omega
    simp only [this, decide_eq_false hd, sumE, sS]

theorem m62_eq (c : CT) (i : Int) (n : Nat) (hn : n ≤ 2147483647) (hs : ShC c) : m62 ((c, i, (n : Int), ()), ()) = some ((if chkC c = true then (if inn i 0 ((n : Int) - 1) = true then 0 else 3) else 8, ()), ()) := by
  unfold m62
  simp only [m44_eq c hs, Option.bind_some, w64_len hn, m83_eq]
  cases chkC c
  · simp only [sumE, sS, Bool.false_eq_true, if_false]
  · cases h : inn i 0 ((n : Int) - 1)
    · simp only [sumE, sS, Bool.false_eq_true, if_false, if_true]
    · simp only [sumE, sS, if_true]

theorem m62_r (c : CT) (i : Int) (hs : ShC c) : m62 ((c, i, (c.reps.length : Int), ()), ()) = some ((readyE c i, ()), ()) := m62_eq c i c.reps.length hs.rl hs

theorem m55_eq (c : CT) (i : Int) (hs : ShC c) : m55 ((c, i, ()), ()) = some ((if readyE c i = 0 then (if downAt c i = true then 21 else 0) else readyE c i, ()), ()) := by
  unfold m55
  simp only [m62_r c i hs]
  simp only [Option.bind_some, bne_decide, decide_not]
  by_cases hr : readyE c i = 0
  · obtain ⟨V, i0, i1⟩ := ready_iff.1 hr
    have hdl := V.dn
    obtain ⟨d, e2, e2'⟩ := down_at (c := c) i0 (by omega)
    rw [e2']
    simp only [hr, decide_true, sumE, sS, if_true, rowAt_G, rowG_int i0 e2]
    cases d
    · simp only [sumE, sS, Bool.false_eq_true, if_false]
    · simp only [sumE, sS, if_true]
  · simp only [hr, decide_false, sumE, sS, if_false]

theorem m56_eq (c : CT) (hs : ShC c) : m56 ((c, ()), ()) = some ((), oC c) := by
  unfold m56
  obtain ⟨reps, wire, down, cut, ⟨⟩⟩ := c
  obtain ⟨s1, s2, s3, s4, s5, s6⟩ := hs
  simp only [CT.reps, CT.wire, CT.down, CT.cut] at s1 s2 s3 s4 s5 s6
  have a1 : reps.length ≤ 4294967296 := by omega
  have a2 : wire.length ≤ 4294967296 := by omega
  have a3 : down.length ≤ 4294967296 := by omega
  have a4 : cut.length ≤ 4294967296 := by omega
  simp only [m90, m91, m92, m93, a1, a2, a3, a4, decide_true, cond_true, Option.bind_some]
  have l1 := loop_up (f := l56_0_3) (fun i => (((i : Int), (reps.length : Int), ()), (u2, (u2, (reps, (wire, (down, (cut, ())))))))) ((), (u2, (u2, (reps, (wire, (down, (cut, ()))))))) reps.length (fun i hi => by
    obtain ⟨e, he⟩ := getD_some hi
    have hlt : (i : Int) < (reps.length : Int) := by omega
    have h2 : (0 : Int) ≤ (i : Int) ∧ (i : Int) < (reps.length : Int) := by omega
    simp only [l56_0_3, hlt, h2, and_self, decide_true, sumE, sS, Int.toNat_natCast, he, m94_eq e (s1 e (List.mem_of_getElem? he)), hi, w64_nat (show i ≤ 4294967296 by omega)]
    rw [show reps.set i ((cpR e).2.1.1.1, (cpR e).2.1.1.2.1, (cpR e).2.1.1.2.2.1, (cpR e).2.1.1.2.2.2.1, (cpR e).2.2.1, (cpR e).2.1.1.2.2.2.2.1, (cpR e).2.2.2.1, (cpR e).2.2.2.2.1, ()) = reps from set_same he]) (by
    have : ¬ (reps.length : Int) < (reps.length : Int) := by omega
    simp only [l56_0_3, this, decide_false, sumE, sS]) reps.length 0 (by omega)
  have l2 := loop_up (f := l56_0_8) (fun i => (((i : Int), (wire.length : Int), ()), (u2, (u2, (reps, (wire, (down, (cut, ())))))))) ((), (u2, (u2, (reps, (wire, (down, (cut, ()))))))) wire.length (fun i hi => by
    obtain ⟨e, he⟩ := getD_some hi
    have hlt : (i : Int) < (wire.length : Int) := by omega
    have h2 : (0 : Int) ≤ (i : Int) ∧ (i : Int) < (wire.length : Int) := by omega
    have h3 : (e.2.2.2.2.2.2.2.1).length ≤ 4294967296 := Nat.le_trans (s3 e (List.mem_of_getElem? he)) (by omega)
    simp only [l56_0_8, hlt, h2, and_self, decide_true, sumE, sS, Int.toNat_natCast, he, m65, h3, w64_nat (show i ≤ 4294967296 by omega)]
    rw [show wire.set i (e.1, e.2.1, e.2.2.1, e.2.2.2.1, e.2.2.2.2.1, e.2.2.2.2.2.1, e.2.2.2.2.2.2.1, e.2.2.2.2.2.2.2.1, e.2.2.2.2.2.2.2.2) = wire from set_same he]) (by
    have : ¬ (wire.length : Int) < (wire.length : Int) := by omega
    simp only [l56_0_8, this, decide_false, sumE, sS]) wire.length 0 (by omega)
  rw [show loopT l56_0_3 ((0, ((reps.length : Int), ())), (((), ()), (((), ()), (reps, (wire, (down, (cut, ()))))))) = _ from l1]
  simp only [Option.bind_some]
  rw [show loopT l56_0_8 ((0, ((wire.length : Int), ())), (((), ()), (((), ()), (reps, (wire, (down, (cut, ()))))))) = _ from l2]
  simp only [Option.bind_some]

end Go.Proofs.YtfbikpbejkgegaaGreat

namespace Go.Proofs.YtfbikpbejkgegaaGreat
open Go Go.Abs Go.Raft
/-- The error of a step of a region that has to be up. -/
def upE (c : CT) (i : Int) : Int := if readyE c i = 0 then (if downAt c i = true then 21 else 0) else readyE c i

theorem m55_up (c : CT) (i : Int) (hs : ShC c) : m55 ((c, i, ()), ()) = some ((upE c i, ()), ()) := m55_eq c i hs

theorem upE_zero {c : CT} {i : Int} (h : upE c i = 0) : readyE c i = 0 ∧ downAt c i = false := by
  unfold upE at h
  split at h
  · rename_i h0
    split at h
    · omega
    · rename_i h1; exact ⟨h0, by simpa using h1⟩
  · rename_i h0; exact absurd h h0

theorem lens5 (a b c d e : Nat) : (decide (a = a) && (decide (b = b) && (decide (c = c) && (decide (d = d) && (decide (e = e) && true))))) = true := by simp

theorem m28_eq (c : CT) (i : Int) (hs : ShC c) : m28 ((c, i, ()), ()) = some (((standC c i).1, ()), oC (standC c i).2) := by
  unfold m28
  simp only [m55_up c i hs, Option.bind_some, bne_decide, decide_not]
  by_cases h : upE c i = 0
  · obtain ⟨hr, hd⟩ := upE_zero h
    unfold standC
    rw [if_pos hr, hd]
    obtain ⟨V, i0, i1⟩ := ready_iff.1 hr
    obtain ⟨r, e1, e1'⟩ := rep_at i0 i1
    rw [e1']
    have b1 : (0 : Int) ≤ i ∧ i < (c.1.length : Int) := ⟨i0, i1⟩
    have b3 : i.toNat < c.1.length := by have := b1.2; omega
    have hrs := shrt_of (V.rp _ _ e1).2
    simp only [h, decide_true, sumE, sS, m56_eq c hs, b1, and_self, e1, m69_eq (c.reps.length : Int) r hrs, Bool.false_eq_true, if_false]
    have hsl := stand_len (c.reps.length : Int) r
    have hwl := hs.wl
    by_cases h0 : (stand (c.reps.length : Int) r).1 = 0
    · have hw : w64 ((c.wire.length : Int) + ((stand (c.reps.length : Int) r).2.2.length : Int)) = (c.wire.length : Int) + ((stand (c.reps.length : Int) r).2.2.length : Int) := w64_id (by omega) (by omega)
      simp only [h0, decide_true, sumE, sS, if_true, hw, b3, lens5]
      have b2 : c.wire.length + (stand (c.reps.length : Int) r).2.2.length ≤ 4294967296 := by omega
      by_cases hg : c.wire.length + (stand (c.reps.length : Int) r).2.2.length > 256
      · have : (c.wire.length : Int) + ((stand (c.reps.length : Int) r).2.2.length : Int) > 256 := by omega
        simp only [this, hg, decide_true, sumE, sS, if_true]
      · have : ¬ (c.wire.length : Int) + ((stand (c.reps.length : Int) r).2.2.length : Int) > 256 := by omega
        simp only [this, hg, b2, decide_false, decide_true, sumE, sS, if_false]
    · simp only [h0, decide_false, sumE, sS, if_false]
  · have hst : standC c i = (upE c i, zeroC) := by
      unfold standC upE at *
      split
      · rename_i hr
        rw [if_pos hr] at h
        split
        · rfl
        · rename_i hd; rw [if_neg hd] at h; exact absurd rfl h
      · rfl
    rw [hst]
    simp only [h, decide_false, sumE, sS]

theorem lens4 (a b c d : Nat) : (decide (a = a) && (decide (b = b) && (decide (c = c) && (decide (d = d) && true)))) = true := by simp

end Go.Proofs.YtfbikpbejkgegaaGreat

namespace Go.Proofs.YtfbikpbejkgegaaGreat
open Go Go.Abs Go.Raft
/-! ### Settle -/
abbrev sC (c : CT) : (Unit × Unit) × (Unit × Unit) × List RT × List MT × List Bool × List CutT × Unit := (u2, (u2, (c.reps, (c.wire, (c.down, (c.cut, ()))))))

theorem drain_step {c : CT} (hs : ShC c) (V : VC c) (hne : c.wire ≠ []) : l14_1_1 ((), sC c) = some (.inl ((), sC (deliverC c 0).2)) := by
  have hl := List.length_pos_iff.2 hne
  have k1 : (0 : Int) < (c.wire.length : Int) := by omega
  have hr : wireE c 0 = 0 := wire_iff.2 ⟨V, Int.le_refl _, k1⟩
  have hwl := V.wl
  unfold deliverC
  rw [if_pos hr]
  obtain ⟨m, e1, e1'⟩ := wire_at (Int.le_refl (0 : Int)) k1
  rw [e1']
  have hmm := List.mem_of_getElem? e1
  obtain ⟨f0, f1, t0, t1, hft⟩ := V.wm m hmm
  have hme := hs.w m hmm
  have hdn := V.dn
  obtain ⟨r, e2, e2'⟩ := rep_at t0 t1
  obtain ⟨d, e3, e3'⟩ := down_at (c := c) t0 (by omega)
  dsimp only
  rw [e2', e3']
  have hrs := shrt_of (V.rp _ _ e2).2
  have b1 : decide ((0 : Int) ≤ 0 ∧ (0 : Int) < 1 ∧ (1 : Int) ≤ (c.2.1.length : Int) ∧ c.2.1.length ≤ 4294967296) = true := decide_eq_true ⟨by omega, by omega, show (1 : Int) ≤ (c.wire.length : Int) by omega, show c.wire.length ≤ _ by omega⟩
  have b8 : decide ((0 : Int) ≤ 0 ∧ (0 : Int) < (c.2.1.length : Int)) = true := decide_eq_true ⟨by omega, k1⟩
  have b9 : decide ((c.2.1.length : Int) > 0) = true := decide_eq_true k1
  have hcl := hs.cl
  have e108 := m81_eq c.cut (min m.to m.frm) (max m.to m.frm) (by omega)
  rw [has_cut, isCut_comm] at e108
  have t2 : decide ((0 : Int) ≤ m.2.2.1 ∧ m.2.2.1 < (c.1.length : Int)) = true := decide_eq_true ⟨t0, t1⟩
  have t4 : decide ((0 : Int) ≤ m.2.2.1 ∧ m.2.2.1 < (c.2.2.1.length : Int)) = true := decide_eq_true ⟨t0, show m.to < (c.down.length : Int) by omega⟩
  have t3 : decide (m.2.2.1.toNat < c.1.length) = true := decide_eq_true (show m.to.toNat < c.reps.length by omega)
  have e3x : c.2.2.1[m.2.2.1.toNat]? = some d := e3
  have e2x : c.1[m.2.2.1.toNat]? = some r := e2
  have e1x : c.2.1[0]? = some m := e1
  have hW : c.2.1.take 0 ++ c.2.1.drop 1 = cutOut c.wire (0 : Int).toNat := rfl
  have hWl : (cutOut c.wire (0 : Int).toNat).length ≤ 1000 := by unfold cutOut; simp; omega
  have hX : ∀ x : (Unit × Unit) × (Unit × Unit) × List RT × List MT × List Bool × List CutT × Unit, x.2.2.1 = x.2.2.1 := fun _ => rfl
  simp only [l14_1_1, sC, min_if, max_if, b9, b8, b1, e1x, decide_true, sumE, sS, hW, t4, e3x, beq_decide]
  have e24 := m115_eq (c.reps.length : Int) r m hrs
  have e36 := m116_eq (c.reps.length : Int) r m hrs
  have e47 := m117_eq (c.reps.length : Int) r m hrs hme
  have e44 := m118_eq (c.reps.length : Int) r m hrs
  have hh := hear_ents (c.reps.length : Int) r m
  have ha := accept_ents (c.reps.length : Int) r m
  have e108' : m81 ((c.2.2.2.1, ((min m.2.2.1 m.2.1, (max m.2.2.1 m.2.1, ())), ())), ()) = some ((isCut c.cut m.frm m.to, ()), ()) := e108
  generalize cutOut c.wire (0 : Int).toNat = W at hWl
  have hap : ∀ x : MT, decide (W.length + [x].length ≤ 4294967296) = true := by intro x; simp; omega
  by_cases q1 : m.1 = 1
  · have hA : hearAny (c.reps.length : Int) r m = hear (c.reps.length : Int) r m := by unfold hearAny; rw [if_pos q1]
    rw [hA]
    simp only [q1, decide_true, sumE, sS]
    cases d
    · simp only [sumE, sS, e108']
      cases isCut c.cut m.frm m.to
      · simp only [sumE, sS, t2, t3, e2x, e24, Bool.false_eq_true, or_self, if_false]
        cases hb : (hear (c.reps.length : Int) r m).2.2
        · simp only [sumE, sS, List.length_set, lens4, Bool.false_eq_true, if_false, List.append_nil]
        · simp only [sumE, sS, hap, List.length_set, lens4, if_true]
          rw [← re_nil _ hh]
      · simp only [sumE, sS, lens4, or_true, if_true]
    · simp only [sumE, sS, lens4, true_or, if_true]
  by_cases q2 : m.1 = 2
  · have hA : hearAny (c.reps.length : Int) r m = (voted (c.reps.length : Int) r m, zeroM, false) := by unfold hearAny; rw [if_neg q1, if_pos q2]
    rw [hA]
    simp only [Int.reduceEq, q1, q2, decide_true, decide_false, sumE, sS]
    cases d
    · simp only [sumE, sS, e108']
      cases isCut c.cut m.frm m.to
      · simp only [sumE, sS, t2, t3, e2x, e36, List.length_set, lens4, Bool.false_eq_true, or_self, if_false, List.append_nil]
      · simp only [sumE, sS, lens4, or_true, if_true]
    · simp only [sumE, sS, lens4, true_or, if_true]
  by_cases q3 : m.1 = 3
  · have hA : hearAny (c.reps.length : Int) r m = accept (c.reps.length : Int) r m := by unfold hearAny; rw [if_neg q1, if_neg q2, if_pos q3]
    rw [hA]
    simp only [Int.reduceEq, q1, q2, q3, decide_true, decide_false, sumE, sS]
    cases d
    · simp only [sumE, sS, e108']
      cases isCut c.cut m.frm m.to
      · simp only [sumE, sS, t2, t3, e2x, e47, Bool.false_eq_true, or_self, if_false]
        cases hb : (accept (c.reps.length : Int) r m).2.2
        · simp only [sumE, sS, List.length_set, lens4, Bool.false_eq_true, if_false, List.append_nil]
        · simp only [sumE, sS, hap, List.length_set, lens4, if_true]
          rw [← re_nil _ ha]
      · simp only [sumE, sS, lens4, or_true, if_true]
    · simp only [sumE, sS, lens4, true_or, if_true]
  by_cases q4 : m.1 = 4
  · have hA : hearAny (c.reps.length : Int) r m = (appended (c.reps.length : Int) r m, zeroM, false) := by unfold hearAny; rw [if_neg q1, if_neg q2, if_neg q3, if_pos q4]
    rw [hA]
    simp only [Int.reduceEq, q1, q2, q3, q4, decide_true, decide_false, sumE, sS]
    cases d
    · simp only [sumE, sS, e108']
      cases isCut c.cut m.frm m.to
      · simp only [sumE, sS, t2, t3, e2x, e44, List.length_set, lens4, Bool.false_eq_true, or_self, if_false, List.append_nil]
      · simp only [sumE, sS, lens4, or_true, if_true]
    · simp only [sumE, sS, lens4, true_or, if_true]
  · have hA : hearAny (c.reps.length : Int) r m = (r, zeroM, false) := by unfold hearAny; rw [if_neg q1, if_neg q2, if_neg q3, if_neg q4]
    rw [hA]
    simp only [q1, q2, q3, q4, decide_false, sumE, sS, lens4]
    have hset : c.1.set m.2.2.1.toNat r = c.1 := set_same e2x
    split
    · rfl
    · simp only [Bool.false_eq_true, if_false, List.append_nil]
      rw [show c.reps.set m.to.toNat r = c.reps from hset]

theorem l62_same : l14_4_1 = l14_1_1 := rfl

theorem drain_ok : ∀ (w : Nat) (c : CT), weight c.wire ≤ w → CG c → ∃ c' : CT, loopT l14_1_1 ((), sC c) = some ((), sC c') ∧ CG c' ∧ c'.wire = [] ∧ c'.reps.length = c.reps.length ∧ c'.down = c.down ∧ c'.cut = c.cut ∧ ∀ T, TB c T → TB c' T := by
  have base : ∀ c : CT, c.wire = [] → loopT l14_1_1 ((), sC c) = some ((), sC c) := by
    intro c h
    refine loopT_inr ?_
    have : ¬ (c.2.1.length : Int) > 0 := by show ¬ (c.wire.length : Int) > 0; rw [h]; simp
    simp only [l14_1_1, sC, decide_eq_false this, sumE, sS]
  intro w
  induction w with
  | zero =>
    intro c hw h
    have : c.wire = [] := by
      cases hc : c.wire with
      | nil => rfl
      | cons m l => rw [hc, weight_pos] at hw; split at hw <;> omega
    exact ⟨c, base c this, h, this, rfl, rfl, rfl, fun _ h => h⟩
  | succ w ih =>
    intro c hw h
    by_cases hc : c.wire = []
    · exact ⟨c, base c hc, h, hc, rfl, rfl, rfl, fun _ h => h⟩
    · have h0 := deliver_zero h.v hc
      obtain ⟨g1, g2, g3, g4, g5⟩ := cg_deliver h h0
      obtain ⟨c', a1, a2, a3, a4, a5, a6, a7⟩ := ih (deliverC c 0).2 (by omega) g1
      refine ⟨c', ?_, a2, a3, by rw [a4, g2], by rw [a5, g4], by rw [a6, g5], fun T hT => a7 T (tb_deliver hT h0)⟩
      rw [← a1]
      exact loopT_inl (drain_step h.sh h.v hc)

end Go.Proofs.YtfbikpbejkgegaaGreat

namespace Go.Proofs.YtfbikpbejkgegaaGreat
open Go Go.Abs Go.Raft
/-! ### What was committed stays, in each region -/
def KC (c c' : CT) : Prop := ∀ (j : Nat) (r : RT), c.reps[j]? = some r → ∃ r', c'.reps[j]? = some r' ∧ Keeps r r'

theorem KC.refl (c : CT) : KC c c := fun _ r h => ⟨r, h, Keeps.refl r⟩

/-! ### Settle -/
theorem settle2_loop {i : Int} (i0 : 0 ≤ i) : ∀ (k j : Nat) (c : CT), j + k = 2 → CG c → i < (c.reps.length : Int) → downAt c i = false → c.wire = [] → ∃ c' : CT, loopT l14_0_11 (((j : Int), i, ()), sC c) = some ((), sC c') ∧ CG c' ∧ c'.reps.length = c.reps.length ∧ ∀ T, TB c T → TB c' T := by
  intro k
  induction k with
  | zero =>
    intro j c hj h _ _ _
    refine ⟨c, loopT_inr ?_, h, rfl, fun _ h => h⟩
    have : ¬ (j : Int) < 2 := by omega
    simp only [l14_0_11, sC, decide_eq_false this, sumE, sS]
  | succ k ih =>
    intro j c hj h i1 hd hw
    have hlt : decide ((j : Int) < 2) = true := decide_eq_true (by omega)
    obtain ⟨r, e1, e1'⟩ := rep_at (c := c) i0 i1
    have hbd : decide ((0 : Int) ≤ i ∧ i < (c.1.length : Int)) = true := decide_eq_true ⟨i0, i1⟩
    have e1x : c.1[i.toNat]? = some r := e1
    by_cases hr : r.role = 2
    · have h0 := beat_zero h i0 i1 hd (by rw [e1']; exact hr) hw
      obtain ⟨g1, g2⟩ := cg_beat h h0
      have hb2 : (beatC c i).2 = cl c.reps (appendsE (c.reps.length : Int) r) c.down c.cut := by
        unfold beatC
        rw [if_pos (ready_iff.2 ⟨h.v, i0, i1⟩), if_neg (by rw [hd]; simp), if_pos (by rw [e1']; exact hr)]
        simp only
        rw [e1']
        have := appends_len (c.reps.length : Int) r
        rw [if_neg (by rw [hw]; simp; omega), hw, List.nil_append]
      rw [hb2] at g1 g2
      obtain ⟨c1, a1, a2, a3, a4, a5, a6, a7⟩ := drain_ok _ _ (Nat.le_refl _) g1
      obtain ⟨c', b1, b2, b3, b4⟩ := ih (j + 1) c1 (by omega) a2 (by rw [a4]; exact i1) (by show (c1.down[i.toNat]?.getD false) = false; rw [a5]; exact hd) a3
      refine ⟨c', ?_, b2, by rw [b3, a4], fun T hT => b4 T (a7 T (by have := tb_beat hT h0; rw [hb2] at this; exact this))⟩
      rw [← b1]
      refine loopT_inl ?_
      have hr' : (r.2.2.2.1 : Int) = 2 := hr
      simp only [l14_0_11, sC, hlt, sumE, sS, hbd, e1x, beq_decide, decide_eq_true hr', m58_eq (c.reps.length : Int) r (shrt_of (h.v.rp _ _ e1).2)]
      rw [l62_same]
      rw [show loopT l14_1_1 ((), (((), ()), (((), ()), (c.1, (appendsE (c.reps.length : Int) r, (c.2.2.1, (c.2.2.2.1, ()))))))) = _ from a1]
      simp only [Option.bind_some, lens4, sumE, sS, w64_nat (show j ≤ 4294967296 by omega)]
    · obtain ⟨c', b1, b2, b3, b4⟩ := ih (j + 1) c (by omega) h i1 hd hw
      refine ⟨c', ?_, b2, b3, b4⟩
      rw [← b1]
      refine loopT_inl ?_
      have hr' : ¬ (r.2.2.2.1 : Int) = 2 := hr
      simp only [l14_0_11, sC, hlt, sumE, sS, hbd, e1x, beq_decide, decide_eq_false hr', w64_nat (show j ≤ 4294967296 by omega)]

theorem stand_down {c : CT} {i : Int} (h0 : (standC c i).1 = 0) : downAt c i = false ∧ (standC c i).2.down = c.down := by
  unfold standC at h0 ⊢
  split at h0
  · rename_i hr
    rw [if_pos hr]
    split at h0
    · simp at h0
    · rename_i hd
      rw [if_neg hd]
      refine ⟨by simpa using hd, ?_⟩
      simp only at h0 ⊢
      split at h0
      · rename_i hs
        rw [if_pos hs]
        split at h0
        · simp at h0
        · rename_i hg; rw [if_neg hg]
      · rename_i hs; exact absurd h0 hs
  · rename_i hr; exact absurd h0 hr

/-- Settle gives an error or a good cluster of the same size. -/
theorem m14_ok {c : CT} (h : CG c) (i : Int) : ∃ (e : Int) (c' : CT), m14 ((c, i, ()), ()) = some ((e, ()), oC c') ∧ (e = 0 → CG c' ∧ c'.reps.length = c.reps.length ∧ ∀ T, TB c T → TB c' (T + 1)) ∧ (e ≠ 0 → c' = zeroC) ∧ (readyE c i = 0 → (standC (cl c.reps [] c.down c.cut) i).1 = 0 → e = 0) := by
  unfold m14
  simp only [m55_up c i h.sh, Option.bind_some, bne_decide, decide_not]
  by_cases hu : upE c i = 0
  · obtain ⟨hr, hdn⟩ := upE_zero hu
    obtain ⟨V, i0, i1⟩ := ready_iff.1 hr
    simp only [hu, decide_true, sumE, sS, m56_eq c h.sh]
    have h1 : CG (cl c.reps [] c.down c.cut) := h.same (fun m hm => (by cases hm)) (Nat.zero_le _) h.dn h.cs
    rw [show m28 (((c.reps, ([], (c.down, (c.cut, ())))), (i, ())), ()) = _ from m28_eq (cl c.reps [] c.down c.cut) i h1.sh]
    simp only [Option.bind_some]
    by_cases h0 : (standC (cl c.reps [] c.down c.cut) i).1 = 0
    · obtain ⟨g1, g2⟩ := cg_stand h1 h0
      obtain ⟨c1, a1, a2, a3, a4, a5, a6, a7⟩ := drain_ok _ _ (Nat.le_refl _) g1
      have hd := stand_down h0
      simp only [h0, decide_true, sumE, sS]
      rw [show loopT l14_1_1 ((), (((), ()), (((), ()), ((standC (cl c.reps [] c.down c.cut) i).2.reps, ((standC (cl c.reps [] c.down c.cut) i).2.wire, ((standC (cl c.reps [] c.down c.cut) i).2.down, ((standC (cl c.reps [] c.down c.cut) i).2.cut, ()))))))) = _ from a1]
      have hlen : c1.reps.length = c.reps.length := by rw [a4, g2]
      obtain ⟨c', b1, b2, b3, b4⟩ := settle2_loop i0 2 0 c1 rfl a2 (by omega) (by show (c1.down[i.toNat]?.getD false) = false; rw [a5, hd.2]; exact hd.1) a3
      refine ⟨0, c', ?_, fun _ => ⟨b2, by rw [b3, hlen], fun T hT => b4 _ (a7 _ (tb_stand h1 (hT.same (fun m hm => (by cases hm))) h0))⟩, fun hn => absurd rfl hn, fun _ _ => rfl⟩
      simp only [Option.bind_some, lens4, sumE, sS]
      rw [show loopT l14_0_11 ((0, (i, ())), (((), ()), (((), ()), (c1.reps, (c1.wire, (c1.down, (c1.cut, ()))))))) = _ from b1]
      rfl
    · simp only [h0, decide_false, sumE, sS]
      exact ⟨(standC (cl c.reps [] c.down c.cut) i).1, zeroC, rfl, fun e => absurd e h0, fun _ => rfl, fun _ e => False.elim e⟩
  · simp only [hu, decide_false, sumE, sS]
    refine ⟨upE c i, zeroC, rfl, fun e => absurd e hu, fun _ => rfl, fun hr hs => absurd (stand_down hs).1 (fun hd => hu ?_)⟩
    unfold upE
    rw [if_pos hr, if_neg (by rw [show downAt c i = false from hd]; simp)]

end Go.Proofs.YtfbikpbejkgegaaGreat

namespace Go.Proofs.YtfbikpbejkgegaaGreat
open Go Go.Abs Go.Raft
theorem sane34 : m7 ((), ()) = some ((true, ()), ()) := by kernel_rfl

end Go.Proofs.YtfbikpbejkgegaaGreat

namespace Go.Proofs.YtfbikpbejkgegaaGreat
open Go Go.Abs Go.Raft
end Go.Proofs.YtfbikpbejkgegaaGreat

namespace Go.Proofs.YtfbikpbejkgegaaGreat
open Go Go.Abs Go.Raft
/-- A valid cluster with messages of bounded size. -/
structure GV (c : CT) : Prop where
  v : VC c
  we : ∀ m ∈ c.wire, m.ents.length ≤ 256

theorem GV.sh {c : CT} (h : GV c) : ShC c := h.v.sh fun m hm => by have := h.we m hm; omega

theorem CG.gv {c : CT} (h : CG c) : GV c := ⟨h.v, h.we⟩

theorem fol_id (r : RT) (t : Int) : (fol r t).id = r.id := by unfold fol; split <;> rfl

theorem any_id (n : Int) (r : RT) (m : MT) : (hearAny n r m).1.id = r.id := by
  unfold hearAny
  split
  · unfold hear; split
    · unfold hearR fol vote; dsimp only; repeat' split
      all_goals rfl
    · rfl
  split
  · unfold voted votedR fol lead; dsimp only; repeat' split
    all_goals rfl
  split
  · unfold accept back; dsimp only; repeat' split
    all_goals first | rfl | exact fol_id r _
  split
  · unfold appended appendedR fol; dsimp only; repeat' split
    all_goals rfl
  · rfl

theorem any_chk {n : Int} {r : RT} (m : MT) (h : Chk n r) : Chk n (hearAny n r m).1 := by
  unfold hearAny
  split
  · exact chk_hear h
  split
  · exact chk_voted h
  split
  · exact chk_accept h
  split
  · exact chk_appended h
  · exact h

theorem VC.set {c : CT} (h : VC c) {i : Nat} {r r' : RT} (hi : c.reps[i]? = some r) (hid : r'.id = r.id) (hC : Chk (c.reps.length : Int) r') {w : List MT} (hw : ∀ m ∈ w, 0 ≤ m.frm ∧ m.frm < (c.reps.length : Int) ∧ 0 ≤ m.to ∧ m.to < (c.reps.length : Int) ∧ m.frm ≠ m.to) (hwl : w.length ≤ 256) : VC (cl (c.reps.set i r') w c.down c.cut) := by
  have hl : (c.reps.set i r').length = c.reps.length := List.length_set
  refine ⟨by show 1 ≤ (c.reps.set i r').length; rw [hl]; exact h.n1, by show (c.reps.set i r').length ≤ 5; rw [hl]; exact h.n5, by show c.down.length = (c.reps.set i r').length; rw [hl]; exact h.dn, hwl, ?_, ?_, by show cutsOK ((c.reps.set i r').length : Int) [] c.cut = true; rw [hl]; exact h.cs⟩
  · intro j x hj
    have hj : (c.reps.set i r')[j]? = some x := hj
    show _ ∧ Chk ((c.reps.set i r').length : Int) x
    rw [hl]
    by_cases hij : i = j
    · subst hij
      rw [List.getElem?_set_self (List.getElem?_eq_some_iff.1 hi).1] at hj
      cases hj
      exact ⟨by rw [hid]; exact (h.rp i r hi).1, hC⟩
    · rw [List.getElem?_set_ne hij] at hj
      exact h.rp j x hj
  · intro m hm
    show _ ∧ m.frm < ((c.reps.set i r').length : Int) ∧ _ ∧ m.to < ((c.reps.set i r').length : Int) ∧ _
    rw [hl]
    exact hw m hm

theorem gv_deliver {c : CT} (h : GV c) (hne : c.wire ≠ []) : (deliverC c 0).1 = 0 ∧ GV (deliverC c 0).2 ∧ (deliverC c 0).2.reps.length = c.reps.length ∧ weight (deliverC c 0).2.wire < weight c.wire ∧ (deliverC c 0).2.down = c.down ∧ (deliverC c 0).2.cut = c.cut := by
  have h0 := deliver_zero h.v hne
  refine ⟨h0, ?_⟩
  unfold deliverC at h0 ⊢
  split at h0
  · rename_i hr
    rw [if_pos hr]
    obtain ⟨V, k0, k1⟩ := wire_iff.1 hr
    obtain ⟨m, e1, e1'⟩ := wire_at k0 k1
    rw [e1']
    have hmm := List.mem_of_getElem? e1
    obtain ⟨f0, f1, t0, t1, hft⟩ := V.wm m hmm
    have hwl := V.wl
    have hcl := cutOut_len (l := c.wire) (k := (0 : Int).toNat) (by simp; omega)
    have hwt := weight_cut e1
    simp only
    split
    · refine ⟨⟨⟨V.n1, V.n5, V.dn, by show (cutOut c.wire (0 : Int).toNat).length ≤ 256; omega, V.rp, fun m hm => V.wm m (cutOut_mem hm), V.cs⟩, fun m hm => h.we m (cutOut_mem hm)⟩, rfl, ?_, rfl, rfl⟩
      show weight (cutOut c.wire (0 : Int).toNat) < _
      rw [hwt]; split <;> omega
    · obtain ⟨r, e2, e2'⟩ := rep_at t0 t1
      rw [e2']
      have hid : r.id = m.to := by have := (V.rp _ _ e2).1; omega
      have hC := (V.rp _ _ e2).2
      have hrep := hearAny_reply (n := (c.reps.length : Int)) (r := r) (m := m)
      have hnew : ∀ x ∈ (if (hearAny (c.reps.length : Int) r m).2.2 = true then [(hearAny (c.reps.length : Int) r m).2.1] else []), (0 ≤ x.frm ∧ x.frm < (c.reps.length : Int) ∧ 0 ≤ x.to ∧ x.to < (c.reps.length : Int) ∧ x.frm ≠ x.to) ∧ x.ents.length ≤ 256 := by
        intro x hx
        cases hb : (hearAny (c.reps.length : Int) r m).2.2
        · rw [hb] at hx; simp at hx
        · rw [hb] at hx
          simp at hx
          subst hx
          obtain ⟨a1, a2, a3, _, _⟩ := hrep hb
          rw [a1, a2, a3, hid]
          exact ⟨⟨t0, t1, f0, f1, fun e => hft e.symm⟩, by simp⟩
      refine ⟨⟨VC.set V e2 (any_id _ _ _) (any_chk m hC) (fun x hx => ?_) ?_, fun x hx => ?_⟩, List.length_set, ?_, rfl, rfl⟩
      · rcases List.mem_append.1 hx with hx | hx
        · exact V.wm x (cutOut_mem hx)
        · exact (hnew x hx).1
      · rw [List.length_append, hcl]
        split <;> simp <;> omega
      · rcases List.mem_append.1 hx with hx | hx
        · exact h.we x (cutOut_mem hx)
        · exact (hnew x hx).2
      · show weight (cutOut c.wire (0 : Int).toNat ++ _) < _
        rw [weight_append, hwt]
        cases hb : (hearAny (c.reps.length : Int) r m).2.2
        · simp only [Bool.false_eq_true, if_false]
          show weight (cutOut c.wire (0 : Int).toNat) + weight [] < _
          have : weight [] = 0 := rfl
          split <;> omega
        · obtain ⟨_, _, _, a4, a5⟩ := hrep hb
          simp only [if_true]
          rw [if_pos a5, weight_pos, if_neg (by omega)]
          have : weight [] = 0 := rfl
          omega
  · rename_i hr; exact absurd h0 hr

theorem gv_stand {c : CT} (h : GV c) {i : Int} (h0 : (standC c i).1 = 0) : GV (standC c i).2 ∧ (standC c i).2.reps.length = c.reps.length ∧ (standC c i).2.cut = c.cut := by
  unfold standC at h0 ⊢
  by_cases hr : readyE c i = 0
  · obtain ⟨V, i0, i1⟩ := ready_iff.1 hr
    obtain ⟨r, e1, e1'⟩ := rep_at i0 i1
    rw [if_pos hr] at h0 ⊢
    rw [e1'] at h0 ⊢
    split at h0
    · cases h0
    · rename_i hd
      rw [if_neg hd]
      simp only at h0 ⊢
      split at h0
      · rename_i hs
        rw [if_pos hs]
        split at h0
        · cases h0
        · rename_i hg
          rw [if_neg hg]
          have hid : r.id = i := by have := (V.rp _ _ e1).1; omega
          have hC := (V.rp _ _ e1).2
          unfold stand at hs hg ⊢
          rw [if_pos (chk_iff.2 hC)] at hs hg ⊢
          split at hs
          · cases hs
          · rename_i ht
            rw [if_neg ht] at hg ⊢
            have hnew : ∀ x ∈ asks (c.reps.length : Int) r, (0 ≤ x.frm ∧ x.frm < (c.reps.length : Int) ∧ 0 ≤ x.to ∧ x.to < (c.reps.length : Int) ∧ x.frm ≠ x.to) ∧ x.ents.length ≤ 256 := by
              intro m hm
              simp only [asks, List.mem_map, List.mem_filter, List.mem_range, decide_eq_true_eq] at hm
              obtain ⟨j, ⟨hj1, hj2⟩, rfl⟩ := hm
              simp only [mg_frm, mg_to, mg_ents]
              refine ⟨⟨by omega, by omega, by omega, by omega, fun e => hj2 e.symm⟩, by simp⟩
            refine ⟨⟨VC.set V e1 ?_ (chk_stand hC ht) (fun x hx => ?_) (by rw [List.length_append]; omega), fun x hx => ?_⟩, List.length_set, rfl⟩
            · unfold standR lead; dsimp only; repeat' split
              all_goals rfl
            · rcases List.mem_append.1 hx with hx | hx
              · exact V.wm x hx
              · exact (hnew x hx).1
            · rcases List.mem_append.1 hx with hx | hx
              · exact h.we x hx
              · exact (hnew x hx).2
      · rename_i hs
        exact absurd h0 hs
  · rw [if_neg hr] at h0
    exact absurd h0 hr

/-- A cluster with the messages of a leader and no others. -/
def beat0 (c : CT) (i : Int) : CT := cl c.reps (appendsE (c.reps.length : Int) (repAt c i)) c.down c.cut

theorem gv_beat0 {c : CT} (h : GV c) {i : Int} (i0 : 0 ≤ i) (i1 : i < (c.reps.length : Int)) : GV (beat0 c i) := by
  obtain ⟨r, e1, e1'⟩ := rep_at i0 i1
  have V := h.v
  have hid : r.id = i := by have := (V.rp _ _ e1).1; omega
  have hC := (V.rp _ _ e1).2
  have hlen := appends_len (c.reps.length : Int) r
  have hnew : ∀ x ∈ appendsE (c.reps.length : Int) r, (0 ≤ x.frm ∧ x.frm < (c.reps.length : Int) ∧ 0 ≤ x.to ∧ x.to < (c.reps.length : Int) ∧ x.frm ≠ x.to) ∧ x.ents.length ≤ 256 := by
    unfold appendsE
    split
    · intro m hm
      simp only [appends, List.mem_map, List.mem_filter, List.mem_range, decide_eq_true_eq] at hm
      obtain ⟨j, ⟨hj1, hj2⟩, rfl⟩ := hm
      simp only [mg_frm, mg_to, mg_ents]
      have := hC.ll
      refine ⟨⟨by omega, by omega, by omega, by omega, fun e => hj2 e.symm⟩, by simp only [List.length_drop]; omega⟩
    · intro m hm; cases hm
  unfold beat0
  rw [e1']
  exact ⟨⟨V.n1, V.n5, V.dn, by show (appendsE (c.reps.length : Int) r).length ≤ 256; omega, V.rp, fun x hx => (hnew x hx).1, V.cs⟩, fun x hx => (hnew x hx).2⟩

/-! ### Flush -/
def flushN : Nat → CT → CT
  | 0, c => c
  | n + 1, c => if c.wire = [] then c else flushN n (deliverC c 0).2

def flushC (c : CT) : CT := flushN (weight c.wire) c

theorem weight_nil {c : CT} (h : weight c.wire ≤ 0) : c.wire = [] := by
  cases hc : c.wire with
  | nil => rfl
  | cons m l => rw [hc, weight_pos] at h; split at h <;> omega

theorem flush_base {c : CT} (h : c.wire = []) : loopT l14_1_1 ((), sC c) = some ((), sC c) ∧ loopT l82_0_1 ((), (u2, ((c, ()), ()))) = some ((), (u2, ((c, ()), ()))) := by
  have : ¬ (c.2.1.length : Int) > 0 := by show ¬ (c.wire.length : Int) > 0; rw [h]; simp
  constructor
  · refine loopT_inr ?_
    simp only [l14_1_1, sC, decide_eq_false this, sumE, sS]
  · refine loopT_inr ?_
    simp only [l82_0_1, decide_eq_false this, sumE, sS]

theorem flush_eq : ∀ (w : Nat) (c : CT), weight c.wire ≤ w → GV c → loopT l14_1_1 ((), sC c) = some ((), sC (flushN w c)) ∧ loopT l82_0_1 ((), (u2, ((c, ()), ()))) = some ((), (u2, ((flushN w c, ()), ()))) ∧ GV (flushN w c) ∧ (flushN w c).wire = [] ∧ (flushN w c).reps.length = c.reps.length ∧ (flushN w c).down = c.down ∧ (flushN w c).cut = c.cut := by
  intro w
  induction w with
  | zero =>
    intro c hw h
    have := weight_nil hw
    exact ⟨(flush_base this).1, (flush_base this).2, h, this, rfl, rfl, rfl⟩
  | succ w ih =>
    intro c hw h
    unfold flushN
    by_cases hc : c.wire = []
    · rw [if_pos hc]
      exact ⟨(flush_base hc).1, (flush_base hc).2, h, hc, rfl, rfl, rfl⟩
    · rw [if_neg hc]
      obtain ⟨h0, g1, g2, g3, g4, g5⟩ := gv_deliver h hc
      obtain ⟨a1, a2, a3, a4, a5, a6, a7⟩ := ih (deliverC c 0).2 (by omega) g1
      refine ⟨?_, ?_, a3, a4, by rw [a5, g2], by rw [a6, g4], by rw [a7, g5]⟩
      · rw [← a1]
        exact loopT_inl (drain_step h.sh h.v hc)
      · rw [← a2]
        refine loopT_inl ?_
        have hp : (c.2.1.length : Int) > 0 := by have := List.length_pos_iff.2 hc; show (c.wire.length : Int) > 0; omega
        simp only [l82_0_1, decide_eq_true hp, sumE, sS, m34_eq c 0 h.sh, h0]

structure FlushOK (c : CT) : Prop where
  gv : GV (flushC c)
  w : (flushC c).wire = []
  l : (flushC c).reps.length = c.reps.length
  d : (flushC c).down = c.down
  k : (flushC c).cut = c.cut

theorem flush_ok' {c : CT} (h : GV c) : FlushOK c := by
  obtain ⟨_, _, a3, a4, a5, a6, a7⟩ := flush_eq _ c (Nat.le_refl _) h
  exact ⟨a3, a4, a5, a6, a7⟩

/-! ### Settle -/
/-- A round of a leader: its messages, and all answers. -/
def round1 (c : CT) (i : Int) : CT := if (repAt c i).role = 2 then flushC (beat0 c i) else c

def settleC (c : CT) (i : Int) : Int × CT :=
  if readyE c i = 0 then
    let s := standC (cl c.reps [] c.down c.cut) i
    if s.1 = 0 then (0, round1 (round1 (flushC s.2) i) i) else (s.1, zeroC)
  else (readyE c i, zeroC)

theorem round_ok {c : CT} (h : GV c) (hw : c.wire = []) {i : Int} (i0 : 0 ≤ i) (i1 : i < (c.reps.length : Int)) : GV (round1 c i) ∧ (round1 c i).wire = [] ∧ (round1 c i).reps.length = c.reps.length ∧ (round1 c i).down = c.down ∧ (round1 c i).cut = c.cut := by
  unfold round1
  split
  · have f := flush_ok' (gv_beat0 h i0 i1)
    exact ⟨f.gv, f.w, f.l, f.d, f.k⟩
  · exact ⟨h, hw, rfl, rfl, rfl⟩

theorem round_prog {c : CT} (h : GV c) {i : Int} (i0 : 0 ≤ i) (i1 : i < (c.reps.length : Int)) (j : Nat) (hj : j < 2) : l14_0_11 (((j : Int), i, ()), sC c) = some (.inl ((((j + 1 : Nat) : Int), i, ()), sC (round1 c i))) := by
  have hlt : decide ((j : Int) < 2) = true := decide_eq_true (by omega)
  obtain ⟨r, e1, e1'⟩ := rep_at (c := c) i0 i1
  have hbd : decide ((0 : Int) ≤ i ∧ i < (c.1.length : Int)) = true := decide_eq_true ⟨i0, i1⟩
  have e1x : c.1[i.toNat]? = some r := e1
  unfold round1
  rw [e1']
  by_cases hr : r.role = 2
  · have hr' : (r.2.2.2.1 : Int) = 2 := hr
    rw [if_pos hr]
    obtain ⟨a1, _⟩ := flush_eq _ _ (Nat.le_refl _) (gv_beat0 h i0 i1)
    have hb : beat0 c i = cl c.reps (appendsE (c.reps.length : Int) r) c.down c.cut := by unfold beat0; rw [e1']
    rw [hb] at a1
    simp only [l14_0_11, sC, hlt, sumE, sS, hbd, e1x, beq_decide, decide_eq_true hr', m58_eq (c.reps.length : Int) r (shrt_of (h.v.rp _ _ e1).2)]
    rw [l62_same]
    rw [show loopT l14_1_1 ((), (((), ()), (((), ()), (c.1, (appendsE (c.reps.length : Int) r, (c.2.2.1, (c.2.2.2.1, ()))))))) = _ from a1]
    simp only [Option.bind_some, lens4, sumE, sS, w64_nat (show j ≤ 4294967296 by omega)]
    rw [hb]
    rfl
  · have hr' : ¬ (r.2.2.2.1 : Int) = 2 := hr
    rw [if_neg hr]
    simp only [l14_0_11, sC, hlt, sumE, sS, hbd, e1x, beq_decide, decide_eq_false hr', w64_nat (show j ≤ 4294967296 by omega)]

end Go.Proofs.YtfbikpbejkgegaaGreat

namespace Go.Proofs.YtfbikpbejkgegaaGreat
open Go Go.Abs Go.Raft
theorem settle_prog {c : CT} (h : GV c) (hw : c.wire = []) {i : Int} (i0 : 0 ≤ i) (i1 : i < (c.reps.length : Int)) : loopT l14_0_11 (((0 : Int), i, ()), sC c) = some ((), sC (round1 (round1 c i) i)) := by
  obtain ⟨g1, g2, g3, _, _⟩ := round_ok h hw i0 i1
  obtain ⟨g1', g2', g3', _, _⟩ := round_ok g1 g2 i0 (by rw [g3]; exact i1)
  have s1 := round_prog h i0 i1 0 (by omega)
  have s2 := round_prog g1 i0 (by rw [g3]; exact i1) 1 (by omega)
  rw [show loopT l14_0_11 (((0 : Int), i, ()), sC c) = _ from loopT_inl s1]
  rw [show loopT l14_0_11 ((((0 + 1 : Nat) : Int), i, ()), sC (round1 c i)) = _ from loopT_inl s2]
  refine loopT_inr ?_
  simp only [l14_0_11, sC, show decide (((1 + 1 : Nat) : Int) < 2) = false from rfl, sumE, sS]

theorem settle_mid {c : CT} {i : Int} (hr : readyE c i = 0) (h0 : (standC (cl c.reps [] c.down c.cut) i).1 = 0) : GV (standC (cl c.reps [] c.down c.cut) i).2 ∧ downAt c i = false ∧ (flushC (standC (cl c.reps [] c.down c.cut) i).2).wire = [] ∧ GV (flushC (standC (cl c.reps [] c.down c.cut) i).2) ∧ i < ((flushC (standC (cl c.reps [] c.down c.cut) i).2).reps.length : Int) ∧ downAt (flushC (standC (cl c.reps [] c.down c.cut) i).2) i = false := by
  obtain ⟨V, i0, i1⟩ := ready_iff.1 hr
  have h1 : GV (cl c.reps [] c.down c.cut) := ⟨⟨V.n1, V.n5, V.dn, Nat.zero_le _, V.rp, fun m hm => (by cases hm), V.cs⟩, fun m hm => (by cases hm)⟩
  obtain ⟨g1, g2, _⟩ := gv_stand h1 h0
  obtain ⟨d1, d2⟩ := stand_down h0
  have f := flush_ok' g1
  refine ⟨g1, d1, f.w, f.gv, by rw [f.l, g2]; exact i1, ?_⟩
  show ((flushC (standC (cl c.reps [] c.down c.cut) i).2).down[i.toNat]?.getD false) = false
  rw [f.d, d2]
  exact d1

theorem m14_eq (c : CT) (i : Int) (hs : ShC c) : m14 ((c, i, ()), ()) = some (((settleC c i).1, ()), oC (settleC c i).2) := by
  unfold m14 settleC
  simp only [m55_up c i hs, Option.bind_some, bne_decide, decide_not]
  by_cases hu : upE c i = 0
  · obtain ⟨hr, hdn⟩ := upE_zero hu
    obtain ⟨V, i0, i1⟩ := ready_iff.1 hr
    rw [if_pos hr]
    simp only [hu, decide_true, sumE, sS, m56_eq c hs]
    have h1 : GV (cl c.reps [] c.down c.cut) := ⟨⟨V.n1, V.n5, V.dn, Nat.zero_le _, V.rp, fun m hm => (by cases hm), V.cs⟩, fun m hm => (by cases hm)⟩
    rw [show m28 (((c.reps, ([], (c.down, (c.cut, ())))), (i, ())), ()) = _ from m28_eq (cl c.reps [] c.down c.cut) i h1.sh]
    simp only [Option.bind_some]
    by_cases h0 : (standC (cl c.reps [] c.down c.cut) i).1 = 0
    · obtain ⟨g1, _, w2, g2, i2, d2⟩ := settle_mid hr h0
      obtain ⟨a1, _⟩ := flush_eq _ _ (Nat.le_refl _) g1
      rw [if_pos h0]
      simp only [h0, decide_true, sumE, sS]
      rw [show loopT l14_1_1 ((), (((), ()), (((), ()), ((standC (cl c.reps [] c.down c.cut) i).2.reps, ((standC (cl c.reps [] c.down c.cut) i).2.wire, ((standC (cl c.reps [] c.down c.cut) i).2.down, ((standC (cl c.reps [] c.down c.cut) i).2.cut, ()))))))) = some ((), sC (flushC (standC (cl c.reps [] c.down c.cut) i).2)) from a1]
      have b1 := settle_prog g2 w2 i0 i2
      simp only [Option.bind_some, lens4, sumE, sS]
      rw [show loopT l14_0_11 ((0, (i, ())), (((), ()), (((), ()), ((flushC (standC (cl c.reps [] c.down c.cut) i).2).1, ((flushC (standC (cl c.reps [] c.down c.cut) i).2).2.1, ((flushC (standC (cl c.reps [] c.down c.cut) i).2).2.2.1, ((flushC (standC (cl c.reps [] c.down c.cut) i).2).2.2.2.1, ()))))))) = _ from b1]
      rfl
    · rw [if_neg h0]
      simp only [h0, decide_false, sumE, sS]
  · simp only [hu, decide_false, sumE, sS]
    unfold upE at hu ⊢
    by_cases hr : readyE c i = 0
    · rw [if_pos hr] at hu ⊢
      rw [if_pos hr]
      split at hu
      · rename_i hd
        have hst : standC (cl c.reps [] c.down c.cut) i = (21, zeroC) := by
          obtain ⟨V, i0, i1⟩ := ready_iff.1 hr
          have hV : VC (cl c.reps [] c.down c.cut) := ⟨V.n1, V.n5, V.dn, Nat.zero_le _, V.rp, fun m hm => (by cases hm), V.cs⟩
          unfold standC
          rw [if_pos (ready_iff.2 ⟨hV, i0, i1⟩), if_pos hd]
        rw [if_pos hd, hst, if_neg (by simp)]
      · exact absurd rfl hu
    · rw [if_neg hr, if_neg hr]

end Go.Proofs.YtfbikpbejkgegaaGreat

namespace Go.Proofs.YtfbikpbejkgegaaGreat
open Go Go.Abs Go.Raft
end Go.Proofs.YtfbikpbejkgegaaGreat

namespace Go.Proofs.YtfbikpbejkgegaaGreat
open Go Go.Abs Go.Raft
end Go.Proofs.YtfbikpbejkgegaaGreat

namespace Go.Proofs.YtfbikpbejkgegaaGreat
open Go Go.Abs Go.Raft
theorem set_cases {l : List RT} {i j : Nat} {r x : RT} (h : (l.set i r)[j]? = some x) : (i = j ∧ x = r) ∨ (i ≠ j ∧ l[j]? = some x) := by
  by_cases hij : i = j
  · subst hij
    rw [List.getElem?_set_self (by have := (List.getElem?_eq_some_iff.1 h).1; rwa [List.length_set] at this)] at h
    cases h
    exact .inl ⟨rfl, rfl⟩
  · rw [List.getElem?_set_ne hij] at h
    exact .inr ⟨hij, h⟩

theorem flush_ind (P : CT → Prop) (hP : ∀ (c : CT) (m : MT) (w : List MT), GV c → c.wire = m :: w → P c → P (deliverC c 0).2) : ∀ (k : Nat) (c : CT), weight c.wire ≤ k → GV c → P c → P (flushN k c) := by
  intro k
  induction k with
  | zero => intro c _ _ hp; exact hp
  | succ k ih =>
    intro c hw h hp
    unfold flushN
    by_cases hc : c.wire = []
    · rw [if_pos hc]; exact hp
    · rw [if_neg hc]
      obtain ⟨h0, g1, g2, g3, g4, g5⟩ := gv_deliver h hc
      obtain ⟨m, w, hmw⟩ := List.exists_cons_of_ne_nil hc
      exact ih _ (by omega) g1 (hP c m w h hmw hp)

theorem deliver_cons {c : CT} (h : GV c) (hc : c.cut = []) {m : MT} {w : List MT} (hw : c.wire = m :: w) : ∃ r : RT, c.reps[m.to.toNat]? = some r ∧ r.id = m.to ∧ Chk (c.reps.length : Int) r ∧ 0 ≤ m.to ∧ 0 ≤ m.frm ∧ m.frm < (c.reps.length : Int) ∧ m.frm ≠ m.to ∧
    (deliverC c 0).2 = (if downAt c m.to = true then cl c.reps w c.down c.cut else cl (c.reps.set m.to.toNat (hearAny (c.reps.length : Int) r m).1) (w ++ if (hearAny (c.reps.length : Int) r m).2.2 then [(hearAny (c.reps.length : Int) r m).2.1] else []) c.down c.cut) := by
  have V := h.v
  have hm : m ∈ c.wire := by rw [hw]; exact List.mem_cons_self ..
  obtain ⟨f0, f1, t0, t1, hft⟩ := V.wm m hm
  obtain ⟨r, e2, e2'⟩ := rep_at t0 t1
  refine ⟨r, e2, by have := (V.rp _ _ e2).1; omega, (V.rp _ _ e2).2, t0, f0, f1, hft, ?_⟩
  have hr : wireE c 0 = 0 := wire_iff.2 ⟨V, Int.le_refl _, by rw [hw]; simp⟩
  have hwa : wireAt c 0 = m := by unfold wireAt; rw [hw]; rfl
  have hco : cutOut c.wire (0 : Int).toNat = w := by rw [hw]; rfl
  unfold deliverC
  rw [if_pos hr, hwa, hco]
  simp only
  rw [e2', hc]
  by_cases hd : downAt c m.to = true
  · rw [if_pos (.inl hd), if_pos hd]
  · rw [if_neg (by rintro (e | e); exact hd e; cases e), if_neg hd]

theorem any1 {n : Int} {r : RT} {m : MT} (h : m.kind = 1) : hearAny n r m = hear n r m := by unfold hearAny; rw [if_pos h]

theorem any2 {n : Int} {r : RT} {m : MT} (h : m.kind = 2) : hearAny n r m = (voted n r m, zeroM, false) := by unfold hearAny; rw [if_neg (by omega), if_pos h]

theorem any3 {n : Int} {r : RT} {m : MT} (h : m.kind = 3) : hearAny n r m = accept n r m := by unfold hearAny; rw [if_neg (by omega), if_neg (by omega), if_pos h]

theorem any4 {n : Int} {r : RT} {m : MT} (h : m.kind = 4) : hearAny n r m = (appended n r m, zeroM, false) := by unfold hearAny; rw [if_neg (by omega), if_neg (by omega), if_neg (by omega), if_pos h]

theorem folT (r : RT) (t : Int) : (fol r t).term = max r.term t := by
  unfold fol
  split
  · show t = _; omega
  · omega

theorem fol_log (r : RT) (t : Int) : (fol r t).log = r.log := by unfold fol; split <;> rfl

theorem hearR_term (r : RT) (m : MT) : (hearR r m).term = max r.term m.term := by
  unfold hearR
  dsimp only
  split
  · exact folT r m.term
  · exact folT r m.term

theorem hearR_log (r : RT) (m : MT) : (hearR r m).log = r.log := by
  unfold hearR
  dsimp only
  split
  · exact fol_log r m.term
  · exact fol_log r m.term

theorem hearM_term (r : RT) (m : MT) : (hearM r m).term = max r.term m.term := folT r m.term

theorem voted_log (n : Int) (r : RT) (m : MT) : (voted n r m).log = r.log := by
  unfold voted
  split
  · split
    · exact fol_log r _
    · split
      · unfold votedR lead; dsimp only; split <;> rfl
      · rfl
  · rfl

theorem voted_term (n : Int) (r : RT) (m : MT) : r.term ≤ (voted n r m).term := by
  unfold voted
  split
  · split
    · rw [folT]; omega
    · split
      · unfold votedR lead; dsimp only; split <;> exact Int.le_refl _
      · exact Int.le_refl _
  · exact Int.le_refl _

theorem voted_term2 {n : Int} {r : RT} {m : MT} (h : toOK n r m 2 = true) : m.term ≤ (voted n r m).term := by
  have := voted_term n r m
  unfold voted at this ⊢
  rw [if_pos h] at this ⊢
  split
  · rw [folT]; omega
  · rename_i hm
    rw [if_neg hm] at this
    omega

/-- What holds while a candidate and its voters speak. -/
structure PA (b : Nat) (T : Int) (logs : Nat → Log OpT) (dn : List Bool) (c : CT) : Prop where
  g : CG c
  dq : c.down = dn
  ct : c.cut = []
  lg : ∀ (j : Nat) (r : RT), c.reps[j]? = some r → r.log = logs j
  ms : ∀ m ∈ c.wire, (m.kind = 1 ∧ m.frm = (b : Int) ∧ m.term = T) ∨ (m.kind = 2 ∧ m.to = (b : Int) ∧ 1 ≤ m.term ∧ m.term ≤ 1048576)
  bb : ∀ r : RT, c.reps[b]? = some r → T ≤ r.term ∧ (r.role ≠ 0 → r.term = T) ∧ (r.role = 2 → ∀ j : Nat, j ≠ b → r.mtch[j]?.getD 0 = 0)
  up : ∀ (j : Nat) (r x : RT), j ≠ b → dn[j]? = some false → c.reps[j]? = some r → c.reps[b]? = some x →
    (∃ m ∈ c.wire, m.kind = 1 ∧ m.to = (j : Int)) ∨ (∃ m ∈ c.wire, m.kind = 2 ∧ m.frm = (j : Int) ∧ m.term = r.term) ∨ r.term ≤ x.term

theorem lead_zeros {n : Int} {r : RT} {b : Nat} (hb : r.id = (b : Int)) {j : Nat} (hj : j ≠ b) : (lead n r).mtch[j]?.getD 0 = 0 := by
  unfold lead
  show (((List.replicate n.toNat (0 : Int)).set r.id.toNat r.log.length)[j]?).getD 0 = 0
  rw [List.getElem?_set_ne (by omega), List.getElem?_replicate]
  split <;> rfl

theorem voted_bb {n : Int} {r : RT} {m : MT} {b : Nat} {T : Int} (hb : r.id = (b : Int)) (h1 : T ≤ r.term) (h2 : r.role ≠ 0 → r.term = T) (h3 : r.role = 2 → ∀ j : Nat, j ≠ b → r.mtch[j]?.getD 0 = 0) :
    T ≤ (voted n r m).term ∧ ((voted n r m).role ≠ 0 → (voted n r m).term = T) ∧ ((voted n r m).role = 2 → ∀ j : Nat, j ≠ b → (voted n r m).mtch[j]?.getD 0 = 0) := by
  refine ⟨Int.le_trans h1 (voted_term n r m), ?_⟩
  unfold voted
  split
  · split
    · rename_i hm
      unfold fol
      rw [if_pos hm]
      exact ⟨fun e => absurd rfl e, fun e => by cases e⟩
    · split
      · rename_i hr
        have hT := h2 (by omega)
        unfold votedR
        dsimp only
        split
        · exact ⟨fun _ => hT, fun _ j hj => lead_zeros hb hj⟩
        · refine ⟨fun _ => hT, fun e => ?_⟩
          have : r.role = 2 := e
          omega
      · exact ⟨h2, h3⟩
  · exact ⟨h2, h3⟩

theorem down_of {c : CT} {dn : List Bool} (hd : c.down = dn) {i : Int} : downAt c i = (dn[i.toNat]?.getD false) := by unfold downAt; rw [hd]

theorem pa_step {b : Nat} {T : Int} {logs : Nat → Log OpT} {dn : List Bool} (hT1 : 1 ≤ T) (hT2 : T ≤ 1048576) (hb : dn[b]? = some false) (c : CT) (m : MT) (w : List MT) (h : GV c) (hw : c.wire = m :: w) (p : PA b T logs dn c) : PA b T logs dn (deliverC c 0).2 := by
  have hcg := (cg_deliver p.g (deliver_zero h.v (by rw [hw]; simp))).1
  obtain ⟨r, e1, hid, hC, t0, f0, f1, hft, e2⟩ := deliver_cons h p.ct hw
  have hdn := p.dq; have hct := p.ct; have hlg := p.lg; have hms := p.ms; have hbb := p.bb; have hup := p.up
  have hmm : m ∈ c.wire := by rw [hw]; exact List.mem_cons_self ..
  have hww : ∀ x ∈ w, x ∈ c.wire := fun x hx => by rw [hw]; exact List.mem_cons_of_mem _ hx
  rw [e2] at hcg ⊢
  rw [down_of p.dq] at hcg ⊢
  by_cases hd : dn[m.to.toNat]?.getD false = true
  · rw [if_pos hd] at hcg ⊢
    refine ⟨hcg, hdn, hct, hlg, fun x hx => hms x (hww x hx), hbb, fun j r x hj hu hr hx => ?_⟩
    have key : ∀ y ∈ c.wire, y.to = (j : Int) ∨ y.to = (b : Int) → y ∈ w := by
      intro y hy hyt
      rw [hw] at hy
      rcases List.mem_cons.1 hy with rfl | hy
      · exfalso
        rcases hyt with e | e
        · rw [e, Int.toNat_natCast, hu] at hd; cases hd
        · rw [e, Int.toNat_natCast, hb] at hd; cases hd
      · exact hy
    rcases hup j r x hj hu hr hx with ⟨y, hy, k1, k2⟩ | ⟨y, hy, k1, k2, k3⟩ | k
    · exact .inl ⟨y, key y hy (.inl k2), k1, k2⟩
    · refine .inr (.inl ⟨y, key y hy (.inr ?_), k1, k2, k3⟩)
      rcases hms y hy with q | q
      · omega
      · exact q.2.1
    · exact .inr (.inr k)
  · rw [if_neg hd] at hcg ⊢
    rcases hms m hmm with ⟨k1, k2, k3⟩ | ⟨k1, k2, k3, k4⟩
    · -- a region is asked
      have hjb : m.to.toNat ≠ b := by omega
      have htoo : toOK (c.reps.length : Int) r m 1 = true := toOK_iff.2 ⟨hC, k1, hid.symm, f0, f1, by omega, by omega, by omega⟩
      have hh : hearAny (c.reps.length : Int) r m = (hearR r m, hearM r m, true) := by rw [any1 k1]; unfold hear; rw [if_pos htoo]
      rw [hh] at hcg ⊢
      simp only [if_true] at hcg ⊢
      refine ⟨hcg, hdn, hct, fun j x hx => ?_, fun x hx => ?_, fun x hx => ?_, fun j r' x hj hu hr hx => ?_⟩
      · rcases set_cases hx with ⟨rfl, rfl⟩ | ⟨_, hx⟩
        · rw [hearR_log]; exact hlg _ _ e1
        · exact hlg j x hx
      · rcases List.mem_append.1 hx with hx | hx
        · exact hms x (hww x hx)
        · simp at hx
          subst hx
          refine .inr ⟨rfl, k2, ?_, ?_⟩
          · rw [hearM_term]; have := hC.t0; omega
          · rw [hearM_term]; have := hC.t1; omega
      · rcases set_cases hx with ⟨e, _⟩ | ⟨_, hx⟩
        · exact absurd e hjb
        · exact hbb x hx
      · have hx' : c.reps[b]? = some x := by
          rcases set_cases hx with ⟨e, _⟩ | ⟨_, hx⟩
          · exact absurd e hjb
          · exact hx
        rcases set_cases hr with ⟨rfl, rfl⟩ | ⟨hne, hr⟩
        · refine .inr (.inl ⟨hearM r m, List.mem_append_right _ (by simp), rfl, ?_, ?_⟩)
          · show r.id = _; omega
          · rw [hearM_term, hearR_term]
        · rcases hup j r' x hj hu hr hx' with ⟨y, hy, q1, q2⟩ | ⟨y, hy, q1, q2, q3⟩ | q
          · rw [hw] at hy
            rcases List.mem_cons.1 hy with rfl | hy
            · exfalso; omega
            · exact .inl ⟨y, List.mem_append_left _ hy, q1, q2⟩
          · rw [hw] at hy
            rcases List.mem_cons.1 hy with rfl | hy
            · exfalso; omega
            · exact .inr (.inl ⟨y, List.mem_append_left _ hy, q1, q2, q3⟩)
          · exact .inr (.inr q)
    · -- the candidate hears an answer
      have hto : m.to.toNat = b := by omega
      rw [hto] at e1
      have htoo : toOK (c.reps.length : Int) r m 2 = true := toOK_iff.2 ⟨hC, k1, hid.symm, f0, f1, by omega, k3, k4⟩
      have hh : hearAny (c.reps.length : Int) r m = (voted (c.reps.length : Int) r m, zeroM, false) := any2 k1
      rw [hh, hto] at hcg ⊢
      simp only [Bool.false_eq_true, if_false, List.append_nil] at hcg ⊢
      obtain ⟨b1, b2, b3⟩ := hbb r e1
      have hv := voted_term (c.reps.length : Int) r m
      have hv2 := voted_term2 htoo
      refine ⟨hcg, hdn, hct, fun j x hx => ?_, fun x hx => hms x (hww x hx), fun x hx => ?_, fun j r' x hj hu hr hx => ?_⟩
      · rcases set_cases hx with ⟨rfl, rfl⟩ | ⟨_, hx⟩
        · rw [voted_log]; exact hlg _ _ e1
        · exact hlg j x hx
      · rcases set_cases hx with ⟨_, rfl⟩ | ⟨e, _⟩
        · exact voted_bb (by rw [hid]; exact k2) b1 b2 b3
        · exact absurd rfl e
      · have hr' : c.reps[j]? = some r' := by
          rcases set_cases hr with ⟨e, _⟩ | ⟨_, hr⟩
          · exact absurd e.symm hj
          · exact hr
        have hx' : x = voted (c.reps.length : Int) r m := by
          rcases set_cases hx with ⟨_, rfl⟩ | ⟨e, _⟩
          · rfl
          · exact absurd rfl e
        subst hx'
        rcases hup j r' r hj hu hr' e1 with ⟨y, hy, q1, q2⟩ | ⟨y, hy, q1, q2, q3⟩ | q
        · rw [hw] at hy
          rcases List.mem_cons.1 hy with rfl | hy
          · exfalso; omega
          · exact .inl ⟨y, hy, q1, q2⟩
        · rw [hw] at hy
          rcases List.mem_cons.1 hy with rfl | hy
          · exact .inr (.inr (by omega))
          · exact .inr (.inl ⟨y, hy, q1, q2, q3⟩)
        · exact .inr (.inr (by omega))

theorem pa_end {b : Nat} {T : Int} {logs : Nat → Log OpT} {dn : List Bool} (hT1 : 1 ≤ T) (hT2 : T ≤ 1048576) (hb : dn[b]? = some false) {c : CT} (p : PA b T logs dn c) : PA b T logs dn (flushC c) ∧ (flushC c).wire = [] :=
  ⟨flush_ind _ (pa_step hT1 hT2 hb) _ c (Nat.le_refl _) p.g.gv p, (flush_ok' p.g.gv).w⟩

end Go.Proofs.YtfbikpbejkgegaaGreat

namespace Go.Proofs.YtfbikpbejkgegaaGreat
open Go Go.Abs Go.Raft
/-- What holds while a candidate of a new greatest term and its voters speak; L is its log. -/
structure PB (b : Nat) (T : Int) (L : Log OpT) (logs : Nat → Log OpT) (dn : List Bool) (c : CT) : Prop where
  g : CG c
  dq : c.down = dn
  ct : c.cut = []
  lg : ∀ (j : Nat) (r : RT), c.reps[j]? = some r → r.log = logs j
  ms : ∀ m ∈ c.wire, (m.kind = 1 ∧ m.frm = (b : Int) ∧ m.term = T ∧ m.prev = (L.length : Int) ∧ m.pterm = lastT L) ∨ (m.kind = 2 ∧ m.to = (b : Int) ∧ m.term = T ∧ m.ok = true)
  bb : ∀ r : RT, c.reps[b]? = some r → r.term = T ∧ ((r.role = 2 ∧ ∀ j : Nat, j ≠ b → r.mtch[j]?.getD 0 = 0) ∨ (r.role = 1 ∧ yes r.votes < quorum (c.reps.length : Int) ∧ r.votes[b]? = some true ∧ r.votes.length = c.reps.length ∧
    ∀ j : Nat, j ≠ b → dn[j]? = some false → (∃ m ∈ c.wire, m.kind = 1 ∧ m.to = (j : Int)) ∨ (∃ m ∈ c.wire, m.kind = 2 ∧ m.frm = (j : Int)) ∨ r.votes[j]? = some true))
  up : ∀ (j : Nat) (r : RT), j ≠ b → dn[j]? = some false → c.reps[j]? = some r → r.term < T ∨ (r.term = T ∧ r.voted = (b : Int) ∧ r.role = 0)

theorem grant {n : Int} {r : RT} {m : MT} {b : Nat} {T : Int} (hm : m.frm = (b : Int)) (ht : m.term = T) (hu : r.term < T ∨ (r.term = T ∧ r.voted = (b : Int) ∧ r.role = 0)) (hf : fresh r.log m.prev m.pterm = true) :
    (hearR r m).term = T ∧ (hearR r m).voted = (b : Int) ∧ (hearR r m).role = 0 ∧ (hearM r m).ok = true ∧ (hearM r m).term = T := by
  have hx : (fol r m.term).term = T ∧ ((fol r m.term).voted = -1 ∨ (fol r m.term).voted = (b : Int)) ∧ (fol r m.term).role = 0 ∧ (fol r m.term).log = r.log := by
    unfold fol
    rw [ht]
    split
    · exact ⟨rfl, .inl rfl, rfl, rfl⟩
    · rcases hu with hu | ⟨h1, h2, h3⟩
      · omega
      · exact ⟨h1, .inr h2, h3, rfl⟩
  obtain ⟨x1, x2, x3, x4⟩ := hx
  have hy : hearYes (fol r m.term) m = true := by
    unfold hearYes
    rw [x4, hf, x1, x3, hm]
    rcases x2 with x2 | x2
    · rw [x2]; simp [ht]
    · rw [x2]; simp [ht]
  have e1 : hearR r m = vote (fol r m.term) m.frm := by unfold hearR; dsimp only; rw [if_pos hy]
  rw [e1]
  refine ⟨x1, hm, x3, ?_, ?_⟩
  · unfold hearM; exact hy
  · unfold hearM; exact x1

theorem pb_step {b : Nat} {T : Int} {L : Log OpT} {logs : Nat → Log OpT} {dn : List Bool} (hT1 : 1 ≤ T) (hT2 : T ≤ 1048576) (hb : dn[b]? = some false)
    (hf : ∀ j : Nat, j ≠ b → dn[j]? = some false → fresh (logs j) (L.length : Int) (lastT L) = true) (c : CT) (m : MT) (w : List MT) (h : GV c) (hw : c.wire = m :: w) (p : PB b T L logs dn c) : PB b T L logs dn (deliverC c 0).2 := by
  have hcg := (cg_deliver p.g (deliver_zero h.v (by rw [hw]; simp))).1
  obtain ⟨r, e1, hid, hC, t0, f0, f1, hft, e2⟩ := deliver_cons h p.ct hw
  have hdn := p.dq; have hct := p.ct; have hlg := p.lg; have hms := p.ms; have hbb := p.bb; have hup := p.up
  have hmm : m ∈ c.wire := by rw [hw]; exact List.mem_cons_self ..
  have hww : ∀ x ∈ w, x ∈ c.wire := fun x hx => by rw [hw]; exact List.mem_cons_of_mem _ hx
  rw [e2] at hcg ⊢
  rw [down_of p.dq] at hcg ⊢
  by_cases hd : dn[m.to.toNat]?.getD false = true
  · rw [if_pos hd] at hcg ⊢
    refine ⟨hcg, hdn, hct, hlg, fun x hx => hms x (hww x hx), fun x hx => ?_, hup⟩
    obtain ⟨b1, b2⟩ := hbb x hx
    refine ⟨b1, b2.imp_right fun ⟨q1, q2, q3, q4, q5⟩ => ⟨q1, q2, q3, q4, fun j hj hu => ?_⟩⟩
    have key : ∀ y ∈ c.wire, y.to = (j : Int) ∨ y.to = (b : Int) → y ∈ w := by
      intro y hy hyt
      rw [hw] at hy
      rcases List.mem_cons.1 hy with rfl | hy
      · exfalso
        rcases hyt with e | e
        · rw [e, Int.toNat_natCast, hu] at hd; cases hd
        · rw [e, Int.toNat_natCast, hb] at hd; cases hd
      · exact hy
    rcases q5 j hj hu with ⟨y, hy, k1, k2⟩ | ⟨y, hy, k1, k2⟩ | k
    · exact .inl ⟨y, key y hy (.inl k2), k1, k2⟩
    · refine .inr (.inl ⟨y, key y hy (.inr ?_), k1, k2⟩)
      rcases hms y hy with q | q
      · omega
      · exact q.2.1
    · exact .inr (.inr k)
  · rw [if_neg hd] at hcg ⊢
    rcases hms m hmm with ⟨k1, k2, k3, k4, k5⟩ | ⟨k1, k2, k3, k4⟩
    · have hjb : m.to.toNat ≠ b := by omega
      have hlt := (List.getElem?_eq_some_iff.1 e1).1
      have hdl : dn.length = c.reps.length := by rw [← hdn]; exact h.v.dn
      have hdj : dn[m.to.toNat]? = some false := by
        obtain ⟨x, hx⟩ := getD_some (l := dn) (i := m.to.toNat) (by omega)
        rw [hx] at hd ⊢
        cases x
        · rfl
        · exact absurd rfl hd
      have htoo : toOK (c.reps.length : Int) r m 1 = true := toOK_iff.2 ⟨hC, k1, hid.symm, f0, f1, by omega, by omega, by omega⟩
      have hh : hearAny (c.reps.length : Int) r m = (hearR r m, hearM r m, true) := by rw [any1 k1]; unfold hear; rw [if_pos htoo]
      have hfr : fresh r.log m.prev m.pterm = true := by rw [hlg _ _ e1, k4, k5]; exact hf _ hjb hdj
      obtain ⟨g1, g2, g3, g4, g5⟩ := grant (n := (c.reps.length : Int)) k2 k3 (hup _ _ hjb hdj e1) hfr
      rw [hh] at hcg ⊢
      simp only [if_true] at hcg ⊢
      refine ⟨hcg, hdn, hct, fun j x hx => ?_, fun x hx => ?_, fun x hx => ?_, fun j r' hj hu hr => ?_⟩
      · rcases set_cases hx with ⟨rfl, rfl⟩ | ⟨_, hx⟩
        · rw [hearR_log]; exact hlg _ _ e1
        · exact hlg j x hx
      · rcases List.mem_append.1 hx with hx | hx
        · exact hms x (hww x hx)
        · simp at hx
          subst hx
          exact .inr ⟨rfl, k2, g5, g4⟩
      · have hx : c.reps[b]? = some x := by
          rcases set_cases hx with ⟨e, _⟩ | ⟨_, hx⟩
          · exact absurd e hjb
          · exact hx
        obtain ⟨b1, b2⟩ := hbb x hx
        refine ⟨b1, b2.imp_right fun ⟨q1, q2, q3, q4, q5⟩ => ⟨q1, by show _ < quorum ((c.reps.set m.to.toNat (hearR r m)).length : Int); rw [List.length_set]; exact q2, q3, by show _ = (c.reps.set m.to.toNat (hearR r m)).length; rw [List.length_set]; exact q4, fun j hj hu => ?_⟩⟩
        rcases q5 j hj hu with ⟨y, hy, k1', k2'⟩ | ⟨y, hy, k1', k2'⟩ | k
        · rw [hw] at hy
          rcases List.mem_cons.1 hy with rfl | hy
          · exact .inr (.inl ⟨hearM r y, List.mem_append_right _ (by simp), rfl, by show r.id = _; omega⟩)
          · exact .inl ⟨y, List.mem_append_left _ hy, k1', k2'⟩
        · rw [hw] at hy
          rcases List.mem_cons.1 hy with rfl | hy
          · exfalso; omega
          · exact .inr (.inl ⟨y, List.mem_append_left _ hy, k1', k2'⟩)
        · exact .inr (.inr k)
      · rcases set_cases hr with ⟨rfl, rfl⟩ | ⟨_, hr⟩
        · exact .inr ⟨g1, g2, g3⟩
        · exact hup j r' hj hu hr
    · have hto : m.to.toNat = b := by omega
      rw [hto] at e1
      have htoo : toOK (c.reps.length : Int) r m 2 = true := toOK_iff.2 ⟨hC, k1, hid.symm, f0, f1, by omega, by omega, by omega⟩
      have hh : hearAny (c.reps.length : Int) r m = (voted (c.reps.length : Int) r m, zeroM, false) := any2 k1
      rw [hh, hto] at hcg ⊢
      simp only [Bool.false_eq_true, if_false, List.append_nil] at hcg ⊢
      obtain ⟨b1, b2⟩ := hbb r e1
      refine ⟨hcg, hdn, hct, fun j x hx => ?_, fun x hx => hms x (hww x hx), fun x hx => ?_, fun j r' hj hu hr => ?_⟩
      · rcases set_cases hx with ⟨rfl, rfl⟩ | ⟨_, hx⟩
        · rw [voted_log]; exact hlg _ _ e1
        · exact hlg j x hx
      · have hx' : x = voted (c.reps.length : Int) r m := by
          rcases set_cases hx with ⟨_, rfl⟩ | ⟨e, _⟩
          · rfl
          · exact absurd rfl e
        subst hx'
        have hnt : ¬ m.term > r.term := by omega
        unfold voted
        rw [if_pos htoo, if_neg hnt]
        rcases b2 with ⟨q1, q2⟩ | ⟨q1, q2, q3, q4, q5⟩
        · rw [if_neg (by omega)]
          exact ⟨b1, .inl ⟨q1, q2⟩⟩
        · rw [if_pos ⟨q1, by omega, k4⟩]
          unfold votedR
          dsimp only
          split
          · exact ⟨b1, .inl ⟨rfl, fun j hj => lead_zeros (by show r.id = _; omega) hj⟩⟩
          · rename_i hq
            refine ⟨b1, .inr ⟨q1, ?_, ?_, ?_, fun j hj hu => ?_⟩⟩
            · show _ < quorum ((c.reps.set b _).length : Int)
              rw [List.length_set]
              exact Int.not_le.1 hq
            · show (r.votes.set m.frm.toNat true)[b]? = some true
              rw [List.getElem?_set_ne (by omega)]; exact q3
            · show (r.votes.set m.frm.toNat true).length = (c.reps.set b _).length
              rw [List.length_set, List.length_set]; exact q4
            · show _ ∨ _ ∨ (r.votes.set m.frm.toNat true)[j]? = some true
              rcases q5 j hj hu with ⟨y, hy, k1', k2'⟩ | ⟨y, hy, k1', k2'⟩ | k
              · rw [hw] at hy
                rcases List.mem_cons.1 hy with rfl | hy
                · exfalso; omega
                · exact .inl ⟨y, hy, k1', k2'⟩
              · rw [hw] at hy
                rcases List.mem_cons.1 hy with rfl | hy
                · refine .inr (.inr ?_)
                  rw [k2', Int.toNat_natCast, List.getElem?_set_self (by omega)]
                · exact .inr (.inl ⟨y, hy, k1', k2'⟩)
              · refine .inr (.inr ?_)
                by_cases hjm : m.frm.toNat = j
                · rw [hjm, List.getElem?_set_self (by omega)]
                · rw [List.getElem?_set_ne hjm]; exact k
      · have hr' : c.reps[j]? = some r' := by
          rcases set_cases hr with ⟨e, _⟩ | ⟨_, hr⟩
          · exact absurd e.symm hj
          · exact hr
        exact hup j r' hj hu hr'

theorem count_up : ∀ (d v : List Bool), d.length = v.length → (∀ j : Nat, d[j]? = some false → v[j]? = some true) → d.countP (fun x => !x) ≤ v.countP (· == true) := by
  intro d
  induction d with
  | nil => intro v _ _; exact Nat.zero_le _
  | cons x d ih =>
    intro v hl h
    cases v with
    | nil => simp at hl
    | cons y v =>
      have := ih v (by simpa using hl) (fun j hj => by have := h (j + 1) (by simpa using hj); simpa using this)
      rw [List.countP_cons, List.countP_cons]
      have h0 := h 0
      simp only [List.getElem?_cons_zero, Option.some.injEq] at h0
      cases x
      · rw [h0 rfl]
        simp only [Bool.not_false, if_true, beq_self_eq_true]
        omega
      · simp only [Bool.not_true, Bool.false_eq_true, if_false]
        omega

/-- The candidate leads. -/
theorem pb_end {b : Nat} {T : Int} {L : Log OpT} {logs : Nat → Log OpT} {dn : List Bool} (hT1 : 1 ≤ T) (hT2 : T ≤ 1048576) (hb : dn[b]? = some false)
    (hf : ∀ j : Nat, j ≠ b → dn[j]? = some false → fresh (logs j) (L.length : Int) (lastT L) = true) {c : CT} (hq : quorum (c.reps.length : Int) ≤ (dn.countP (fun x => !x) : Int)) (p : PB b T L logs dn c) :
    PB b T L logs dn (flushC c) ∧ (flushC c).wire = [] ∧ ∀ r : RT, (flushC c).reps[b]? = some r → r.term = T ∧ r.role = 2 ∧ ∀ j : Nat, j ≠ b → r.mtch[j]?.getD 0 = 0 := by
  have f := flush_ok' p.g.gv
  have e := flush_ind _ (pb_step hT1 hT2 hb hf) _ c (Nat.le_refl _) p.g.gv p
  refine ⟨e, f.w, fun r hr => ?_⟩
  obtain ⟨b1, b2⟩ := e.bb r hr
  rcases b2 with ⟨q1, q2⟩ | ⟨q1, q2, q3, q4, q5⟩
  · exact ⟨b1, q1, q2⟩
  · exfalso
    have hw := f.w
    have hl := f.l
    have hdl : dn.length = (flushC c).reps.length := by rw [← e.dq]; exact f.gv.v.dn
    have := count_up dn r.votes (by rw [q4]; exact hdl) (fun j hj => by
      by_cases hjb : j = b
      · rw [hjb]; exact q3
      · rcases q5 j hjb hj with ⟨y, hy, _⟩ | ⟨y, hy, _⟩ | k
        · exact absurd hy (by show ¬ y ∈ (flushC c).wire; rw [hw]; simp)
        · exact absurd hy (by show ¬ y ∈ (flushC c).wire; rw [hw]; simp)
        · exact k)
    have q2' : yes r.votes < quorum ((flushC c).reps.length : Int) := q2
    rw [hl] at q2'
    unfold yes at q2'
    omega

end Go.Proofs.YtfbikpbejkgegaaGreat

namespace Go.Proofs.YtfbikpbejkgegaaGreat
open Go Go.Abs Go.Raft
theorem agree_refl : ∀ l : Log OpT, agree l l = l.length := by
  intro l
  induction l with
  | nil => rfl
  | cons x l ih => unfold agree; rw [if_pos rfl, ih]; rfl

theorem agree_ge : ∀ (a b : Log OpT) (c : Nat), c ≤ a.length → c ≤ b.length → a.take c = b.take c → c ≤ agree a b := by
  intro a
  induction a with
  | nil => intro b c h _ _; simp at h; omega
  | cons x a ih =>
    intro b c h1 h2 h3
    cases c with
    | zero => exact Nat.zero_le _
    | succ c =>
      cases b with
      | nil => simp at h2
      | cons y b =>
        simp only [List.take_succ_cons, List.cons.injEq] at h3
        unfold agree
        rw [if_pos (by rw [h3.1])]
        have := ih b c (by simpa using h1) (by simpa using h2) h3.2
        omega

/-- A log that goes on behind another one is fresher. -/
theorem no_more {l L : Log OpT} {top : Int} (hl : srt top 1 l = true) (hp : l.take L.length = L) (hf : fresh l (L.length : Int) (lastT L) = true) : l = L := by
  by_cases hlen : l.length ≤ L.length
  · rw [← hp, List.take_of_length_le hlen]
  · exfalso
    have hle : lastT L ≤ lastT l := by
      rcases Nat.eq_zero_or_pos L.length with h0 | h0
      · rw [List.length_eq_zero_iff.1 h0]
        exact lastT_nonneg hl
      · obtain ⟨e, he⟩ := getD_some (l := L) (i := L.length - 1) (by omega)
        rw [lastT_get he (by omega)]
        refine le_lastT hl (k := L.length - 1) ?_
        have hh : (l.take L.length)[L.length - 1]? = L[L.length - 1]? := by rw [hp]
        rw [List.getElem?_take, if_pos (by omega)] at hh
        rw [hh, he]
    unfold fresh at hf
    simp only [Bool.or_eq_true, Bool.and_eq_true, decide_eq_true_eq] at hf
    rcases hf with hf | ⟨_, hf⟩
    · omega
    · omega

theorem joined_to {l L : Log OpT} {top : Int} (hl : srt top 1 l = true) {p : Int} {k : Int} (hk0 : 0 ≤ k) (hk : k ≤ (l.length : Int)) (hc : l.take k.toNat = L.take k.toNat) (hkL : k.toNat ≤ L.length)
    (h : l = L ∨ (p = 0 ∧ (∀ (i : Nat) (x y : Ent OpT), l[i]? = some x → L[i]? = some y → x.1 = y.1 → l.take (i + 1) = L.take (i + 1)) ∧ fresh l (L.length : Int) (lastT L) = true)) :
    (joined l p.toNat (L.drop p.toNat)).1 = L ∧ k ≤ ((joined l p.toNat (L.drop p.toNat)).2 : Int) := by
  rcases h with rfl | ⟨rfl, hm, hf⟩
  · unfold joined
    dsimp only
    rw [agree_refl, if_pos rfl]
    exact ⟨rfl, hk⟩
  · unfold joined
    dsimp only
    rw [show (0 : Int).toNat = 0 from rfl, List.drop_zero, List.drop_zero]
    have hle := agree_le l L
    have hge := agree_ge l L k.toNat (by omega) hkL hc
    have htk : l.take (agree l L) = L.take (agree l L) := by
      rcases Nat.eq_zero_or_pos (agree l L) with h0 | h0
      · rw [h0]; rfl
      · obtain ⟨x, y, a1, a2, a3⟩ := agree_spec l L (agree l L - 1) (by omega)
        have := hm _ x y a1 a2 a3
        rwa [Nat.sub_add_cancel h0] at this
    by_cases hs : agree l L = L.length
    · rw [if_pos hs]
      refine ⟨?_, hk⟩
      rw [hs] at htk
      exact no_more hl (by rw [htk, List.take_length]) hf
    · rw [if_neg hs]
      refine ⟨?_, by show k ≤ ((0 + agree l L : Nat) : Int); omega⟩
      show l.take (0 + agree l L) ++ L.drop (agree l L) = L
      rw [Nat.zero_add, htk, List.take_append_drop]

theorem back_facts {r : RT} {T : Int} (ht : r.term ≤ T) (hr : r.term = T → r.role ≠ 2) : (back r T).term = T ∧ (back r T).role ≠ 2 ∧ (back r T).log = r.log ∧ (back r T).commit = r.commit := by
  have f1 : (fol r T).term = T := by rw [folT]; omega
  have f2 : (fol r T).role ≠ 2 := by
    unfold fol
    split
    · intro e; cases e
    · exact hr (by omega)
  have f3 := fol_log r T
  have f4 : (fol r T).commit = r.commit := by unfold fol; split <;> rfl
  unfold back
  dsimp only
  split
  · exact ⟨f1, by show (0 : Int) ≠ 2; decide, f3, f4⟩
  · exact ⟨f1, f2, f3, f4⟩

/-- A region that hears a leader of no lesser term has its log. -/
theorem take_it {n : Int} {r : RT} {m : MT} {b : Nat} {T : Int} {L : Log OpT} (hC : Chk n r) (hto : toOK n r m 3 = true) (hfb : m.frm = (b : Int)) (ht : m.term = T) (hrt : r.term ≤ T) (hrr : r.term = T → r.role ≠ 2)
    (hp0 : 0 ≤ m.prev) (hp1 : m.prev ≤ (L.length : Int)) (hpt : m.pterm = ptermAt L m.prev) (hpt0 : 0 ≤ m.pterm) (he : m.ents = L.drop m.prev.toNat) (hc0 : 0 ≤ m.commit) (hL : logFits L T = true)
    (hc : r.log.take r.commit.toNat = L.take r.commit.toNat) (hcL : r.commit.toNat ≤ L.length)
    (h : r.log = L ∨ (m.prev = 0 ∧ (∀ (i : Nat) (x y : Ent OpT), r.log[i]? = some x → L[i]? = some y → x.1 = y.1 → r.log.take (i + 1) = L.take (i + 1)) ∧ fresh r.log (L.length : Int) (lastT L) = true)) :
    (accept n r m).1.log = L ∧ (accept n r m).1.term = T ∧ (accept n r m).2.2 = true ∧ (accept n r m).2.1.kind = 4 ∧ (accept n r m).2.1.to = (b : Int) ∧ (accept n r m).2.1.term = T := by
  have hacc : acceptable n r m = true := by
    unfold acceptable
    simp only [hto, Bool.true_and, Bool.and_eq_true, decide_eq_true_eq]
    exact ⟨⟨hp0, hpt0⟩, hc0⟩
  obtain ⟨x1, x2, x3, x4⟩ := back_facts (T := m.term) (r := r) (by omega) (fun e => hrr (by omega))
  have hfit : fits (back r m.term) m = true := by
    unfold fits
    simp only [Bool.and_eq_true, Bool.or_eq_true, decide_eq_true_eq]
    rw [x3]
    refine ⟨⟨⟨x1.symm, x2⟩, ?_⟩, ?_⟩
    · rcases h with h | h
      · rw [h]; exact hp1
      · rw [h.1]; exact Int.natCast_nonneg _
    · rcases h with h | h
      · rw [h]; exact .inr hpt.symm
      · exact .inl h.1
  obtain ⟨j1, j2⟩ := joined_to (p := m.prev) hC.so hC.c0 hC.c1 hc hcL (by
    rcases h with h | h
    · exact .inl h
    · exact .inr h)
  have hok : (logFits (joined (back r m.term).log m.prev.toNat m.ents).1 m.term && decide ((back r m.term).commit ≤ ((joined (back r m.term).log m.prev.toNat m.ents).2 : Int))) = true := by
    rw [x3, x4, he, j1, ht, hL]
    simp only [Bool.true_and, decide_eq_true_eq]
    exact j2
  unfold accept
  rw [if_pos hacc]
  dsimp only
  rw [if_pos hfit, if_pos hok]
  refine ⟨?_, ?_, rfl, rfl, hfb, ?_⟩
  · show (joined (back r m.term).log m.prev.toNat m.ents).1 = L
    rw [x3, he]; exact j1
  · show (back r m.term).term = T
    rw [x1, ht]
  · show (back r m.term).term = T
    rw [x1, ht]

theorem appended_facts {n : Int} {r : RT} {m : MT} (ht : m.term ≤ r.term) : (appended n r m).term = r.term ∧ (appended n r m).role = r.role ∧ (appended n r m).log = r.log := by
  unfold appended
  split
  · rw [if_neg (by omega)]
    split
    · exact ⟨rfl, rfl, rfl⟩
    · exact ⟨rfl, rfl, rfl⟩
  · exact ⟨rfl, rfl, rfl⟩

/-- What holds while a leader and the others speak. -/
structure PR (b : Nat) (T : Int) (L : Log OpT) (dn : List Bool) (c : CT) : Prop where
  g : CG c
  dq : c.down = dn
  ct : c.cut = []
  bb : ∀ r : RT, c.reps[b]? = some r → r.term = T ∧ r.role = 2 ∧ r.log = L
  ms : ∀ m ∈ c.wire, (m.kind = 3 ∧ m.frm = (b : Int) ∧ m.term = T ∧ 0 ≤ m.prev ∧ m.prev ≤ (L.length : Int) ∧ m.pterm = ptermAt L m.prev ∧ m.ents = L.drop m.prev.toNat ∧ 0 ≤ m.commit ∧
    (m.prev = 0 ∨ ∀ r : RT, dn[m.to.toNat]? = some false → c.reps[m.to.toNat]? = some r → r.log = L)) ∨ (m.kind = 4 ∧ m.to = (b : Int) ∧ m.term ≤ T)
  up : ∀ (j : Nat) (r : RT), j ≠ b → dn[j]? = some false → c.reps[j]? = some r → r.term ≤ T ∧ (r.log = L ∨ (fresh r.log (L.length : Int) (lastT L) = true ∧ ∃ m ∈ c.wire, m.kind = 3 ∧ m.to = (j : Int)))

theorem ptermAt_nonneg {L : Log OpT} {top p : Int} (h : srt top 1 L = true) : 0 ≤ ptermAt L p := by
  unfold ptermAt
  split
  · cases hg : L[(p - 1).toNat]? with
    | none => exact Int.le_refl _
    | some e =>
      have := ((srt_iff.1 h).1 e (List.mem_of_getElem? hg)).1
      show 0 ≤ e.1
      omega
  · exact Int.le_refl _

theorem pr_step {b : Nat} {T : Int} {L : Log OpT} {dn : List Bool} (hT1 : 1 ≤ T) (hT2 : T ≤ 1048576) (hb : dn[b]? = some false) (c : CT) (m : MT) (w : List MT) (h : GV c) (hw : c.wire = m :: w) (p : PR b T L dn c) : PR b T L dn (deliverC c 0).2 := by
  have hcg := (cg_deliver p.g (deliver_zero h.v (by rw [hw]; simp))).1
  obtain ⟨r, e1, hid, hC, t0, f0, f1, hft, e2⟩ := deliver_cons h p.ct hw
  have hdn := p.dq; have hct := p.ct; have hms := p.ms; have hbb := p.bb; have hup := p.up
  have hmm : m ∈ c.wire := by rw [hw]; exact List.mem_cons_self ..
  have hww : ∀ x ∈ w, x ∈ c.wire := fun x hx => by rw [hw]; exact List.mem_cons_of_mem _ hx
  have hdl : dn.length = c.reps.length := by rw [← hdn]; exact h.v.dn
  have hbl : b < c.reps.length := by have := (List.getElem?_eq_some_iff.1 hb).1; omega
  obtain ⟨rb, hrb⟩ := getD_some (l := c.reps) (i := b) hbl
  obtain ⟨l1, l2, l3⟩ := hbb rb hrb
  have hCb := (h.v.rp b rb hrb).2
  have hLs : srt T 1 L = true := by rw [← l1, ← l3]; exact hCb.so
  have hLf : logFits L T = true := by
    unfold logFits
    rw [hLs, Bool.true_and, decide_eq_true_eq, ← l3]
    exact hCb.ll
  rw [e2] at hcg ⊢
  rw [down_of p.dq] at hcg ⊢
  by_cases hd : dn[m.to.toNat]?.getD false = true
  · rw [if_pos hd] at hcg ⊢
    refine ⟨hcg, hdn, hct, hbb, fun x hx => hms x (hww x hx), fun j r hj hu hr => ?_⟩
    obtain ⟨u1, u2⟩ := hup j r hj hu hr
    refine ⟨u1, u2.imp_right fun ⟨q1, y, hy, q2, q3⟩ => ⟨q1, y, ?_, q2, q3⟩⟩
    rw [hw] at hy
    rcases List.mem_cons.1 hy with rfl | hy
    · exfalso
      rw [q3, Int.toNat_natCast, hu] at hd; cases hd
    · exact hy
  · rw [if_neg hd] at hcg ⊢
    rcases hms m hmm with ⟨k1, k2, k3, k4, k5, k6, k7, k8, k9⟩ | ⟨k1, k2, k3⟩
    · have hjb : m.to.toNat ≠ b := by omega
      have hlt := (List.getElem?_eq_some_iff.1 e1).1
      have hdj : dn[m.to.toNat]? = some false := by
        obtain ⟨x, hx⟩ := getD_some (l := dn) (i := m.to.toNat) (by omega)
        rw [hx] at hd ⊢
        cases x
        · rfl
        · exact absurd rfl hd
      have htoo : toOK (c.reps.length : Int) r m 3 = true := toOK_iff.2 ⟨hC, k1, hid.symm, f0, f1, by omega, by omega, by omega⟩
      obtain ⟨g, hI, _⟩ := p.g.gd
      obtain ⟨u1, u2⟩ := hup _ r hjb hdj e1
      have hled := hI.leader e1 hrb l2 (by omega)
      rw [l3] at hled
      obtain ⟨t1, t2, t3, t4, t5, t6⟩ := take_it (b := b) (T := T) (L := L) hC htoo k2 k3 u1 (fun e e2 => hjb (hI.one e1 hrb e2 l2 (by omega))) k4 k5 k6 (by rw [k6]; exact ptermAt_nonneg hLs) k7 k8 hLf hled.1 hled.2 (by
        rcases u2 with u2 | ⟨u2, _⟩
        · exact .inl u2
        · rcases k9 with k9 | k9
          · refine .inr ⟨k9, fun i x y hx hy e => ?_, u2⟩
            rw [← l3] at hy ⊢
            exact hI.same e1 hrb hx hy e
          · exact .inl (k9 r hdj e1))
      rw [any3 k1, t3] at hcg ⊢
      simp only [if_true] at hcg ⊢
      refine ⟨hcg, hdn, hct, fun x hx => ?_, fun x hx => ?_, fun j r' hj hu hr => ?_⟩
      · rcases set_cases hx with ⟨e, _⟩ | ⟨_, hx⟩
        · exact absurd e hjb
        · exact hbb x hx
      · rcases List.mem_append.1 hx with hx | hx
        · refine (hms x (hww x hx)).imp_left fun ⟨q1, q2, q3, q4, q5, q6, q7, q8, q9⟩ => ⟨q1, q2, q3, q4, q5, q6, q7, q8, q9.imp_right fun q9 r' hr' hr => ?_⟩
          rcases set_cases hr with ⟨_, rfl⟩ | ⟨_, hr⟩
          · exact t1
          · exact q9 r' hr' hr
        · simp at hx
          subst hx
          exact .inr ⟨t4, t5, by omega⟩
      · rcases set_cases hr with ⟨_, rfl⟩ | ⟨hne, hr⟩
        · exact ⟨by omega, .inl t1⟩
        · obtain ⟨v1, v2⟩ := hup j r' hj hu hr
          refine ⟨v1, v2.imp_right fun ⟨q1, y, hy, q2, q3⟩ => ⟨q1, y, ?_, q2, q3⟩⟩
          rw [hw] at hy
          rcases List.mem_cons.1 hy with rfl | hy
          · exfalso; omega
          · exact List.mem_append_left _ hy
    · have hto : m.to.toNat = b := by omega
      rw [hto] at e1
      rw [hrb] at e1
      cases e1
      obtain ⟨a1, a2, a3⟩ := appended_facts (n := (c.reps.length : Int)) (r := r) (m := m) (by omega)
      rw [any4 k1, hto] at hcg ⊢
      simp only [Bool.false_eq_true, if_false, List.append_nil] at hcg ⊢
      refine ⟨hcg, hdn, hct, fun x hx => ?_, fun x hx => ?_, fun j r' hj hu hr => ?_⟩
      · rcases set_cases hx with ⟨_, rfl⟩ | ⟨e, _⟩
        · exact ⟨by rw [a1]; exact l1, by rw [a2]; exact l2, by rw [a3]; exact l3⟩
        · exact absurd rfl e
      · refine (hms x (hww x hx)).imp_left fun ⟨q1, q2, q3, q4, q5, q6, q7, q8, q9⟩ => ⟨q1, q2, q3, q4, q5, q6, q7, q8, q9.imp_right fun q9 r' hr' hr => ?_⟩
        rcases set_cases hr with ⟨_, rfl⟩ | ⟨_, hr⟩
        · rw [a3]; exact l3
        · exact q9 r' hr' hr
      · rcases set_cases hr with ⟨e, _⟩ | ⟨_, hr⟩
        · exact absurd e.symm hj
        · obtain ⟨v1, v2⟩ := hup j r' hj hu hr
          refine ⟨v1, v2.imp_right fun ⟨q1, y, hy, q2, q3⟩ => ⟨q1, y, ?_, q2, q3⟩⟩
          rw [hw] at hy
          rcases List.mem_cons.1 hy with rfl | hy
          · exfalso; omega
          · exact hy

/-- What a leader is that has brought all logs to its own. -/
structure Led (b : Nat) (T : Int) (L : Log OpT) (dn : List Bool) (c : CT) : Prop where
  g : CG c
  w : c.wire = []
  dq : c.down = dn
  ct : c.cut = []
  bb : ∀ r : RT, c.reps[b]? = some r → r.term = T ∧ r.role = 2 ∧ r.log = L
  up : ∀ (j : Nat) (r : RT), j ≠ b → dn[j]? = some false → c.reps[j]? = some r → r.term ≤ T ∧ r.log = L

theorem round_led {b : Nat} {T : Int} {L : Log OpT} {dn : List Bool} (hT1 : 1 ≤ T) (hT2 : T ≤ 1048576) (hb : dn[b]? = some false) {c : CT} (h : CG c) (hw : c.wire = []) (hdq : c.down = dn) (hct : c.cut = [])
    (hbb : ∀ r : RT, c.reps[b]? = some r → r.term = T ∧ r.role = 2 ∧ r.log = L)
    (hup : ∀ (j : Nat) (r x : RT), j ≠ b → dn[j]? = some false → c.reps[j]? = some r → c.reps[b]? = some x → r.term ≤ T ∧ (r.log = L ∨ (fresh r.log (L.length : Int) (lastT L) = true ∧ x.mtch[j]?.getD 0 = 0))) : Led b T L dn (round1 c (b : Int)) := by
  have hdl : dn.length = c.reps.length := by rw [← hdq]; exact h.v.dn
  have hbl : b < c.reps.length := by have := (List.getElem?_eq_some_iff.1 hb).1; omega
  obtain ⟨rb, hrb⟩ := getD_some (l := c.reps) (i := b) hbl
  obtain ⟨l1, l2, l3⟩ := hbb rb hrb
  have hCb := (h.v.rp b rb hrb).2
  have hidb := (h.v.rp b rb hrb).1
  have i0 : (0 : Int) ≤ (b : Int) := Int.natCast_nonneg _
  have i1 : (b : Int) < (c.reps.length : Int) := by omega
  have hra : repAt c (b : Int) = rb := by unfold repAt; rw [Int.toNat_natCast, hrb]; rfl
  have hda : downAt c (b : Int) = false := by unfold downAt; rw [Int.toNat_natCast, hdq, hb]; rfl
  have hbe : beatC c (b : Int) = (0, beat0 c (b : Int)) := by
    unfold beatC beat0
    rw [if_pos (ready_iff.2 ⟨h.v, i0, i1⟩), if_neg (by rw [hda]; simp), if_pos (by rw [hra]; exact l2)]
    simp only
    have := appends_len (c.reps.length : Int) (repAt c (b : Int))
    rw [if_neg (by rw [hw]; simp; omega), hw, List.nil_append]
  have hcg : CG (beat0 c (b : Int)) := by
    have := (cg_beat h (i := (b : Int)) (by rw [hbe])).1
    rw [hbe] at this; exact this
  have hap : (beat0 c (b : Int)).wire = appends (c.reps.length : Int) rb := by
    unfold beat0
    show appendsE (c.reps.length : Int) (repAt c (b : Int)) = _
    rw [hra]
    unfold appendsE
    rw [if_pos ⟨chk_iff.2 hCb, l2⟩]
  obtain ⟨v1, _, v3, _, v5⟩ := (role2_iff l2).1 hCb.ro
  have hpj : ∀ i : Nat, i < c.reps.length → 0 ≤ rb.mtch[i]?.getD 0 ∧ rb.mtch[i]?.getD 0 ≤ (L.length : Int) := by
    intro i hi
    obtain ⟨x, hx⟩ := getD_some (l := rb.mtch) (i := i) (by omega)
    rw [hx, ← l3]
    exact v5 x (List.mem_of_getElem? hx)
  have pr : PR b T L dn (beat0 c (b : Int)) := by
    refine ⟨hcg, hdq, hct, hbb, fun m hm => ?_, fun j r hj hu hr => ?_⟩
    · rw [hap] at hm
      simp only [appends, List.mem_map, List.mem_filter, List.mem_range, decide_eq_true_eq] at hm
      obtain ⟨i, ⟨hi1, hi2⟩, rfl⟩ := hm
      have hi1 : i < c.reps.length := by omega
      obtain ⟨p1, p2⟩ := hpj i hi1
      refine .inl ⟨rfl, hidb, l1, p1, p2, by rw [← l3], by rw [← l3], hCb.c0, ?_⟩
      by_cases hp : rb.mtch[i]?.getD 0 = 0
      · exact .inl hp
      · refine .inr fun r hu hr => ?_
        have hu : dn[((i : Nat) : Int).toNat]? = some false := hu
        have hr : c.reps[((i : Nat) : Int).toNat]? = some r := hr
        rw [Int.toNat_natCast] at hu hr
        rcases (hup i r rb (by omega) hu hr hrb).2 with q | q
        · exact q
        · exact absurd q.2 hp
    · obtain ⟨u1, u2⟩ := hup j r rb hj hu hr hrb
      refine ⟨u1, u2.imp_right fun ⟨q1, q2⟩ => ⟨q1, ?_⟩⟩
      have hjl := (List.getElem?_eq_some_iff.1 hr).1
      have hjl : j < c.reps.length := hjl
      have : mg 3 rb.id (j : Int) rb.term (rb.mtch[j]?.getD 0) (ptermAt rb.log (rb.mtch[j]?.getD 0)) rb.commit (rb.log.drop (rb.mtch[j]?.getD 0).toNat) false ∈ appends (c.reps.length : Int) rb := by
        simp only [appends, List.mem_map, List.mem_filter, List.mem_range, decide_eq_true_eq]
        exact ⟨j, ⟨by omega, by omega⟩, rfl⟩
      rw [hap]
      exact ⟨_, this, rfl, rfl⟩
  have e := flush_ind _ (pr_step hT1 hT2 hb) _ _ (Nat.le_refl _) hcg.gv pr
  have f := flush_ok' hcg.gv
  unfold round1
  rw [if_pos (by rw [hra]; exact l2)]
  refine ⟨e.g, f.w, e.dq, e.ct, e.bb, fun j r hj hu hr => ?_⟩
  obtain ⟨u1, u2⟩ := e.up j r hj hu hr
  refine ⟨u1, ?_⟩
  rcases u2 with u2 | ⟨_, y, hy, _⟩
  · exact u2
  · have hw' := f.w
    exact absurd hy (by show ¬ y ∈ (flushC (beat0 c (b : Int))).wire; rw [hw']; simp)

end Go.Proofs.YtfbikpbejkgegaaGreat

namespace Go.Proofs.YtfbikpbejkgegaaGreat
open Go Go.Abs Go.Raft
theorem fresh_iff {a b : Log OpT} : fresh a (b.length : Int) (lastT b) = true ↔ lastT a < lastT b ∨ (lastT a = lastT b ∧ a.length ≤ b.length) := by
  unfold fresh
  simp only [Bool.or_eq_true, Bool.and_eq_true, decide_eq_true_eq]
  constructor
  · rintro (h | ⟨h1, h2⟩)
    · exact .inl h
    · exact .inr ⟨h1.symm, by omega⟩
  · rintro (h | ⟨h1, h2⟩)
    · exact .inl h
    · exact .inr ⟨h1.symm, by omega⟩

theorem fresh_refl' (a : Log OpT) : fresh a (a.length : Int) (lastT a) = true := fresh_iff.2 (.inr ⟨rfl, Nat.le_refl _⟩)

theorem fresh_trans {a b d : Log OpT} (h1 : fresh a (b.length : Int) (lastT b) = true) (h2 : fresh b (d.length : Int) (lastT d) = true) : fresh a (d.length : Int) (lastT d) = true := by
  rw [fresh_iff] at *
  omega

theorem fresh_tot {a b : Log OpT} (h : fresh a (b.length : Int) (lastT b) = false) : fresh b (a.length : Int) (lastT a) = true := by
  have : ¬ (lastT a < lastT b ∨ (lastT a = lastT b ∧ a.length ≤ b.length)) := fun e => by rw [fresh_iff.2 e] at h; cases h
  rw [fresh_iff]
  omega

theorem standR_facts (n : Int) (r : RT) : (standR n r).log = r.log ∧ (standR n r).term = r.term + 1 := by
  unfold standR lead
  dsimp only
  split <;> exact ⟨rfl, rfl⟩

theorem yes_one2 : ∀ n ≤ 5, ∀ b < n, ((List.replicate n false).set b true).countP (· == true) = 1 := by decide

/-- A region stands on an empty wire. -/
theorem stand_val {c : CT} (V : VC c) (hw : c.wire = []) {b : Nat} {r : RT} (hr : c.reps[b]? = some r) (hd : c.down[b]? = some false) (ht : r.term < 1048576) :
    readyE c (b : Int) = 0 ∧ standC c (b : Int) = (0, cl (c.reps.set b (standR (c.reps.length : Int) r)) (asks (c.reps.length : Int) r) c.down c.cut) := by
  have hbl := (List.getElem?_eq_some_iff.1 hr).1
  have hbl : b < c.reps.length := hbl
  have hre : readyE c (b : Int) = 0 := ready_iff.2 ⟨V, Int.natCast_nonneg _, by omega⟩
  refine ⟨hre, ?_⟩
  have hra : repAt c (b : Int) = r := by unfold repAt; rw [Int.toNat_natCast, hr]; rfl
  have hda : downAt c (b : Int) = false := by unfold downAt; rw [Int.toNat_natCast, hd]; rfl
  have hC := (V.rp b r hr).2
  have hs : stand (c.reps.length : Int) r = (0, standR (c.reps.length : Int) r, asks (c.reps.length : Int) r) := by
    unfold stand
    rw [if_pos (chk_iff.2 hC), if_neg (by omega)]
  have hsl := stand_len (c.reps.length : Int) r
  rw [hs] at hsl
  have hsl : (asks (c.reps.length : Int) r).length ≤ 5 := hsl
  unfold standC
  rw [if_pos hre, if_neg (by rw [hda]; simp), hra, hs]
  simp only
  rw [if_pos trivial, if_neg (by rw [hw]; simp only [List.length_nil]; omega), hw, List.nil_append, Int.toNat_natCast]

theorem asks_mem {n : Nat} {r : RT} {b : Nat} (hid : r.id = (b : Int)) {j : Nat} (hj : j ≠ b) (hjn : j < n) : ∃ m ∈ asks (n : Int) r, m.kind = 1 ∧ m.to = (j : Int) := by
  refine ⟨mg 1 r.id (j : Int) (r.term + 1) r.log.length (lastT r.log) 0 [] false, ?_, rfl, rfl⟩
  simp only [asks, List.mem_map, List.mem_filter, List.mem_range, decide_eq_true_eq]
  exact ⟨j, ⟨by omega, by omega⟩, rfl⟩

theorem asks_all {n : Nat} {r : RT} {m : MT} (hm : m ∈ asks (n : Int) r) : m.kind = 1 ∧ m.frm = r.id ∧ m.term = r.term + 1 ∧ m.prev = (r.log.length : Int) ∧ m.pterm = lastT r.log := by
  simp only [asks, List.mem_map, List.mem_filter, List.mem_range, decide_eq_true_eq] at hm
  obtain ⟨j, _, rfl⟩ := hm
  exact ⟨rfl, rfl, rfl, rfl, rfl⟩

theorem standR_bb {n : Nat} {r : RT} {b : Nat} (hn1 : 1 ≤ n) (hn5 : n ≤ 5) (hid : r.id = (b : Int)) (hb : b < n) : ((standR (n : Int) r).role = 2 ∧ ∀ j : Nat, j ≠ b → (standR (n : Int) r).mtch[j]?.getD 0 = 0) ∨
    ((standR (n : Int) r).role = 1 ∧ yes (standR (n : Int) r).votes < quorum (n : Int) ∧ (standR (n : Int) r).votes[b]? = some true ∧ (standR (n : Int) r).votes.length = n) := by
  have hv : ((List.replicate (n : Int).toNat false).set r.id.toNat true) = (List.replicate n false).set b true := by rw [hid, Int.toNat_natCast, Int.toNat_natCast]
  unfold standR
  dsimp only
  split
  · exact .inl ⟨rfl, fun j hj => lead_zeros hid hj⟩
  · rename_i hq
    refine .inr ⟨rfl, ?_, ?_, ?_⟩
    · show yes ((List.replicate (n : Int).toNat false).set r.id.toNat true) < _
      rw [hv]
      unfold yes
      rw [yes_one2 n hn5 b hb]
      rw [quorum_eq (by omega) (by omega)] at hq ⊢
      omega
    · show ((List.replicate (n : Int).toNat false).set r.id.toNat true)[b]? = some true
      rw [hv, List.getElem?_set_self (by rw [List.length_replicate]; exact hb)]
    · show ((List.replicate (n : Int).toNat false).set r.id.toNat true).length = n
      rw [hv, List.length_set, List.length_replicate]

/-- A cluster at rest with a region whose log is the freshest of all that are up. -/
structure Rest0 (b : Nat) (dn : List Bool) (c : CT) : Prop where
  g : CG c
  dq : c.down = dn
  ct : c.cut = []
  hb : dn[b]? = some false
  fr : ∀ (j : Nat) (r x : RT), j ≠ b → dn[j]? = some false → c.reps[j]? = some r → c.reps[b]? = some x → fresh r.log (x.log.length : Int) (lastT x.log) = true

theorem Rest0.get {b : Nat} {dn : List Bool} {c : CT} (h : Rest0 b dn c) : ∃ r : RT, c.reps[b]? = some r ∧ b < c.reps.length := by
  have hdl : dn.length = c.reps.length := by rw [← h.dq]; exact h.g.v.dn
  have hbl : b < c.reps.length := by have := (List.getElem?_eq_some_iff.1 h.hb).1; omega
  obtain ⟨r, hr⟩ := getD_some (l := c.reps) (i := b) hbl
  exact ⟨r, hr, hbl⟩

/-- What stands ahead of both. -/
theorem settle_start {b : Nat} {dn : List Bool} {c : CT} (h : Rest0 b dn c) {r : RT} (hr : c.reps[b]? = some r) (ht : r.term < 1048576) :
    ∃ c1 : CT, c1 = cl (c.reps.set b (standR (c.reps.length : Int) r)) (asks (c.reps.length : Int) r) c.down c.cut ∧ CG c1 ∧ settleC c (b : Int) = (0, round1 (round1 (flushC c1) (b : Int)) (b : Int)) := by
  have h1 : CG (cl c.reps [] c.down c.cut) := h.g.same (fun m hm => (by cases hm)) (Nat.zero_le _) h.g.dn h.g.cs
  obtain ⟨_, s2⟩ := stand_val (c := cl c.reps [] c.down c.cut) h1.v rfl hr (by show c.down[b]? = some false; rw [h.dq]; exact h.hb) ht
  have hre : readyE c (b : Int) = 0 := ready_iff.2 ⟨h.g.v, Int.natCast_nonneg _, by have := (List.getElem?_eq_some_iff.1 hr).1; have : b < c.reps.length := this; omega⟩
  refine ⟨_, rfl, ?_, ?_⟩
  · have := (cg_stand h1 (i := (b : Int)) (by rw [s2])).1
    rw [s2] at this
    exact this
  · unfold settleC
    rw [if_pos hre]
    dsimp only
    rw [s2, if_pos rfl]

theorem settle_one {b : Nat} {dn : List Bool} {c : CT} (h : Rest0 b dn c) {r : RT} (hr : c.reps[b]? = some r) (ht : r.term < 1048576) :
    (settleC c (b : Int)).1 = 0 ∧ Rest0 b dn (settleC c (b : Int)).2 ∧ (settleC c (b : Int)).2.reps.length = c.reps.length ∧ ∀ (j : Nat) (r x : RT), j ≠ b → dn[j]? = some false → (settleC c (b : Int)).2.reps[j]? = some r → (settleC c (b : Int)).2.reps[b]? = some x → r.term ≤ x.term := by
  have V := h.g.v
  obtain ⟨c1, hc1, g1, hs⟩ := settle_start h hr ht
  have hbl : b < c.reps.length := (List.getElem?_eq_some_iff.1 hr).1
  have hid := (V.rp b r hr).1
  have hC := (V.rp b r hr).2
  have hT0 := hC.t0
  have hl1 : c1.reps.length = c.reps.length := by rw [hc1]; exact List.length_set
  rw [hs]
  have logs_of : ∀ (j : Nat) (x : RT), c1.reps[j]? = some x → ∃ y, c.reps[j]? = some y ∧ x.log = y.log := by
    intro j x hx
    rw [hc1] at hx
    rcases set_cases hx with ⟨rfl, rfl⟩ | ⟨_, hx⟩
    · exact ⟨r, hr, (standR_facts _ _).1⟩
    · exact ⟨x, hx, rfl⟩
  have pa : PA b (r.term + 1) (fun j => (c.reps[j]?.map Rep.log).getD []) dn c1 := by
    refine ⟨g1, by rw [hc1]; exact h.dq, by rw [hc1]; exact h.ct, fun j x hx => ?_, fun m hm => ?_, fun x hx => ?_, fun j x y hj hu hx hy => ?_⟩
    · obtain ⟨y, hy, e⟩ := logs_of j x hx
      rw [e]; show y.log = (c.reps[j]?.map Rep.log).getD []; rw [hy]; rfl
    · rw [hc1] at hm
      obtain ⟨a1, a2, a3, _⟩ := asks_all hm
      exact .inl ⟨a1, by rw [a2]; exact hid, a3⟩
    · rw [hc1] at hx
      rcases set_cases hx with ⟨_, rfl⟩ | ⟨e, _⟩
      · rw [(standR_facts _ _).2]
        refine ⟨Int.le_refl _, fun _ => rfl, fun e => ?_⟩
        rcases standR_bb (n := c.reps.length) h.g.n1 h.g.n5 hid hbl with q | q
        · exact q.2
        · omega
      · exact absurd rfl e
    · refine .inl ?_
      have hjl : j < c1.reps.length := (List.getElem?_eq_some_iff.1 hx).1
      rw [hc1]
      exact asks_mem hid hj (by omega)
  obtain ⟨p, hw⟩ := pa_end (by omega) (by omega) h.hb pa
  have f := flush_ok' g1.gv
  have hlen : (flushC c1).reps.length = c.reps.length := by rw [f.l, hl1]
  have i0 : (0 : Int) ≤ (b : Int) := Int.natCast_nonneg _
  have fr : ∀ (j : Nat) (s x : RT), j ≠ b → dn[j]? = some false → (flushC c1).reps[j]? = some s → (flushC c1).reps[b]? = some x → fresh s.log (x.log.length : Int) (lastT x.log) = true := by
    intro j s x hj hu hs hx
    have e1 := p.lg j s hs
    have e2 := p.lg b x hx
    have hjl : j < (flushC c1).reps.length := (List.getElem?_eq_some_iff.1 hs).1
    obtain ⟨s0, hs0⟩ := getD_some (l := c.reps) (i := j) (by omega)
    have e1 : s.log = (c.reps[j]?.map Rep.log).getD [] := e1
    have e2 : x.log = (c.reps[b]?.map Rep.log).getD [] := e2
    rw [hs0] at e1
    rw [hr] at e2
    have e1 : s.log = s0.log := e1
    have e2 : x.log = r.log := e2
    rw [e1, e2]
    exact h.fr j s0 r hj hu hs0 hr
  have tm : ∀ (j : Nat) (s x : RT), j ≠ b → dn[j]? = some false → (flushC c1).reps[j]? = some s → (flushC c1).reps[b]? = some x → s.term ≤ x.term := by
    intro j s x hj hu hs hx
    rcases p.up j s x hj hu hs hx with ⟨y, hy, _⟩ | ⟨y, hy, _⟩ | q
    · exact absurd hy (by rw [hw]; simp)
    · exact absurd hy (by rw [hw]; simp)
    · exact q
  obtain ⟨x, hx⟩ := getD_some (l := (flushC c1).reps) (i := b) (by omega)
  have hra : repAt (flushC c1) (b : Int) = x := by unfold repAt; rw [Int.toNat_natCast, hx]; rfl
  obtain ⟨b1, b2, b3⟩ := p.bb x hx
  by_cases hrole : x.role = 2
  · have hT := b2 (by omega)
    have l1 : Led b (r.term + 1) x.log dn (round1 (flushC c1) (b : Int)) := by
      refine round_led (by omega) (by omega) h.hb p.g hw p.dq p.ct (fun y hy => ?_) (fun j s y hj hu hs hy => ?_)
      · rw [hx] at hy; cases hy; exact ⟨hT, hrole, rfl⟩
      · have hy0 := hy
        rw [hx] at hy; cases hy
        exact ⟨by have := tm j s x hj hu hs hx; omega, .inr ⟨fr j s x hj hu hs hx, b3 hrole j hj⟩⟩
    have l2 : Led b (r.term + 1) x.log dn (round1 (round1 (flushC c1) (b : Int)) (b : Int)) :=
      round_led (by omega) (by omega) h.hb l1.g l1.w l1.dq l1.ct l1.bb (fun j s y hj hu hs hy => ⟨(l1.up j s hj hu hs).1, .inl (l1.up j s hj hu hs).2⟩)
    have r1 := round_ok p.g.gv hw i0 (show (b : Int) < _ by omega)
    have r2 := round_ok r1.1 r1.2.1 i0 (by rw [r1.2.2.1]; omega)
    refine ⟨rfl, ⟨l2.g, l2.dq, l2.ct, h.hb, fun j s y hj hu hs hy => ?_⟩, by rw [r2.2.2.1, r1.2.2.1, hlen], fun j s y hj hu hs hy => ?_⟩
    · rw [(l2.up j s hj hu hs).2, (l2.bb y hy).2.2]; exact fresh_refl' _
    · rw [(l2.bb y hy).1]; exact (l2.up j s hj hu hs).1
  · have e : round1 (flushC c1) (b : Int) = flushC c1 := by unfold round1; rw [hra, if_neg hrole]
    rw [e, e]
    exact ⟨rfl, ⟨p.g, p.dq, p.ct, h.hb, fr⟩, hlen, tm⟩

theorem settle_two {b : Nat} {dn : List Bool} {c : CT} (h : Rest0 b dn c) {r : RT} (hr : c.reps[b]? = some r) (ht : r.term < 1048576)
    (htm : ∀ (j : Nat) (s x : RT), j ≠ b → dn[j]? = some false → c.reps[j]? = some s → c.reps[b]? = some x → s.term ≤ x.term) (hq : quorum (c.reps.length : Int) ≤ (dn.countP (fun x => !x) : Int)) :
    (settleC c (b : Int)).1 = 0 ∧ (settleC c (b : Int)).2.reps.length = c.reps.length ∧ Led b (r.term + 1) r.log dn (settleC c (b : Int)).2 := by
  have V := h.g.v
  obtain ⟨c1, hc1, g1, hs⟩ := settle_start h hr ht
  have hbl : b < c.reps.length := (List.getElem?_eq_some_iff.1 hr).1
  have hid := (V.rp b r hr).1
  have hC := (V.rp b r hr).2
  have hT0 := hC.t0
  have hl1 : c1.reps.length = c.reps.length := by rw [hc1]; exact List.length_set
  rw [hs]
  have logs_of : ∀ (j : Nat) (x : RT), c1.reps[j]? = some x → ∃ y, c.reps[j]? = some y ∧ x.log = y.log := by
    intro j x hx
    rw [hc1] at hx
    rcases set_cases hx with ⟨rfl, rfl⟩ | ⟨_, hx⟩
    · exact ⟨r, hr, (standR_facts _ _).1⟩
    · exact ⟨x, hx, rfl⟩
  have pb : PB b (r.term + 1) r.log (fun j => (c.reps[j]?.map Rep.log).getD []) dn c1 := by
    refine ⟨g1, by rw [hc1]; exact h.dq, by rw [hc1]; exact h.ct, fun j x hx => ?_, fun m hm => ?_, fun x hx => ?_, fun j x hj hu hx => ?_⟩
    · obtain ⟨y, hy, e⟩ := logs_of j x hx
      rw [e]; show y.log = (c.reps[j]?.map Rep.log).getD []; rw [hy]; rfl
    · rw [hc1] at hm
      obtain ⟨a1, a2, a3, a4, a5⟩ := asks_all hm
      exact .inl ⟨a1, by rw [a2]; exact hid, a3, a4, a5⟩
    · have hx0 := hx
      rw [hc1] at hx
      rcases set_cases hx with ⟨_, rfl⟩ | ⟨e, _⟩
      · refine ⟨(standR_facts _ _).2, ?_⟩
        rcases standR_bb (n := c.reps.length) h.g.n1 h.g.n5 hid hbl with q | ⟨q1, q2, q3, q4⟩
        · exact .inl q
        · refine .inr ⟨q1, by rw [hl1]; exact q2, q3, by rw [hl1]; exact q4, fun j hj hu => .inl ?_⟩
          have hdl : dn.length = c.reps.length := by rw [← h.dq]; exact h.g.v.dn
          have hjl := (List.getElem?_eq_some_iff.1 hu).1
          rw [hc1]
          exact asks_mem hid hj (by omega)
      · exact absurd rfl e
    · have hx' : c.reps[j]? = some x := by
        rw [hc1] at hx
        rcases set_cases hx with ⟨e, _⟩ | ⟨_, hx⟩
        · exact absurd e.symm hj
        · exact hx
      have := htm j x r hj hu hx' hr
      exact .inl (by omega)
  have hf : ∀ j : Nat, j ≠ b → dn[j]? = some false → fresh ((fun j => (c.reps[j]?.map Rep.log).getD []) j) (r.log.length : Int) (lastT r.log) = true := by
    intro j hj hu
    have hdl : dn.length = c.reps.length := by rw [← h.dq]; exact h.g.v.dn
    have hjl := (List.getElem?_eq_some_iff.1 hu).1
    obtain ⟨s0, hs0⟩ := getD_some (l := c.reps) (i := j) (by omega)
    show fresh ((c.reps[j]?.map Rep.log).getD []) _ _ = true
    rw [hs0]
    exact h.fr j s0 r hj hu hs0 hr
  obtain ⟨p, hw, hlead⟩ := pb_end (by omega) (by omega) h.hb hf (by rw [hl1]; exact hq) pb
  have f := flush_ok' g1.gv
  have hlen : (flushC c1).reps.length = c.reps.length := by rw [f.l, hl1]
  have i0 : (0 : Int) ≤ (b : Int) := Int.natCast_nonneg _
  have logb : ∀ x : RT, (flushC c1).reps[b]? = some x → x.log = r.log := by
    intro x hx
    have e2 := p.lg b x hx
    have e2 : x.log = (c.reps[b]?.map Rep.log).getD [] := e2
    rw [hr] at e2
    exact e2
  have l1 : Led b (r.term + 1) r.log dn (round1 (flushC c1) (b : Int)) := by
    refine round_led (by omega) (by omega) h.hb p.g hw p.dq p.ct (fun y hy => ⟨(hlead y hy).1, (hlead y hy).2.1, logb y hy⟩) (fun j s y hj hu hs hy => ⟨?_, .inr ⟨?_, (hlead y hy).2.2 j hj⟩⟩)
    · rcases p.up j s hj hu hs with q | q
      · omega
      · omega
    · rw [p.lg j s hs]; exact hf j hj hu
  have l2 : Led b (r.term + 1) r.log dn (round1 (round1 (flushC c1) (b : Int)) (b : Int)) :=
    round_led (by omega) (by omega) h.hb l1.g l1.w l1.dq l1.ct l1.bb (fun j s y hj hu hs hy => ⟨(l1.up j s hj hu hs).1, .inl (l1.up j s hj hu hs).2⟩)
  have r1 := round_ok p.g.gv hw i0 (show (b : Int) < _ by omega)
  have r2 := round_ok r1.1 r1.2.1 i0 (by rw [r1.2.2.1]; omega)
  exact ⟨rfl, by rw [r2.2.2.1, r1.2.2.1, hlen], l2⟩

end Go.Proofs.YtfbikpbejkgegaaGreat

namespace Go.Proofs.YtfbikpbejkgegaaGreat
open Go Go.Abs Go.Raft
/-- The best log so far. -/
def Best (dn : List Bool) (reps : List RT) (j : Nat) (best up : Int) : Prop :=
  up = ((dn.take j).countP (fun x => !x) : Int) ∧
  ((best = -1 ∧ up = 0) ∨ ∃ (b : Nat) (x : RT), best = (b : Int) ∧ b < j ∧ dn[b]? = some false ∧ reps[b]? = some x ∧ ∀ (i : Nat) (r : RT), i < j → dn[i]? = some false → reps[i]? = some r → fresh r.log (x.log.length : Int) (lastT x.log) = true)

theorem take_snoc {l : List Bool} {j : Nat} {x : Bool} (h : l[j]? = some x) : l.take (j + 1) = l.take j ++ [x] := by
  rw [List.take_add_one, h]; rfl

theorem none_up : ∀ {d : List Bool} {i : Nat}, d.countP (fun x => !x) = 0 → d[i]? ≠ some false := by
  intro d i h e
  have := List.countP_eq_zero.1 h false (List.mem_of_getElem? e)
  simp at this

theorem loop3a (reps : List RT) (wire : List MT) (dn : List Bool) (hl : dn.length = reps.length) (h5 : reps.length ≤ 5) (hs : ∀ r ∈ reps, Shrt r) : ∀ (q j : Nat) (best up : Int), j + q = reps.length → Best dn reps j best up →
    ∃ (best' up' : Int), loopT l3_0_8 (((j : Int), best, up, (reps.length : Int), ()), (u2, (reps, (wire, (dn, ()))))) = some ((best', (reps.length : Int), up', ()), (u2, (reps, (wire, (dn, ()))))) ∧ Best dn reps reps.length best' up' := by
  intro q
  induction q with
  | zero =>
    intro j best up hj hB
    refine ⟨best, up, loopT_inr ?_, by rw [show reps.length = j by omega]; exact hB⟩
    have : ¬ (j : Int) < (reps.length : Int) := by omega
    simp only [l3_0_8, decide_eq_false this, sumE, sS]
  | succ q ih =>
    intro j best up hj hB
    obtain ⟨d, hd⟩ := getD_some (l := dn) (i := j) (by omega)
    obtain ⟨r, hr⟩ := getD_some (l := reps) (i := j) (by omega)
    have hlt : decide ((j : Int) < (reps.length : Int)) = true := decide_eq_true (by omega)
    have b1 : decide ((0 : Int) ≤ (j : Int) ∧ (j : Int) < (dn.length : Int)) = true := decide_eq_true (by omega)
    have b2 : decide ((0 : Int) ≤ (j : Int) ∧ (j : Int) < (reps.length : Int)) = true := decide_eq_true (by omega)
    obtain ⟨hu, hB⟩ := hB
    have hcl : (dn.take j).countP (fun x => !x) ≤ j := Nat.le_trans List.countP_le_length (by rw [List.length_take]; omega)
    cases d
    · -- it is up
      have hup : (((dn.take (j + 1)).countP (fun x => !x) : Nat) : Int) = up + 1 := by
        rw [take_snoc hd, List.countP_append, hu]; simp
      have hw : w64 (up + 1) = up + 1 := w64_id (by omega) (by omega)
      have go : ∀ best' : Int, Best dn reps (j + 1) best' (up + 1) → l3_0_8 (((j : Int), best, up, (reps.length : Int), ()), (u2, (reps, (wire, (dn, ()))))) = some (.inl ((((j + 1 : Nat) : Int), best', up + 1, (reps.length : Int), ()), (u2, (reps, (wire, (dn, ())))))) →
          ∃ (best' up' : Int), loopT l3_0_8 (((j : Int), best, up, (reps.length : Int), ()), (u2, (reps, (wire, (dn, ()))))) = some ((best', (reps.length : Int), up', ()), (u2, (reps, (wire, (dn, ()))))) ∧ Best dn reps reps.length best' up' := by
        intro best' h1 h2
        obtain ⟨a, u, h3, h4⟩ := ih (j + 1) best' (up + 1) (by omega) h1
        exact ⟨a, u, by rw [← h3]; exact loopT_inl h2, h4⟩
      have self : Best dn reps (j + 1) (j : Int) (up + 1) ∨ True := .inr trivial
      rcases hB with ⟨rfl, h0⟩ | ⟨b, x, rfl, hbj, hdb, hx, hall⟩
      · refine go (j : Int) ⟨hup.symm, .inr ⟨j, r, rfl, by omega, hd, hr, fun i s hi hdi hsi => ?_⟩⟩ ?_
        · by_cases hij : i = j
          · subst hij; rw [hr] at hsi; cases hsi; exact fresh_refl' _
          · have hdi' : (dn.take j)[i]? = some false := by rw [List.getElem?_take, if_pos (by omega)]; exact hdi
            exact absurd hdi' (none_up (by omega))
        · simp only [l3_0_8, hlt, b1, b2, sumE, sS, Int.toNat_natCast, hd, hr, show decide ((-1 : Int) < 0) = true from rfl, hw, w64_nat (show j ≤ 4294967296 by omega)]
      · have hb0 : ¬ ((b : Int) < 0) := by omega
        have b3 : decide ((0 : Int) ≤ (b : Int) ∧ (b : Int) < (reps.length : Int)) = true := decide_eq_true (by omega)
        have e12 := m12_eq r (hs r (List.mem_of_getElem? hr))
        have e11 := m11_eq x (r.log.length : Int) (lastT r.log) (hs x (List.mem_of_getElem? hx))
        cases hf : fresh x.log (r.log.length : Int) (lastT r.log)
        · refine go (b : Int) ⟨hup.symm, .inr ⟨b, x, rfl, by omega, hdb, hx, fun i s hi hdi hsi => ?_⟩⟩ ?_
          · by_cases hij : i = j
            · subst hij; rw [hr] at hsi; cases hsi; exact fresh_tot hf
            · exact hall i s (by omega) hdi hsi
          · rw [hf] at e11
            simp only [l3_0_8, hlt, b1, b2, b3, sumE, sS, Int.toNat_natCast, hd, hr, hx, decide_eq_false hb0, e12]
            rw [show m11 ((x, ((r.2.2.2.2.1.length : Int), (lastT r.log, ()))), ()) = _ from e11]
            simp only [sumE, sS, hw, w64_nat (show j ≤ 4294967296 by omega)]
        · refine go (j : Int) ⟨hup.symm, .inr ⟨j, r, rfl, by omega, hd, hr, fun i s hi hdi hsi => ?_⟩⟩ ?_
          · by_cases hij : i = j
            · subst hij; rw [hr] at hsi; cases hsi; exact fresh_refl' _
            · exact fresh_trans (hall i s (by omega) hdi hsi) hf
          · rw [hf] at e11
            simp only [l3_0_8, hlt, b1, b2, b3, sumE, sS, Int.toNat_natCast, hd, hr, hx, decide_eq_false hb0, e12]
            rw [show m11 ((x, ((r.2.2.2.2.1.length : Int), (lastT r.log, ()))), ()) = _ from e11]
            simp only [sumE, sS, hw, w64_nat (show j ≤ 4294967296 by omega)]
    · -- it is down
      have hup : (((dn.take (j + 1)).countP (fun x => !x) : Nat) : Int) = up := by
        rw [take_snoc hd, List.countP_append, hu]; simp
      obtain ⟨a, u, h3, h4⟩ := ih (j + 1) best up (by omega) ⟨hup.symm, hB.imp_right fun ⟨b, x, q1, q2, q3, q4, q5⟩ => ⟨b, x, q1, by omega, q3, q4, fun i s hi hdi hsi => q5 i s (by
        by_cases hij : i = j
        · subst hij; rw [hd] at hdi; cases hdi
        · omega) hdi hsi⟩⟩
      refine ⟨a, u, ?_, h4⟩
      rw [← h3]
      refine loopT_inl ?_
      simp only [l3_0_8, hlt, b1, sumE, sS, Int.toNat_natCast, hd, w64_nat (show j ≤ 4294967296 by omega)]

theorem loop3b {b : Nat} {T : Int} {L : Log OpT} {dn : List Bool} {c : CT} (h : Led b T L dn c) {rb : RT} (hrb : c.reps[b]? = some rb) : ∀ (q j : Nat), j + q = c.reps.length →
    loopT l3_0_22 (((j : Int), (b : Int), (c.reps.length : Int), ()), oC c) = some (.inr ((), oC c)) := by
  have h5 := h.g.n5
  have hdn : c.down.length = c.reps.length := h.g.dn
  have hbl : b < c.reps.length := (List.getElem?_eq_some_iff.1 hrb).1
  have b3 : decide ((0 : Int) ≤ (b : Int) ∧ (b : Int) < (c.reps.length : Int)) = true := decide_eq_true (by omega)
  intro q
  induction q with
  | zero =>
    intro j hj
    refine loopT_inr ?_
    have : ¬ (j : Int) < (c.reps.length : Int) := by omega
    simp only [l3_0_22, decide_eq_false this, sumE, sS]
  | succ q ih =>
    intro j hj
    obtain ⟨d, hd⟩ := getD_some (l := c.down) (i := j) (by omega)
    obtain ⟨r, hr⟩ := getD_some (l := c.reps) (i := j) (by omega)
    have hlt : decide ((j : Int) < (c.reps.length : Int)) = true := decide_eq_true (by omega)
    have b1 : decide ((0 : Int) ≤ (j : Int) ∧ (j : Int) < (c.down.length : Int)) = true := decide_eq_true (by omega)
    have b2 : decide ((0 : Int) ≤ (j : Int) ∧ (j : Int) < (c.reps.length : Int)) = true := decide_eq_true (by omega)
    rw [← ih (j + 1) (by omega)]
    refine loopT_inl ?_
    cases d
    · have hlog : r.log = rb.log := by
        rw [(h.bb rb hrb).2.2]
        by_cases hjb : j = b
        · subst hjb; rw [hrb] at hr; cases hr; exact (h.bb rb hrb).2.2
        · exact (h.up j r hjb (by rw [← h.dq]; exact hd) hr).2
      have hll := (h.g.v.rp b rb hrb).2.ll
      simp only [l3_0_22, hlt, b1, b2, b3, sumE, sS, Int.toNat_natCast, hd, hr, hrb]
      rw [show m16 ((r.2.2.2.2.1, (rb.2.2.2.2.1, ())), ()) = some ((true, ()), ()) from by
        have : r.2.2.2.2.1 = rb.2.2.2.2.1 := hlog
        rw [this]; exact m16_refl rb.log (by omega)]
      simp only [sumE, sS, w64_nat (show j ≤ 4294967296 by omega)]
    · simp only [l3_0_22, hlt, b1, sumE, sS, Int.toNat_natCast, hd, w64_nat (show j ≤ 4294967296 by omega)]

theorem settle_tb {c : CT} (h : CG c) {i : Int} (h0 : (settleC c i).1 = 0) {T : Int} (ht : TB c T) : TB (settleC c i).2 (T + 1) := by
  obtain ⟨e, c', h1, h2, _⟩ := m14_ok h i
  rw [m14_eq c i h.sh] at h1
  simp only [Option.some.injEq, Prod.mk.injEq, and_true, true_and] at h1
  obtain ⟨e1, e2, e3, e4, e5⟩ := h1
  have := (h2 (by rw [← e1]; exact h0)).2.2 T ht
  have hc : c' = (settleC c i).2 := by
    refine Prod.ext e2.symm (Prod.ext e3.symm (Prod.ext e4.symm (Prod.ext e5.symm rfl)))
  rw [← hc]; exact this

theorem law3c (l : List Int) : m3 ((l, ()), ()) = some ((true, ()), ()) := by
  unfold m3
  simp only [light, Option.bind_some, sane34]
  by_cases hl : l.length ≤ 500
  · simp only [decide_eq_true hl, sumE, sS, roll]
    obtain ⟨c0, d1, e1, h0, hd1, ht0, _⟩ := m10_okw 20 (by omega) (by omega) (dok0 hl)
    obtain ⟨e2, e2'⟩ := m9_eq c0 h0.sh
    have hc := (cg_heal h0).1
    have ht := tb_heal h0 ht0
    generalize healC c0 = c at e2 e2' hc ht
    have hn5 := hc.n5
    have hdn : c.down.length = c.reps.length := hc.dn
    obtain ⟨best, up, e3, hu, hB⟩ := loop3a c.reps c.wire c.down hdn hn5 hc.sh.r c.reps.length 0 (-1) 0 (by omega) ⟨rfl, .inl ⟨rfl, rfl⟩⟩
    rw [← hdn, List.take_length] at hu
    simp only [e1, sumE, sS, e2]
    rw [show loopT l3_0_8 ((0, ((-1), (0, ((c.reps.length : Int), ())))), (((), ()), (c.reps, (c.wire, (c.down, ()))))) = _ from e3]
    simp only [sumE, sS, m13_eq]
    by_cases hq : up < quorum (c.reps.length : Int)
    · simp only [decide_eq_true hq, sumE, sS]
    · have hqp : 1 ≤ quorum (c.reps.length : Int) := by rw [quorum_eq (by have := hc.n1; omega) (by omega)]; have := hc.n1; omega
      rcases hB with ⟨_, h00⟩ | ⟨b, x, rfl, hbj, hdb, hx, hall⟩
      · omega
      · have r0 : Rest0 b c.down c := ⟨hc, rfl, e2', hdb, fun j r y hj hdj hr hy => by
          rw [hx] at hy; cases hy
          have hjl : j < c.reps.length := (List.getElem?_eq_some_iff.1 hr).1
          exact hall j r hjl hdj hr⟩
        have hxt := ht.1 x (List.mem_of_getElem? hx)
        obtain ⟨s1, s2, s3, s4⟩ := settle_one r0 hx (by omega)
        have ht2 := settle_tb hc s1 ht
        have e14 := m14_eq c (b : Int) hc.sh
        have e14' := m14_eq (settleC c (b : Int)).2 (b : Int) s2.g.sh
        generalize settleC c (b : Int) = S at s1 s2 s3 s4 ht2 e14 e14'
        obtain ⟨y, hy, hbl⟩ := s2.get
        have hyt := ht2.1 y (List.mem_of_getElem? hy)
        obtain ⟨t1, t2, t3⟩ := settle_two s2 hy (by omega) s4 (by rw [s3]; omega)
        generalize settleC S.2 (b : Int) = R at t1 t2 t3 e14'
        obtain ⟨z, hz⟩ := getD_some (l := R.2.reps) (i := b) (by omega)
        have hzr := (t3.bb z hz).2.1
        have b1 : decide ((0 : Int) ≤ (b : Int) ∧ (b : Int) < (R.2.reps.length : Int)) = true := decide_eq_true (by omega)
        have e3' := loop3b t3 hz R.2.reps.length 0 (by omega)
        have hR : R.2.reps.length = c.reps.length := by omega
        rw [hR] at e3'
        have hcut : (c.reps, (c.wire, (c.down, (([] : List CutT), ())))) = c := by rw [← e2']
        simp only [decide_eq_false hq, sumE, sS]
        rw [show m14 (((c.reps, (c.wire, (c.down, ([], ())))), ((b : Int), ())), ()) = some ((S.1, ()), oC S.2) from by rw [hcut]; exact e14]
        simp only [sumE, sS]
        rw [show m14 (((S.2.reps, (S.2.wire, (S.2.down, (S.2.cut, ())))), ((b : Int), ())), ()) = some ((R.1, ()), oC R.2) from e14']
        simp only [sumE, sS, s1, t1]
        rw [show m15 (((R.2.reps, (R.2.wire, (R.2.down, (R.2.cut, ())))), ()), ()) = some ((chkC R.2, ()), ()) from m15_eq R.2 t3.g.sh, chkC_iff.2 t3.g.v]
        have hzr' : (z.2.2.2.1 : Int) = 2 := hzr
        simp only [sumE, sS, b1, Int.toNat_natCast, hz, bne_decide, decide_not, hzr', decide_true]
        rw [show loopT l3_0_22 ((0, ((b : Int), ((c.reps.length : Int), ()))), (((), ()), (R.2.reps, (R.2.wire, (R.2.down, (R.2.cut, ())))))) = _ from e3']
        have hw := t3.w
        have hw' : decide ((R.2.wire.length : Int) = 0) = true := decide_eq_true (by rw [hw]; rfl)
        simp only [sumE, sS, beq_decide, hw']
  · simp only [decide_eq_false hl, sumE, sS]

theorem law3 : ∀ x, Abs.InRs [.row (.int .i64)] x → m3 (x, ()) = some ((true, ()), ()) := fun x _ => law3c x.1

end Go.Proofs.YtfbikpbejkgegaaGreat
