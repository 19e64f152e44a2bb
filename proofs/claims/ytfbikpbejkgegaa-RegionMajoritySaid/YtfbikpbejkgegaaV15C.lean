/- Lemmas for the statement of the last text of this claim. -/
import Derived.Test.YtfbikpbejkgegaaChecked
import Derived.Test.YtfbikpbejkgegaaPxM
import Derived.WalkKit
import Derived.ProofKit
import Derived.Deep.RegionLaw
import Derived.Deep.LoopGhost
import Derived.Lib.Walk
import Derived.Maps.Own
import Derived.Shelf.RegionOpenPlain
import Derived.Lib.LazyBuf
import Derived.Test.YtfbikpbejkgegaaPxK
import Derived.Test.YtfbikpbejkgegaaV15B
set_option linter.unusedSimpArgs false
set_option linter.unusedVariables false
namespace Go.Proofs.Ytfbikpbejkgegaa
open Go Go.Abs Go.Raft
abbrev CutT : Type := Int × Int × Unit

abbrev CT : Type := List RT × List MT × List Bool × List CutT × Unit

abbrev CT.reps (c : CT) : List RT := c.1

abbrev CT.wire (c : CT) : List MT := c.2.1

abbrev CT.down (c : CT) : List Bool := c.2.2.1

abbrev CT.cut (c : CT) : List CutT := c.2.2.2.1

abbrev cl (reps : List RT) (wire : List MT) (down : List Bool) (cut : List CutT) : CT := (reps, wire, down, cut, ())

abbrev zeroC : CT := cl [] [] [] []

abbrev u2 : Unit × Unit := ((), ())

/-- A cluster as the functions return it. -/
abbrev oC (c : CT) : (Unit × Unit) × List RT × List MT × List Bool × List CutT × Unit := (u2, (c.reps, (c.wire, (c.down, (c.cut, ())))))

def repsOK (n : Int) : Nat → List RT → Bool
  | _, [] => true
  | i, r :: l => decide (r.id = (i : Int)) && chk n r && repsOK n (i + 1) l

def wireOK (n : Int) (l : List MT) : Bool := l.all (fun m => inn m.frm 0 (n - 1) && inn m.to 0 (n - 1) && decide (m.frm ≠ m.to))

def isCut (l : List CutT) (a b : Int) : Bool := l.any (fun p => decide (p.1 = min a b) && decide (p.2.1 = max a b))

def cutOK1 (n : Int) (x : CutT) : Bool := decide (0 ≤ x.1) && decide (x.1 < x.2.1) && decide (x.2.1 < n)

def cutsOK (n : Int) : List CutT → List CutT → Bool
  | _, [] => true
  | pre, x :: l => cutOK1 n x && !(isCut pre x.1 x.2.1) && cutsOK n (pre ++ [x]) l

def chkC (c : CT) : Bool :=
  inn c.reps.length 1 5 && decide (c.down.length = c.reps.length) && decide (c.wire.length ≤ 256) && repsOK c.reps.length 0 c.reps && wireOK c.reps.length c.wire && cutsOK c.reps.length [] c.cut

structure ShC (c : CT) : Prop where
  r : ∀ r ∈ c.reps, Shrt r
  rl : c.reps.length ≤ 2147483647
  w : ∀ m ∈ c.wire, m.ents.length ≤ 1000000
  wl : c.wire.length ≤ 2147483647
  dl : c.down.length ≤ 2147483647
  cl : c.cut.length ≤ 2147483647

theorem min_if (a b : Int) : (if a < b then a else b) = min a b := by split <;> omega

theorem max_if (a b : Int) : (if a > b then a else b) = max a b := by split <;> omega

theorem loop113 (l : List CutT) (a b : Int) (hl : l.length ≤ 4294967295) : ∀ (k i : Nat), i + k = l.length →
    loopT l113_0_2 (((i : Int), b, a, l, ()), ()) = some (if isCut (l.drop i) b a then .inl ((true, ()), ()) else .inr ((), ())) := by
  intro k
  induction k with
  | zero =>
    intro i h
    rw [List.drop_eq_nil_of_le (by omega)]
    refine loopT_inr ?_
    have : ¬ (i : Int) < (l.length : Int) := by omega
    simp only [l113_0_2, this, decide_true, decide_false, cond_true, cond_false, Option.bind_some, Bool.not_true, Bool.not_false, sumE, Bool.true_and, Bool.and_true, Bool.false_and, Bool.and_false, beq_self_eq_true, bne_self_eq_false, isCut, List.any_nil, Bool.false_eq_true, if_false]
  | succ k ih =>
    intro i h
    obtain ⟨e, he, hd⟩ := drop_at (l := l) (i := i) (by omega)
    have hlt : (i : Int) < (l.length : Int) := by omega
    rw [hd]
    unfold isCut
    rw [List.any_cons]
    cases hq : (decide (e.1 = min b a) && decide (e.2.1 = max b a))
    · rw [show loopT l113_0_2 (((i : Int), b, a, l, ()), ()) = loopT l113_0_2 ((((i + 1 : Nat) : Int), b, a, l, ()), ()) from loopT_inl (by
        simp only [l113_0_2, rowAt_G, rowG_nat he, hlt, min_if, max_if, beq_decide, hq, decide_true, decide_false, cond_true, cond_false, Option.bind_some, Bool.not_true, Bool.not_false, sumE, Bool.true_and, Bool.and_true, Bool.false_and, Bool.and_false, beq_self_eq_true, bne_self_eq_false, w64_nat (show i ≤ 4294967296 by omega)])]
      rw [ih (i + 1) (by omega), Bool.false_or]
      rfl
    · rw [Bool.true_or]
      refine loopT_inr ?_
      simp only [l113_0_2, rowAt_G, rowG_nat he, hlt, min_if, max_if, beq_decide, hq, decide_true, decide_false, cond_true, cond_false, Option.bind_some, Bool.not_true, Bool.not_false, sumE, Bool.true_and, Bool.and_true, Bool.false_and, Bool.and_false, beq_self_eq_true, bne_self_eq_false, if_true]

theorem isCut_comm (l : List CutT) (a b : Int) : isCut l a b = isCut l b a := by
  unfold isCut
  rw [show min a b = min b a by omega, show max a b = max b a by omega]

theorem m113_eq (l : List CutT) (a b : Int) (hl : l.length ≤ 4294967295) : m113 ((l, a, b, ()), ()) = some ((isCut l a b, ()), ()) := by
  unfold m113
  have := loop113 l a b hl l.length 0 (by omega)
  rw [List.drop_zero] at this
  simp only []
  rw [show loopT l113_0_2 ((0, (b, (a, (l, ())))), ()) = _ from this, isCut_comm l a b]
  cases isCut l b a <;> rfl

theorem loop71a (reps : List RT) (wire : List MT) (down : List Bool) (cut : List CutT) (hr : ∀ r ∈ reps, Shrt r) (hl : reps.length ≤ 2147483647) (n : Int) (hn : (reps.length : Int) = n) : ∀ (k i : Nat), i + k = reps.length →
    loopT l71_0_5 (((i : Int), n, ()), ((cl reps wire down cut, ()), ())) = some (if repsOK n i (reps.drop i) then .inr ((n, ()), ((cl reps wire down cut, ()), ())) else .inl ((false, ()), ())) := by
  intro k
  induction k with
  | zero =>
    intro i h
    rw [List.drop_eq_nil_of_le (by omega)]
    refine loopT_inr ?_
    have : ¬ (i : Int) < n := by omega
    simp only [l71_0_5, this, decide_true, decide_false, cond_true, cond_false, Option.bind_some, Bool.not_true, Bool.not_false, sumE, Bool.true_and, Bool.and_true, Bool.false_and, Bool.and_false, beq_self_eq_true, bne_self_eq_false, repsOK, if_true]
  | succ k ih =>
    intro i h
    obtain ⟨e, he, hd⟩ := drop_at (l := reps) (i := i) (by omega)
    have hlt : (i : Int) < n := by omega
    have hsh := hr e (List.mem_of_getElem? he)
    rw [hd, repsOK]
    rcases Bool.eq_false_or_eq_true (decide (e.id = (i : Int))) with h1 | h1
    · cases h2 : chk n e
      · rw [h1, Bool.true_and, Bool.false_and, if_neg (by simp)]
        refine loopT_inr ?_
        simp only [l71_0_5, rowAt_G, rowG_nat he, hlt, bne_decide, decide_not, h1, m27_eq n e hsh, h2, decide_true, decide_false, cond_true, cond_false, Option.bind_some, Bool.not_true, Bool.not_false, sumE, Bool.true_and, Bool.and_true, Bool.false_and, Bool.and_false, beq_self_eq_true, bne_self_eq_false]
      · rw [show loopT l71_0_5 (((i : Int), n, ()), ((cl reps wire down cut, ()), ())) = loopT l71_0_5 ((((i + 1 : Nat) : Int), n, ()), ((cl reps wire down cut, ()), ())) from loopT_inl (by
          simp only [l71_0_5, rowAt_G, rowG_nat he, hlt, bne_decide, decide_not, h1, m27_eq n e hsh, h2, decide_true, decide_false, cond_true, cond_false, Option.bind_some, Bool.not_true, Bool.not_false, sumE, Bool.true_and, Bool.and_true, Bool.false_and, Bool.and_false, beq_self_eq_true, bne_self_eq_false, w64_nat (show i ≤ 4294967296 by omega)])]
        rw [ih (i + 1) (by omega), h1]
        simp only [decide_true, decide_false, cond_true, cond_false, Option.bind_some, Bool.not_true, Bool.not_false, sumE, Bool.true_and, Bool.and_true, Bool.false_and, Bool.and_false, beq_self_eq_true, bne_self_eq_false]
    · rw [h1, Bool.false_and, Bool.false_and, if_neg (by simp)]
      refine loopT_inr ?_
      simp only [l71_0_5, rowAt_G, rowG_nat he, hlt, bne_decide, decide_not, h1, decide_true, decide_false, cond_true, cond_false, Option.bind_some, Bool.not_true, Bool.not_false, sumE, Bool.true_and, Bool.and_true, Bool.false_and, Bool.and_false, beq_self_eq_true, bne_self_eq_false]

theorem loop71b (reps : List RT) (wire : List MT) (down : List Bool) (cut : List CutT) (hl : wire.length ≤ 2147483647) (n : Int) (hn : inn n 1 5 = true) : ∀ (k i : Nat), i + k = wire.length →
    loopT l71_0_10 (((i : Int), n, ()), ((cl reps wire down cut, ()), ())) = some (if wireOK n (wire.drop i) then .inr ((n, ()), ((cl reps wire down cut, ()), ())) else .inl ((false, ()), ())) := by
  intro k
  induction k with
  | zero =>
    intro i h
    rw [List.drop_eq_nil_of_le (by omega)]
    refine loopT_inr ?_
    have : ¬ (i : Int) < (wire.length : Int) := by omega
    simp only [l71_0_10, this, decide_true, decide_false, cond_true, cond_false, Option.bind_some, Bool.not_true, Bool.not_false, sumE, Bool.true_and, Bool.and_true, Bool.false_and, Bool.and_false, beq_self_eq_true, bne_self_eq_false, wireOK, List.all_nil, if_true]
  | succ k ih =>
    intro i h
    obtain ⟨e, he, hd⟩ := drop_at (l := wire) (i := i) (by omega)
    have hlt : (i : Int) < (wire.length : Int) := by omega
    rw [hd]
    unfold wireOK
    rw [List.all_cons]
    have hw := w64_pred hn
    have hbad : (inn e.frm 0 (n - 1) && inn e.to 0 (n - 1) && decide (e.frm ≠ e.to)) = false → l71_0_10 (((i : Int), n, ()), ((cl reps wire down cut, ()), ())) = some (.inr (.inl ((false, ()), ()))) := by
      intro hb
      cases h1 : inn e.frm 0 (n - 1)
      · simp only [l71_0_10, rowAt_G, rowG_nat he, hlt, m45_eq, hw, h1, decide_true, decide_false, cond_true, cond_false, Option.bind_some, Bool.not_true, Bool.not_false, sumE, Bool.true_and, Bool.and_true, Bool.false_and, Bool.and_false, beq_self_eq_true, bne_self_eq_false]
      · cases h2 : inn e.to 0 (n - 1)
        · simp only [l71_0_10, rowAt_G, rowG_nat he, hlt, m45_eq, hw, h1, h2, decide_true, decide_false, cond_true, cond_false, Option.bind_some, Bool.not_true, Bool.not_false, sumE, Bool.true_and, Bool.and_true, Bool.false_and, Bool.and_false, beq_self_eq_true, bne_self_eq_false]
        · rw [h1, h2] at hb
          have h3 : e.frm = e.to := by simpa using hb
          simp only [l71_0_10, rowAt_G, rowG_nat he, hlt, m45_eq, hw, h1, h2, decide_true, decide_false, cond_true, cond_false, Option.bind_some, Bool.not_true, Bool.not_false, sumE, Bool.true_and, Bool.and_true, Bool.false_and, Bool.and_false, beq_self_eq_true, bne_self_eq_false, h3]
    cases hq : (inn e.frm 0 (n - 1) && inn e.to 0 (n - 1) && decide (e.frm ≠ e.to))
    · rw [Bool.false_and, if_neg (by simp)]
      exact loopT_inr (hbad hq)
    · have hq' := hq
      simp only [Bool.and_eq_true, decide_eq_true_eq] at hq'
      obtain ⟨⟨h1, h2⟩, h3⟩ := hq'
      rw [show loopT l71_0_10 (((i : Int), n, ()), ((cl reps wire down cut, ()), ())) = loopT l71_0_10 ((((i + 1 : Nat) : Int), n, ()), ((cl reps wire down cut, ()), ())) from loopT_inl (by
        simp only [l71_0_10, rowAt_G, rowG_nat he, hlt, m45_eq, hw, h1, h2, beq_decide, decide_eq_false h3, decide_true, decide_false, cond_true, cond_false, Option.bind_some, Bool.not_true, Bool.not_false, sumE, Bool.true_and, Bool.and_true, Bool.false_and, Bool.and_false, beq_self_eq_true, bne_self_eq_false, w64_nat (show i ≤ 4294967296 by omega)])]
      rw [ih (i + 1) (by omega), Bool.true_and]
      rfl

theorem loop71c (reps : List RT) (wire : List MT) (down : List Bool) (cut : List CutT) (hl : cut.length ≤ 2147483647) (n : Int) : ∀ (k i : Nat), i + k = cut.length →
    loopT l71_0_16 (((i : Int), n, ()), ((cl reps wire down cut, ()), ())) = some (if cutsOK n (cut.take i) (cut.drop i) then .inr ((), ()) else .inl ((false, ()), ())) := by
  intro k
  induction k with
  | zero =>
    intro i h
    rw [List.drop_eq_nil_of_le (by omega)]
    refine loopT_inr ?_
    have : ¬ (i : Int) < (cut.length : Int) := by omega
    simp only [l71_0_16, this, decide_true, decide_false, cond_true, cond_false, Option.bind_some, Bool.not_true, Bool.not_false, sumE, Bool.true_and, Bool.and_true, Bool.false_and, Bool.and_false, beq_self_eq_true, bne_self_eq_false, cutsOK, if_true]
  | succ k ih =>
    intro i h
    obtain ⟨e, he, hd⟩ := drop_at (l := cut) (i := i) (by omega)
    have hlt : (i : Int) < (cut.length : Int) := by omega
    rw [hd, cutsOK, ← take_at he]
    have b1 : (0 : Int) ≤ (i : Int) := by omega
    have b2 : 0 ≤ i ∧ i ≤ cut.length := by omega
    have b3 : (cut.take i).length ≤ 4294967295 := by simp; omega
    unfold cutOK1
    by_cases h1 : 0 ≤ e.1
    · by_cases h2 : e.1 < e.2.1
      · by_cases h3 : e.2.1 < n
        · cases h4 : isCut (cut.take i) e.1 e.2.1
          · rw [show loopT l71_0_16 (((i : Int), n, ()), ((cl reps wire down cut, ()), ())) = loopT l71_0_16 ((((i + 1 : Nat) : Int), n, ()), ((cl reps wire down cut, ()), ())) from loopT_inl (by
              simp only [l71_0_16, rowAt_G, rowG_nat he, hlt, decide_eq_false (show ¬ e.1 < 0 by omega), decide_eq_false (show ¬ e.1 ≥ e.2.1 by omega), decide_eq_false (show ¬ e.2.1 ≥ n by omega), decide_true, decide_false, cond_true, cond_false, Option.bind_some, Bool.not_true, Bool.not_false, sumE, Bool.true_and, Bool.and_true, Bool.false_and, Bool.and_false, beq_self_eq_true, bne_self_eq_false]
              simp only [b1, Int.toNat_natCast, b2, and_self, m113_eq _ _ _ b3, h4, w64_nat (show i ≤ 4294967296 by omega), decide_true, decide_false, cond_true, cond_false, Option.bind_some, Bool.not_true, Bool.not_false, sumE, Bool.true_and, Bool.and_true, Bool.false_and, Bool.and_false, beq_self_eq_true, bne_self_eq_false])]
            rw [ih (i + 1) (by omega)]
            simp only [decide_eq_true h1, decide_eq_true h2, decide_eq_true h3, decide_true, decide_false, cond_true, cond_false, Option.bind_some, Bool.not_true, Bool.not_false, sumE, Bool.true_and, Bool.and_true, Bool.false_and, Bool.and_false, beq_self_eq_true, bne_self_eq_false]
          · simp only [decide_eq_true h1, decide_eq_true h2, decide_eq_true h3, decide_true, decide_false, cond_true, cond_false, Option.bind_some, Bool.not_true, Bool.not_false, sumE, Bool.true_and, Bool.and_true, Bool.false_and, Bool.and_false, beq_self_eq_true, bne_self_eq_false, Bool.false_eq_true, if_false]
            refine loopT_inr ?_
            simp only [l71_0_16, rowAt_G, rowG_nat he, hlt, decide_eq_false (show ¬ e.1 < 0 by omega), decide_eq_false (show ¬ e.1 ≥ e.2.1 by omega), decide_eq_false (show ¬ e.2.1 ≥ n by omega), decide_true, decide_false, cond_true, cond_false, Option.bind_some, Bool.not_true, Bool.not_false, sumE, Bool.true_and, Bool.and_true, Bool.false_and, Bool.and_false, beq_self_eq_true, bne_self_eq_false]
            simp only [b1, Int.toNat_natCast, b2, and_self, m113_eq _ _ _ b3, h4, decide_true, decide_false, cond_true, cond_false, Option.bind_some, Bool.not_true, Bool.not_false, sumE, Bool.true_and, Bool.and_true, Bool.false_and, Bool.and_false, beq_self_eq_true, bne_self_eq_false]
        · simp only [decide_eq_false h3, decide_true, decide_false, cond_true, cond_false, Option.bind_some, Bool.not_true, Bool.not_false, sumE, Bool.true_and, Bool.and_true, Bool.false_and, Bool.and_false, beq_self_eq_true, bne_self_eq_false, Bool.false_eq_true, if_false]
          refine loopT_inr ?_
          simp only [l71_0_16, rowAt_G, rowG_nat he, hlt, decide_eq_false (show ¬ e.1 < 0 by omega), decide_eq_false (show ¬ e.1 ≥ e.2.1 by omega), decide_eq_true (show e.2.1 ≥ n by omega), decide_true, decide_false, cond_true, cond_false, Option.bind_some, Bool.not_true, Bool.not_false, sumE, Bool.true_and, Bool.and_true, Bool.false_and, Bool.and_false, beq_self_eq_true, bne_self_eq_false]
      · simp only [decide_eq_false h2, decide_true, decide_false, cond_true, cond_false, Option.bind_some, Bool.not_true, Bool.not_false, sumE, Bool.true_and, Bool.and_true, Bool.false_and, Bool.and_false, beq_self_eq_true, bne_self_eq_false, Bool.false_eq_true, if_false]
        refine loopT_inr ?_
        simp only [l71_0_16, rowAt_G, rowG_nat he, hlt, decide_eq_false (show ¬ e.1 < 0 by omega), decide_eq_true (show e.1 ≥ e.2.1 by omega), decide_true, decide_false, cond_true, cond_false, Option.bind_some, Bool.not_true, Bool.not_false, sumE, Bool.true_and, Bool.and_true, Bool.false_and, Bool.and_false, beq_self_eq_true, bne_self_eq_false]
    · simp only [decide_eq_false h1, decide_true, decide_false, cond_true, cond_false, Option.bind_some, Bool.not_true, Bool.not_false, sumE, Bool.true_and, Bool.and_true, Bool.false_and, Bool.and_false, beq_self_eq_true, bne_self_eq_false, Bool.false_eq_true, if_false]
      refine loopT_inr ?_
      simp only [l71_0_16, rowAt_G, rowG_nat he, hlt, decide_eq_true (show e.1 < 0 by omega), decide_true, decide_false, cond_true, cond_false, Option.bind_some, Bool.not_true, Bool.not_false, sumE, Bool.true_and, Bool.and_true, Bool.false_and, Bool.and_false, beq_self_eq_true, bne_self_eq_false]

theorem m71_eq (c : CT) (hs : ShC c) : m71 ((c, ()), ()) = some ((chkC c, ()), ()) := by
  obtain ⟨reps, wire, down, cut, ⟨⟩⟩ := c
  unfold m71 chkC
  have l1 := loop71a reps wire down cut hs.r hs.rl reps.length rfl reps.length 0 (by omega)
  have l2 := fun h => loop71b reps wire down cut hs.wl reps.length h wire.length 0 (by omega)
  have l3 := loop71c reps wire down cut hs.cl reps.length cut.length 0 (by omega)
  rw [List.drop_zero] at l1 l3
  simp only [List.drop_zero] at l2
  rw [List.take_zero] at l3
  simp only [CT.reps, CT.wire, CT.down, CT.cut, m29_eq, Option.bind_some, inn_quorum]
  cases hn : inn (reps.length : Int) 1 5
  · simp only [decide_true, decide_false, cond_true, cond_false, Option.bind_some, Bool.not_true, Bool.not_false, sumE, Bool.true_and, Bool.and_true, Bool.false_and, Bool.and_false, beq_self_eq_true, bne_self_eq_false]
  simp only [decide_true, decide_false, cond_true, cond_false, Option.bind_some, Bool.not_true, Bool.not_false, sumE, Bool.true_and, Bool.and_true, Bool.false_and, Bool.and_false, beq_self_eq_true, bne_self_eq_false]
  by_cases hd : down.length = reps.length
  · have : ((down.length : Int) != (reps.length : Int)) = false := by rw [hd]; simp
    simp only [this, decide_eq_true hd, decide_true, decide_false, cond_true, cond_false, Option.bind_some, Bool.not_true, Bool.not_false, sumE, Bool.true_and, Bool.and_true, Bool.false_and, Bool.and_false, beq_self_eq_true, bne_self_eq_false]
    by_cases hw : wire.length ≤ 256
    · have : ¬ (wire.length : Int) > 256 := by omega
      simp only [decide_eq_false this, decide_eq_true hw, decide_true, decide_false, cond_true, cond_false, Option.bind_some, Bool.not_true, Bool.not_false, sumE, Bool.true_and, Bool.and_true, Bool.false_and, Bool.and_false, beq_self_eq_true, bne_self_eq_false]
      rw [show loopT l71_0_5 ((0, ((reps.length : Int), ())), (((reps, wire, down, cut, PUnit.unit), ()), ())) = _ from l1]
      cases repsOK reps.length 0 reps
      · simp only [Bool.false_eq_true, if_false, decide_true, decide_false, cond_true, cond_false, Option.bind_some, Bool.not_true, Bool.not_false, sumE, Bool.true_and, Bool.and_true, Bool.false_and, Bool.and_false, beq_self_eq_true, bne_self_eq_false]
      simp only [if_true, decide_true, decide_false, cond_true, cond_false, Option.bind_some, Bool.not_true, Bool.not_false, sumE, Bool.true_and, Bool.and_true, Bool.false_and, Bool.and_false, beq_self_eq_true, bne_self_eq_false]
      rw [show loopT l71_0_10 ((0, ((reps.length : Int), ())), ((cl reps wire down cut, ()), ())) = _ from l2 hn]
      cases wireOK reps.length wire
      · simp only [Bool.false_eq_true, if_false, decide_true, decide_false, cond_true, cond_false, Option.bind_some, Bool.not_true, Bool.not_false, sumE, Bool.true_and, Bool.and_true, Bool.false_and, Bool.and_false, beq_self_eq_true, bne_self_eq_false]
      simp only [if_true, decide_true, decide_false, cond_true, cond_false, Option.bind_some, Bool.not_true, Bool.not_false, sumE, Bool.true_and, Bool.and_true, Bool.false_and, Bool.and_false, beq_self_eq_true, bne_self_eq_false]
      rw [show loopT l71_0_16 ((0, ((reps.length : Int), ())), ((cl reps wire down cut, ()), ())) = _ from l3]
      cases cutsOK reps.length [] cut
      · simp only [Bool.false_eq_true, if_false, decide_true, decide_false, cond_true, cond_false, Option.bind_some, Bool.not_true, Bool.not_false, sumE, Bool.true_and, Bool.and_true, Bool.false_and, Bool.and_false, beq_self_eq_true, bne_self_eq_false]
      · simp only [if_true, decide_true, decide_false, cond_true, cond_false, Option.bind_some, Bool.not_true, Bool.not_false, sumE, Bool.true_and, Bool.and_true, Bool.false_and, Bool.and_false, beq_self_eq_true, bne_self_eq_false]
    · have : (wire.length : Int) > 256 := by omega
      simp only [decide_eq_true this, decide_eq_false hw, decide_true, decide_false, cond_true, cond_false, Option.bind_some, Bool.not_true, Bool.not_false, sumE, Bool.true_and, Bool.and_true, Bool.false_and, Bool.and_false, beq_self_eq_true, bne_self_eq_false]
  · have : ((down.length : Int) != (reps.length : Int)) = true := by rw [bne_decide, decide_eq_true_eq]; omega
    simp only [this, decide_eq_false hd, decide_true, decide_false, cond_true, cond_false, Option.bind_some, Bool.not_true, Bool.not_false, sumE, Bool.true_and, Bool.and_true, Bool.false_and, Bool.and_false, beq_self_eq_true, bne_self_eq_false]

def readyE (c : CT) (i : Int) : Int := if chkC c = true then (if inn i 0 (c.reps.length - 1) = true then 0 else 3) else 8

def wireE (c : CT) (k : Int) : Int := if chkC c = true then (if inn k 0 (c.wire.length - 1) = true then 0 else 3) else 8

theorem w64_len {n : Nat} (h : n ≤ 2147483647) : w64 ((n : Int) - 1) = (n : Int) - 1 := w64_id (by omega) (by omega)

end Go.Proofs.Ytfbikpbejkgegaa

namespace Go.Proofs.Ytfbikpbejkgegaa
open Go Go.Abs Go.Raft
abbrev repAt (c : CT) (i : Int) : RT := c.reps[i.toNat]?.getD zeroR

abbrev downAt (c : CT) (i : Int) : Bool := c.down[i.toNat]?.getD false

abbrev wireAt (c : CT) (k : Int) : MT := c.wire[k.toNat]?.getD zeroM

def newC (n : Int) : CT := cl ((List.range n.toNat).map rep0) [] (List.replicate n.toNat false) []

def newE (n : Int) : Int × CT := if quorum n = 0 then (1, zeroC) else (0, newC n)

def standC (c : CT) (i : Int) : Int × CT :=
  if readyE c i = 0 then
    if downAt c i = true then (21, zeroC) else
    let s := stand (c.reps.length : Int) (repAt c i)
    if s.1 = 0 then (if c.wire.length + s.2.2.length > 256 then (5, zeroC) else (0, cl (c.reps.set i.toNat s.2.1) (c.wire ++ s.2.2) c.down c.cut)) else (s.1, zeroC)
  else (readyE c i, zeroC)

def proposeC (c : CT) (i : Int) (o : OpT) : Int × CT :=
  if readyE c i = 0 then
    if downAt c i = true then (21, zeroC) else
    let s := proposeE (c.reps.length : Int) (repAt c i) o
    if s.1 = 0 then (0, cl (c.reps.set i.toNat s.2) c.wire c.down c.cut) else (s.1, zeroC)
  else (readyE c i, zeroC)

def beatC (c : CT) (i : Int) : Int × CT :=
  if readyE c i = 0 then
    if downAt c i = true then (21, zeroC) else
    if (repAt c i).role = 2 then
      let l := appendsE (c.reps.length : Int) (repAt c i)
      if c.wire.length + l.length > 256 then (5, zeroC) else (0, cl c.reps (c.wire ++ l) c.down c.cut)
    else (22, zeroC)
  else (readyE c i, zeroC)

def cutOut (l : List MT) (k : Nat) : List MT := l.take k ++ l.drop (k + 1)

def dropC (c : CT) (k : Int) : Int × CT := if wireE c k = 0 then (0, cl c.reps (cutOut c.wire k.toNat) c.down c.cut) else (wireE c k, zeroC)

def doubleC (c : CT) (k : Int) : Int × CT :=
  if wireE c k = 0 then (if c.wire.length ≥ 256 then (5, zeroC) else (0, cl c.reps (c.wire ++ [wireAt c k]) c.down c.cut)) else (wireE c k, zeroC)

def hearAny (n : Int) (r : RT) (m : MT) : RT × MT × Bool :=
  if m.kind = 1 then hear n r m else if m.kind = 2 then (voted n r m, zeroM, false) else if m.kind = 3 then accept n r m else if m.kind = 4 then (appended n r m, zeroM, false) else (r, zeroM, false)

def deliverC (c : CT) (k : Int) : Int × CT :=
  if wireE c k = 0 then
    let m := wireAt c k
    let w := cutOut c.wire k.toNat
    if downAt c m.to = true ∨ isCut c.cut m.frm m.to = true then (0, cl c.reps w c.down c.cut)
    else
      let h := hearAny (c.reps.length : Int) (repAt c m.to) m
      (0, cl (c.reps.set m.to.toNat h.1) (w ++ if h.2.2 then [h.2.1] else []) c.down c.cut)
  else (wireE c k, zeroC)

def crashC (c : CT) (i : Int) : Int × CT :=
  if readyE c i = 0 then (if downAt c i = true then (9, zeroC) else (0, cl c.reps c.wire (c.down.set i.toNat true) c.cut)) else (readyE c i, zeroC)

def restartC (c : CT) (i : Int) : Int × CT :=
  if readyE c i = 0 then (if downAt c i = true then (0, cl (c.reps.set i.toNat (restartE (c.reps.length : Int) (repAt c i)).2) c.wire (c.down.set i.toNat false) c.cut) else (9, zeroC)) else (readyE c i, zeroC)

def cutC (c : CT) (i j : Int) : Int × CT :=
  if readyE c i = 0 then
    if inn j 0 ((c.reps.length : Int) - 1) = true then
      if i = j then (1, zeroC) else if isCut c.cut i j = true then (9, zeroC) else (0, cl c.reps c.wire c.down (c.cut ++ [(min i j, max i j, ())]))
    else (3, zeroC)
  else (readyE c i, zeroC)

def healC (c : CT) : CT := if chkC c = true then cl c.reps c.wire c.down [] else zeroC

/-! ### What a valid cluster is -/
theorem repsOK_get {n : Int} : ∀ {l : List RT} {i j : Nat} {r : RT}, repsOK n i l = true → l[j]? = some r → r.id = ((i + j : Nat) : Int) ∧ chk n r = true := by
  intro l
  induction l with
  | nil => intro i j r _ h; simp at h
  | cons x l ih =>
    intro i j r h hj
    simp only [repsOK, Bool.and_eq_true, decide_eq_true_eq] at h
    cases j with
    | zero => simp at hj; subst hj; exact ⟨by rw [h.1.1]; simp, h.1.2⟩
    | succ j =>
      have := ih (i := i + 1) (j := j) h.2 (by simpa using hj)
      exact ⟨by rw [this.1]; omega, this.2⟩

theorem repsOK_of {n : Int} : ∀ {l : List RT} {i : Nat}, (∀ j r, l[j]? = some r → r.id = ((i + j : Nat) : Int) ∧ chk n r = true) → repsOK n i l = true := by
  intro l
  induction l with
  | nil => intro i _; rfl
  | cons x l ih =>
    intro i h
    have h0 := h 0 x rfl
    simp only [repsOK, Bool.and_eq_true, decide_eq_true_eq]
    refine ⟨⟨by rw [h0.1]; simp, h0.2⟩, ih fun j r hj => ?_⟩
    have := h (j + 1) r (by simpa using hj)
    exact ⟨by rw [this.1]; omega, this.2⟩

structure VC (c : CT) : Prop where
  n1 : 1 ≤ c.reps.length
  n5 : c.reps.length ≤ 5
  dn : c.down.length = c.reps.length
  wl : c.wire.length ≤ 256
  rp : ∀ (j : Nat) (r : RT), c.reps[j]? = some r → r.id = (j : Int) ∧ Chk (c.reps.length : Int) r
  wm : ∀ m ∈ c.wire, 0 ≤ m.frm ∧ m.frm < (c.reps.length : Int) ∧ 0 ≤ m.to ∧ m.to < (c.reps.length : Int) ∧ m.frm ≠ m.to
  cs : cutsOK (c.reps.length : Int) [] c.cut = true

theorem chkC_iff {c : CT} : chkC c = true ↔ VC c := by
  unfold chkC
  simp only [Bool.and_eq_true, decide_eq_true_eq, inn]
  constructor
  · rintro ⟨⟨⟨⟨⟨h1, h2⟩, h3⟩, h4⟩, h5⟩, h6⟩
    refine ⟨by omega, by omega, h2, h3, fun j r hj => ?_, fun m hm => ?_, h6⟩
    · have := repsOK_get h4 hj
      exact ⟨by rw [this.1]; simp, chk_iff.1 this.2⟩
    · have := List.all_eq_true.1 h5 m hm
      simp only [Bool.and_eq_true, decide_eq_true_eq, inn] at this
      exact ⟨by omega, by omega, by omega, by omega, this.2⟩
  · rintro ⟨h1, h2, h3, h4, h5, h6, h7⟩
    refine ⟨⟨⟨⟨⟨by omega, h3⟩, h4⟩, repsOK_of fun j r hj => ?_⟩, ?_⟩, h7⟩
    · have := h5 j r hj
      exact ⟨by rw [this.1]; simp, chk_iff.2 this.2⟩
    · refine List.all_eq_true.2 fun m hm => ?_
      have := h6 m hm
      simp only [Bool.and_eq_true, decide_eq_true_eq, inn]
      exact ⟨⟨by omega, by omega⟩, this.2.2.2.2⟩

theorem ready_iff {c : CT} {i : Int} : readyE c i = 0 ↔ VC c ∧ 0 ≤ i ∧ i < (c.reps.length : Int) := by
  unfold readyE
  constructor
  · intro h
    split at h
    · rename_i hc
      split at h
      · rename_i hi
        rw [inn_iff] at hi
        exact ⟨chkC_iff.1 hc, by omega, by omega⟩
      · cases h
    · cases h
  · rintro ⟨h1, h2, h3⟩
    rw [if_pos (chkC_iff.2 h1), if_pos (inn_iff.2 ⟨h2, by omega⟩)]

theorem wire_iff {c : CT} {k : Int} : wireE c k = 0 ↔ VC c ∧ 0 ≤ k ∧ k < (c.wire.length : Int) := by
  unfold wireE
  constructor
  · intro h
    split at h
    · rename_i hc
      split at h
      · rename_i hi
        rw [inn_iff] at hi
        exact ⟨chkC_iff.1 hc, by omega, by omega⟩
      · cases h
    · cases h
  · rintro ⟨h1, h2, h3⟩
    rw [if_pos (chkC_iff.2 h1), if_pos (inn_iff.2 ⟨h2, by omega⟩)]

theorem shrt_of {n : Int} {r : RT} (h : Chk n r) : Shrt r := by
  have hl := h.ll; have n5 := h.n5
  rcases role_cases h.ro with h0 | h0 | h0
  · obtain ⟨a, b⟩ := (role0_iff h0).1 h.ro
    exact ⟨by omega, by rw [a]; simp, by rw [b]; simp⟩
  · obtain ⟨a, _, b⟩ := (role1_iff h0).1 h.ro
    exact ⟨by omega, by omega, by rw [b]; simp⟩
  · obtain ⟨a, _, b, _⟩ := (role2_iff h0).1 h.ro
    exact ⟨by omega, by omega, by omega⟩

theorem stand_len (n : Int) (r : RT) : (stand n r).2.2.length ≤ 5 := by
  unfold stand
  split
  · rename_i hc
    have := (chk_iff.1 hc).n5
    split
    · simp
    · simp only [asks, List.length_map]
      refine Nat.le_trans (List.length_filter_le _ _) ?_
      simp; omega
  · simp

theorem appends_len (n : Int) (r : RT) : (appendsE n r).length ≤ 5 := by
  unfold appendsE
  split
  · rename_i hc
    have := (chk_iff.1 hc.1).n5
    simp only [appends, List.length_map]
    refine Nat.le_trans (List.length_filter_le _ _) ?_
    simp; omega
  · simp

theorem rep_at {c : CT} {i : Int} (h0 : 0 ≤ i) (h1 : i < (c.reps.length : Int)) : ∃ r, c.reps[i.toNat]? = some r ∧ repAt c i = r := by
  obtain ⟨r, h⟩ := getD_some (l := c.reps) (i := i.toNat) (by omega)
  exact ⟨r, h, by unfold repAt; rw [h]; rfl⟩

theorem down_at {c : CT} {i : Int} (h0 : 0 ≤ i) (h1 : i < (c.down.length : Int)) : ∃ r, c.down[i.toNat]? = some r ∧ downAt c i = r := by
  obtain ⟨r, h⟩ := getD_some (l := c.down) (i := i.toNat) (by omega)
  exact ⟨r, h, by unfold downAt; rw [h]; rfl⟩

theorem wire_at {c : CT} {i : Int} (h0 : 0 ≤ i) (h1 : i < (c.wire.length : Int)) : ∃ r, c.wire[i.toNat]? = some r ∧ wireAt c i = r := by
  obtain ⟨r, h⟩ := getD_some (l := c.wire) (i := i.toNat) (by omega)
  exact ⟨r, h, by unfold wireAt; rw [h]; rfl⟩

theorem re_nil (x : MT) (h : x.ents = []) : (x.kind, x.frm, x.to, x.term, x.prev, x.pterm, x.commit, ([] : Log OpT), x.ok, ()) = x := by
  obtain ⟨kind, frm, to, mterm, prev, pterm, mcommit, ents, ok, ⟨⟩⟩ := x
  simp only [Msg.kind, Msg.frm, Msg.to, Msg.term, Msg.prev, Msg.pterm, Msg.commit, Msg.ents, Msg.ok, mg] at h ⊢
  rw [h]

theorem hear_ents (n : Int) (r : RT) (m : MT) : (hear n r m).2.1.ents = [] := by
  unfold hear; split <;> rfl

theorem accept_ents (n : Int) (r : RT) (m : MT) : (accept n r m).2.1.ents = [] := by
  unfold accept; split
  · simp only; split
    · split <;> rfl
    · rfl
  · rfl

end Go.Proofs.Ytfbikpbejkgegaa

namespace Go.Proofs.Ytfbikpbejkgegaa
open Go Go.Abs Go.Raft
/-! ### Cuts are few -/
theorem nodup_lt : ∀ (N : Nat) (l : List Nat), l.Nodup → (∀ x ∈ l, x < N) → l.length ≤ N := by
  intro N
  induction N with
  | zero =>
    intro l _ h
    cases l with
    | nil => simp
    | cons a l => exact absurd (h a (by simp)) (by omega)
  | succ N ih =>
    intro l hn h
    by_cases hm : N ∈ l
    · have h1 := ih (l.erase N) (hn.erase N) (fun x hx => by
        have h2 := h x (List.mem_of_mem_erase hx)
        have h3 : x ≠ N := fun e => by subst e; exact (hn.not_mem_erase hx).elim
        omega)
      rw [List.length_erase_of_mem hm] at h1
      omega
    · have := ih l hn (fun x hx => by
        have h2 := h x hx
        have h3 : x ≠ N := fun e => hm (e ▸ hx)
        omega)
      omega

def key (p : CutT) : Nat := p.1.toNat * 8 + p.2.1.toNat

theorem cuts_nodup {n : Int} (hn : n ≤ 5) : ∀ {l pre : List CutT}, (pre.map key).Nodup → (∀ p ∈ pre, cutOK1 n p = true) → cutsOK n pre l = true → ((pre ++ l).map key).Nodup ∧ ∀ p ∈ pre ++ l, cutOK1 n p = true := by
  intro l
  induction l with
  | nil => intro pre h1 h2 _; rw [List.append_nil]; exact ⟨h1, h2⟩
  | cons x l ih =>
    intro pre h1 h2 h
    simp only [cutsOK, Bool.and_eq_true, Bool.not_eq_true'] at h
    obtain ⟨⟨hx, hic⟩, hl⟩ := h
    have hx' := hx
    simp only [cutOK1, Bool.and_eq_true, decide_eq_true_eq] at hx'
    have := ih (pre := pre ++ [x]) (by
      rw [List.map_append, List.nodup_append]
      refine ⟨h1, by simp, fun a ha b hb => ?_⟩
      simp at hb
      subst hb
      obtain ⟨p, hp, rfl⟩ := List.mem_map.1 ha
      have hp1 := h2 p hp
      simp only [cutOK1, Bool.and_eq_true, decide_eq_true_eq] at hp1
      intro e
      unfold key at e
      have e1 : p.1 = x.1 := by omega
      have e2 : p.2.1 = x.2.1 := by omega
      have : isCut pre x.1 x.2.1 = true := by
        unfold isCut
        rw [List.any_eq_true]
        refine ⟨p, hp, ?_⟩
        rw [Bool.and_eq_true, decide_eq_true_eq, decide_eq_true_eq]
        omega
      rw [hic] at this; cases this) (fun p hp => by
      rcases List.mem_append.1 hp with hp | hp
      · exact h2 p hp
      · simp at hp; subst hp; exact hx) hl
    rw [List.append_assoc, List.singleton_append] at this
    exact this

theorem cuts_len {n : Int} (hn : n ≤ 5) {l : List CutT} (h : cutsOK n [] l = true) : l.length ≤ 48 := by
  obtain ⟨h1, h2⟩ := cuts_nodup (pre := []) hn (by simp) (by simp) h
  rw [List.nil_append] at h1 h2
  have := nodup_lt 48 (l.map key) h1 (fun x hx => by
    obtain ⟨p, hp, rfl⟩ := List.mem_map.1 hx
    have := h2 p hp
    simp only [cutOK1, Bool.and_eq_true, decide_eq_true_eq] at this
    unfold key; omega)
  simpa using this

theorem cutsOK_snoc {n : Int} : ∀ {l pre : List CutT} {x : CutT}, cutsOK n pre l = true → cutOK1 n x = true → isCut (pre ++ l) x.1 x.2.1 = false → cutsOK n pre (l ++ [x]) = true := by
  intro l
  induction l with
  | nil =>
    intro pre x _ h2 h3
    rw [List.append_nil] at h3
    simp [cutsOK, h2, h3]
  | cons y l ih =>
    intro pre x h1 h2 h3
    simp only [cutsOK, Bool.and_eq_true, List.cons_append] at h1 ⊢
    exact ⟨h1.1, ih h1.2 h2 (by rw [List.append_assoc, List.singleton_append]; exact h3)⟩

/-! ### Good clusters -/
structure CG (c : CT) : Prop where
  n1 : 1 ≤ c.reps.length
  n5 : c.reps.length ≤ 5
  dn : c.down.length = c.reps.length
  wl : c.wire.length ≤ 256
  wm : ∀ m ∈ c.wire, 0 ≤ m.frm ∧ m.frm < (c.reps.length : Int) ∧ 0 ≤ m.to ∧ m.to < (c.reps.length : Int) ∧ m.frm ≠ m.to
  we : ∀ m ∈ c.wire, m.ents.length ≤ 256
  cs : cutsOK (c.reps.length : Int) [] c.cut = true
  gd : ∃ g, Inv c.reps.length c.reps g ∧ ∀ m ∈ c.wire, MsgOK c.reps.length g m

theorem CG.v {c : CT} (h : CG c) : VC c := by
  obtain ⟨g, hi, _⟩ := h.gd
  exact ⟨h.n1, h.n5, h.dn, h.wl, fun j r hj => ⟨(hi.nod j r hj).id, (hi.nod j r hj).chk⟩, h.wm, h.cs⟩

theorem VC.sh {c : CT} (V : VC c) (we : ∀ m ∈ c.wire, m.ents.length ≤ 1000000) : ShC c := by
  have h1 := V.n5
  have h2 := V.wl
  have h3 := V.dn
  have h4 := cuts_len (by omega) V.cs
  refine ⟨fun r hr => ?_, by omega, we, by omega, by omega, by omega⟩
  obtain ⟨j, hj⟩ := List.mem_iff_getElem?.1 hr
  exact shrt_of (V.rp j r hj).2

theorem CG.sh {c : CT} (h : CG c) : ShC c := h.v.sh fun m hm => by have := h.we m hm; omega

theorem CG.put {c : CT} (h : CG c) {reps' : List RT} {new : List MT} (hl : reps'.length = c.reps.length)
    (hs : ∀ g, Inv c.reps.length c.reps g → (∀ m ∈ c.wire, MsgOK c.reps.length g m) → Step c.reps.length g reps' new)
    {w' : List MT} (hw : ∀ m ∈ w', m ∈ c.wire ∨ m ∈ new)
    (hn : ∀ m ∈ new, (0 ≤ m.frm ∧ m.frm < (c.reps.length : Int) ∧ 0 ≤ m.to ∧ m.to < (c.reps.length : Int) ∧ m.frm ≠ m.to) ∧ m.ents.length ≤ 256)
    (hwl : w'.length ≤ 256) {down' : List Bool} (hd : down'.length = c.reps.length) {cut' : List CutT} (hc : cutsOK (c.reps.length : Int) [] cut' = true) : CG (cl reps' w' down' cut') := by
  obtain ⟨g, hi, hm⟩ := h.gd
  obtain ⟨g', a, b, d⟩ := hs g hi hm
  have h1 := h.n1
  have h5 := h.n5
  refine ⟨by show 1 ≤ reps'.length; omega, by show reps'.length ≤ 5; omega, by show down'.length = reps'.length; omega, hwl, ?_, ?_, by show cutsOK (reps'.length : Int) [] cut' = true; rw [hl]; exact hc, ?_⟩
  · intro m hm'
    show _ ∧ m.frm < (reps'.length : Int) ∧ _ ∧ m.to < (reps'.length : Int) ∧ _
    rw [hl]
    rcases hw m hm' with hm' | hm'
    · exact h.wm m hm'
    · exact (hn m hm').1
  · intro m hm'
    rcases hw m hm' with hm' | hm'
    · exact h.we m hm'
    · exact (hn m hm').2
  · show ∃ g, Inv reps'.length reps' g ∧ ∀ m ∈ w', MsgOK reps'.length g m
    rw [hl]
    refine ⟨g', a, fun m hm' => ?_⟩
    rcases hw m hm' with hm' | hm'
    · exact b m (hm m hm')
    · exact d m hm'

theorem CG.same {c : CT} (h : CG c) {w' : List MT} (hw : ∀ m ∈ w', m ∈ c.wire) (hwl : w'.length ≤ 256) {down' : List Bool} (hd : down'.length = c.reps.length) {cut' : List CutT} (hc : cutsOK (c.reps.length : Int) [] cut' = true) : CG (cl c.reps w' down' cut') :=
  h.put rfl (fun g hi _ => hi.refl) (new := []) (fun m hm => .inl (hw m hm)) (fun m hm => by cases hm) hwl hd hc

theorem CG.id {c : CT} (h : CG c) {i : Int} {r : RT} (hr : c.reps[i.toNat]? = some r) (i0 : 0 ≤ i) : r.id = i := by
  have := (h.v.rp _ _ hr).1; omega

theorem cg_stand {c : CT} (h : CG c) {i : Int} (h0 : (standC c i).1 = 0) : CG (standC c i).2 ∧ (standC c i).2.reps.length = c.reps.length := by
  unfold standC at h0 ⊢
  by_cases hr : readyE c i = 0
  · obtain ⟨V, i0, i1⟩ := ready_iff.1 hr
    obtain ⟨r, e1, e1'⟩ := rep_at i0 i1
    rw [if_pos hr] at h0 ⊢
    rw [e1'] at h0 ⊢
    split at h0
    · cases h0
    · rename_i hd
      rw [if_neg hd]
      simp only at h0 ⊢
      split at h0
      · rename_i hs
        rw [if_pos hs]
        split at h0
        · cases h0
        · rename_i hg
          rw [if_neg hg]
          have hid := h.id e1 i0
          have hC := (V.rp _ _ e1).2
          unfold stand at hs hg ⊢
          rw [if_pos (chk_iff.2 hC)] at hs hg ⊢
          split at hs
          · cases hs
          · rename_i ht
            rw [if_neg ht] at hg ⊢
            simp only at hg ⊢
            refine ⟨h.put (by simp) (fun g hi _ => hi.standS e1 ht) (new := asks (c.reps.length : Int) r) (fun m hm => List.mem_append.1 hm) ?_ (by show (c.wire ++ asks (c.reps.length : Int) r).length ≤ 256; rw [List.length_append]; omega) h.dn h.cs, List.length_set⟩
            intro m hm
            simp only [asks, List.mem_map, List.mem_filter, List.mem_range, decide_eq_true_eq] at hm
            obtain ⟨j, ⟨hj1, hj2⟩, rfl⟩ := hm
            simp only [mg_frm, mg_to, mg_ents]
            refine ⟨⟨by omega, by omega, by omega, by omega, fun e => hj2 e.symm⟩, by simp⟩
      · rename_i hs
        exact absurd h0 hs
  · rw [if_neg hr] at h0
    exact absurd h0 hr

theorem cg_propose {c : CT} (h : CG c) {i : Int} {o : OpT} (h0 : (proposeC c i o).1 = 0) : CG (proposeC c i o).2 ∧ (proposeC c i o).2.reps.length = c.reps.length := by
  unfold proposeC at h0 ⊢
  by_cases hr : readyE c i = 0
  · obtain ⟨V, i0, i1⟩ := ready_iff.1 hr
    obtain ⟨r, e1, e1'⟩ := rep_at i0 i1
    rw [if_pos hr] at h0 ⊢
    rw [e1'] at h0 ⊢
    split at h0
    · cases h0
    · rename_i hd
      rw [if_neg hd]
      simp only at h0 ⊢
      split at h0
      · rename_i hs
        rw [if_pos hs]
        unfold proposeE at hs ⊢
        have hC := (V.rp _ _ e1).2
        rw [if_pos (chk_iff.2 hC)] at hs ⊢
        split at hs
        · rename_i h2
          rw [if_pos h2]
          split at hs
          · cases hs
          · rename_i hh
            rw [if_neg hh]
            split at hs
            · rename_i hl
              rw [if_pos hl]
              exact ⟨h.put (by simp) (fun g hi _ => hi.proposeS e1 h2 hl o) (new := []) (fun m hm => .inl hm) (fun m hm => by cases hm) h.wl h.dn h.cs, List.length_set⟩
            · cases hs
        · cases hs
      · rename_i hs
        exact absurd h0 hs
  · rw [if_neg hr] at h0
    exact absurd h0 hr

theorem cg_beat {c : CT} (h : CG c) {i : Int} (h0 : (beatC c i).1 = 0) : CG (beatC c i).2 ∧ (beatC c i).2.reps = c.reps := by
  unfold beatC at h0 ⊢
  by_cases hr : readyE c i = 0
  · obtain ⟨V, i0, i1⟩ := ready_iff.1 hr
    obtain ⟨r, e1, e1'⟩ := rep_at i0 i1
    rw [if_pos hr] at h0 ⊢
    rw [e1'] at h0 ⊢
    split at h0
    · cases h0
    · rename_i hd
      rw [if_neg hd]
      split at h0
      · rename_i h2
        rw [if_pos h2]
        simp only at h0 ⊢
        split at h0
        · cases h0
        · rename_i hg
          rw [if_neg hg]
          have hid := h.id e1 i0
          have hC := (V.rp _ _ e1).2
          unfold appendsE at hg ⊢
          rw [if_pos ⟨chk_iff.2 hC, h2⟩] at hg ⊢
          refine ⟨h.put rfl (fun g hi _ => ⟨g, hi, fun _ h => h, hi.appends e1 h2⟩) (new := appends (c.reps.length : Int) r) (fun m hm => List.mem_append.1 hm) ?_ (by simp only [List.length_append]; omega) h.dn h.cs, rfl⟩
          intro m hm
          simp only [appends, List.mem_map, List.mem_filter, List.mem_range, decide_eq_true_eq] at hm
          obtain ⟨j, ⟨hj1, hj2⟩, rfl⟩ := hm
          simp only [mg_frm, mg_to, mg_ents]
          have := hC.ll
          refine ⟨⟨by omega, by omega, by omega, by omega, fun e => hj2 e.symm⟩, by simp only [List.length_drop]; omega⟩
      · cases h0
  · rw [if_neg hr] at h0
    exact absurd h0 hr

theorem cutOut_mem {l : List MT} {k : Nat} {m : MT} (h : m ∈ cutOut l k) : m ∈ l := by
  rcases List.mem_append.1 h with h | h
  · exact List.mem_of_mem_take h
  · exact List.mem_of_mem_drop h

theorem cutOut_len {l : List MT} {k : Nat} (h : k < l.length) : (cutOut l k).length = l.length - 1 := by
  unfold cutOut; simp; omega

theorem cg_drop {c : CT} (h : CG c) {k : Int} (h0 : (dropC c k).1 = 0) : CG (dropC c k).2 ∧ (dropC c k).2.reps = c.reps := by
  unfold dropC at h0 ⊢
  split at h0
  · rename_i hr
    rw [if_pos hr]
    obtain ⟨V, k0, k1⟩ := wire_iff.1 hr
    have := h.wl
    exact ⟨h.same (fun m hm => cutOut_mem hm) (by rw [cutOut_len (by omega)]; omega) h.dn h.cs, rfl⟩
  · rename_i hr; exact absurd h0 hr

theorem cg_double {c : CT} (h : CG c) {k : Int} (h0 : (doubleC c k).1 = 0) : CG (doubleC c k).2 ∧ (doubleC c k).2.reps = c.reps := by
  unfold doubleC at h0 ⊢
  split at h0
  · rename_i hr
    rw [if_pos hr]
    split at h0
    · cases h0
    · rename_i hg
      rw [if_neg hg]
      obtain ⟨V, k0, k1⟩ := wire_iff.1 hr
      obtain ⟨m, e1, e1'⟩ := wire_at k0 k1
      rw [e1']
      refine ⟨h.same (fun x hx => ?_) (by simp; omega) h.dn h.cs, rfl⟩
      rcases List.mem_append.1 hx with hx | hx
      · exact hx
      · simp at hx; subst hx; exact List.mem_of_getElem? e1
  · rename_i hr; exact absurd h0 hr

theorem hearAny_step {n : Nat} {reps : List RT} {g : Gh OpT} (hi : Inv n reps g) {i : Nat} {r : RT} (h : reps[i]? = some r) {m : MT} (hm : MsgOK n g m) :
    Step n g (reps.set i (hearAny (n : Int) r m).1) (if (hearAny (n : Int) r m).2.2 then [(hearAny (n : Int) r m).2.1] else []) := by
  unfold hearAny
  split
  · exact hi.hearS h hm
  split
  · exact hi.votedS h hm
  split
  · exact hi.acceptS h hm
  split
  · exact hi.appendedS h hm
  · exact hi.stay h

theorem hearAny_reply {n : Int} {r : RT} {m : MT} (h : (hearAny n r m).2.2 = true) : (hearAny n r m).2.1.frm = r.id ∧ (hearAny n r m).2.1.to = m.frm ∧ (hearAny n r m).2.1.ents = [] ∧ ((hearAny n r m).2.1.kind = 2 ∨ (hearAny n r m).2.1.kind = 4) ∧ (m.kind = 1 ∨ m.kind = 3) := by
  unfold hearAny at h ⊢
  by_cases h1 : m.kind = 1
  · rw [if_pos h1] at h ⊢
    unfold hear at h ⊢
    split
    · exact ⟨rfl, rfl, rfl, .inl rfl, .inl h1⟩
    · rename_i ho; rw [if_neg ho] at h; cases h
  rw [if_neg h1] at h ⊢
  by_cases h2 : m.kind = 2
  · rw [if_pos h2] at h; cases h
  rw [if_neg h2] at h ⊢
  by_cases h3 : m.kind = 3
  · rw [if_pos h3] at h ⊢
    unfold accept at h ⊢
    split
    · rename_i ha
      rw [if_pos ha] at h
      simp only at h ⊢
      split
      · rename_i hf
        rw [if_pos hf] at h
        split
        · exact ⟨rfl, rfl, rfl, .inr rfl, .inr h3⟩
        · rename_i hj; rw [if_neg hj] at h; cases h
      · exact ⟨rfl, rfl, rfl, .inr rfl, .inr h3⟩
    · rename_i ha; rw [if_neg ha] at h; cases h
  rw [if_neg h3] at h
  by_cases h4 : m.kind = 4
  · rw [if_pos h4] at h; cases h
  · rw [if_neg h4] at h; cases h

def weight (l : List MT) : Nat := (l.map fun m => if m.kind = 1 ∨ m.kind = 3 then 2 else 1).sum

theorem weight_append (a b : List MT) : weight (a ++ b) = weight a + weight b := by unfold weight; rw [List.map_append, List.sum_append]

theorem weight_pos (m : MT) (l : List MT) : weight (m :: l) = (if m.kind = 1 ∨ m.kind = 3 then 2 else 1) + weight l := by unfold weight; rw [List.map_cons, List.sum_cons]

theorem weight_cut {l : List MT} {k : Nat} {m : MT} (h : l[k]? = some m) : weight l = weight (cutOut l k) + (if m.kind = 1 ∨ m.kind = 3 then 2 else 1) := by
  have hk := (List.getElem?_eq_some_iff.1 h).1
  have e : l = l.take k ++ m :: l.drop (k + 1) := by
    conv => lhs; rw [← List.take_append_drop k l]
    rw [List.drop_eq_getElem_cons hk, (List.getElem?_eq_some_iff.1 h).2]
  conv => lhs; rw [e]
  rw [weight_append, weight_pos]
  unfold cutOut
  rw [weight_append]
  omega

theorem cg_deliver {c : CT} (h : CG c) {k : Int} (h0 : (deliverC c k).1 = 0) : CG (deliverC c k).2 ∧ (deliverC c k).2.reps.length = c.reps.length ∧ weight (deliverC c k).2.wire < weight c.wire ∧ (deliverC c k).2.down = c.down ∧ (deliverC c k).2.cut = c.cut := by
  unfold deliverC at h0 ⊢
  split at h0
  · rename_i hr
    rw [if_pos hr]
    obtain ⟨V, k0, k1⟩ := wire_iff.1 hr
    obtain ⟨m, e1, e1'⟩ := wire_at k0 k1
    rw [e1']
    have hmm := List.mem_of_getElem? e1
    obtain ⟨f0, f1, t0, t1, hft⟩ := V.wm m hmm
    have hwl := h.wl
    have hcl := cutOut_len (l := c.wire) (k := k.toNat) (by omega)
    have hwt := weight_cut e1
    simp only
    split
    · refine ⟨h.same (fun m hm => cutOut_mem hm) (by omega) h.dn h.cs, rfl, ?_, rfl, rfl⟩
      show weight (cutOut c.wire k.toNat) < _
      rw [hwt]; split <;> omega
    · obtain ⟨r, e2, e2'⟩ := rep_at t0 t1
      rw [e2']
      have hid := h.id e2 t0
      have hC := (V.rp _ _ e2).2
      have hrep := hearAny_reply (n := (c.reps.length : Int)) (r := r) (m := m)
      refine ⟨h.put (by simp) (fun g hi hm => hearAny_step hi e2 (hm m hmm)) (fun x hx => (List.mem_append.1 hx).imp (fun a => cutOut_mem a) (fun a => a)) ?_ ?_ h.dn h.cs, List.length_set, ?_, rfl, rfl⟩
      · intro x hx
        cases hb : (hearAny (c.reps.length : Int) r m).2.2
        · rw [hb] at hx; simp at hx
        · rw [hb] at hx
          simp at hx
          subst hx
          obtain ⟨a1, a2, a3, _, _⟩ := hrep hb
          rw [a1, a2, a3, hid]
          exact ⟨⟨t0, t1, f0, f1, fun e => hft e.symm⟩, by simp⟩
      · rw [List.length_append, hcl]
        split <;> simp <;> omega
      · show weight (cutOut c.wire k.toNat ++ _) < _
        rw [weight_append, hwt]
        cases hb : (hearAny (c.reps.length : Int) r m).2.2
        · simp only [Bool.false_eq_true, if_false]
          show weight (cutOut c.wire k.toNat) + weight [] < _
          have : weight [] = 0 := rfl
          split <;> omega
        · obtain ⟨_, _, _, a4, a5⟩ := hrep hb
          simp only [if_true]
          rw [if_pos a5, weight_pos, if_neg (by omega)]
          have : weight [] = 0 := rfl
          omega
  · rename_i hr; exact absurd h0 hr

theorem cg_crash {c : CT} (h : CG c) {i : Int} (h0 : (crashC c i).1 = 0) : CG (crashC c i).2 ∧ (crashC c i).2.reps = c.reps := by
  unfold crashC at h0 ⊢
  split at h0
  · rename_i hr
    rw [if_pos hr]
    split at h0
    · cases h0
    · rename_i hd
      rw [if_neg hd]
      exact ⟨h.same (fun m hm => hm) h.wl (by simp [h.dn]) h.cs, rfl⟩
  · rename_i hr; exact absurd h0 hr

theorem cg_restart {c : CT} (h : CG c) {i : Int} (h0 : (restartC c i).1 = 0) : CG (restartC c i).2 ∧ (restartC c i).2.reps.length = c.reps.length := by
  unfold restartC at h0 ⊢
  split at h0
  · rename_i hr
    rw [if_pos hr]
    split at h0
    · rename_i hd
      rw [if_pos hd]
      obtain ⟨V, i0, i1⟩ := ready_iff.1 hr
      obtain ⟨r, e1, e1'⟩ := rep_at i0 i1
      rw [e1']
      unfold restartE
      rw [if_pos (chk_iff.2 (V.rp _ _ e1).2)]
      exact ⟨h.put (by simp) (fun g hi _ => (hi.restart e1).refl) (new := []) (fun m hm => .inl hm) (fun m hm => by cases hm) h.wl (by simp [h.dn]) h.cs, List.length_set⟩
    · cases h0
  · rename_i hr; exact absurd h0 hr

theorem isCut_mm (l : List CutT) (i j : Int) : isCut l (min i j) (max i j) = isCut l i j := by
  unfold isCut
  rw [show min (min i j) (max i j) = min i j by omega, show max (min i j) (max i j) = max i j by omega]

theorem cg_cut {c : CT} (h : CG c) {i j : Int} (h0 : (cutC c i j).1 = 0) : CG (cutC c i j).2 ∧ (cutC c i j).2.reps = c.reps := by
  unfold cutC at h0 ⊢
  split at h0
  · rename_i hr
    rw [if_pos hr]
    obtain ⟨V, i0, i1⟩ := ready_iff.1 hr
    split at h0
    · rename_i hj
      rw [if_pos hj]
      rw [inn_iff] at hj
      split at h0
      · cases h0
      · rename_i hij
        rw [if_neg hij]
        split at h0
        · cases h0
        · rename_i hic
          rw [if_neg hic]
          refine ⟨h.same (fun m hm => hm) h.wl h.dn (cutsOK_snoc h.cs ?_ ?_), rfl⟩
          · simp only [cutOK1, Bool.and_eq_true, decide_eq_true_eq]
            omega
          · rw [List.nil_append, isCut_mm]
            simpa using hic
    · cases h0
  · rename_i hr; exact absurd h0 hr

theorem cg_heal {c : CT} (h : CG c) : CG (healC c) ∧ (healC c).reps = c.reps ∧ (healC c).wire = c.wire ∧ (healC c).down = c.down := by
  unfold healC
  rw [if_pos (chkC_iff.2 h.v)]
  exact ⟨h.same (fun m hm => hm) h.wl h.dn rfl, rfl, rfl, rfl⟩

theorem cg_new {n : Int} (h1 : 1 ≤ n) (h5 : n ≤ 5) : CG (newC n) ∧ (newC n).reps.length = n.toNat := by
  have hl : (newC n).reps.length = n.toNat := by show ((List.range n.toNat).map (rep0 : Nat → RT)).length = n.toNat; simp
  refine ⟨⟨by rw [hl]; omega, by rw [hl]; omega, by rw [hl]; show (List.replicate n.toNat false).length = n.toNat; simp, Nat.zero_le _, fun m hm => (by cases hm), fun m hm => (by cases hm), rfl, ?_⟩, hl⟩
  rw [hl]
  exact ⟨_, inv0 (by omega), fun m hm => (by cases hm)⟩

/-! ### Terms -/
def TB (c : CT) (T : Int) : Prop := (∀ r ∈ c.reps, r.term ≤ T) ∧ ∀ m ∈ c.wire, m.term ≤ T

theorem TB.le {c : CT} {T U : Int} (h : TB c T) (hu : T ≤ U) : TB c U := ⟨fun r hr => by have := h.1 r hr; omega, fun m hm => by have := h.2 m hm; omega⟩

theorem TB.put {c : CT} {T U : Int} (h : TB c T) (hu : T ≤ U) {i : Nat} {r' : RT} (hr : r'.term ≤ U) {w' : List MT} (hw : ∀ m ∈ w', m ∈ c.wire ∨ m.term ≤ U) {d : List Bool} {k : List CutT} : TB (cl (c.reps.set i r') w' d k) U := by
  refine ⟨fun r hr' => ?_, fun m hm => ?_⟩
  · rcases List.mem_or_eq_of_mem_set hr' with hr' | hr'
    · have := h.1 r hr'; omega
    · subst hr'; exact hr
  · rcases hw m hm with hm | hm
    · have := h.2 m hm; omega
    · exact hm

theorem TB.same {c : CT} {T : Int} (h : TB c T) {w' : List MT} (hw : ∀ m ∈ w', m ∈ c.wire ∨ m.term ≤ T) {d : List Bool} {k : List CutT} : TB (cl c.reps w' d k) T := by
  refine ⟨h.1, fun m hm => ?_⟩
  rcases hw m hm with hm | hm
  · exact h.2 m hm
  · exact hm

theorem fol_term (r : RT) (t : Int) : (fol r t).term ≤ max r.term t := by
  unfold fol; split
  · show t ≤ _; omega
  · omega

theorem back_term' (r : RT) (t : Int) : (back r t).term ≤ max r.term t := by
  have := fol_term r t
  unfold back; simp only; split
  · exact this
  · exact this

theorem hearAny_term (n : Int) (r : RT) (m : MT) : (hearAny n r m).1.term ≤ max r.term m.term ∧ ((hearAny n r m).2.2 = true → (hearAny n r m).2.1.term ≤ max r.term m.term) := by
  have hf := fol_term r m.term
  have hb := back_term' r m.term
  have hs : r.term ≤ max r.term m.term := by omega
  unfold hearAny
  split
  · unfold hear
    split
    · refine ⟨?_, fun _ => hf⟩
      unfold hearR; simp only; split
      · exact hf
      · exact hf
    · exact ⟨hs, fun h => by cases h⟩
  split
  · refine ⟨?_, fun h => by cases h⟩
    show (voted n r m).term ≤ _
    unfold voted; split
    · split
      · exact hf
      · split
        · unfold votedR; simp only; split <;> exact hs
        · exact hs
    · exact hs
  split
  · unfold accept
    split
    · simp only
      split
      · split
        · exact ⟨hb, fun _ => hb⟩
        · exact ⟨hs, fun h => by cases h⟩
      · exact ⟨hb, fun _ => hb⟩
    · exact ⟨hs, fun h => by cases h⟩
  split
  · refine ⟨?_, fun h => by cases h⟩
    show (appended n r m).term ≤ _
    unfold appended; split
    · split
      · exact hf
      · split
        · exact hs
        · exact hs
    · exact hs
  · exact ⟨hs, fun h => by cases h⟩

theorem tb_stand {c : CT} {T : Int} (h : CG c) (ht : TB c T) {i : Int} (h0 : (standC c i).1 = 0) : TB (standC c i).2 (T + 1) := by
  unfold standC at h0 ⊢
  by_cases hr : readyE c i = 0
  · obtain ⟨V, i0, i1⟩ := ready_iff.1 hr
    obtain ⟨r, e1, e1'⟩ := rep_at i0 i1
    have htr := ht.1 r (List.mem_of_getElem? e1)
    rw [if_pos hr] at h0 ⊢
    rw [e1'] at h0 ⊢
    split at h0
    · cases h0
    · rename_i hd
      rw [if_neg hd]
      simp only at h0 ⊢
      split at h0
      · rename_i hs
        rw [if_pos hs]
        split at h0
        · cases h0
        · rename_i hg
          rw [if_neg hg]
          have hC := (V.rp _ _ e1).2
          unfold stand at hs ⊢
          rw [if_pos (chk_iff.2 hC)] at hs ⊢
          split at hs
          · cases hs
          · rename_i htm
            rw [if_neg htm]
            refine ht.put (by omega) ?_ (fun m hm => (List.mem_append.1 hm).imp id fun hm => ?_)
            · show (standR _ r).term ≤ _
              unfold standR; simp only; split <;> (show r.term + 1 ≤ T + 1; omega)
            · simp only [asks, List.mem_map] at hm
              obtain ⟨j, _, rfl⟩ := hm
              show r.term + 1 ≤ T + 1; omega
      · rename_i hs
        exact absurd h0 hs
  · rw [if_neg hr] at h0
    exact absurd h0 hr

theorem tb_propose {c : CT} {T : Int} (h : CG c) (ht : TB c T) {i : Int} {o : OpT} (h0 : (proposeC c i o).1 = 0) : TB (proposeC c i o).2 T := by
  unfold proposeC at h0 ⊢
  by_cases hr : readyE c i = 0
  · obtain ⟨V, i0, i1⟩ := ready_iff.1 hr
    obtain ⟨r, e1, e1'⟩ := rep_at i0 i1
    have htr := ht.1 r (List.mem_of_getElem? e1)
    rw [if_pos hr] at h0 ⊢
    rw [e1'] at h0 ⊢
    split at h0
    · cases h0
    · rename_i hd
      rw [if_neg hd]
      simp only at h0 ⊢
      split at h0
      · rename_i hs
        rw [if_pos hs]
        refine ht.put (Int.le_refl _) ?_ (fun m hm => .inl hm)
        unfold proposeE at hs ⊢
        rw [if_pos (chk_iff.2 (V.rp _ _ e1).2)] at hs ⊢
        split at hs
        · rename_i h2
          rw [if_pos h2]
          split at hs
          · cases hs
          · rename_i hh
            rw [if_neg hh]
            split at hs
            · rename_i hl
              rw [if_pos hl]
              exact htr
            · cases hs
        · cases hs
      · rename_i hs
        exact absurd h0 hs
  · rw [if_neg hr] at h0
    exact absurd h0 hr

theorem tb_beat {c : CT} {T : Int} (ht : TB c T) {i : Int} (h0 : (beatC c i).1 = 0) : TB (beatC c i).2 T := by
  unfold beatC at h0 ⊢
  by_cases hr : readyE c i = 0
  · obtain ⟨V, i0, i1⟩ := ready_iff.1 hr
    obtain ⟨r, e1, e1'⟩ := rep_at i0 i1
    have htr := ht.1 r (List.mem_of_getElem? e1)
    rw [if_pos hr] at h0 ⊢
    rw [e1'] at h0 ⊢
    split at h0
    · cases h0
    · rename_i hd
      rw [if_neg hd]
      split at h0
      · rename_i h2
        rw [if_pos h2]
        simp only at h0 ⊢
        split at h0
        · cases h0
        · rename_i hg
          rw [if_neg hg]
          refine ht.same fun m hm => (List.mem_append.1 hm).imp id fun hm => ?_
          unfold appendsE at hm
          split at hm
          · simp only [appends, List.mem_map] at hm
            obtain ⟨j, _, rfl⟩ := hm
            exact htr
          · cases hm
      · cases h0
  · rw [if_neg hr] at h0
    exact absurd h0 hr

theorem tb_drop {c : CT} {T : Int} (ht : TB c T) {k : Int} (h0 : (dropC c k).1 = 0) : TB (dropC c k).2 T := by
  unfold dropC at h0 ⊢
  split at h0
  · rename_i hr
    rw [if_pos hr]
    exact ht.same fun m hm => .inl (cutOut_mem hm)
  · rename_i hr; exact absurd h0 hr

theorem tb_double {c : CT} {T : Int} (ht : TB c T) {k : Int} (h0 : (doubleC c k).1 = 0) : TB (doubleC c k).2 T := by
  unfold doubleC at h0 ⊢
  split at h0
  · rename_i hr
    rw [if_pos hr]
    split at h0
    · cases h0
    · rename_i hg
      rw [if_neg hg]
      obtain ⟨V, k0, k1⟩ := wire_iff.1 hr
      obtain ⟨m, e1, e1'⟩ := wire_at k0 k1
      rw [e1']
      refine ht.same fun x hx => (List.mem_append.1 hx).imp id fun hx => ?_
      simp at hx; subst hx
      exact ht.2 _ (List.mem_of_getElem? e1)
  · rename_i hr; exact absurd h0 hr

theorem tb_deliver {c : CT} {T : Int} (ht : TB c T) {k : Int} (h0 : (deliverC c k).1 = 0) : TB (deliverC c k).2 T := by
  unfold deliverC at h0 ⊢
  split at h0
  · rename_i hr
    rw [if_pos hr]
    obtain ⟨V, k0, k1⟩ := wire_iff.1 hr
    obtain ⟨m, e1, e1'⟩ := wire_at k0 k1
    rw [e1']
    have hmm := List.mem_of_getElem? e1
    obtain ⟨_, _, t0, t1, _⟩ := V.wm m hmm
    simp only
    split
    · exact ht.same fun m hm => .inl (cutOut_mem hm)
    · obtain ⟨r, e2, e2'⟩ := rep_at t0 t1
      rw [e2']
      have h1 := ht.1 r (List.mem_of_getElem? e2)
      have h2 := ht.2 m hmm
      obtain ⟨a1, a2⟩ := hearAny_term (c.reps.length : Int) r m
      refine ht.put (Int.le_refl _) (by omega) fun x hx => (List.mem_append.1 hx).imp (fun a => cutOut_mem a) fun hx => ?_
      cases hb : (hearAny (c.reps.length : Int) r m).2.2
      · rw [hb] at hx; simp at hx
      · rw [hb] at hx
        simp at hx
        subst hx
        have := a2 hb
        omega
  · rename_i hr; exact absurd h0 hr

theorem tb_crash {c : CT} {T : Int} (ht : TB c T) {i : Int} (h0 : (crashC c i).1 = 0) : TB (crashC c i).2 T := by
  unfold crashC at h0 ⊢
  split at h0
  · rename_i hr
    rw [if_pos hr]
    split at h0
    · cases h0
    · rename_i hd
      rw [if_neg hd]
      exact ht.same fun m hm => .inl hm
  · rename_i hr; exact absurd h0 hr

theorem tb_restart {c : CT} {T : Int} (ht : TB c T) {i : Int} (h0 : (restartC c i).1 = 0) : TB (restartC c i).2 T := by
  unfold restartC at h0 ⊢
  split at h0
  · rename_i hr
    rw [if_pos hr]
    split at h0
    · rename_i hd
      rw [if_pos hd]
      obtain ⟨V, i0, i1⟩ := ready_iff.1 hr
      obtain ⟨r, e1, e1'⟩ := rep_at i0 i1
      rw [e1']
      unfold restartE
      rw [if_pos (chk_iff.2 (V.rp _ _ e1).2)]
      exact ht.put (r' := restartR r) (Int.le_refl _) (ht.1 r (List.mem_of_getElem? e1)) fun m hm => .inl hm
    · cases h0
  · rename_i hr; exact absurd h0 hr

theorem tb_cut {c : CT} {T : Int} (ht : TB c T) {i j : Int} (h0 : (cutC c i j).1 = 0) : TB (cutC c i j).2 T := by
  unfold cutC at h0 ⊢
  split at h0
  · rename_i hr
    rw [if_pos hr]
    split at h0
    · rename_i hj
      rw [if_pos hj]
      split at h0
      · cases h0
      · rename_i hij
        rw [if_neg hij]
        split at h0
        · cases h0
        · rename_i hic
          rw [if_neg hic]
          exact ht.same fun m hm => .inl hm
    · cases h0
  · rename_i hr; exact absurd h0 hr

theorem tb_heal {c : CT} {T : Int} (h : CG c) (ht : TB c T) : TB (healC c) T := by
  unfold healC
  rw [if_pos (chkC_iff.2 h.v)]
  exact ht.same fun m hm => .inl hm

end Go.Proofs.Ytfbikpbejkgegaa

namespace Go.Proofs.Ytfbikpbejkgegaa
open Go Go.Abs Go.Raft
theorem deliver_zero {c : CT} (V : VC c) (h : c.wire ≠ []) : (deliverC c 0).1 = 0 := by
  have hl := List.length_pos_iff.2 h
  have hw : wireE c 0 = 0 := wire_iff.2 ⟨V, Int.le_refl _, by omega⟩
  unfold deliverC
  rw [if_pos hw]
  simp only
  split <;> rfl

theorem beat_zero {c : CT} (h : CG c) {i : Int} (i0 : 0 ≤ i) (i1 : i < (c.reps.length : Int)) (hd : downAt c i = false) (hr : (repAt c i).role = 2) (hw : c.wire = []) : (beatC c i).1 = 0 := by
  unfold beatC
  rw [if_pos (ready_iff.2 ⟨h.v, i0, i1⟩), if_neg (by rw [hd]; simp), if_pos hr]
  simp only
  have := appends_len (c.reps.length : Int) (repAt c i)
  rw [if_neg (by rw [hw]; simp; omega)]

/-! ### Leader -/
def leadL (reps : List RT) (down : List Bool) : Nat → List RT → Int → Bool → Int × Bool
  | _, [], b, f => (b, f)
  | i, r :: l, b, f =>
    if decide (r.role = 2) && !(down[i]?.getD false) && (!f || decide (r.term > (reps[b.toNat]?.getD zeroR).term)) then leadL reps down (i + 1) l (i : Int) true else leadL reps down (i + 1) l b f

def leaderC (c : CT) : Int × Bool := if chkC c = true then leadL c.reps c.down 0 c.reps 0 false else (0, false)

theorem leadL_spec (reps : List RT) (down : List Bool) : ∀ (l : List RT) (i : Nat) (b : Int) (f : Bool), reps.drop i = l → (f = true → 0 ≤ b ∧ b < (reps.length : Int) ∧ (reps[b.toNat]?.getD zeroR).role = 2 ∧ (down[b.toNat]?.getD false) = false) →
    (leadL reps down i l b f).2 = true → 0 ≤ (leadL reps down i l b f).1 ∧ (leadL reps down i l b f).1 < (reps.length : Int) ∧ (reps[(leadL reps down i l b f).1.toNat]?.getD zeroR).role = 2 ∧ (down[(leadL reps down i l b f).1.toNat]?.getD false) = false := by
  intro l
  induction l with
  | nil => intro i b f _ hf h; exact hf h
  | cons r l ih =>
    intro i b f hd hf h
    have hi : reps[i]? = some r := by
      have := congrArg (fun l => l[0]?) hd
      simpa using this
    have hd' : reps.drop (i + 1) = l := by
      rw [← List.drop_drop, hd]; rfl
    unfold leadL at h ⊢
    split at h
    · rename_i hc
      rw [if_pos hc]
      refine ih (i + 1) (i : Int) true hd' (fun _ => ?_) h
      simp only [Bool.and_eq_true, Bool.not_eq_true', decide_eq_true_eq] at hc
      have := (List.getElem?_eq_some_iff.1 hi).1
      refine ⟨by omega, by omega, ?_, ?_⟩
      · rw [Int.toNat_natCast, hi]; exact hc.1.1
      · rw [Int.toNat_natCast]; exact hc.1.2
    · rename_i hc
      rw [if_neg hc]
      exact ih (i + 1) b f hd' hf h

theorem leader_spec {c : CT} (h : (leaderC c).2 = true) : VC c ∧ 0 ≤ (leaderC c).1 ∧ (leaderC c).1 < (c.reps.length : Int) ∧ (repAt c (leaderC c).1).role = 2 ∧ downAt c (leaderC c).1 = false := by
  unfold leaderC at h ⊢
  split at h
  · rename_i hc
    rw [if_pos hc]
    exact ⟨chkC_iff.1 hc, leadL_spec c.reps c.down c.reps 0 0 false rfl (fun h => by cases h) h⟩
  · cases h

theorem loop43 (reps : List RT) (wire : List MT) (down : List Bool) (cut : List CutT) (hs : ShC (cl reps wire down cut)) (V : VC (cl reps wire down cut)) : ∀ (k i : Nat) (b : Int) (f : Bool), i + k = reps.length → 0 ≤ b → b < (reps.length : Int) →
    loopT l43_0_3 (((i : Int), b, f, ()), ((cl reps wire down cut, ()), ())) = some (((leadL reps down i (reps.drop i) b f).2, (leadL reps down i (reps.drop i) b f).1, ()), ()) := by
  have hck := chkC_iff.2 V
  have hdn : down.length = reps.length := V.dn
  have hrl : reps.length ≤ 5 := V.n5
  intro k
  induction k with
  | zero =>
    intro i b f h _ _
    rw [List.drop_eq_nil_of_le (by omega)]
    refine loopT_inr ?_
    have : ¬ (i : Int) < (reps.length : Int) := by omega
    simp only [l43_0_3, decide_eq_false this, decide_true, decide_false, cond_true, cond_false, Option.bind_some, Bool.not_true, Bool.not_false, sumE, Bool.true_and, Bool.and_true, Bool.false_and, Bool.and_false, beq_self_eq_true, bne_self_eq_false, leadL]
  | succ k ih =>
    intro i b f h b0 b1
    obtain ⟨e, he, hd⟩ := drop_at (l := reps) (i := i) (by omega)
    obtain ⟨d, hde⟩ := getD_some (l := down) (i := i) (by omega)
    obtain ⟨x, hx⟩ := getD_some (l := reps) (i := b.toNat) (by omega)
    have hlt : (i : Int) < (reps.length : Int) := by omega
    rw [hd]
    unfold leadL
    rw [hde, hx]
    simp only [Option.getD_some]
    have e71 := m71_eq (cl reps wire down cut) hs
    rw [hck] at e71
    have yes_ : loopT l43_0_3 (((i : Int), b, f, ()), ((cl reps wire down cut, ()), ())) = loopT l43_0_3 ((((i + 1 : Nat) : Int), (if decide (e.role = 2) && !d && (!f || decide (e.term > x.term)) then (i : Int) else b), (if decide (e.role = 2) && !d && (!f || decide (e.term > x.term)) then true else f), ()), ((cl reps wire down cut, ()), ())) := by
      refine loopT_inl ?_
      rcases Bool.eq_false_or_eq_true (decide (e.role = 2)) with h1 | h1
      · cases d
        · cases f
          · simp only [l43_0_3, decide_eq_true hlt, decide_true, decide_false, cond_true, cond_false, Option.bind_some, Bool.not_true, Bool.not_false, sumE, Bool.true_and, Bool.and_true, Bool.false_and, Bool.and_false, beq_self_eq_true, bne_self_eq_false, e71, rowAt_G, rowG_nat he, rowG_nat hde, rowG_int b0 hx, beq_decide, h1, w64_nat (show i ≤ 4294967296 by omega), Bool.true_or, if_true]
          · rcases Bool.eq_false_or_eq_true (decide (e.term > x.term)) with h2 | h2
            · simp only [l43_0_3, decide_eq_true hlt, decide_true, decide_false, cond_true, cond_false, Option.bind_some, Bool.not_true, Bool.not_false, sumE, Bool.true_and, Bool.and_true, Bool.false_and, Bool.and_false, beq_self_eq_true, bne_self_eq_false, e71, rowAt_G, rowG_nat he, rowG_nat hde, rowG_int b0 hx, beq_decide, h1, h2, w64_nat (show i ≤ 4294967296 by omega), Bool.false_or, if_true]
            · simp only [l43_0_3, decide_eq_true hlt, decide_true, decide_false, cond_true, cond_false, Option.bind_some, Bool.not_true, Bool.not_false, sumE, Bool.true_and, Bool.and_true, Bool.false_and, Bool.and_false, beq_self_eq_true, bne_self_eq_false, e71, rowAt_G, rowG_nat he, rowG_nat hde, rowG_int b0 hx, beq_decide, h1, h2, w64_nat (show i ≤ 4294967296 by omega), Bool.false_or, Bool.false_eq_true, if_false]
        · simp only [l43_0_3, decide_eq_true hlt, decide_true, decide_false, cond_true, cond_false, Option.bind_some, Bool.not_true, Bool.not_false, sumE, Bool.true_and, Bool.and_true, Bool.false_and, Bool.and_false, beq_self_eq_true, bne_self_eq_false, e71, rowAt_G, rowG_nat he, rowG_nat hde, rowG_int b0 hx, beq_decide, h1, w64_nat (show i ≤ 4294967296 by omega), Bool.false_eq_true, if_false]
      · simp only [l43_0_3, decide_eq_true hlt, decide_true, decide_false, cond_true, cond_false, Option.bind_some, Bool.not_true, Bool.not_false, sumE, Bool.true_and, Bool.and_true, Bool.false_and, Bool.and_false, beq_self_eq_true, bne_self_eq_false, e71, rowAt_G, rowG_nat he, rowG_nat hde, rowG_int b0 hx, beq_decide, h1, w64_nat (show i ≤ 4294967296 by omega), Bool.false_eq_true, if_false]
    rw [yes_]
    split
    · exact ih (i + 1) (i : Int) true (by omega) (by omega) (by omega)
    · exact ih (i + 1) b f (by omega) b0 b1

theorem m43_eq (c : CT) (hs : ShC c) : m43 ((c, ()), ()) = some (((leaderC c).1, (leaderC c).2, ()), ()) := by
  obtain ⟨reps, wire, down, cut, ⟨⟩⟩ := c
  unfold m43 leaderC
  simp only []
  cases hc : chkC (reps, wire, down, cut, PUnit.unit)
  · rw [show loopT l43_0_3 ((0, (0, (false, ()))), (((reps, wire, down, cut, PUnit.unit), ()), ())) = some ((false, 0, ()), ()) from ?_]
    · rfl
    · have e71 := m71_eq (cl reps wire down cut) hs
      rw [show chkC (cl reps wire down cut) = false from hc] at e71
      refine loopT_inr ?_
      by_cases h : (0 : Int) < (reps.length : Int)
      · simp only [l43_0_3, decide_eq_true h, decide_true, decide_false, cond_true, cond_false, Option.bind_some, Bool.not_true, Bool.not_false, sumE, Bool.true_and, Bool.and_true, Bool.false_and, Bool.and_false, beq_self_eq_true, bne_self_eq_false, e71]
      · simp only [l43_0_3, decide_eq_false h, decide_true, decide_false, cond_true, cond_false, Option.bind_some, Bool.not_true, Bool.not_false, sumE, Bool.true_and, Bool.and_true, Bool.false_and, Bool.and_false, beq_self_eq_true, bne_self_eq_false]
  · have V := chkC_iff.1 hc
    have h1 : 1 ≤ reps.length := V.n1
    have := loop43 reps wire down cut hs V reps.length 0 0 false (by omega) (Int.le_refl _) (by omega)
    rw [List.drop_zero] at this
    rw [show loopT l43_0_3 ((0, (0, (false, ()))), (((reps, wire, down, cut, PUnit.unit), ()), ())) = _ from this]
    rfl

end Go.Proofs.Ytfbikpbejkgegaa

namespace Go.Proofs.Ytfbikpbejkgegaa
open Go Go.Abs Go.Raft
abbrev Dice := List Int × Int × Unit

def DOK (d : Dice) : Prop := 0 ≤ d.2.1 ∧ d.2.1 ≤ d.1.length ∧ d.1.length ≤ 500

theorem next_spec (n : Int) (d : Dice) (hd : DOK d) (hn : n ≤ 9223372036854775807) :
    ∃ (r : Int) (d' : Dice), m20 ((n, ()), ((d, ()), ())) = some ((r, ()), ((d', ()), ())) ∧ DOK d' ∧ (1 ≤ n → 0 ≤ r ∧ r < n) ∧ (n < 1 → r = 0) := by
  obtain ⟨l, at_, u⟩ := d
  obtain ⟨h1, h2, h3⟩ := hd
  simp only at h1 h2 h3
  unfold m20
  simp only [rowAt_G]
  by_cases c1 : at_ ≥ (l.length : Int)
  · refine ⟨0, (l, at_, ()), ?_, ⟨h1, h2, h3⟩, fun h => ⟨by omega, by omega⟩, fun _ => rfl⟩
    simp only [decide_eq_true c1, decide_true, decide_false, cond_true, cond_false, Option.bind_some, Bool.not_true, Bool.not_false, sumE, Bool.true_and, Bool.and_true, Bool.false_and, Bool.and_false, beq_self_eq_true, bne_self_eq_false]
  · by_cases c2 : n < 1
    · refine ⟨0, (l, at_, ()), ?_, ⟨h1, h2, h3⟩, fun h => ⟨by omega, by omega⟩, fun _ => rfl⟩
      simp only [decide_eq_false c1, decide_eq_true c2, decide_true, decide_false, cond_true, cond_false, Option.bind_some, Bool.not_true, Bool.not_false, sumE, Bool.true_and, Bool.and_true, Bool.false_and, Bool.and_false, beq_self_eq_true, bne_self_eq_false]
    · have hat : w64 (at_ + 1) = at_ + 1 := w64_id (by omega) (by omega)
      have hne : n ≠ 0 := by omega
      obtain ⟨e, he⟩ := getD_some (l := l) (i := at_.toNat) (by omega)
      have hb := Int.tmod_lt_of_pos e (show (0 : Int) < n by omega)
      have hb2 : -n < e.tmod n := by
        have := Int.lt_tmod_of_pos e (show (0 : Int) < n by omega)
        omega
      by_cases c3 : e.tmod n < 0
      · refine ⟨e.tmod n + n, (l, at_ + 1, ()), ?_, ⟨by simp only; omega, by simp only; omega, h3⟩, fun h => ⟨by omega, by omega⟩, fun h => by omega⟩
        simp only [decide_eq_false c1, decide_eq_false c2, decide_true, decide_false, cond_true, cond_false, Option.bind_some, Bool.not_true, Bool.not_false, sumE, Bool.true_and, Bool.and_true, Bool.false_and, Bool.and_false, beq_self_eq_true, bne_self_eq_false, rowG_int h1 he, decide_eq_true hne, decide_eq_true c3, hat, w64_id (x := e.tmod n + n) (by omega) (by omega)]
      · refine ⟨e.tmod n, (l, at_ + 1, ()), ?_, ⟨by simp only; omega, by simp only; omega, h3⟩, fun h => ⟨by omega, by omega⟩, fun h => by omega⟩
        simp only [decide_eq_false c1, decide_eq_false c2, decide_true, decide_false, cond_true, cond_false, Option.bind_some, Bool.not_true, Bool.not_false, sumE, Bool.true_and, Bool.and_true, Bool.false_and, Bool.and_false, beq_self_eq_true, bne_self_eq_false, rowG_int h1 he, decide_eq_true hne, decide_eq_false c3, hat]

theorem one_spec (l : List Int) (d : Dice) (hd : DOK d) (h0 : 0 < l.length) (h1 : l.length ≤ 4294967296) :
    ∃ (r : Int) (d' : Dice), m41 ((l, ()), ((d, ()), ())) = some ((r, ()), ((d', ()), ())) ∧ DOK d' ∧ r ∈ l := by
  obtain ⟨n, d', e1, e2, e3, _⟩ := next_spec l.length d hd (by omega)
  obtain ⟨hn0, hn1⟩ := e3 (by omega)
  obtain ⟨r, hr⟩ := getD_some (l := l) (i := n.toNat) (by omega)
  refine ⟨r, d', ?_, e2, List.mem_of_getElem? hr⟩
  unfold m41
  simp only [e1, Option.bind_some, rowAt_G, rowG_int hn0 hr]

theorem bind_ex {A B : Type} {o : Option A} {f : A → Option B} {P : A → Prop} {Q : B → Prop} (h : ∃ a, o = some a ∧ P a) (h2 : ∀ a, P a → ∃ b, f a = some b ∧ Q b) : ∃ b, o.bind f = some b ∧ Q b := by
  obtain ⟨a, rfl, ha⟩ := h
  exact h2 a ha

theorem stand_new {n i : Int} (h1 : 1 ≤ n) (h5 : n ≤ 5) (i0 : 0 ≤ i) (i1 : i < n) : readyE (newC n) i = 0 ∧ (standC (newC n) i).1 = 0 := by
  obtain ⟨hg, hl⟩ := cg_new h1 h5
  have hr : readyE (newC n) i = 0 := ready_iff.2 ⟨hg.v, i0, by omega⟩
  refine ⟨hr, ?_⟩
  unfold standC
  have hd : downAt (newC n) i = false := by
    show ((List.replicate n.toNat false)[i.toNat]?.getD false) = false
    rw [List.getElem?_replicate]; split <;> rfl
  obtain ⟨r, e1, e1'⟩ := rep_at (c := newC n) i0 (by omega)
  have hC := (hg.v.rp _ _ e1).2
  have ht : r.term = 0 := by
    have : ((List.range n.toNat).map (rep0 : Nat → RT))[i.toNat]? = some r := e1
    simp only [List.getElem?_map, Option.map_eq_some_iff] at this
    obtain ⟨j, _, rfl⟩ := this
    rfl
  rw [if_pos hr, if_neg (by rw [hd]; simp), e1']
  simp only
  have hs : (stand ((newC n).reps.length : Int) r).1 = 0 := by
    unfold stand
    rw [if_pos (chk_iff.2 hC), if_neg (by omega)]
  have hsl := stand_len ((newC n).reps.length : Int) r
  rw [if_pos hs, if_neg]
  show ¬ (([] : List MT).length + _ > 256)
  simp only [List.length_nil]; omega

end Go.Proofs.Ytfbikpbejkgegaa

namespace Go.Proofs.Ytfbikpbejkgegaa
open Go Go.Abs Go.Raft
theorem CG.voted {c : CT} (h : CG c) {j : Nat} {r : RT} (hj : c.reps[j]? = some r) (hr : r.role = 1 ∨ r.role = 2) : r.voted = (j : Int) := by
  obtain ⟨g, hi, _⟩ := h.gd
  have hn := hi.nod j r hj
  rcases hr with hr | hr
  · exact hn.v1 _ _ (hn.cd hr).1
  · obtain ⟨R, hR, hw, _⟩ := hn.ld hr
    have := (hi.rcd _ R hR).vt
    rw [hw] at this
    exact hn.v1 _ _ this

theorem light (l : List Int) : m16 ((l, ()), ()) = some ((decide (l.length ≤ 500), ()), ()) := by
  unfold m16
  have : decide ((l.length : Int) ≤ 500) = decide (l.length ≤ 500) := by
    by_cases h : l.length ≤ 500
    · rw [decide_eq_true h, decide_eq_true (by omega)]
    · rw [decide_eq_false h, decide_eq_false (by omega)]
  rw [this]

theorem roll (l : List Int) : m18 ((l, ()), ()) = some ((), (((l, (0, ())), ()), ())) := rfl

theorem dok0 {l : List Int} (h : l.length ≤ 500) : DOK (l, 0, ()) := ⟨Int.le_refl _, by simp only; omega, h⟩

end Go.Proofs.Ytfbikpbejkgegaa

namespace Go.Proofs.Ytfbikpbejkgegaa
open Go Go.Abs Go.Raft
end Go.Proofs.Ytfbikpbejkgegaa

namespace Go.Proofs.Ytfbikpbejkgegaa
open Go Go.Abs Go.Raft
end Go.Proofs.Ytfbikpbejkgegaa

namespace Go.Proofs.Ytfbikpbejkgegaa
open Go Go.Abs Go.Raft
def newV (i n : Int) : Int × Int := if inn n 1 5 = true ∧ inn i 0 (n - 1) = true then (0, i) else (1, 0)

abbrev newI (i n : Int) : (Int × Int × Int × Int × Int × Unit) × Unit := if inn n 1 5 = true ∧ inn i 0 (n - 1) = true then ((i, 0, -1, 0, 0, ()), ()) else ((0, 0, 0, 0, 0, ()), ())

theorem m39_eq (i n : Int) : m39 ((i, n, ()), ()) = some (((newV i n).1, ()), (newI i n, ())) := by
  unfold m39
  simp only [m81_eq, Option.bind_some]
  cases h : inn n 1 5
  · simp only [decide_true, decide_false, cond_true, cond_false, Option.bind_some, Bool.not_true, Bool.not_false, sumE, Bool.true_and, Bool.and_true, Bool.false_and, Bool.and_false, beq_self_eq_true, bne_self_eq_false, newV, newI, h, Bool.false_eq_true, false_and, if_false]
  · simp only [decide_true, decide_false, cond_true, cond_false, Option.bind_some, Bool.not_true, Bool.not_false, sumE, Bool.true_and, Bool.and_true, Bool.false_and, Bool.and_false, beq_self_eq_true, bne_self_eq_false, w64_pred h]
    cases h2 : inn i 0 (n - 1)
    · simp only [decide_true, decide_false, cond_true, cond_false, Option.bind_some, Bool.not_true, Bool.not_false, sumE, Bool.true_and, Bool.and_true, Bool.false_and, Bool.and_false, beq_self_eq_true, bne_self_eq_false, newV, newI, h2, Bool.false_eq_true, and_false, if_false]
    · simp only [decide_true, decide_false, cond_true, cond_false, Option.bind_some, Bool.not_true, Bool.not_false, sumE, Bool.true_and, Bool.and_true, Bool.false_and, Bool.and_false, beq_self_eq_true, bne_self_eq_false, newV, newI, h, h2, and_self, if_true]

end Go.Proofs.Ytfbikpbejkgegaa

namespace Go.Proofs.Ytfbikpbejkgegaa
open Go Go.Abs Go.Raft
theorem m99_eq (a b c : Int) : m99 ((a, b, c, ()), ()) = some ((inn a b c, ()), ()) := by
  unfold m99 inn
  simp only []
  by_cases h : a ≥ b
  · simp only [decide_eq_true h, decide_true, decide_false, cond_true, cond_false, Option.bind_some, Bool.not_true, Bool.not_false, sumE, Bool.true_and, Bool.and_true, Bool.false_and, Bool.and_false, beq_self_eq_true, bne_self_eq_false]
  · simp only [decide_eq_false h, decide_true, decide_false, cond_true, cond_false, Option.bind_some, Bool.not_true, Bool.not_false, sumE, Bool.true_and, Bool.and_true, Bool.false_and, Bool.and_false, beq_self_eq_true, bne_self_eq_false]

def has (l : List CutT) (a b : Int) : Bool := l.any (fun p => decide (p.1 = a) && decide (p.2.1 = b))

theorem has_cut (l : List CutT) (a b : Int) : has l (min a b) (max a b) = isCut l a b := rfl

theorem loop134 (l : List CutT) (a b : Int) (hl : l.length ≤ 4294967295) : ∀ (k i : Nat), i + k = l.length →
    ∃ j : Int, loopT l134_0_2 (((i : Int), l, (l.length : Int), ()), (((a, b, ()), ()), ())) = some (if has (l.drop i) a b = true then .inl ((j, ()), ()) else .inr ((), ())) ∧ 0 ≤ j := by
  intro k
  induction k with
  | zero =>
    intro i h
    rw [List.drop_eq_nil_of_le (by omega)]
    refine ⟨0, loopT_inr ?_, Int.le_refl _⟩
    have : ¬ (i : Int) < (l.length : Int) := by omega
    simp only [l134_0_2, decide_eq_false this, decide_true, decide_false, cond_true, cond_false, Option.bind_some, Bool.not_true, Bool.not_false, sumE, Bool.true_and, Bool.and_true, Bool.false_and, Bool.and_false, beq_self_eq_true, bne_self_eq_false, has, List.any_nil, Bool.false_eq_true, if_false]
  | succ k ih =>
    intro i h
    obtain ⟨e, he, hd⟩ := drop_at (l := l) (i := i) (by omega)
    have hlt : (i : Int) < (l.length : Int) := by omega
    rw [hd]
    unfold has
    rw [List.any_cons]
    cases hq : (decide (e.1 = a) && decide (e.2.1 = b))
    · obtain ⟨j, e1, e2⟩ := ih (i + 1) (by omega)
      refine ⟨j, ?_, e2⟩
      rw [Bool.false_or]
      refine (loopT_inl ?_).trans e1
      have hq' : (a == e.1 && (b == e.2.1 && true)) = false := by
        rw [← hq, Bool.and_true, beq_decide, beq_decide, decide_eq_decide.2 (eq_comm (a := a) (b := e.1)), decide_eq_decide.2 (eq_comm (a := b) (b := e.2.1))]
      simp only [l134_0_2, decide_eq_true hlt, decide_true, decide_false, cond_true, cond_false, Option.bind_some, Bool.not_true, Bool.not_false, sumE, Bool.true_and, Bool.and_true, Bool.false_and, Bool.and_false, beq_self_eq_true, bne_self_eq_false, rowAt_G, rowG_nat he]
      rw [show (a == e.1 && (b == e.2.1)) = false by simpa using hq']
      simp only [decide_true, decide_false, cond_true, cond_false, Option.bind_some, Bool.not_true, Bool.not_false, sumE, Bool.true_and, Bool.and_true, Bool.false_and, Bool.and_false, beq_self_eq_true, bne_self_eq_false, w64_nat (show i ≤ 4294967296 by omega)]
    · refine ⟨(i : Int), ?_, by omega⟩
      rw [Bool.true_or, if_pos rfl]
      refine loopT_inr ?_
      have hq' : (a == e.1 && (b == e.2.1)) = true := by
        rw [← hq, beq_decide, beq_decide, decide_eq_decide.2 (eq_comm (a := a) (b := e.1)), decide_eq_decide.2 (eq_comm (a := b) (b := e.2.1))]
      simp only [l134_0_2, decide_eq_true hlt, decide_true, decide_false, cond_true, cond_false, Option.bind_some, Bool.not_true, Bool.not_false, sumE, Bool.true_and, Bool.and_true, Bool.false_and, Bool.and_false, beq_self_eq_true, bne_self_eq_false, rowAt_G, rowG_nat he]
      rw [hq']
      simp only [decide_true, decide_false, cond_true, cond_false, Option.bind_some, Bool.not_true, Bool.not_false, sumE, Bool.true_and, Bool.and_true, Bool.false_and, Bool.and_false, beq_self_eq_true, bne_self_eq_false]

theorem m108_eq (l : List CutT) (a b : Int) (hl : l.length ≤ 4294967295) : m108 ((l, (a, b, ()), ()), ()) = some ((has l a b, ()), ()) := by
  unfold m108 m134
  obtain ⟨j, e, hj⟩ := loop134 l a b hl l.length 0 (by omega)
  rw [List.drop_zero] at e
  simp only []
  rw [show loopT l134_0_2 ((0, (l, ((l.length : Int), ()))), (((a, b, ()), ()), ())) = _ from e]
  cases has l a b
  · simp only [Bool.false_eq_true, if_false, decide_true, decide_false, cond_true, cond_false, Option.bind_some, Bool.not_true, Bool.not_false, sumE, Bool.true_and, Bool.and_true, Bool.false_and, Bool.and_false, beq_self_eq_true, bne_self_eq_false]
    rfl
  · simp only [if_true, decide_true, decide_false, cond_true, cond_false, Option.bind_some, Bool.not_true, Bool.not_false, sumE, Bool.true_and, Bool.and_true, Bool.false_and, Bool.and_false, beq_self_eq_true, bne_self_eq_false, decide_eq_true (show j ≥ 0 by omega)]

theorem loop106a (c : CT) (n : Int) (reps : List RT) (hr : ∀ r ∈ reps, Shrt r) (hl : reps.length ≤ 2147483647) : ∀ (k i : Nat), i + k = reps.length →
    loopT l106_0_5 (((i : Int), n, reps, (reps.length : Int), ()), ((c, ()), ())) = some (if repsOK n i (reps.drop i) then .inr ((n, ()), ((c, ()), ())) else .inl ((false, ()), ())) := by
  intro k
  induction k with
  | zero =>
    intro i h
    rw [List.drop_eq_nil_of_le (by omega)]
    refine loopT_inr ?_
    have : ¬ (i : Int) < (reps.length : Int) := by omega
    simp only [l106_0_5, decide_eq_false this, decide_true, decide_false, cond_true, cond_false, Option.bind_some, Bool.not_true, Bool.not_false, sumE, Bool.true_and, Bool.and_true, Bool.false_and, Bool.and_false, beq_self_eq_true, bne_self_eq_false, repsOK, if_true]
  | succ k ih =>
    intro i h
    obtain ⟨e, he, hd⟩ := drop_at (l := reps) (i := i) (by omega)
    have hlt : (i : Int) < (reps.length : Int) := by omega
    have hsh := hr e (List.mem_of_getElem? he)
    rw [hd, repsOK]
    rcases Bool.eq_false_or_eq_true (decide (e.id = (i : Int))) with h1 | h1
    · cases h2 : chk n e
      · rw [h1, Bool.true_and, Bool.false_and, if_neg (by simp)]
        refine loopT_inr ?_
        simp only [l106_0_5, rowAt_G, rowG_nat he, decide_eq_true hlt, bne_decide, decide_not, h1, m26_eq n e hsh, h2, decide_true, decide_false, cond_true, cond_false, Option.bind_some, Bool.not_true, Bool.not_false, sumE, Bool.true_and, Bool.and_true, Bool.false_and, Bool.and_false, beq_self_eq_true, bne_self_eq_false]
      · rw [show loopT l106_0_5 (((i : Int), n, reps, (reps.length : Int), ()), ((c, ()), ())) = loopT l106_0_5 ((((i + 1 : Nat) : Int), n, reps, (reps.length : Int), ()), ((c, ()), ())) from loopT_inl (by
          simp only [l106_0_5, rowAt_G, rowG_nat he, decide_eq_true hlt, bne_decide, decide_not, h1, m26_eq n e hsh, h2, decide_true, decide_false, cond_true, cond_false, Option.bind_some, Bool.not_true, Bool.not_false, sumE, Bool.true_and, Bool.and_true, Bool.false_and, Bool.and_false, beq_self_eq_true, bne_self_eq_false, w64_nat (show i ≤ 4294967296 by omega)])]
        rw [ih (i + 1) (by omega), h1]
        simp only [decide_true, decide_false, cond_true, cond_false, Option.bind_some, Bool.not_true, Bool.not_false, sumE, Bool.true_and, Bool.and_true, Bool.false_and, Bool.and_false, beq_self_eq_true, bne_self_eq_false]
    · rw [h1, Bool.false_and, Bool.false_and, if_neg (by simp)]
      refine loopT_inr ?_
      simp only [l106_0_5, rowAt_G, rowG_nat he, decide_eq_true hlt, bne_decide, decide_not, h1, decide_true, decide_false, cond_true, cond_false, Option.bind_some, Bool.not_true, Bool.not_false, sumE, Bool.true_and, Bool.and_true, Bool.false_and, Bool.and_false, beq_self_eq_true, bne_self_eq_false]

theorem loop106b (c : CT) (n : Int) (wire : List MT) (hl : wire.length ≤ 2147483647) (hn : inn n 1 5 = true) : ∀ (k i : Nat), i + k = wire.length →
    loopT l106_0_11 (((i : Int), n, wire, (wire.length : Int), ()), ((c, ()), ())) = some (if wireOK n (wire.drop i) then .inr ((n, ()), ((c, ()), ())) else .inl ((false, ()), ())) := by
  intro k
  induction k with
  | zero =>
    intro i h
    rw [List.drop_eq_nil_of_le (by omega)]
    refine loopT_inr ?_
    have : ¬ (i : Int) < (wire.length : Int) := by omega
    simp only [l106_0_11, decide_eq_false this, decide_true, decide_false, cond_true, cond_false, Option.bind_some, Bool.not_true, Bool.not_false, sumE, Bool.true_and, Bool.and_true, Bool.false_and, Bool.and_false, beq_self_eq_true, bne_self_eq_false, wireOK, List.all_nil, if_true]
  | succ k ih =>
    intro i h
    obtain ⟨e, he, hd⟩ := drop_at (l := wire) (i := i) (by omega)
    have hlt : (i : Int) < (wire.length : Int) := by omega
    rw [hd]
    unfold wireOK
    rw [List.all_cons]
    have hw := w64_pred hn
    have hbad : (inn e.frm 0 (n - 1) && inn e.to 0 (n - 1) && decide (e.frm ≠ e.to)) = false → l106_0_11 (((i : Int), n, wire, (wire.length : Int), ()), ((c, ()), ())) = some (.inr (.inl ((false, ()), ()))) := by
      intro hb
      cases h1 : inn e.frm 0 (n - 1)
      · simp only [l106_0_11, rowAt_G, rowG_nat he, decide_eq_true hlt, m99_eq, hw, h1, decide_true, decide_false, cond_true, cond_false, Option.bind_some, Bool.not_true, Bool.not_false, sumE, Bool.true_and, Bool.and_true, Bool.false_and, Bool.and_false, beq_self_eq_true, bne_self_eq_false]
      · cases h2 : inn e.to 0 (n - 1)
        · simp only [l106_0_11, rowAt_G, rowG_nat he, decide_eq_true hlt, m99_eq, hw, h1, h2, decide_true, decide_false, cond_true, cond_false, Option.bind_some, Bool.not_true, Bool.not_false, sumE, Bool.true_and, Bool.and_true, Bool.false_and, Bool.and_false, beq_self_eq_true, bne_self_eq_false]
        · rw [h1, h2] at hb
          have h3 : e.frm = e.to := by simpa using hb
          simp only [l106_0_11, rowAt_G, rowG_nat he, decide_eq_true hlt, m99_eq, hw, h1, h2, decide_true, decide_false, cond_true, cond_false, Option.bind_some, Bool.not_true, Bool.not_false, sumE, Bool.true_and, Bool.and_true, Bool.false_and, Bool.and_false, beq_self_eq_true, bne_self_eq_false, h3]
    cases hq : (inn e.frm 0 (n - 1) && inn e.to 0 (n - 1) && decide (e.frm ≠ e.to))
    · rw [Bool.false_and, if_neg (by simp)]
      exact loopT_inr (hbad hq)
    · have hq' := hq
      simp only [Bool.and_eq_true, decide_eq_true_eq] at hq'
      obtain ⟨⟨h1, h2⟩, h3⟩ := hq'
      rw [show loopT l106_0_11 (((i : Int), n, wire, (wire.length : Int), ()), ((c, ()), ())) = loopT l106_0_11 ((((i + 1 : Nat) : Int), n, wire, (wire.length : Int), ()), ((c, ()), ())) from loopT_inl (by
        simp only [l106_0_11, rowAt_G, rowG_nat he, decide_eq_true hlt, m99_eq, hw, h1, h2, beq_decide, decide_eq_false h3, decide_true, decide_false, cond_true, cond_false, Option.bind_some, Bool.not_true, Bool.not_false, sumE, Bool.true_and, Bool.and_true, Bool.false_and, Bool.and_false, beq_self_eq_true, bne_self_eq_false, w64_nat (show i ≤ 4294967296 by omega)])]
      rw [ih (i + 1) (by omega), Bool.true_and]
      rfl

theorem cutOK1_in (n : Int) (hn : inn n 1 5 = true) (x : CutT) : cutOK1 n x = (inn x.1 0 (n - 1) && inn x.2.1 (w64 (x.1 + 1)) (n - 1)) := by
  obtain ⟨n1, n5⟩ := inn_iff.1 hn
  unfold cutOK1
  by_cases h : 0 ≤ x.1 ∧ x.1 ≤ n - 1
  · rw [w64_id (x := x.1 + 1) (by omega) (by omega)]
    unfold inn
    rw [Bool.eq_iff_iff]
    simp only [Bool.and_eq_true, decide_eq_true_eq]
    omega
  · rw [show inn x.1 0 (n - 1) = false from Bool.eq_false_iff.2 fun e => h (inn_iff.1 e)]
    rw [Bool.eq_iff_iff]
    simp only [Bool.and_eq_true, decide_eq_true_eq, Bool.false_and, Bool.false_eq_true, iff_false]
    omega

theorem loop106c (reps : List RT) (wire : List MT) (down : List Bool) (cut : List CutT) (n : Int) (hl : cut.length ≤ 2147483647) (hn : inn n 1 5 = true) : ∀ (k i : Nat), i + k = cut.length →
    loopT l106_0_17 (((i : Int), n, cut, (cut.length : Int), ()), ((cl reps wire down cut, ()), ())) = some (if cutsOK n (cut.take i) (cut.drop i) then .inr ((), ()) else .inl ((false, ()), ())) := by
  intro k
  induction k with
  | zero =>
    intro i h
    rw [List.drop_eq_nil_of_le (by omega)]
    refine loopT_inr ?_
    have : ¬ (i : Int) < (cut.length : Int) := by omega
    simp only [l106_0_17, decide_eq_false this, decide_true, decide_false, cond_true, cond_false, Option.bind_some, Bool.not_true, Bool.not_false, sumE, Bool.true_and, Bool.and_true, Bool.false_and, Bool.and_false, beq_self_eq_true, bne_self_eq_false, cutsOK, if_true]
  | succ k ih =>
    intro i h
    obtain ⟨e, he, hd⟩ := drop_at (l := cut) (i := i) (by omega)
    have hlt : (i : Int) < (cut.length : Int) := by omega
    rw [hd, cutsOK, ← take_at he]
    have b1 : (0 : Int) ≤ (i : Int) := by omega
    have b2 : 0 ≤ i ∧ i ≤ cut.length := by omega
    have b3 : (cut.take i).length ≤ 4294967295 := by simp; omega
    have hw := w64_pred hn
    rw [cutOK1_in n hn]
    cases h1 : inn e.1 0 (n - 1)
    · simp only [decide_true, decide_false, cond_true, cond_false, Option.bind_some, Bool.not_true, Bool.not_false, sumE, Bool.true_and, Bool.and_true, Bool.false_and, Bool.and_false, beq_self_eq_true, bne_self_eq_false, Bool.false_eq_true, if_false]
      refine loopT_inr ?_
      simp only [l106_0_17, rowAt_G, rowG_nat he, decide_eq_true hlt, m99_eq, hw, h1, decide_true, decide_false, cond_true, cond_false, Option.bind_some, Bool.not_true, Bool.not_false, sumE, Bool.true_and, Bool.and_true, Bool.false_and, Bool.and_false, beq_self_eq_true, bne_self_eq_false]
    · cases h2 : inn e.2.1 (w64 (e.1 + 1)) (n - 1)
      · simp only [decide_true, decide_false, cond_true, cond_false, Option.bind_some, Bool.not_true, Bool.not_false, sumE, Bool.true_and, Bool.and_true, Bool.false_and, Bool.and_false, beq_self_eq_true, bne_self_eq_false, Bool.false_eq_true, if_false]
        refine loopT_inr ?_
        simp only [l106_0_17, rowAt_G, rowG_nat he, decide_eq_true hlt, m99_eq, hw, h1, h2, decide_true, decide_false, cond_true, cond_false, Option.bind_some, Bool.not_true, Bool.not_false, sumE, Bool.true_and, Bool.and_true, Bool.false_and, Bool.and_false, beq_self_eq_true, bne_self_eq_false]
      · have hcut : isCut (cut.take i) e.1 e.2.1 = has (cut.take i) e.1 e.2.1 := by
          obtain ⟨a1, a2⟩ := inn_iff.1 h1
          obtain ⟨a3, a4⟩ := inn_iff.1 h2
          obtain ⟨n1, n5⟩ := inn_iff.1 hn
          rw [w64_id (x := e.1 + 1) (by omega) (by omega)] at a3
          rw [← has_cut, show min e.1 e.2.1 = e.1 by omega, show max e.1 e.2.1 = e.2.1 by omega]
        rw [hcut]
        cases h4 : has (cut.take i) e.1 e.2.1
        · rw [show loopT l106_0_17 (((i : Int), n, cut, (cut.length : Int), ()), ((cl reps wire down cut, ()), ())) = loopT l106_0_17 ((((i + 1 : Nat) : Int), n, cut, (cut.length : Int), ()), ((cl reps wire down cut, ()), ())) from loopT_inl (by
            simp only [l106_0_17, rowAt_G, rowG_nat he, decide_eq_true hlt, m99_eq, hw, h1, h2, decide_true, decide_false, cond_true, cond_false, Option.bind_some, Bool.not_true, Bool.not_false, sumE, Bool.true_and, Bool.and_true, Bool.false_and, Bool.and_false, beq_self_eq_true, bne_self_eq_false, decide_eq_true b1]
            simp only [Int.toNat_natCast, b2, and_self, decide_true, cond_true]
            rw [show m108 ((cut.take i, (e, ())), ()) = _ from m108_eq (cut.take i) e.1 e.2.1 b3]
            simp only [h4, w64_nat (show i ≤ 4294967296 by omega), decide_true, decide_false, cond_true, cond_false, Option.bind_some, Bool.not_true, Bool.not_false, sumE, Bool.true_and, Bool.and_true, Bool.false_and, Bool.and_false, beq_self_eq_true, bne_self_eq_false])]
          rw [ih (i + 1) (by omega)]
          simp only [decide_true, decide_false, cond_true, cond_false, Option.bind_some, Bool.not_true, Bool.not_false, sumE, Bool.true_and, Bool.and_true, Bool.false_and, Bool.and_false, beq_self_eq_true, bne_self_eq_false]
        · simp only [decide_true, decide_false, cond_true, cond_false, Option.bind_some, Bool.not_true, Bool.not_false, sumE, Bool.true_and, Bool.and_true, Bool.false_and, Bool.and_false, beq_self_eq_true, bne_self_eq_false, Bool.false_eq_true, if_false]
          refine loopT_inr ?_
          simp only [l106_0_17, rowAt_G, rowG_nat he, decide_eq_true hlt, m99_eq, hw, h1, h2, decide_true, decide_false, cond_true, cond_false, Option.bind_some, Bool.not_true, Bool.not_false, sumE, Bool.true_and, Bool.and_true, Bool.false_and, Bool.and_false, beq_self_eq_true, bne_self_eq_false, decide_eq_true b1]
          simp only [Int.toNat_natCast, b2, and_self, decide_true, cond_true]
          rw [show m108 ((cut.take i, (e, ())), ()) = _ from m108_eq (cut.take i) e.1 e.2.1 b3]
          simp only [h4, decide_true, decide_false, cond_true, cond_false, Option.bind_some, Bool.not_true, Bool.not_false, sumE, Bool.true_and, Bool.and_true, Bool.false_and, Bool.and_false, beq_self_eq_true, bne_self_eq_false]

theorem m106_eq (c : CT) (hs : ShC c) : m106 ((c, ()), ()) = some ((chkC c, ()), ()) := by
  obtain ⟨reps, wire, down, cut, ⟨⟩⟩ := c
  unfold m106 chkC
  have l1 := loop106a (cl reps wire down cut) reps.length reps hs.r hs.rl reps.length 0 (by omega)
  have l2 := fun h => loop106b (cl reps wire down cut) reps.length wire hs.wl h wire.length 0 (by omega)
  have l3 := fun h => loop106c reps wire down cut reps.length hs.cl h cut.length 0 (by omega)
  rw [List.drop_zero] at l1
  simp only [List.drop_zero, List.take_zero] at l2 l3
  simp only [CT.reps, CT.wire, CT.down, CT.cut, m99_eq, Option.bind_some]
  cases hn : inn (reps.length : Int) 1 5
  · simp only [decide_true, decide_false, cond_true, cond_false, Option.bind_some, Bool.not_true, Bool.not_false, sumE, Bool.true_and, Bool.and_true, Bool.false_and, Bool.and_false, beq_self_eq_true, bne_self_eq_false]
  simp only [decide_true, decide_false, cond_true, cond_false, Option.bind_some, Bool.not_true, Bool.not_false, sumE, Bool.true_and, Bool.and_true, Bool.false_and, Bool.and_false, beq_self_eq_true, bne_self_eq_false]
  by_cases hd : down.length = reps.length
  · have : ((down.length : Int) != (reps.length : Int)) = false := by rw [hd]; simp
    simp only [this, decide_eq_true hd, decide_true, decide_false, cond_true, cond_false, Option.bind_some, Bool.not_true, Bool.not_false, sumE, Bool.true_and, Bool.and_true, Bool.false_and, Bool.and_false, beq_self_eq_true, bne_self_eq_false]
    by_cases hw : wire.length ≤ 256
    · have : ¬ (wire.length : Int) > 256 := by omega
      simp only [decide_eq_false this, decide_eq_true hw, decide_true, decide_false, cond_true, cond_false, Option.bind_some, Bool.not_true, Bool.not_false, sumE, Bool.true_and, Bool.and_true, Bool.false_and, Bool.and_false, beq_self_eq_true, bne_self_eq_false]
      rw [show loopT l106_0_5 ((0, ((reps.length : Int), (reps, ((reps.length : Int), ())))), (((reps, wire, down, cut, PUnit.unit), ()), ())) = _ from l1]
      cases repsOK reps.length 0 reps
      · simp only [Bool.false_eq_true, if_false, decide_true, decide_false, cond_true, cond_false, Option.bind_some, Bool.not_true, Bool.not_false, sumE, Bool.true_and, Bool.and_true, Bool.false_and, Bool.and_false, beq_self_eq_true, bne_self_eq_false]
      simp only [if_true, decide_true, decide_false, cond_true, cond_false, Option.bind_some, Bool.not_true, Bool.not_false, sumE, Bool.true_and, Bool.and_true, Bool.false_and, Bool.and_false, beq_self_eq_true, bne_self_eq_false]
      rw [show loopT l106_0_11 ((0, ((reps.length : Int), (wire, ((wire.length : Int), ())))), ((cl reps wire down cut, ()), ())) = _ from l2 hn]
      cases wireOK reps.length wire
      · simp only [Bool.false_eq_true, if_false, decide_true, decide_false, cond_true, cond_false, Option.bind_some, Bool.not_true, Bool.not_false, sumE, Bool.true_and, Bool.and_true, Bool.false_and, Bool.and_false, beq_self_eq_true, bne_self_eq_false]
      simp only [if_true, decide_true, decide_false, cond_true, cond_false, Option.bind_some, Bool.not_true, Bool.not_false, sumE, Bool.true_and, Bool.and_true, Bool.false_and, Bool.and_false, beq_self_eq_true, bne_self_eq_false]
      rw [show loopT l106_0_17 ((0, ((reps.length : Int), (cut, ((cut.length : Int), ())))), ((cl reps wire down cut, ()), ())) = _ from l3 hn]
      cases cutsOK reps.length [] cut
      · simp only [Bool.false_eq_true, if_false, decide_true, decide_false, cond_true, cond_false, Option.bind_some, Bool.not_true, Bool.not_false, sumE, Bool.true_and, Bool.and_true, Bool.false_and, Bool.and_false, beq_self_eq_true, bne_self_eq_false]
      · simp only [if_true, decide_true, decide_false, cond_true, cond_false, Option.bind_some, Bool.not_true, Bool.not_false, sumE, Bool.true_and, Bool.and_true, Bool.false_and, Bool.and_false, beq_self_eq_true, bne_self_eq_false]
    · have : (wire.length : Int) > 256 := by omega
      simp only [decide_eq_true this, decide_eq_false hw, decide_true, decide_false, cond_true, cond_false, Option.bind_some, Bool.not_true, Bool.not_false, sumE, Bool.true_and, Bool.and_true, Bool.false_and, Bool.and_false, beq_self_eq_true, bne_self_eq_false]
  · have : ((down.length : Int) != (reps.length : Int)) = true := by rw [bne_decide, decide_eq_true_eq]; omega
    simp only [this, decide_eq_false hd, decide_true, decide_false, cond_true, cond_false, Option.bind_some, Bool.not_true, Bool.not_false, sumE, Bool.true_and, Bool.and_true, Bool.false_and, Bool.and_false, beq_self_eq_true, bne_self_eq_false]

theorem m107_eq (c : CT) (i : Int) (n : Nat) (hn : n ≤ 2147483647) (hs : ShC c) : m107 ((c, i, (n : Int), ()), ()) = some ((if chkC c = true then (if inn i 0 ((n : Int) - 1) = true then 0 else 3) else 8, ()), ()) := by
  unfold m107
  simp only [m106_eq c hs, Option.bind_some, w64_len hn, m99_eq]
  cases chkC c
  · simp only [decide_true, decide_false, cond_true, cond_false, Option.bind_some, Bool.not_true, Bool.not_false, sumE, Bool.true_and, Bool.and_true, Bool.false_and, Bool.and_false, beq_self_eq_true, bne_self_eq_false, Bool.false_eq_true, if_false]
  · cases h : inn i 0 ((n : Int) - 1)
    · simp only [decide_true, decide_false, cond_true, cond_false, Option.bind_some, Bool.not_true, Bool.not_false, sumE, Bool.true_and, Bool.and_true, Bool.false_and, Bool.and_false, beq_self_eq_true, bne_self_eq_false, Bool.false_eq_true, if_false, if_true]
    · simp only [decide_true, decide_false, cond_true, cond_false, Option.bind_some, Bool.not_true, Bool.not_false, sumE, Bool.true_and, Bool.and_true, Bool.false_and, Bool.and_false, beq_self_eq_true, bne_self_eq_false, if_true]

theorem m107_r (c : CT) (i : Int) (hs : ShC c) : m107 ((c, i, (c.reps.length : Int), ()), ()) = some ((readyE c i, ()), ()) := m107_eq c i c.reps.length hs.rl hs

theorem m107_w (c : CT) (k : Int) (hs : ShC c) : m107 ((c, k, (c.wire.length : Int), ()), ()) = some ((wireE c k, ()), ()) := m107_eq c k c.wire.length hs.wl hs

theorem m100_eq (c : CT) (i : Int) (hs : ShC c) : m100 ((c, i, ()), ()) = some ((if readyE c i = 0 then (if downAt c i = true then 21 else 0) else readyE c i, ()), ()) := by
  unfold m100
  simp only [m107_r c i hs]
  simp only [Option.bind_some, bne_decide, decide_not]
  by_cases hr : readyE c i = 0
  · obtain ⟨V, i0, i1⟩ := ready_iff.1 hr
    have hdl := V.dn
    obtain ⟨d, e2, e2'⟩ := down_at (c := c) i0 (by omega)
    rw [e2']
    simp only [hr, decide_true, decide_true, decide_false, cond_true, cond_false, Option.bind_some, Bool.not_true, Bool.not_false, sumE, Bool.true_and, Bool.and_true, Bool.false_and, Bool.and_false, beq_self_eq_true, bne_self_eq_false, if_true, rowAt_G, rowG_int i0 e2]
    cases d
    · simp only [decide_true, decide_false, cond_true, cond_false, Option.bind_some, Bool.not_true, Bool.not_false, sumE, Bool.true_and, Bool.and_true, Bool.false_and, Bool.and_false, beq_self_eq_true, bne_self_eq_false, Bool.false_eq_true, if_false]
    · simp only [decide_true, decide_false, cond_true, cond_false, Option.bind_some, Bool.not_true, Bool.not_false, sumE, Bool.true_and, Bool.and_true, Bool.false_and, Bool.and_false, beq_self_eq_true, bne_self_eq_false, if_true]
  · simp only [hr, decide_false, decide_true, decide_false, cond_true, cond_false, Option.bind_some, Bool.not_true, Bool.not_false, sumE, Bool.true_and, Bool.and_true, Bool.false_and, Bool.and_false, beq_self_eq_true, bne_self_eq_false, if_false]

theorem m101_eq (c : CT) (hs : ShC c) : m101 ((c, ()), ()) = some ((), oC c) := by
  unfold m101
  obtain ⟨reps, wire, down, cut, ⟨⟩⟩ := c
  obtain ⟨s1, s2, s3, s4, s5, s6⟩ := hs
  simp only [CT.reps, CT.wire, CT.down, CT.cut] at s1 s2 s3 s4 s5 s6
  have a1 : reps.length ≤ 4294967296 := by omega
  have a2 : wire.length ≤ 4294967296 := by omega
  have a3 : down.length ≤ 4294967296 := by omega
  have a4 : cut.length ≤ 4294967296 := by omega
  simp only [m131, m132, m125, m133, a1, a2, a3, a4, decide_true, cond_true, Option.bind_some]
  have l1 := loop_up (f := l101_0_3) (fun i => (((i : Int), (reps.length : Int), ()), (u2, (u2, (reps, (wire, (down, (cut, ())))))))) ((), (u2, (u2, (reps, (wire, (down, (cut, ()))))))) reps.length (fun i hi => by
    obtain ⟨e, he⟩ := getD_some hi
    have hlt : (i : Int) < (reps.length : Int) := by omega
    have h2 : (0 : Int) ≤ (i : Int) ∧ (i : Int) < (reps.length : Int) := by omega
    simp only [l101_0_3, hlt, h2, and_self, decide_true, decide_true, decide_false, cond_true, cond_false, Option.bind_some, Bool.not_true, Bool.not_false, sumE, Bool.true_and, Bool.and_true, Bool.false_and, Bool.and_false, beq_self_eq_true, bne_self_eq_false, Int.toNat_natCast, he, m76_eq e (s1 e (List.mem_of_getElem? he)), hi, w64_nat (show i ≤ 4294967296 by omega)]
    rw [show reps.set i ((cpR e).2.1.1.1, (cpR e).2.1.1.2.1, (cpR e).2.1.1.2.2.1, (cpR e).2.1.1.2.2.2.1, (cpR e).2.2.1, (cpR e).2.1.1.2.2.2.2.1, (cpR e).2.2.2.1, (cpR e).2.2.2.2.1, ()) = reps from set_same he]) (by
    have : ¬ (reps.length : Int) < (reps.length : Int) := by omega
    simp only [l101_0_3, this, decide_false, decide_true, decide_false, cond_true, cond_false, Option.bind_some, Bool.not_true, Bool.not_false, sumE, Bool.true_and, Bool.and_true, Bool.false_and, Bool.and_false, beq_self_eq_true, bne_self_eq_false]) reps.length 0 (by omega)
  have l2 := loop_up (f := l101_0_8) (fun i => (((i : Int), (wire.length : Int), ()), (u2, (u2, (reps, (wire, (down, (cut, ())))))))) ((), (u2, (u2, (reps, (wire, (down, (cut, ()))))))) wire.length (fun i hi => by
    obtain ⟨e, he⟩ := getD_some hi
    have hlt : (i : Int) < (wire.length : Int) := by omega
    have h2 : (0 : Int) ≤ (i : Int) ∧ (i : Int) < (wire.length : Int) := by omega
    have h3 : (e.2.2.2.2.2.2.2.1).length ≤ 4294967296 := Nat.le_trans (s3 e (List.mem_of_getElem? he)) (by omega)
    simp only [l101_0_8, hlt, h2, and_self, decide_true, decide_true, decide_false, cond_true, cond_false, Option.bind_some, Bool.not_true, Bool.not_false, sumE, Bool.true_and, Bool.and_true, Bool.false_and, Bool.and_false, beq_self_eq_true, bne_self_eq_false, Int.toNat_natCast, he, m91, h3, w64_nat (show i ≤ 4294967296 by omega)]
    rw [show wire.set i (e.1, e.2.1, e.2.2.1, e.2.2.2.1, e.2.2.2.2.1, e.2.2.2.2.2.1, e.2.2.2.2.2.2.1, e.2.2.2.2.2.2.2.1, e.2.2.2.2.2.2.2.2) = wire from set_same he]) (by
    have : ¬ (wire.length : Int) < (wire.length : Int) := by omega
    simp only [l101_0_8, this, decide_false, decide_true, decide_false, cond_true, cond_false, Option.bind_some, Bool.not_true, Bool.not_false, sumE, Bool.true_and, Bool.and_true, Bool.false_and, Bool.and_false, beq_self_eq_true, bne_self_eq_false]) wire.length 0 (by omega)
  rw [show loopT l101_0_3 ((0, ((reps.length : Int), ())), (((), ()), (((), ()), (reps, (wire, (down, (cut, ()))))))) = _ from l1]
  simp only [Option.bind_some]
  rw [show loopT l101_0_8 ((0, ((wire.length : Int), ())), (((), ()), (((), ()), (reps, (wire, (down, (cut, ()))))))) = _ from l2]
  simp only [Option.bind_some]

end Go.Proofs.Ytfbikpbejkgegaa

namespace Go.Proofs.Ytfbikpbejkgegaa
open Go Go.Abs Go.Raft
/-- The error of a step of a region that has to be up. -/
def upE (c : CT) (i : Int) : Int := if readyE c i = 0 then (if downAt c i = true then 21 else 0) else readyE c i

theorem m100_up (c : CT) (i : Int) (hs : ShC c) : m100 ((c, i, ()), ()) = some ((upE c i, ()), ()) := m100_eq c i hs

theorem upE_zero {c : CT} {i : Int} (h : upE c i = 0) : readyE c i = 0 ∧ downAt c i = false := by
  unfold upE at h
  split at h
  · rename_i h0
    split at h
    · omega
    · rename_i h1; exact ⟨h0, by simpa using h1⟩
  · rename_i h0; exact absurd h h0

theorem lens5 (a b c d e : Nat) : (decide (a = a) && (decide (b = b) && (decide (c = c) && (decide (d = d) && (decide (e = e) && true))))) = true := by simp

theorem m102_eq (c : CT) (i : Int) (hs : ShC c) : m102 ((c, i, ()), ()) = some (((standC c i).1, ()), oC (standC c i).2) := by
  unfold m102
  simp only [m100_up c i hs, Option.bind_some, bne_decide, decide_not]
  by_cases h : upE c i = 0
  · obtain ⟨hr, hd⟩ := upE_zero h
    unfold standC
    rw [if_pos hr, hd]
    obtain ⟨V, i0, i1⟩ := ready_iff.1 hr
    obtain ⟨r, e1, e1'⟩ := rep_at i0 i1
    rw [e1']
    have b1 : (0 : Int) ≤ i ∧ i < (c.1.length : Int) := ⟨i0, i1⟩
    have b3 : i.toNat < c.1.length := by have := b1.2; omega
    have hrs := shrt_of (V.rp _ _ e1).2
    simp only [h, decide_true, decide_true, decide_false, cond_true, cond_false, Option.bind_some, Bool.not_true, Bool.not_false, sumE, Bool.true_and, Bool.and_true, Bool.false_and, Bool.and_false, beq_self_eq_true, bne_self_eq_false, m101_eq c hs, b1, and_self, e1, m23_eq (c.reps.length : Int) r hrs, Bool.false_eq_true, if_false]
    have hsl := stand_len (c.reps.length : Int) r
    have hwl := hs.wl
    by_cases h0 : (stand (c.reps.length : Int) r).1 = 0
    · have hw : w64 ((c.wire.length : Int) + ((stand (c.reps.length : Int) r).2.2.length : Int)) = (c.wire.length : Int) + ((stand (c.reps.length : Int) r).2.2.length : Int) := w64_id (by omega) (by omega)
      simp only [h0, decide_true, decide_true, decide_false, cond_true, cond_false, Option.bind_some, Bool.not_true, Bool.not_false, sumE, Bool.true_and, Bool.and_true, Bool.false_and, Bool.and_false, beq_self_eq_true, bne_self_eq_false, if_true, hw, b3, lens5]
      have b2 : c.wire.length + (stand (c.reps.length : Int) r).2.2.length ≤ 4294967296 := by omega
      by_cases hg : c.wire.length + (stand (c.reps.length : Int) r).2.2.length > 256
      · have : (c.wire.length : Int) + ((stand (c.reps.length : Int) r).2.2.length : Int) > 256 := by omega
        simp only [this, hg, decide_true, decide_true, decide_false, cond_true, cond_false, Option.bind_some, Bool.not_true, Bool.not_false, sumE, Bool.true_and, Bool.and_true, Bool.false_and, Bool.and_false, beq_self_eq_true, bne_self_eq_false, if_true]
      · have : ¬ (c.wire.length : Int) + ((stand (c.reps.length : Int) r).2.2.length : Int) > 256 := by omega
        simp only [this, hg, b2, decide_false, decide_true, decide_true, decide_false, cond_true, cond_false, Option.bind_some, Bool.not_true, Bool.not_false, sumE, Bool.true_and, Bool.and_true, Bool.false_and, Bool.and_false, beq_self_eq_true, bne_self_eq_false, if_false]
    · simp only [h0, decide_false, decide_true, decide_false, cond_true, cond_false, Option.bind_some, Bool.not_true, Bool.not_false, sumE, Bool.true_and, Bool.and_true, Bool.false_and, Bool.and_false, beq_self_eq_true, bne_self_eq_false, if_false]
  · have hst : standC c i = (upE c i, zeroC) := by
      unfold standC upE at *
      split
      · rename_i hr
        rw [if_pos hr] at h
        split
        · rfl
        · rename_i hd; rw [if_neg hd] at h; exact absurd rfl h
      · rfl
    rw [hst]
    simp only [h, decide_false, decide_true, decide_false, cond_true, cond_false, Option.bind_some, Bool.not_true, Bool.not_false, sumE, Bool.true_and, Bool.and_true, Bool.false_and, Bool.and_false, beq_self_eq_true, bne_self_eq_false]

theorem m63_eq (c : CT) (i : Int) (o : OpT) (hs : ShC c) : m63 ((c, i, o, ()), ()) = some (((proposeC c i o).1, ()), oC (proposeC c i o).2) := by
  unfold m63
  simp only [m100_up c i hs, Option.bind_some, bne_decide, decide_not]
  by_cases h : upE c i = 0
  · obtain ⟨hr, hd⟩ := upE_zero h
    unfold proposeC
    rw [if_pos hr, hd]
    obtain ⟨V, i0, i1⟩ := ready_iff.1 hr
    obtain ⟨r, e1, e1'⟩ := rep_at i0 i1
    rw [e1']
    have b1 : (0 : Int) ≤ i ∧ i < (c.1.length : Int) := ⟨i0, i1⟩
    have b3 : i.toNat < c.1.length := by have := b1.2; omega
    have hrs := shrt_of (V.rp _ _ e1).2
    simp only [h, decide_true, decide_true, decide_false, cond_true, cond_false, Option.bind_some, Bool.not_true, Bool.not_false, sumE, Bool.true_and, Bool.and_true, Bool.false_and, Bool.and_false, beq_self_eq_true, bne_self_eq_false, m101_eq c hs, b1, and_self, e1, m54_eq (c.reps.length : Int) r o hrs, Bool.false_eq_true, if_false]
    by_cases h0 : (proposeE (c.reps.length : Int) r o).1 = 0
    · simp only [h0, decide_true, decide_true, decide_false, cond_true, cond_false, Option.bind_some, Bool.not_true, Bool.not_false, sumE, Bool.true_and, Bool.and_true, Bool.false_and, Bool.and_false, beq_self_eq_true, bne_self_eq_false, if_true, b3]
    · simp only [h0, decide_false, decide_true, decide_false, cond_true, cond_false, Option.bind_some, Bool.not_true, Bool.not_false, sumE, Bool.true_and, Bool.and_true, Bool.false_and, Bool.and_false, beq_self_eq_true, bne_self_eq_false, if_false]
  · have hst : proposeC c i o = (upE c i, zeroC) := by
      unfold proposeC upE at *
      split
      · rename_i hr
        rw [if_pos hr] at h
        split
        · rfl
        · rename_i hd; rw [if_neg hd] at h; exact absurd rfl h
      · rfl
    rw [hst]
    simp only [h, decide_false, decide_true, decide_false, cond_true, cond_false, Option.bind_some, Bool.not_true, Bool.not_false, sumE, Bool.true_and, Bool.and_true, Bool.false_and, Bool.and_false, beq_self_eq_true, bne_self_eq_false]

theorem m64_eq (c : CT) (i : Int) (hs : ShC c) : m64 ((c, i, ()), ()) = some (((beatC c i).1, ()), oC (beatC c i).2) := by
  unfold m64
  simp only [m100_up c i hs, Option.bind_some, bne_decide, decide_not]
  by_cases h : upE c i = 0
  · obtain ⟨hr, hd⟩ := upE_zero h
    unfold beatC
    rw [if_pos hr, hd]
    obtain ⟨V, i0, i1⟩ := ready_iff.1 hr
    obtain ⟨r, e1, e1'⟩ := rep_at i0 i1
    rw [e1']
    have b1 : (0 : Int) ≤ i ∧ i < (c.1.length : Int) := ⟨i0, i1⟩
    have hrs := shrt_of (V.rp _ _ e1).2
    simp only [h, decide_true, decide_true, decide_false, cond_true, cond_false, Option.bind_some, Bool.not_true, Bool.not_false, sumE, Bool.true_and, Bool.and_true, Bool.false_and, Bool.and_false, beq_self_eq_true, bne_self_eq_false, rowAt_G, rowG_int i0 e1]
    by_cases hl : r.role = 2
    · simp only [show r.2.2.2.1 = 2 from hl, decide_true, decide_true, decide_false, cond_true, cond_false, Option.bind_some, Bool.not_true, Bool.not_false, sumE, Bool.true_and, Bool.and_true, Bool.false_and, Bool.and_false, beq_self_eq_true, bne_self_eq_false, m101_eq c hs, b1, and_self, e1, m46_eq (c.reps.length : Int) r hrs, Bool.false_eq_true, if_false, if_true]
      have hsl := appends_len (c.reps.length : Int) r
      have hwl := hs.wl
      have hw : w64 ((c.wire.length : Int) + ((appendsE (c.reps.length : Int) r).length : Int)) = (c.wire.length : Int) + ((appendsE (c.reps.length : Int) r).length : Int) := w64_id (by omega) (by omega)
      simp only [hw, lens5]
      have b2 : c.wire.length + (appendsE (c.reps.length : Int) r).length ≤ 4294967296 := by omega
      by_cases hg : c.wire.length + (appendsE (c.reps.length : Int) r).length > 256
      · have : (c.wire.length : Int) + ((appendsE (c.reps.length : Int) r).length : Int) > 256 := by omega
        simp only [this, hg, decide_true, decide_true, decide_false, cond_true, cond_false, Option.bind_some, Bool.not_true, Bool.not_false, sumE, Bool.true_and, Bool.and_true, Bool.false_and, Bool.and_false, beq_self_eq_true, bne_self_eq_false, if_true]
      · have : ¬ (c.wire.length : Int) + ((appendsE (c.reps.length : Int) r).length : Int) > 256 := by omega
        simp only [this, hg, b2, decide_false, decide_true, decide_true, decide_false, cond_true, cond_false, Option.bind_some, Bool.not_true, Bool.not_false, sumE, Bool.true_and, Bool.and_true, Bool.false_and, Bool.and_false, beq_self_eq_true, bne_self_eq_false, if_false]
    · simp only [show ¬ r.2.2.2.1 = 2 from hl, decide_false, decide_true, decide_false, cond_true, cond_false, Option.bind_some, Bool.not_true, Bool.not_false, sumE, Bool.true_and, Bool.and_true, Bool.false_and, Bool.and_false, beq_self_eq_true, bne_self_eq_false, Bool.false_eq_true, if_false]
  · have hst : beatC c i = (upE c i, zeroC) := by
      unfold beatC upE at *
      split
      · rename_i hr
        rw [if_pos hr] at h
        split
        · rfl
        · rename_i hd; rw [if_neg hd] at h; exact absurd rfl h
      · rfl
    rw [hst]
    simp only [h, decide_false, decide_true, decide_false, cond_true, cond_false, Option.bind_some, Bool.not_true, Bool.not_false, sumE, Bool.true_and, Bool.and_true, Bool.false_and, Bool.and_false, beq_self_eq_true, bne_self_eq_false]

theorem m111_eq (c : CT) (i : Int) (hs : ShC c) : m111 ((c, i, ()), ()) = some (((crashC c i).1, ()), oC (crashC c i).2) := by
  unfold m111 crashC
  simp only []
  rw [show m107 ((c, (i, ((c.1.length : Int), ()))), ()) = _ from m107_r c i hs]
  simp only [Option.bind_some, bne_decide, decide_not]
  by_cases hr : readyE c i = 0
  · obtain ⟨V, i0, i1⟩ := ready_iff.1 hr
    have hdl := V.dn
    obtain ⟨d, e2, e2'⟩ := down_at (c := c) i0 (by omega)
    rw [e2']
    have b1 : (0 : Int) ≤ i ∧ i < (c.2.2.1.length : Int) := ⟨i0, show i < (c.down.length : Int) by omega⟩
    have b3 : i.toNat < c.2.2.1.length := by have := b1.2; omega
    simp only [hr, decide_true, decide_true, decide_false, cond_true, cond_false, Option.bind_some, Bool.not_true, Bool.not_false, sumE, Bool.true_and, Bool.and_true, Bool.false_and, Bool.and_false, beq_self_eq_true, bne_self_eq_false, if_true, rowAt_G, rowG_int i0 e2]
    cases d
    · simp only [decide_true, decide_false, cond_true, cond_false, Option.bind_some, Bool.not_true, Bool.not_false, sumE, Bool.true_and, Bool.and_true, Bool.false_and, Bool.and_false, beq_self_eq_true, bne_self_eq_false, m101_eq c hs, b1, b3, and_self, decide_true, Bool.false_eq_true, if_false]
    · simp only [decide_true, decide_false, cond_true, cond_false, Option.bind_some, Bool.not_true, Bool.not_false, sumE, Bool.true_and, Bool.and_true, Bool.false_and, Bool.and_false, beq_self_eq_true, bne_self_eq_false, if_true]
  · simp only [hr, decide_false, decide_true, decide_false, cond_true, cond_false, Option.bind_some, Bool.not_true, Bool.not_false, sumE, Bool.true_and, Bool.and_true, Bool.false_and, Bool.and_false, beq_self_eq_true, bne_self_eq_false, if_false]

theorem m112_eq (c : CT) (i : Int) (hs : ShC c) : m112 ((c, i, ()), ()) = some (((restartC c i).1, ()), oC (restartC c i).2) := by
  unfold m112 restartC
  simp only []
  rw [show m107 ((c, (i, ((c.1.length : Int), ()))), ()) = _ from m107_r c i hs]
  simp only [Option.bind_some, bne_decide, decide_not]
  by_cases hr : readyE c i = 0
  · obtain ⟨V, i0, i1⟩ := ready_iff.1 hr
    have hdl := V.dn
    obtain ⟨d, e2, e2'⟩ := down_at (c := c) i0 (by omega)
    obtain ⟨r, e1, e1'⟩ := rep_at i0 i1
    rw [e2', e1']
    have b1 : (0 : Int) ≤ i ∧ i < (c.2.2.1.length : Int) := ⟨i0, show i < (c.down.length : Int) by omega⟩
    have b3 : i.toNat < c.2.2.1.length := by have := b1.2; omega
    have b2 : (0 : Int) ≤ i ∧ i < (c.1.length : Int) := ⟨i0, i1⟩
    have b4 : i.toNat < c.1.length := by have := b2.2; omega
    have hC := (V.rp _ _ e1).2
    have hrs := shrt_of hC
    simp only [hr, decide_true, decide_true, decide_false, cond_true, cond_false, Option.bind_some, Bool.not_true, Bool.not_false, sumE, Bool.true_and, Bool.and_true, Bool.false_and, Bool.and_false, beq_self_eq_true, bne_self_eq_false, if_true, rowAt_G, rowG_int i0 e2]
    cases d
    · simp only [decide_true, decide_false, cond_true, cond_false, Option.bind_some, Bool.not_true, Bool.not_false, sumE, Bool.true_and, Bool.and_true, Bool.false_and, Bool.and_false, beq_self_eq_true, bne_self_eq_false, Bool.false_eq_true, if_false]
    · simp only [decide_true, decide_false, cond_true, cond_false, Option.bind_some, Bool.not_true, Bool.not_false, sumE, Bool.true_and, Bool.and_true, Bool.false_and, Bool.and_false, beq_self_eq_true, bne_self_eq_false, m101_eq c hs, b1, b2, b3, b4, and_self, decide_true, e1, m49_eq (c.reps.length : Int) r hrs, if_true]
      have : (restartE (c.reps.length : Int) r).2 = restartR r := by unfold restartE; rw [if_pos (chk_iff.2 hC)]
      rw [this]
      rfl
  · simp only [hr, decide_false, decide_true, decide_false, cond_true, cond_false, Option.bind_some, Bool.not_true, Bool.not_false, sumE, Bool.true_and, Bool.and_true, Bool.false_and, Bool.and_false, beq_self_eq_true, bne_self_eq_false, if_false]

theorem m68_eq (c : CT) (hs : ShC c) : m68 ((c, ()), ()) = some ((), (u2, ((healC c).reps, ((healC c).wire, ((healC c).down, ()))))) ∧ (healC c).cut = [] := by
  unfold m68 healC
  simp only [m106_eq c hs, Option.bind_some]
  cases chkC c
  · simp only [decide_true, decide_false, cond_true, cond_false, Option.bind_some, Bool.not_true, Bool.not_false, sumE, Bool.true_and, Bool.and_true, Bool.false_and, Bool.and_false, beq_self_eq_true, bne_self_eq_false, Bool.false_eq_true, if_false, and_self]
  · simp only [decide_true, decide_false, cond_true, cond_false, Option.bind_some, Bool.not_true, Bool.not_false, sumE, Bool.true_and, Bool.and_true, Bool.false_and, Bool.and_false, beq_self_eq_true, bne_self_eq_false, if_true, m101_eq c hs, and_self]

theorem readyE_in {c : CT} (h : chkC c = true) (i : Int) : readyE c i = if inn i 0 ((c.reps.length : Int) - 1) = true then 0 else 3 := by unfold readyE; rw [if_pos h]

theorem m67_eq (c : CT) (i j : Int) (hs : ShC c) : m67 ((c, i, j, ()), ()) = some (((cutC c i j).1, ()), oC (cutC c i j).2) := by
  unfold m67 cutC
  simp only [min_if, max_if]
  rw [show m107 ((c, (min j i, ((c.1.length : Int), ()))), ()) = _ from m107_r c (min j i) hs]
  simp only [Option.bind_some, bne_decide, decide_not]
  cases hck : chkC c
  · have h8 : ∀ x, readyE c x = 8 := fun x => by unfold readyE; rw [hck]; simp
    rw [h8, h8]
    simp only [Int.reduceEq, decide_false, decide_true, decide_false, cond_true, cond_false, Option.bind_some, Bool.not_true, Bool.not_false, sumE, Bool.true_and, Bool.and_true, Bool.false_and, Bool.and_false, beq_self_eq_true, bne_self_eq_false, if_false]
  · rw [readyE_in hck, readyE_in hck]
    have hcl := hs.cl
    by_cases h1 : inn i 0 ((c.reps.length : Int) - 1) = true
    · by_cases h2 : inn j 0 ((c.reps.length : Int) - 1) = true
      · obtain ⟨a1, a2⟩ := inn_iff.1 h1
        obtain ⟨a3, a4⟩ := inn_iff.1 h2
        have h3 : inn (min j i) 0 ((c.reps.length : Int) - 1) = true := inn_iff.2 ⟨by omega, by omega⟩
        rw [if_pos h1, if_pos h3, if_pos rfl, if_pos h2]
        have h4 : decide (max j i ≥ (c.1.length : Int)) = false := decide_eq_false (show ¬ max j i ≥ (c.reps.length : Int) by omega)
        simp only [decide_true, decide_true, decide_false, cond_true, cond_false, Option.bind_some, Bool.not_true, Bool.not_false, sumE, Bool.true_and, Bool.and_true, Bool.false_and, Bool.and_false, beq_self_eq_true, bne_self_eq_false, h4, beq_decide]
        by_cases h5 : i = j
        · rw [if_pos h5, decide_eq_true h5]
          simp only [decide_true, decide_false, cond_true, cond_false, Option.bind_some, Bool.not_true, Bool.not_false, sumE, Bool.true_and, Bool.and_true, Bool.false_and, Bool.and_false, beq_self_eq_true, bne_self_eq_false]
        · rw [if_neg h5, decide_eq_false h5]
          have e108 := m108_eq c.cut (min j i) (max j i) (by omega)
          rw [has_cut, isCut_comm] at e108
          simp only [decide_true, decide_false, cond_true, cond_false, Option.bind_some, Bool.not_true, Bool.not_false, sumE, Bool.true_and, Bool.and_true, Bool.false_and, Bool.and_false, beq_self_eq_true, bne_self_eq_false]
          rw [show m108 ((c.2.2.2.1, ((min j i, (max j i, ())), ())), ()) = _ from e108]
          cases isCut c.cut i j
          · simp only [decide_true, decide_false, cond_true, cond_false, Option.bind_some, Bool.not_true, Bool.not_false, sumE, Bool.true_and, Bool.and_true, Bool.false_and, Bool.and_false, beq_self_eq_true, bne_self_eq_false, m101_eq c hs, Bool.false_eq_true, if_false]
            rw [show decide (c.2.2.2.1.length + ([(min j i, (max j i, ()))] : List CutT).length ≤ 4294967296) = true from decide_eq_true (show c.cut.length + _ ≤ _ by simp only [List.length_singleton]; omega)]
            simp only [decide_true, decide_false, cond_true, cond_false, Option.bind_some, Bool.not_true, Bool.not_false, sumE, Bool.true_and, Bool.and_true, Bool.false_and, Bool.and_false, beq_self_eq_true, bne_self_eq_false, show min j i = min i j by omega, show max j i = max i j by omega]
          · simp only [decide_true, decide_false, cond_true, cond_false, Option.bind_some, Bool.not_true, Bool.not_false, sumE, Bool.true_and, Bool.and_true, Bool.false_and, Bool.and_false, beq_self_eq_true, bne_self_eq_false, if_true]
      · rw [if_pos h1, if_pos rfl, if_neg h2]
        by_cases h3 : inn (min j i) 0 ((c.reps.length : Int) - 1) = true
        · rw [if_pos h3]
          obtain ⟨a1, a2⟩ := inn_iff.1 h1
          obtain ⟨a3, a4⟩ := inn_iff.1 h3
          have h4 : decide (max j i ≥ (c.1.length : Int)) = true := decide_eq_true (show max j i ≥ (c.reps.length : Int) by
            have : ¬ (0 ≤ j ∧ j ≤ (c.reps.length : Int) - 1) := fun e => h2 (inn_iff.2 e)
            omega)
          simp only [decide_true, decide_true, decide_false, cond_true, cond_false, Option.bind_some, Bool.not_true, Bool.not_false, sumE, Bool.true_and, Bool.and_true, Bool.false_and, Bool.and_false, beq_self_eq_true, bne_self_eq_false, h4]
        · rw [if_neg h3]
          simp only [Int.reduceEq, decide_false, decide_true, decide_false, cond_true, cond_false, Option.bind_some, Bool.not_true, Bool.not_false, sumE, Bool.true_and, Bool.and_true, Bool.false_and, Bool.and_false, beq_self_eq_true, bne_self_eq_false]
    · rw [if_neg h1]
      simp only [Int.reduceEq, if_false]
      by_cases h3 : inn (min j i) 0 ((c.reps.length : Int) - 1) = true
      · rw [if_pos h3]
        obtain ⟨a3, a4⟩ := inn_iff.1 h3
        have h4 : decide (max j i ≥ (c.1.length : Int)) = true := decide_eq_true (show max j i ≥ (c.reps.length : Int) by
          have : ¬ (0 ≤ i ∧ i ≤ (c.reps.length : Int) - 1) := fun e => h1 (inn_iff.2 e)
          omega)
        simp only [decide_true, decide_true, decide_false, cond_true, cond_false, Option.bind_some, Bool.not_true, Bool.not_false, sumE, Bool.true_and, Bool.and_true, Bool.false_and, Bool.and_false, beq_self_eq_true, bne_self_eq_false, h4]
      · rw [if_neg h3]
        simp only [Int.reduceEq, decide_false, decide_true, decide_false, cond_true, cond_false, Option.bind_some, Bool.not_true, Bool.not_false, sumE, Bool.true_and, Bool.and_true, Bool.false_and, Bool.and_false, beq_self_eq_true, bne_self_eq_false]

theorem m109_eq (c : CT) (k : Int) (hs : ShC c) : m109 ((c, k, ()), ()) = some (((dropC c k).1, ()), oC (dropC c k).2) := by
  unfold m109 dropC
  simp only []
  rw [show m107 ((c, (k, ((c.2.1.length : Int), ()))), ()) = _ from m107_w c k hs]
  simp only [Option.bind_some, bne_decide, decide_not]
  by_cases hr : wireE c k = 0
  · obtain ⟨V, k0, k1⟩ := wire_iff.1 hr
    have hwl := V.wl
    have hw : w64 (k + 1) = k + 1 := w64_id (by omega) (by omega)
    have b1 : (0 : Int) ≤ k ∧ k < k + 1 ∧ k + 1 ≤ (c.2.1.length : Int) ∧ c.2.1.length ≤ 4294967296 := ⟨k0, by omega, show k + 1 ≤ (c.wire.length : Int) by omega, show c.wire.length ≤ _ by omega⟩
    simp only [hr, decide_true, decide_true, decide_false, cond_true, cond_false, Option.bind_some, Bool.not_true, Bool.not_false, sumE, Bool.true_and, Bool.and_true, Bool.false_and, Bool.and_false, beq_self_eq_true, bne_self_eq_false, if_true, m101_eq c hs, hw]
    rw [show decide ((0 : Int) ≤ k ∧ k < k + 1 ∧ k + 1 ≤ (c.2.1.length : Int) ∧ c.2.1.length ≤ 4294967296) = true from decide_eq_true b1]
    simp only [decide_true, decide_false, cond_true, cond_false, Option.bind_some, Bool.not_true, Bool.not_false, sumE, Bool.true_and, Bool.and_true, Bool.false_and, Bool.and_false, beq_self_eq_true, bne_self_eq_false, decide_true]
    unfold cutOut
    rw [show (k + 1).toNat = k.toNat + 1 by omega]
  · simp only [hr, decide_false, decide_true, decide_false, cond_true, cond_false, Option.bind_some, Bool.not_true, Bool.not_false, sumE, Bool.true_and, Bool.and_true, Bool.false_and, Bool.and_false, beq_self_eq_true, bne_self_eq_false, if_false]

theorem m110_eq (c : CT) (k : Int) (hs : ShC c) : m110 ((c, k, ()), ()) = some (((doubleC c k).1, ()), oC (doubleC c k).2) := by
  unfold m110 doubleC
  simp only []
  rw [show m107 ((c, (k, ((c.2.1.length : Int), ()))), ()) = _ from m107_w c k hs]
  simp only [Option.bind_some, bne_decide, decide_not]
  by_cases hr : wireE c k = 0
  · obtain ⟨V, k0, k1⟩ := wire_iff.1 hr
    have hwl := V.wl
    obtain ⟨m, e1, e1'⟩ := wire_at k0 k1
    rw [e1']
    have b1 : (0 : Int) ≤ k ∧ k < (c.2.1.length : Int) := ⟨k0, k1⟩
    have hme : m.2.2.2.2.2.2.2.1.length ≤ 4294967296 := Nat.le_trans (hs.w m (List.mem_of_getElem? e1)) (by omega)
    have hw : w64 ((c.2.1.length : Int) + 1) = (c.2.1.length : Int) + 1 := w64_id (show _ ≤ (c.wire.length : Int) + 1 by omega) (show (c.wire.length : Int) + 1 ≤ _ by omega)
    simp only [hr, decide_true, decide_true, decide_false, cond_true, cond_false, Option.bind_some, Bool.not_true, Bool.not_false, sumE, Bool.true_and, Bool.and_true, Bool.false_and, Bool.and_false, beq_self_eq_true, bne_self_eq_false, if_true, m101_eq c hs, b1, and_self, e1, m91, hme, List.length_singleton, Int.natCast_one, Int.ofNat_eq_natCast]
    have hwlc : c.wire.length = c.2.1.length := rfl
    by_cases hg : c.wire.length ≥ 256
    · have h1 : (c.wire.length : Int) + 1 > 256 := by omega
      simp only [hw, h1, hg, decide_true, decide_true, decide_false, cond_true, cond_false, Option.bind_some, Bool.not_true, Bool.not_false, sumE, Bool.true_and, Bool.and_true, Bool.false_and, Bool.and_false, beq_self_eq_true, bne_self_eq_false, if_true]
    · have h1 : ¬ (c.wire.length : Int) + 1 > 256 := by omega
      have h2 : c.wire.length + 1 ≤ 4294967296 := by omega
      simp only [hw, h1, h2, hg, decide_true, decide_false, decide_true, decide_false, cond_true, cond_false, Option.bind_some, Bool.not_true, Bool.not_false, sumE, Bool.true_and, Bool.and_true, Bool.false_and, Bool.and_false, beq_self_eq_true, bne_self_eq_false, if_false]
  · simp only [hr, decide_false, decide_true, decide_false, cond_true, cond_false, Option.bind_some, Bool.not_true, Bool.not_false, sumE, Bool.true_and, Bool.and_true, Bool.false_and, Bool.and_false, beq_self_eq_true, bne_self_eq_false, if_false]

theorem lens4 (a b c d : Nat) : (decide (a = a) && (decide (b = b) && (decide (c = c) && (decide (d = d) && true)))) = true := by simp

theorem m97_eq (c : CT) (k : Int) (hs : ShC c) : m97 ((c, k, ()), ()) = some (((deliverC c k).1, ()), oC (deliverC c k).2) := by
  unfold m97 deliverC
  simp only [min_if, max_if]
  rw [show m107 ((c, (k, ((c.2.1.length : Int), ()))), ()) = _ from m107_w c k hs]
  simp only [Option.bind_some, bne_decide, decide_not]
  by_cases hr : wireE c k = 0
  · obtain ⟨V, k0, k1⟩ := wire_iff.1 hr
    have hwl := V.wl
    obtain ⟨m, e1, e1'⟩ := wire_at k0 k1
    rw [e1']
    have hmm := List.mem_of_getElem? e1
    obtain ⟨f0, f1, t0, t1, hft⟩ := V.wm m hmm
    have hme := hs.w m hmm
    have hdn := V.dn
    obtain ⟨r, e2, e2'⟩ := rep_at t0 t1
    obtain ⟨d, e3, e3'⟩ := down_at (c := c) t0 (by omega)
    rw [e2', e3']
    have hrs := shrt_of (V.rp _ _ e2).2
    have hw : w64 (k + 1) = k + 1 := w64_id (by omega) (by omega)
    have b1 : decide ((0 : Int) ≤ k ∧ k < k + 1 ∧ k + 1 ≤ (c.2.1.length : Int) ∧ c.2.1.length ≤ 4294967296) = true := decide_eq_true ⟨k0, by omega, show k + 1 ≤ (c.wire.length : Int) by omega, show c.wire.length ≤ _ by omega⟩
    have b8 : decide ((0 : Int) ≤ k ∧ k < (c.2.1.length : Int)) = true := decide_eq_true ⟨k0, k1⟩
    have hcl := hs.cl
    have e108 := m108_eq c.cut (min m.to m.frm) (max m.to m.frm) (by omega)
    rw [has_cut, isCut_comm] at e108
    have t2 : decide ((0 : Int) ≤ m.2.2.1 ∧ m.2.2.1 < (c.1.length : Int)) = true := decide_eq_true ⟨t0, t1⟩
    have t4 : decide ((0 : Int) ≤ m.2.2.1 ∧ m.2.2.1 < (c.2.2.1.length : Int)) = true := decide_eq_true ⟨t0, show m.to < (c.down.length : Int) by omega⟩
    have t3 : decide (m.2.2.1.toNat < c.1.length) = true := decide_eq_true (show m.to.toNat < c.reps.length by omega)
    have e3x : c.2.2.1[m.2.2.1.toNat]? = some d := e3
    have e2x : c.1[m.2.2.1.toNat]? = some r := e2
    have hW : c.2.1.take k.toNat ++ c.2.1.drop (k + 1).toNat = cutOut c.wire k.toNat := by unfold cutOut; rw [show (k + 1).toNat = k.toNat + 1 by omega]
    have hWl : (cutOut c.wire k.toNat).length ≤ 1000 := by unfold cutOut; simp; omega
    simp only [hr, decide_true, decide_true, decide_false, cond_true, cond_false, Option.bind_some, Bool.not_true, Bool.not_false, sumE, Bool.true_and, Bool.and_true, Bool.false_and, Bool.and_false, beq_self_eq_true, bne_self_eq_false, if_true, m101_eq c hs, hw, b8, e1, b1, hW, t4, e3x, beq_decide]
    have e24 := m24_eq (c.reps.length : Int) r m hrs
    have e36 := m36_eq (c.reps.length : Int) r m hrs
    have e47 := m47_eq (c.reps.length : Int) r m hrs hme
    have e44 := m44_eq (c.reps.length : Int) r m hrs
    have hh := hear_ents (c.reps.length : Int) r m
    have ha := accept_ents (c.reps.length : Int) r m
    have e108' : m108 ((c.2.2.2.1, ((min m.2.2.1 m.2.1, (max m.2.2.1 m.2.1, ())), ())), ()) = some ((isCut c.cut m.frm m.to, ()), ()) := e108
    generalize cutOut c.wire k.toNat = W at hWl
    have hap : ∀ x : MT, decide (W.length + [x].length ≤ 4294967296) = true := by intro x; simp; omega
    by_cases q1 : m.1 = 1
    · have hA : hearAny (c.reps.length : Int) r m = hear (c.reps.length : Int) r m := by unfold hearAny; rw [if_pos q1]
      rw [hA]
      simp only [q1, decide_true, decide_true, decide_false, cond_true, cond_false, Option.bind_some, Bool.not_true, Bool.not_false, sumE, Bool.true_and, Bool.and_true, Bool.false_and, Bool.and_false, beq_self_eq_true, bne_self_eq_false]
      cases d
      · simp only [decide_true, decide_false, cond_true, cond_false, Option.bind_some, Bool.not_true, Bool.not_false, sumE, Bool.true_and, Bool.and_true, Bool.false_and, Bool.and_false, beq_self_eq_true, bne_self_eq_false, e108']
        cases isCut c.cut m.frm m.to
        · simp only [decide_true, decide_false, cond_true, cond_false, Option.bind_some, Bool.not_true, Bool.not_false, sumE, Bool.true_and, Bool.and_true, Bool.false_and, Bool.and_false, beq_self_eq_true, bne_self_eq_false, t2, t3, e2x, e24, Bool.false_eq_true, or_self, if_false]
          cases hb : (hear (c.reps.length : Int) r m).2.2
          · simp only [decide_true, decide_false, cond_true, cond_false, Option.bind_some, Bool.not_true, Bool.not_false, sumE, Bool.true_and, Bool.and_true, Bool.false_and, Bool.and_false, beq_self_eq_true, bne_self_eq_false, List.length_set, lens4, Bool.false_eq_true, if_false, List.append_nil]
          · simp only [decide_true, decide_false, cond_true, cond_false, Option.bind_some, Bool.not_true, Bool.not_false, sumE, Bool.true_and, Bool.and_true, Bool.false_and, Bool.and_false, beq_self_eq_true, bne_self_eq_false, hap, List.length_set, lens4, if_true]
            rw [← re_nil _ hh]
        · simp only [decide_true, decide_false, cond_true, cond_false, Option.bind_some, Bool.not_true, Bool.not_false, sumE, Bool.true_and, Bool.and_true, Bool.false_and, Bool.and_false, beq_self_eq_true, bne_self_eq_false, lens4, or_true, if_true]
      · simp only [decide_true, decide_false, cond_true, cond_false, Option.bind_some, Bool.not_true, Bool.not_false, sumE, Bool.true_and, Bool.and_true, Bool.false_and, Bool.and_false, beq_self_eq_true, bne_self_eq_false, lens4, true_or, if_true]
    by_cases q2 : m.1 = 2
    · have hA : hearAny (c.reps.length : Int) r m = (voted (c.reps.length : Int) r m, zeroM, false) := by unfold hearAny; rw [if_neg q1, if_pos q2]
      rw [hA]
      simp only [Int.reduceEq, q1, q2, decide_true, decide_false, decide_true, decide_false, cond_true, cond_false, Option.bind_some, Bool.not_true, Bool.not_false, sumE, Bool.true_and, Bool.and_true, Bool.false_and, Bool.and_false, beq_self_eq_true, bne_self_eq_false]
      cases d
      · simp only [decide_true, decide_false, cond_true, cond_false, Option.bind_some, Bool.not_true, Bool.not_false, sumE, Bool.true_and, Bool.and_true, Bool.false_and, Bool.and_false, beq_self_eq_true, bne_self_eq_false, e108']
        cases isCut c.cut m.frm m.to
        · simp only [decide_true, decide_false, cond_true, cond_false, Option.bind_some, Bool.not_true, Bool.not_false, sumE, Bool.true_and, Bool.and_true, Bool.false_and, Bool.and_false, beq_self_eq_true, bne_self_eq_false, t2, t3, e2x, e36, List.length_set, lens4, Bool.false_eq_true, or_self, if_false, List.append_nil]
        · simp only [decide_true, decide_false, cond_true, cond_false, Option.bind_some, Bool.not_true, Bool.not_false, sumE, Bool.true_and, Bool.and_true, Bool.false_and, Bool.and_false, beq_self_eq_true, bne_self_eq_false, lens4, or_true, if_true]
      · simp only [decide_true, decide_false, cond_true, cond_false, Option.bind_some, Bool.not_true, Bool.not_false, sumE, Bool.true_and, Bool.and_true, Bool.false_and, Bool.and_false, beq_self_eq_true, bne_self_eq_false, lens4, true_or, if_true]
    by_cases q3 : m.1 = 3
    · have hA : hearAny (c.reps.length : Int) r m = accept (c.reps.length : Int) r m := by unfold hearAny; rw [if_neg q1, if_neg q2, if_pos q3]
      rw [hA]
      simp only [Int.reduceEq, q1, q2, q3, decide_true, decide_false, decide_true, decide_false, cond_true, cond_false, Option.bind_some, Bool.not_true, Bool.not_false, sumE, Bool.true_and, Bool.and_true, Bool.false_and, Bool.and_false, beq_self_eq_true, bne_self_eq_false]
      cases d
      · simp only [decide_true, decide_false, cond_true, cond_false, Option.bind_some, Bool.not_true, Bool.not_false, sumE, Bool.true_and, Bool.and_true, Bool.false_and, Bool.and_false, beq_self_eq_true, bne_self_eq_false, e108']
        cases isCut c.cut m.frm m.to
        · simp only [decide_true, decide_false, cond_true, cond_false, Option.bind_some, Bool.not_true, Bool.not_false, sumE, Bool.true_and, Bool.and_true, Bool.false_and, Bool.and_false, beq_self_eq_true, bne_self_eq_false, t2, t3, e2x, e47, Bool.false_eq_true, or_self, if_false]
          cases hb : (accept (c.reps.length : Int) r m).2.2
          · simp only [decide_true, decide_false, cond_true, cond_false, Option.bind_some, Bool.not_true, Bool.not_false, sumE, Bool.true_and, Bool.and_true, Bool.false_and, Bool.and_false, beq_self_eq_true, bne_self_eq_false, List.length_set, lens4, Bool.false_eq_true, if_false, List.append_nil]
          · simp only [decide_true, decide_false, cond_true, cond_false, Option.bind_some, Bool.not_true, Bool.not_false, sumE, Bool.true_and, Bool.and_true, Bool.false_and, Bool.and_false, beq_self_eq_true, bne_self_eq_false, hap, List.length_set, lens4, if_true]
            rw [← re_nil _ ha]
        · simp only [decide_true, decide_false, cond_true, cond_false, Option.bind_some, Bool.not_true, Bool.not_false, sumE, Bool.true_and, Bool.and_true, Bool.false_and, Bool.and_false, beq_self_eq_true, bne_self_eq_false, lens4, or_true, if_true]
      · simp only [decide_true, decide_false, cond_true, cond_false, Option.bind_some, Bool.not_true, Bool.not_false, sumE, Bool.true_and, Bool.and_true, Bool.false_and, Bool.and_false, beq_self_eq_true, bne_self_eq_false, lens4, true_or, if_true]
    by_cases q4 : m.1 = 4
    · have hA : hearAny (c.reps.length : Int) r m = (appended (c.reps.length : Int) r m, zeroM, false) := by unfold hearAny; rw [if_neg q1, if_neg q2, if_neg q3, if_pos q4]
      rw [hA]
      simp only [Int.reduceEq, q1, q2, q3, q4, decide_true, decide_false, decide_true, decide_false, cond_true, cond_false, Option.bind_some, Bool.not_true, Bool.not_false, sumE, Bool.true_and, Bool.and_true, Bool.false_and, Bool.and_false, beq_self_eq_true, bne_self_eq_false]
      cases d
      · simp only [decide_true, decide_false, cond_true, cond_false, Option.bind_some, Bool.not_true, Bool.not_false, sumE, Bool.true_and, Bool.and_true, Bool.false_and, Bool.and_false, beq_self_eq_true, bne_self_eq_false, e108']
        cases isCut c.cut m.frm m.to
        · simp only [decide_true, decide_false, cond_true, cond_false, Option.bind_some, Bool.not_true, Bool.not_false, sumE, Bool.true_and, Bool.and_true, Bool.false_and, Bool.and_false, beq_self_eq_true, bne_self_eq_false, t2, t3, e2x, e44, List.length_set, lens4, Bool.false_eq_true, or_self, if_false, List.append_nil]
        · simp only [decide_true, decide_false, cond_true, cond_false, Option.bind_some, Bool.not_true, Bool.not_false, sumE, Bool.true_and, Bool.and_true, Bool.false_and, Bool.and_false, beq_self_eq_true, bne_self_eq_false, lens4, or_true, if_true]
      · simp only [decide_true, decide_false, cond_true, cond_false, Option.bind_some, Bool.not_true, Bool.not_false, sumE, Bool.true_and, Bool.and_true, Bool.false_and, Bool.and_false, beq_self_eq_true, bne_self_eq_false, lens4, true_or, if_true]
    · have hA : hearAny (c.reps.length : Int) r m = (r, zeroM, false) := by unfold hearAny; rw [if_neg q1, if_neg q2, if_neg q3, if_neg q4]
      rw [hA]
      simp only [q1, q2, q3, q4, decide_false, decide_true, decide_false, cond_true, cond_false, Option.bind_some, Bool.not_true, Bool.not_false, sumE, Bool.true_and, Bool.and_true, Bool.false_and, Bool.and_false, beq_self_eq_true, bne_self_eq_false, lens4]
      have hset : c.1.set m.2.2.1.toNat r = c.1 := set_same e2x
      split
      · rfl
      · simp only [Bool.false_eq_true, if_false, List.append_nil]
        rw [show c.reps.set m.to.toNat r = c.reps from hset]
  · simp only [hr, decide_false, decide_true, decide_false, cond_true, cond_false, Option.bind_some, Bool.not_true, Bool.not_false, sumE, Bool.true_and, Bool.and_true, Bool.false_and, Bool.and_false, beq_self_eq_true, bne_self_eq_false, if_false]

end Go.Proofs.Ytfbikpbejkgegaa

namespace Go.Proofs.Ytfbikpbejkgegaa
open Go Go.Abs Go.Raft
/-! ### New -/
theorem m61_eq (n : Int) : m61 ((n, ()), ()) = some (((newE n).1, ()), (u2, ((newE n).2.reps, ((newE n).2.down, ())))) ∧ (newE n).2.wire = [] ∧ (newE n).2.cut = [] := by
  unfold m61 newE
  simp only [m99_eq, Option.bind_some]
  cases hq : inn n 1 5
  · have : quorum n = 0 := by have := inn_quorum n; rw [hq] at this; simpa using this
    simp only [this, decide_true, decide_false, cond_true, cond_false, Option.bind_some, Bool.not_true, Bool.not_false, sumE, Bool.true_and, Bool.and_true, Bool.false_and, Bool.and_false, beq_self_eq_true, bne_self_eq_false, if_true, CT.reps, CT.wire, CT.down, CT.cut, cl, and_self]
  · have hq0 : ¬ quorum n = 0 := by have := inn_quorum n; rw [hq] at this; simpa using this
    obtain ⟨n1, n5⟩ := inn_iff.1 hq
    have b1 : decide ((0 : Int) ≤ n ∧ n ≤ n ∧ n ≤ 4294967296) = true := decide_eq_true (by omega)
    simp only [b1, decide_true, decide_false, cond_true, cond_false, Option.bind_some, Bool.not_true, Bool.not_false, sumE, Bool.true_and, Bool.and_true, Bool.false_and, Bool.and_false, beq_self_eq_true, bne_self_eq_false, if_neg hq0]
    refine ⟨?_, rfl, rfl⟩
    have hN : (n.toNat : Int) = n := by omega
    rw [show loopT l61_0_5 ((0, (n, (n, ()))), (((), ()), (((), ()), ([], ((List.replicate n.toNat false), ()))))) = some ((), (u2, (u2, ((List.range n.toNat).map rep0, ((List.replicate n.toNat false), ()))))) from loop_up (fun i => (((i : Int), n, n, ()), (u2, (u2, ((List.range i).map rep0, ((List.replicate n.toNat false), ())))))) _ n.toNat (fun i hi => by
      have hlt : (i : Int) < n := by omega
      have h3 : ∀ x : RT, decide (((List.range i).map (rep0 : Nat → RT)).length + [x].length ≤ 4294967296) = true := by intro x; simp; omega
      have hI : newI (i : Int) n = (((i : Int), 0, -1, 0, 0, ()), ()) := by
        unfold newI
        rw [if_pos ⟨hq, inn_iff.2 (by omega)⟩]
      rw [List.range_succ, List.map_append]
      simp only [l61_0_5, decide_eq_true hlt, m39_eq (i : Int) n, hI, h3, decide_true, decide_false, cond_true, cond_false, Option.bind_some, Bool.not_true, Bool.not_false, sumE, Bool.true_and, Bool.and_true, Bool.false_and, Bool.and_false, beq_self_eq_true, bne_self_eq_false, w64_nat (show i ≤ 4294967296 by omega), List.map_cons, List.map_nil, rep0, rp]) (by
      have : ¬ (n.toNat : Int) < n := by omega
      simp only [l61_0_5, decide_eq_false this, decide_true, decide_false, cond_true, cond_false, Option.bind_some, Bool.not_true, Bool.not_false, sumE, Bool.true_and, Bool.and_true, Bool.false_and, Bool.and_false, beq_self_eq_true, bne_self_eq_false]) n.toNat 0 (by omega)]
    simp only [Option.bind_some, newC, CT.reps, CT.down]

/-! ### Agreed -/
def agL : List RT → List OpT → List OpT
  | [], out => out
  | r :: l, out => agL l (if (committed r).length > out.length then committed r else out)

def agreedC (c : CT) : List OpT := if chkC c = true then agL c.reps [] else []

theorem loop66 (reps : List RT) (hl : reps.length ≤ 2147483647) (hr : ∀ r ∈ reps, r.log.length ≤ 4294967295) : ∀ (k i : Nat) (out : List OpT), i + k = reps.length →
    loopT l66_0_5 (((i : Int), reps, (reps.length : Int), ()), (out, ())) = some ((), (agL (reps.drop i) out, ())) := by
  intro k
  induction k with
  | zero =>
    intro i out h
    rw [List.drop_eq_nil_of_le (by omega)]
    refine loopT_inr ?_
    have : ¬ (i : Int) < (reps.length : Int) := by omega
    simp only [l66_0_5, decide_eq_false this, decide_true, decide_false, cond_true, cond_false, Option.bind_some, Bool.not_true, Bool.not_false, sumE, Bool.true_and, Bool.and_true, Bool.false_and, Bool.and_false, beq_self_eq_true, bne_self_eq_false, agL]
  | succ k ih =>
    intro i out h
    obtain ⟨e, he, hd⟩ := drop_at (l := reps) (i := i) (by omega)
    have hlt : (i : Int) < (reps.length : Int) := by omega
    rw [hd, agL, ← ih (i + 1) _ (by omega)]
    refine loopT_inl ?_
    simp only [l66_0_5, decide_eq_true hlt, decide_true, decide_false, cond_true, cond_false, Option.bind_some, Bool.not_true, Bool.not_false, sumE, Bool.true_and, Bool.and_true, Bool.false_and, Bool.and_false, beq_self_eq_true, bne_self_eq_false, rowAt_G, rowG_nat he, m50_eq e (hr e (List.mem_of_getElem? he))]
    by_cases hg : (committed e).length > out.length
    · have : ((committed e).length : Int) > (out.length : Int) := by omega
      simp only [decide_eq_true this, if_pos hg, decide_true, decide_false, cond_true, cond_false, Option.bind_some, Bool.not_true, Bool.not_false, sumE, Bool.true_and, Bool.and_true, Bool.false_and, Bool.and_false, beq_self_eq_true, bne_self_eq_false, w64_nat (show i ≤ 4294967296 by omega)]
    · have : ¬ ((committed e).length : Int) > (out.length : Int) := by omega
      simp only [decide_eq_false this, if_neg hg, decide_true, decide_false, cond_true, cond_false, Option.bind_some, Bool.not_true, Bool.not_false, sumE, Bool.true_and, Bool.and_true, Bool.false_and, Bool.and_false, beq_self_eq_true, bne_self_eq_false, w64_nat (show i ≤ 4294967296 by omega)]

theorem m66_eq (c : CT) (hs : ShC c) : m66 ((c, ()), ()) = some ((), (agreedC c, ())) := by
  unfold m66 agreedC
  simp only [m106_eq c hs, Option.bind_some]
  cases hc : chkC c
  · simp only [decide_true, decide_false, cond_true, cond_false, Option.bind_some, Bool.not_true, Bool.not_false, sumE, Bool.true_and, Bool.and_true, Bool.false_and, Bool.and_false, beq_self_eq_true, bne_self_eq_false, Bool.false_eq_true, if_false]
  · have := loop66 c.reps hs.rl (fun r hr => (hs.r r hr).1) c.reps.length 0 [] (by omega)
    rw [List.drop_zero] at this
    simp only [decide_true, decide_false, cond_true, cond_false, Option.bind_some, Bool.not_true, Bool.not_false, sumE, Bool.true_and, Bool.and_true, Bool.false_and, Bool.and_false, beq_self_eq_true, bne_self_eq_false, if_true]
    rw [show loopT l66_0_5 ((0, (c.1, ((c.1.length : Int), ()))), ([], ())) = _ from this]
    simp only [Option.bind_some]

/-! ### Settle -/
abbrev sC (c : CT) : (Unit × Unit) × (Unit × Unit) × List RT × List MT × List Bool × List CutT × Unit := (u2, (u2, (c.reps, (c.wire, (c.down, (c.cut, ()))))))

theorem drain_step {c : CT} (hs : ShC c) (V : VC c) (hne : c.wire ≠ []) : l62_1_1 ((), sC c) = some (.inl ((), sC (deliverC c 0).2)) := by
  have hl := List.length_pos_iff.2 hne
  have k1 : (0 : Int) < (c.wire.length : Int) := by omega
  have hr : wireE c 0 = 0 := wire_iff.2 ⟨V, Int.le_refl _, k1⟩
  have hwl := V.wl
  unfold deliverC
  rw [if_pos hr]
  obtain ⟨m, e1, e1'⟩ := wire_at (Int.le_refl (0 : Int)) k1
  rw [e1']
  have hmm := List.mem_of_getElem? e1
  obtain ⟨f0, f1, t0, t1, hft⟩ := V.wm m hmm
  have hme := hs.w m hmm
  have hdn := V.dn
  obtain ⟨r, e2, e2'⟩ := rep_at t0 t1
  obtain ⟨d, e3, e3'⟩ := down_at (c := c) t0 (by omega)
  dsimp only
  rw [e2', e3']
  have hrs := shrt_of (V.rp _ _ e2).2
  have b1 : decide ((0 : Int) ≤ 0 ∧ (0 : Int) < 1 ∧ (1 : Int) ≤ (c.2.1.length : Int) ∧ c.2.1.length ≤ 4294967296) = true := decide_eq_true ⟨by omega, by omega, show (1 : Int) ≤ (c.wire.length : Int) by omega, show c.wire.length ≤ _ by omega⟩
  have b8 : decide ((0 : Int) ≤ 0 ∧ (0 : Int) < (c.2.1.length : Int)) = true := decide_eq_true ⟨by omega, k1⟩
  have b9 : decide ((c.2.1.length : Int) > 0) = true := decide_eq_true k1
  have hcl := hs.cl
  have e108 := m108_eq c.cut (min m.to m.frm) (max m.to m.frm) (by omega)
  rw [has_cut, isCut_comm] at e108
  have t2 : decide ((0 : Int) ≤ m.2.2.1 ∧ m.2.2.1 < (c.1.length : Int)) = true := decide_eq_true ⟨t0, t1⟩
  have t4 : decide ((0 : Int) ≤ m.2.2.1 ∧ m.2.2.1 < (c.2.2.1.length : Int)) = true := decide_eq_true ⟨t0, show m.to < (c.down.length : Int) by omega⟩
  have t3 : decide (m.2.2.1.toNat < c.1.length) = true := decide_eq_true (show m.to.toNat < c.reps.length by omega)
  have e3x : c.2.2.1[m.2.2.1.toNat]? = some d := e3
  have e2x : c.1[m.2.2.1.toNat]? = some r := e2
  have e1x : c.2.1[0]? = some m := e1
  have hW : c.2.1.take 0 ++ c.2.1.drop 1 = cutOut c.wire (0 : Int).toNat := rfl
  have hWl : (cutOut c.wire (0 : Int).toNat).length ≤ 1000 := by unfold cutOut; simp; omega
  have hX : ∀ x : (Unit × Unit) × (Unit × Unit) × List RT × List MT × List Bool × List CutT × Unit, x.2.2.1 = x.2.2.1 := fun _ => rfl
  simp only [l62_1_1, sC, min_if, max_if, b9, b8, b1, e1x, decide_true, decide_true, decide_false, cond_true, cond_false, Option.bind_some, Bool.not_true, Bool.not_false, sumE, Bool.true_and, Bool.and_true, Bool.false_and, Bool.and_false, beq_self_eq_true, bne_self_eq_false, hW, t4, e3x, beq_decide]
  have e24 := m24_eq (c.reps.length : Int) r m hrs
  have e36 := m36_eq (c.reps.length : Int) r m hrs
  have e47 := m47_eq (c.reps.length : Int) r m hrs hme
  have e44 := m44_eq (c.reps.length : Int) r m hrs
  have hh := hear_ents (c.reps.length : Int) r m
  have ha := accept_ents (c.reps.length : Int) r m
  have e108' : m108 ((c.2.2.2.1, ((min m.2.2.1 m.2.1, (max m.2.2.1 m.2.1, ())), ())), ()) = some ((isCut c.cut m.frm m.to, ()), ()) := e108
  generalize cutOut c.wire (0 : Int).toNat = W at hWl
  have hap : ∀ x : MT, decide (W.length + [x].length ≤ 4294967296) = true := by intro x; simp; omega
  by_cases q1 : m.1 = 1
  · have hA : hearAny (c.reps.length : Int) r m = hear (c.reps.length : Int) r m := by unfold hearAny; rw [if_pos q1]
    rw [hA]
    simp only [q1, decide_true, decide_true, decide_false, cond_true, cond_false, Option.bind_some, Bool.not_true, Bool.not_false, sumE, Bool.true_and, Bool.and_true, Bool.false_and, Bool.and_false, beq_self_eq_true, bne_self_eq_false]
    cases d
    · simp only [decide_true, decide_false, cond_true, cond_false, Option.bind_some, Bool.not_true, Bool.not_false, sumE, Bool.true_and, Bool.and_true, Bool.false_and, Bool.and_false, beq_self_eq_true, bne_self_eq_false, e108']
      cases isCut c.cut m.frm m.to
      · simp only [decide_true, decide_false, cond_true, cond_false, Option.bind_some, Bool.not_true, Bool.not_false, sumE, Bool.true_and, Bool.and_true, Bool.false_and, Bool.and_false, beq_self_eq_true, bne_self_eq_false, t2, t3, e2x, e24, Bool.false_eq_true, or_self, if_false]
        cases hb : (hear (c.reps.length : Int) r m).2.2
        · simp only [decide_true, decide_false, cond_true, cond_false, Option.bind_some, Bool.not_true, Bool.not_false, sumE, Bool.true_and, Bool.and_true, Bool.false_and, Bool.and_false, beq_self_eq_true, bne_self_eq_false, List.length_set, lens4, Bool.false_eq_true, if_false, List.append_nil]
        · simp only [decide_true, decide_false, cond_true, cond_false, Option.bind_some, Bool.not_true, Bool.not_false, sumE, Bool.true_and, Bool.and_true, Bool.false_and, Bool.and_false, beq_self_eq_true, bne_self_eq_false, hap, List.length_set, lens4, if_true]
          rw [← re_nil _ hh]
      · simp only [decide_true, decide_false, cond_true, cond_false, Option.bind_some, Bool.not_true, Bool.not_false, sumE, Bool.true_and, Bool.and_true, Bool.false_and, Bool.and_false, beq_self_eq_true, bne_self_eq_false, lens4, or_true, if_true]
    · simp only [decide_true, decide_false, cond_true, cond_false, Option.bind_some, Bool.not_true, Bool.not_false, sumE, Bool.true_and, Bool.and_true, Bool.false_and, Bool.and_false, beq_self_eq_true, bne_self_eq_false, lens4, true_or, if_true]
  by_cases q2 : m.1 = 2
  · have hA : hearAny (c.reps.length : Int) r m = (voted (c.reps.length : Int) r m, zeroM, false) := by unfold hearAny; rw [if_neg q1, if_pos q2]
    rw [hA]
    simp only [Int.reduceEq, q1, q2, decide_true, decide_false, decide_true, decide_false, cond_true, cond_false, Option.bind_some, Bool.not_true, Bool.not_false, sumE, Bool.true_and, Bool.and_true, Bool.false_and, Bool.and_false, beq_self_eq_true, bne_self_eq_false]
    cases d
    · simp only [decide_true, decide_false, cond_true, cond_false, Option.bind_some, Bool.not_true, Bool.not_false, sumE, Bool.true_and, Bool.and_true, Bool.false_and, Bool.and_false, beq_self_eq_true, bne_self_eq_false, e108']
      cases isCut c.cut m.frm m.to
      · simp only [decide_true, decide_false, cond_true, cond_false, Option.bind_some, Bool.not_true, Bool.not_false, sumE, Bool.true_and, Bool.and_true, Bool.false_and, Bool.and_false, beq_self_eq_true, bne_self_eq_false, t2, t3, e2x, e36, List.length_set, lens4, Bool.false_eq_true, or_self, if_false, List.append_nil]
      · simp only [decide_true, decide_false, cond_true, cond_false, Option.bind_some, Bool.not_true, Bool.not_false, sumE, Bool.true_and, Bool.and_true, Bool.false_and, Bool.and_false, beq_self_eq_true, bne_self_eq_false, lens4, or_true, if_true]
    · simp only [decide_true, decide_false, cond_true, cond_false, Option.bind_some, Bool.not_true, Bool.not_false, sumE, Bool.true_and, Bool.and_true, Bool.false_and, Bool.and_false, beq_self_eq_true, bne_self_eq_false, lens4, true_or, if_true]
  by_cases q3 : m.1 = 3
  · have hA : hearAny (c.reps.length : Int) r m = accept (c.reps.length : Int) r m := by unfold hearAny; rw [if_neg q1, if_neg q2, if_pos q3]
    rw [hA]
    simp only [Int.reduceEq, q1, q2, q3, decide_true, decide_false, decide_true, decide_false, cond_true, cond_false, Option.bind_some, Bool.not_true, Bool.not_false, sumE, Bool.true_and, Bool.and_true, Bool.false_and, Bool.and_false, beq_self_eq_true, bne_self_eq_false]
    cases d
    · simp only [decide_true, decide_false, cond_true, cond_false, Option.bind_some, Bool.not_true, Bool.not_false, sumE, Bool.true_and, Bool.and_true, Bool.false_and, Bool.and_false, beq_self_eq_true, bne_self_eq_false, e108']
      cases isCut c.cut m.frm m.to
      · simp only [decide_true, decide_false, cond_true, cond_false, Option.bind_some, Bool.not_true, Bool.not_false, sumE, Bool.true_and, Bool.and_true, Bool.false_and, Bool.and_false, beq_self_eq_true, bne_self_eq_false, t2, t3, e2x, e47, Bool.false_eq_true, or_self, if_false]
        cases hb : (accept (c.reps.length : Int) r m).2.2
        · simp only [decide_true, decide_false, cond_true, cond_false, Option.bind_some, Bool.not_true, Bool.not_false, sumE, Bool.true_and, Bool.and_true, Bool.false_and, Bool.and_false, beq_self_eq_true, bne_self_eq_false, List.length_set, lens4, Bool.false_eq_true, if_false, List.append_nil]
        · simp only [decide_true, decide_false, cond_true, cond_false, Option.bind_some, Bool.not_true, Bool.not_false, sumE, Bool.true_and, Bool.and_true, Bool.false_and, Bool.and_false, beq_self_eq_true, bne_self_eq_false, hap, List.length_set, lens4, if_true]
          rw [← re_nil _ ha]
      · simp only [decide_true, decide_false, cond_true, cond_false, Option.bind_some, Bool.not_true, Bool.not_false, sumE, Bool.true_and, Bool.and_true, Bool.false_and, Bool.and_false, beq_self_eq_true, bne_self_eq_false, lens4, or_true, if_true]
    · simp only [decide_true, decide_false, cond_true, cond_false, Option.bind_some, Bool.not_true, Bool.not_false, sumE, Bool.true_and, Bool.and_true, Bool.false_and, Bool.and_false, beq_self_eq_true, bne_self_eq_false, lens4, true_or, if_true]
  by_cases q4 : m.1 = 4
  · have hA : hearAny (c.reps.length : Int) r m = (appended (c.reps.length : Int) r m, zeroM, false) := by unfold hearAny; rw [if_neg q1, if_neg q2, if_neg q3, if_pos q4]
    rw [hA]
    simp only [Int.reduceEq, q1, q2, q3, q4, decide_true, decide_false, decide_true, decide_false, cond_true, cond_false, Option.bind_some, Bool.not_true, Bool.not_false, sumE, Bool.true_and, Bool.and_true, Bool.false_and, Bool.and_false, beq_self_eq_true, bne_self_eq_false]
    cases d
    · simp only [decide_true, decide_false, cond_true, cond_false, Option.bind_some, Bool.not_true, Bool.not_false, sumE, Bool.true_and, Bool.and_true, Bool.false_and, Bool.and_false, beq_self_eq_true, bne_self_eq_false, e108']
      cases isCut c.cut m.frm m.to
      · simp only [decide_true, decide_false, cond_true, cond_false, Option.bind_some, Bool.not_true, Bool.not_false, sumE, Bool.true_and, Bool.and_true, Bool.false_and, Bool.and_false, beq_self_eq_true, bne_self_eq_false, t2, t3, e2x, e44, List.length_set, lens4, Bool.false_eq_true, or_self, if_false, List.append_nil]
      · simp only [decide_true, decide_false, cond_true, cond_false, Option.bind_some, Bool.not_true, Bool.not_false, sumE, Bool.true_and, Bool.and_true, Bool.false_and, Bool.and_false, beq_self_eq_true, bne_self_eq_false, lens4, or_true, if_true]
    · simp only [decide_true, decide_false, cond_true, cond_false, Option.bind_some, Bool.not_true, Bool.not_false, sumE, Bool.true_and, Bool.and_true, Bool.false_and, Bool.and_false, beq_self_eq_true, bne_self_eq_false, lens4, true_or, if_true]
  · have hA : hearAny (c.reps.length : Int) r m = (r, zeroM, false) := by unfold hearAny; rw [if_neg q1, if_neg q2, if_neg q3, if_neg q4]
    rw [hA]
    simp only [q1, q2, q3, q4, decide_false, decide_true, decide_false, cond_true, cond_false, Option.bind_some, Bool.not_true, Bool.not_false, sumE, Bool.true_and, Bool.and_true, Bool.false_and, Bool.and_false, beq_self_eq_true, bne_self_eq_false, lens4]
    have hset : c.1.set m.2.2.1.toNat r = c.1 := set_same e2x
    split
    · rfl
    · simp only [Bool.false_eq_true, if_false, List.append_nil]
      rw [show c.reps.set m.to.toNat r = c.reps from hset]

theorem l62_same : l62_4_1 = l62_1_1 := rfl

theorem drain_ok : ∀ (w : Nat) (c : CT), weight c.wire ≤ w → CG c → ∃ c' : CT, loopT l62_1_1 ((), sC c) = some ((), sC c') ∧ CG c' ∧ c'.wire = [] ∧ c'.reps.length = c.reps.length ∧ c'.down = c.down ∧ c'.cut = c.cut ∧ ∀ T, TB c T → TB c' T := by
  have base : ∀ c : CT, c.wire = [] → loopT l62_1_1 ((), sC c) = some ((), sC c) := by
    intro c h
    refine loopT_inr ?_
    have : ¬ (c.2.1.length : Int) > 0 := by show ¬ (c.wire.length : Int) > 0; rw [h]; simp
    simp only [l62_1_1, sC, decide_eq_false this, decide_true, decide_false, cond_true, cond_false, Option.bind_some, Bool.not_true, Bool.not_false, sumE, Bool.true_and, Bool.and_true, Bool.false_and, Bool.and_false, beq_self_eq_true, bne_self_eq_false]
  intro w
  induction w with
  | zero =>
    intro c hw h
    have : c.wire = [] := by
      cases hc : c.wire with
      | nil => rfl
      | cons m l => rw [hc, weight_pos] at hw; split at hw <;> omega
    exact ⟨c, base c this, h, this, rfl, rfl, rfl, fun _ h => h⟩
  | succ w ih =>
    intro c hw h
    by_cases hc : c.wire = []
    · exact ⟨c, base c hc, h, hc, rfl, rfl, rfl, fun _ h => h⟩
    · have h0 := deliver_zero h.v hc
      obtain ⟨g1, g2, g3, g4, g5⟩ := cg_deliver h h0
      obtain ⟨c', a1, a2, a3, a4, a5, a6, a7⟩ := ih (deliverC c 0).2 (by omega) g1
      refine ⟨c', ?_, a2, a3, by rw [a4, g2], by rw [a5, g4], by rw [a6, g5], fun T hT => a7 T (tb_deliver hT h0)⟩
      rw [← a1]
      exact loopT_inl (drain_step h.sh h.v hc)

end Go.Proofs.Ytfbikpbejkgegaa

namespace Go.Proofs.Ytfbikpbejkgegaa
open Go Go.Abs Go.Raft
/-! ### What was committed stays, in each region -/
def KC (c c' : CT) : Prop := ∀ (j : Nat) (r : RT), c.reps[j]? = some r → ∃ r', c'.reps[j]? = some r' ∧ Keeps r r'

theorem KC.refl (c : CT) : KC c c := fun _ r h => ⟨r, h, Keeps.refl r⟩

theorem KC.of_same {c c' : CT} (h : c'.reps = c.reps) : KC c c' := fun _ r hr => ⟨r, by rw [h]; exact hr, Keeps.refl r⟩

theorem KC.of_set {c c' : CT} {i : Nat} {r r' : RT} (hi : c.reps[i]? = some r) (hk : Keeps r r') (h : c'.reps = c.reps.set i r') : KC c c' := by
  intro j x hx
  rw [h]
  by_cases hij : i = j
  · subst hij
    rw [hi] at hx; cases hx
    exact ⟨r', List.getElem?_set_self (List.getElem?_eq_some_iff.1 hi).1, hk⟩
  · exact ⟨x, by rw [List.getElem?_set_ne hij]; exact hx, Keeps.refl x⟩

theorem kc_stand {c : CT} {i : Int} (h0 : (standC c i).1 = 0) : KC c (standC c i).2 := by
  unfold standC at h0 ⊢
  split at h0
  · rename_i hr
    obtain ⟨V, i0, i1⟩ := ready_iff.1 hr
    obtain ⟨r, e1, e1'⟩ := rep_at i0 i1
    rw [if_pos hr]
    rw [e1'] at h0 ⊢
    split at h0
    · simp at h0
    · rename_i hd
      rw [if_neg hd]
      simp only at h0 ⊢
      split at h0
      · rename_i hs
        rw [if_pos hs]
        split at h0
        · simp at h0
        · rename_i hg
          rw [if_neg hg]
          refine KC.of_set e1 ?_ rfl
          unfold stand at hs ⊢
          split at hs
          · rename_i hc
            rw [if_pos hc]
            split at hs
            · simp at hs
            · rename_i ht; rw [if_neg ht]; exact keeps_stand _ r
          · simp at hs
      · rename_i hs; exact absurd h0 hs
  · rename_i hr; exact absurd h0 hr

theorem kc_propose {c : CT} {i : Int} {o : OpT} (h0 : (proposeC c i o).1 = 0) : KC c (proposeC c i o).2 := by
  unfold proposeC at h0 ⊢
  split at h0
  · rename_i hr
    obtain ⟨V, i0, i1⟩ := ready_iff.1 hr
    obtain ⟨r, e1, e1'⟩ := rep_at i0 i1
    have hC := (V.rp _ _ e1).2
    rw [if_pos hr]
    rw [e1'] at h0 ⊢
    split at h0
    · simp at h0
    · rename_i hd
      rw [if_neg hd]
      simp only at h0 ⊢
      split at h0
      · rename_i hs
        rw [if_pos hs]
        refine KC.of_set e1 ?_ rfl
        unfold proposeE at hs ⊢
        rw [if_pos (chk_iff.2 hC)] at hs ⊢
        split at hs
        · rename_i h2
          rw [if_pos h2]
          split at hs
          · simp at hs
          · rename_i h3
            rw [if_neg h3]
            split at hs
            · rename_i h4; rw [if_pos h4]; exact keeps_propose o hC
            · simp at hs
        · simp at hs
      · rename_i hs; exact absurd h0 hs
  · rename_i hr; exact absurd h0 hr

theorem keeps_any {n : Int} {r : RT} (hC : Chk n r) (m : MT) : Keeps r (hearAny n r m).1 := by
  unfold hearAny
  split
  · exact keeps_hear n r m
  split
  · exact keeps_voted n r m
  split
  · exact keeps_accept m hC
  split
  · exact keeps_appended n r m
  · exact Keeps.refl r

theorem kc_deliver {c : CT} {k : Int} (h0 : (deliverC c k).1 = 0) : KC c (deliverC c k).2 := by
  unfold deliverC at h0 ⊢
  split at h0
  · rename_i hr
    obtain ⟨V, k0, k1⟩ := wire_iff.1 hr
    obtain ⟨m, e1, e1'⟩ := wire_at k0 k1
    obtain ⟨_, _, t0, t1, _⟩ := V.wm m (List.mem_of_getElem? e1)
    obtain ⟨r, e2, e2'⟩ := rep_at t0 t1
    rw [if_pos hr]
    simp only
    split
    · exact KC.of_same rfl
    · rw [e1'] at *
      rw [e2']
      exact KC.of_set e2 (keeps_any (V.rp _ _ e2).2 m) rfl
  · rename_i hr; exact absurd h0 hr

theorem kc_restart {c : CT} {i : Int} (h0 : (restartC c i).1 = 0) : KC c (restartC c i).2 := by
  unfold restartC at h0 ⊢
  split at h0
  · rename_i hr
    obtain ⟨V, i0, i1⟩ := ready_iff.1 hr
    obtain ⟨r, e1, e1'⟩ := rep_at i0 i1
    have hC := (V.rp _ _ e1).2
    rw [if_pos hr]
    split at h0
    · rename_i hd
      rw [if_pos hd, e1']
      refine KC.of_set e1 ?_ rfl
      unfold restartE
      rw [if_pos (chk_iff.2 hC)]
      exact keeps_restart r
    · simp at h0
  · rename_i hr; exact absurd h0 hr

/-! ### Settle -/
theorem settle2_loop {i : Int} (i0 : 0 ≤ i) : ∀ (k j : Nat) (c : CT), j + k = 2 → CG c → i < (c.reps.length : Int) → downAt c i = false → c.wire = [] → ∃ c' : CT, loopT l62_0_11 (((j : Int), i, ()), sC c) = some ((), sC c') ∧ CG c' ∧ c'.reps.length = c.reps.length ∧ ∀ T, TB c T → TB c' T := by
  intro k
  induction k with
  | zero =>
    intro j c hj h _ _ _
    refine ⟨c, loopT_inr ?_, h, rfl, fun _ h => h⟩
    have : ¬ (j : Int) < 2 := by omega
    simp only [l62_0_11, sC, decide_eq_false this, decide_true, decide_false, cond_true, cond_false, Option.bind_some, Bool.not_true, Bool.not_false, sumE, Bool.true_and, Bool.and_true, Bool.false_and, Bool.and_false, beq_self_eq_true, bne_self_eq_false]
  | succ k ih =>
    intro j c hj h i1 hd hw
    have hlt : decide ((j : Int) < 2) = true := decide_eq_true (by omega)
    obtain ⟨r, e1, e1'⟩ := rep_at (c := c) i0 i1
    have hbd : decide ((0 : Int) ≤ i ∧ i < (c.1.length : Int)) = true := decide_eq_true ⟨i0, i1⟩
    have e1x : c.1[i.toNat]? = some r := e1
    by_cases hr : r.role = 2
    · have h0 := beat_zero h i0 i1 hd (by rw [e1']; exact hr) hw
      obtain ⟨g1, g2⟩ := cg_beat h h0
      have hb2 : (beatC c i).2 = cl c.reps (appendsE (c.reps.length : Int) r) c.down c.cut := by
        unfold beatC
        rw [if_pos (ready_iff.2 ⟨h.v, i0, i1⟩), if_neg (by rw [hd]; simp), if_pos (by rw [e1']; exact hr)]
        simp only
        rw [e1']
        have := appends_len (c.reps.length : Int) r
        rw [if_neg (by rw [hw]; simp; omega), hw, List.nil_append]
      rw [hb2] at g1 g2
      obtain ⟨c1, a1, a2, a3, a4, a5, a6, a7⟩ := drain_ok _ _ (Nat.le_refl _) g1
      obtain ⟨c', b1, b2, b3, b4⟩ := ih (j + 1) c1 (by omega) a2 (by rw [a4]; exact i1) (by show (c1.down[i.toNat]?.getD false) = false; rw [a5]; exact hd) a3
      refine ⟨c', ?_, b2, by rw [b3, a4], fun T hT => b4 T (a7 T (by have := tb_beat hT h0; rw [hb2] at this; exact this))⟩
      rw [← b1]
      refine loopT_inl ?_
      have hr' : (r.2.2.2.1 : Int) = 2 := hr
      simp only [l62_0_11, sC, hlt, decide_true, decide_false, cond_true, cond_false, Option.bind_some, Bool.not_true, Bool.not_false, sumE, Bool.true_and, Bool.and_true, Bool.false_and, Bool.and_false, beq_self_eq_true, bne_self_eq_false, hbd, e1x, beq_decide, decide_eq_true hr', m46_eq (c.reps.length : Int) r (shrt_of (h.v.rp _ _ e1).2)]
      rw [l62_same]
      rw [show loopT l62_1_1 ((), (((), ()), (((), ()), (c.1, (appendsE (c.reps.length : Int) r, (c.2.2.1, (c.2.2.2.1, ()))))))) = _ from a1]
      simp only [Option.bind_some, lens4, decide_true, decide_false, cond_true, cond_false, Option.bind_some, Bool.not_true, Bool.not_false, sumE, Bool.true_and, Bool.and_true, Bool.false_and, Bool.and_false, beq_self_eq_true, bne_self_eq_false, w64_nat (show j ≤ 4294967296 by omega)]
    · obtain ⟨c', b1, b2, b3, b4⟩ := ih (j + 1) c (by omega) h i1 hd hw
      refine ⟨c', ?_, b2, b3, b4⟩
      rw [← b1]
      refine loopT_inl ?_
      have hr' : ¬ (r.2.2.2.1 : Int) = 2 := hr
      simp only [l62_0_11, sC, hlt, decide_true, decide_false, cond_true, cond_false, Option.bind_some, Bool.not_true, Bool.not_false, sumE, Bool.true_and, Bool.and_true, Bool.false_and, Bool.and_false, beq_self_eq_true, bne_self_eq_false, hbd, e1x, beq_decide, decide_eq_false hr', w64_nat (show j ≤ 4294967296 by omega)]

theorem stand_down {c : CT} {i : Int} (h0 : (standC c i).1 = 0) : downAt c i = false ∧ (standC c i).2.down = c.down := by
  unfold standC at h0 ⊢
  split at h0
  · rename_i hr
    rw [if_pos hr]
    split at h0
    · simp at h0
    · rename_i hd
      rw [if_neg hd]
      refine ⟨by simpa using hd, ?_⟩
      simp only at h0 ⊢
      split at h0
      · rename_i hs
        rw [if_pos hs]
        split at h0
        · simp at h0
        · rename_i hg; rw [if_neg hg]
      · rename_i hs; exact absurd h0 hs
  · rename_i hr; exact absurd h0 hr

/-- Settle gives an error or a good cluster of the same size. -/
theorem m62_ok {c : CT} (h : CG c) (i : Int) : ∃ (e : Int) (c' : CT), m62 ((c, i, ()), ()) = some ((e, ()), oC c') ∧ (e = 0 → CG c' ∧ c'.reps.length = c.reps.length ∧ ∀ T, TB c T → TB c' (T + 1)) ∧ (e ≠ 0 → c' = zeroC) ∧ (readyE c i = 0 → (standC (cl c.reps [] c.down c.cut) i).1 = 0 → e = 0) := by
  unfold m62
  simp only [m100_up c i h.sh, Option.bind_some, bne_decide, decide_not]
  by_cases hu : upE c i = 0
  · obtain ⟨hr, hdn⟩ := upE_zero hu
    obtain ⟨V, i0, i1⟩ := ready_iff.1 hr
    simp only [hu, decide_true, decide_true, decide_false, cond_true, cond_false, Option.bind_some, Bool.not_true, Bool.not_false, sumE, Bool.true_and, Bool.and_true, Bool.false_and, Bool.and_false, beq_self_eq_true, bne_self_eq_false, m101_eq c h.sh]
    have h1 : CG (cl c.reps [] c.down c.cut) := h.same (fun m hm => (by cases hm)) (Nat.zero_le _) h.dn h.cs
    rw [show m102 (((c.reps, ([], (c.down, (c.cut, ())))), (i, ())), ()) = _ from m102_eq (cl c.reps [] c.down c.cut) i h1.sh]
    simp only [Option.bind_some]
    by_cases h0 : (standC (cl c.reps [] c.down c.cut) i).1 = 0
    · obtain ⟨g1, g2⟩ := cg_stand h1 h0
      obtain ⟨c1, a1, a2, a3, a4, a5, a6, a7⟩ := drain_ok _ _ (Nat.le_refl _) g1
      have hd := stand_down h0
      simp only [h0, decide_true, decide_true, decide_false, cond_true, cond_false, Option.bind_some, Bool.not_true, Bool.not_false, sumE, Bool.true_and, Bool.and_true, Bool.false_and, Bool.and_false, beq_self_eq_true, bne_self_eq_false]
      rw [show loopT l62_1_1 ((), (((), ()), (((), ()), ((standC (cl c.reps [] c.down c.cut) i).2.reps, ((standC (cl c.reps [] c.down c.cut) i).2.wire, ((standC (cl c.reps [] c.down c.cut) i).2.down, ((standC (cl c.reps [] c.down c.cut) i).2.cut, ()))))))) = _ from a1]
      have hlen : c1.reps.length = c.reps.length := by rw [a4, g2]
      obtain ⟨c', b1, b2, b3, b4⟩ := settle2_loop i0 2 0 c1 rfl a2 (by omega) (by show (c1.down[i.toNat]?.getD false) = false; rw [a5, hd.2]; exact hd.1) a3
      refine ⟨0, c', ?_, fun _ => ⟨b2, by rw [b3, hlen], fun T hT => b4 _ (a7 _ (tb_stand h1 (hT.same (fun m hm => (by cases hm))) h0))⟩, fun hn => absurd rfl hn, fun _ _ => rfl⟩
      simp only [Option.bind_some, lens4, decide_true, decide_false, cond_true, cond_false, Option.bind_some, Bool.not_true, Bool.not_false, sumE, Bool.true_and, Bool.and_true, Bool.false_and, Bool.and_false, beq_self_eq_true, bne_self_eq_false]
      rw [show loopT l62_0_11 ((0, (i, ())), (((), ()), (((), ()), (c1.reps, (c1.wire, (c1.down, (c1.cut, ()))))))) = _ from b1]
      rfl
    · simp only [h0, decide_false, decide_true, decide_false, cond_true, cond_false, Option.bind_some, Bool.not_true, Bool.not_false, sumE, Bool.true_and, Bool.and_true, Bool.false_and, Bool.and_false, beq_self_eq_true, bne_self_eq_false]
      exact ⟨(standC (cl c.reps [] c.down c.cut) i).1, zeroC, rfl, fun e => absurd e h0, fun _ => rfl, fun _ e => False.elim e⟩
  · simp only [hu, decide_false, decide_true, decide_false, cond_true, cond_false, Option.bind_some, Bool.not_true, Bool.not_false, sumE, Bool.true_and, Bool.and_true, Bool.false_and, Bool.and_false, beq_self_eq_true, bne_self_eq_false]
    refine ⟨upE c i, zeroC, rfl, fun e => absurd e hu, fun _ => rfl, fun hr hs => absurd (stand_down hs).1 (fun hd => hu ?_)⟩
    unfold upE
    rw [if_pos hr, if_neg (by rw [show downAt c i = false from hd]; simp)]

/-! ### A step of the dice -/
def ActQ (c0 : CT) (b : Unit × ((Dice × Unit) × (CT × Unit) × Unit)) : Prop := ∃ (c : CT) (d : Dice), b = ((), ((d, ()), ((c, ()), ()))) ∧ CG c ∧ c.reps.length = c0.reps.length ∧ DOK d ∧ KC c0 c ∧ ∀ T, TB c0 T → TB c (T + 1)

theorem m70_ok {c : CT} (h : CG c) {d : Dice} (hd : DOK d) : ∃ b, m70 ((c, ()), ((d, ()), ())) = some b ∧ ActQ c b := by
  have n1 := h.n1; have n5 := h.n5; have wl := h.wl
  have hs := h.sh
  unfold m70
  obtain ⟨i, d1, e1, hd1, b1, _⟩ := next_spec c.reps.length d hd (by omega)
  have b1 := b1 (by omega)
  simp only []
  rw [show m20 (((c.1.length : Int), ()), ((d, ()), ())) = _ from e1]
  simp only [Option.bind_some]
  refine bind_ex (P := fun v => ∃ (i : Int) (d : Dice), v = ((i, ()), ((d, ()), (u2, ((c, ()), ())))) ∧ 0 ≤ i ∧ i < (c.reps.length : Int) ∧ DOK d) ?_ ?_
  · simp only [m43_eq c hs, Option.bind_some]
    cases hl : (leaderC c).2
    · simp only [decide_true, decide_false, cond_true, cond_false, Option.bind_some, Bool.not_true, Bool.not_false, sumE, Bool.true_and, Bool.and_true, Bool.false_and, Bool.and_false, beq_self_eq_true, bne_self_eq_false]
      exact ⟨_, rfl, i, d1, rfl, b1.1, b1.2, hd1⟩
    · obtain ⟨n, d2, e2, hd2, b2, _⟩ := next_spec 3 d1 hd1 (by omega)
      have hk := leader_spec hl
      simp only [decide_true, decide_false, cond_true, cond_false, Option.bind_some, Bool.not_true, Bool.not_false, sumE, Bool.true_and, Bool.and_true, Bool.false_and, Bool.and_false, beq_self_eq_true, bne_self_eq_false, e2]
      by_cases hn : n > 0
      · simp only [decide_eq_true hn, decide_true, decide_false, cond_true, cond_false, Option.bind_some, Bool.not_true, Bool.not_false, sumE, Bool.true_and, Bool.and_true, Bool.false_and, Bool.and_false, beq_self_eq_true, bne_self_eq_false]
        exact ⟨_, rfl, _, d2, rfl, hk.2.1, hk.2.2.1, hd2⟩
      · simp only [decide_eq_false hn, decide_true, decide_false, cond_true, cond_false, Option.bind_some, Bool.not_true, Bool.not_false, sumE, Bool.true_and, Bool.and_true, Bool.false_and, Bool.and_false, beq_self_eq_true, bne_self_eq_false]
        exact ⟨_, rfl, _, d2, rfl, b1.1, b1.2, hd2⟩
  clear e1 hd1
  rintro _ ⟨i, d1, rfl, i0, i1, hd1⟩
  obtain ⟨k, d2, e2, hd2, _, _⟩ := next_spec c.wire.length d1 hd1 (by omega)
  simp only []
  rw [show m20 (((c.2.1.length : Int), ()), ((d1, ()), ())) = _ from e2]
  simp only [Option.bind_some]
  refine bind_ex (P := fun v => ∃ (e : Int) (d : Dice) (x : CT), v = ((e, ()), ((d, ()), (u2, ((c, ()), ((x, ()), ()))))) ∧ DOK d ∧ (e = 0 → CG x ∧ x.reps.length = c.reps.length ∧ KC c x ∧ ∀ T, TB c T → TB x (T + 1))) ?_ ?_
  · obtain ⟨n, d3, e3, hd3, b3, _⟩ := next_spec 16 d2 hd2 (by omega)
    have b3 := b3 (by omega)
    simp only [e3, Option.bind_some, beq_decide]
    have hn : n = 0 ∨ n = 1 ∨ n = 2 ∨ n = 3 ∨ n = 4 ∨ n = 5 ∨ n = 6 ∨ n = 7 ∨ n = 8 ∨ n = 9 ∨ n = 10 ∨ n = 11 ∨ n = 12 ∨ n = 13 ∨ n = 14 ∨ n = 15 := by omega
    have up : ∀ {x : CT} {T : Int}, TB x T → TB x (T + 1) := fun h => h.le (by omega)
    have stand' : ∀ d : Dice, DOK d → ∃ a, some (((standC c i).1, ()), ((d, ()), (u2, ((c, ()), (((standC c i).2, ()), ()))))) = some a ∧ ∃ (e : Int) (d : Dice) (x : CT), a = ((e, ()), ((d, ()), (u2, ((c, ()), ((x, ()), ()))))) ∧ DOK d ∧ (e = 0 → CG x ∧ x.reps.length = c.reps.length ∧ KC c x ∧ ∀ T, TB c T → TB x (T + 1)) := fun d hd =>
      ⟨_, rfl, _, d, _, rfl, hd, fun h0 => ⟨(cg_stand h h0).1, (cg_stand h h0).2, kc_stand h0, fun T hT => tb_stand h hT h0⟩⟩
    have prop' : ∀ (d : Dice) (o : OpT), DOK d → ∃ a, some (((proposeC c i o).1, ()), ((d, ()), (u2, ((c, ()), (((proposeC c i o).2, ()), ()))))) = some a ∧ ∃ (e : Int) (d : Dice) (x : CT), a = ((e, ()), ((d, ()), (u2, ((c, ()), ((x, ()), ()))))) ∧ DOK d ∧ (e = 0 → CG x ∧ x.reps.length = c.reps.length ∧ KC c x ∧ ∀ T, TB c T → TB x (T + 1)) := fun d o hd =>
      ⟨_, rfl, _, d, _, rfl, hd, fun h0 => ⟨(cg_propose h h0).1, (cg_propose h h0).2, kc_propose h0, fun T hT => up (tb_propose h hT h0)⟩⟩
    have beat' : ∀ d : Dice, DOK d → ∃ a, some (((beatC c i).1, ()), ((d, ()), (u2, ((c, ()), (((beatC c i).2, ()), ()))))) = some a ∧ ∃ (e : Int) (d : Dice) (x : CT), a = ((e, ()), ((d, ()), (u2, ((c, ()), ((x, ()), ()))))) ∧ DOK d ∧ (e = 0 → CG x ∧ x.reps.length = c.reps.length ∧ KC c x ∧ ∀ T, TB c T → TB x (T + 1)) := fun d hd =>
      ⟨_, rfl, _, d, _, rfl, hd, fun h0 => ⟨(cg_beat h h0).1, congrArg List.length (cg_beat h h0).2, KC.of_same (cg_beat h h0).2, fun T hT => up (tb_beat hT h0)⟩⟩
    have del' : ∀ d : Dice, DOK d → ∃ a, some (((deliverC c k).1, ()), ((d, ()), (u2, ((c, ()), (((deliverC c k).2, ()), ()))))) = some a ∧ ∃ (e : Int) (d : Dice) (x : CT), a = ((e, ()), ((d, ()), (u2, ((c, ()), ((x, ()), ()))))) ∧ DOK d ∧ (e = 0 → CG x ∧ x.reps.length = c.reps.length ∧ KC c x ∧ ∀ T, TB c T → TB x (T + 1)) := fun d hd =>
      ⟨_, rfl, _, d, _, rfl, hd, fun h0 => ⟨(cg_deliver h h0).1, (cg_deliver h h0).2.1, kc_deliver h0, fun T hT => up (tb_deliver hT h0)⟩⟩
    rcases hn with rfl | rfl | rfl | rfl | rfl | rfl | rfl | rfl | rfl | rfl | rfl | rfl | rfl | rfl | rfl | rfl
    · simp only [decide_true, decide_true, decide_false, cond_true, cond_false, Option.bind_some, Bool.not_true, Bool.not_false, sumE, Bool.true_and, Bool.and_true, Bool.false_and, Bool.and_false, beq_self_eq_true, bne_self_eq_false, m102_eq c i hs]
      exact stand' d3 hd3
    · simp only [Int.reduceEq, decide_true, decide_false, decide_true, decide_false, cond_true, cond_false, Option.bind_some, Bool.not_true, Bool.not_false, sumE, Bool.true_and, Bool.and_true, Bool.false_and, Bool.and_false, beq_self_eq_true, bne_self_eq_false, m102_eq c i hs]
      exact stand' d3 hd3
    · obtain ⟨q, d4, e4, hd4, _, _⟩ := next_spec 90 d3 hd3 (by omega)
      simp only [Int.reduceEq, decide_true, decide_false, decide_true, decide_false, cond_true, cond_false, Option.bind_some, Bool.not_true, Bool.not_false, sumE, Bool.true_and, Bool.and_true, Bool.false_and, Bool.and_false, beq_self_eq_true, bne_self_eq_false, e4, m63_eq c _ _ hs]
      exact prop' d4 _ hd4
    · obtain ⟨q, d4, e4, hd4, _, _⟩ := next_spec 90 d3 hd3 (by omega)
      simp only [Int.reduceEq, decide_true, decide_false, decide_true, decide_false, cond_true, cond_false, Option.bind_some, Bool.not_true, Bool.not_false, sumE, Bool.true_and, Bool.and_true, Bool.false_and, Bool.and_false, beq_self_eq_true, bne_self_eq_false, e4, m63_eq c _ _ hs]
      exact prop' d4 _ hd4
    · simp only [Int.reduceEq, decide_true, decide_false, decide_true, decide_false, cond_true, cond_false, Option.bind_some, Bool.not_true, Bool.not_false, sumE, Bool.true_and, Bool.and_true, Bool.false_and, Bool.and_false, beq_self_eq_true, bne_self_eq_false, m64_eq c _ hs]
      exact beat' d3 hd3
    · simp only [Int.reduceEq, decide_true, decide_false, decide_true, decide_false, cond_true, cond_false, Option.bind_some, Bool.not_true, Bool.not_false, sumE, Bool.true_and, Bool.and_true, Bool.false_and, Bool.and_false, beq_self_eq_true, bne_self_eq_false, m64_eq c _ hs]
      exact beat' d3 hd3
    · simp only [Int.reduceEq, decide_true, decide_false, decide_true, decide_false, cond_true, cond_false, Option.bind_some, Bool.not_true, Bool.not_false, sumE, Bool.true_and, Bool.and_true, Bool.false_and, Bool.and_false, beq_self_eq_true, bne_self_eq_false, m97_eq c _ hs]
      exact del' d3 hd3
    · simp only [Int.reduceEq, decide_true, decide_false, decide_true, decide_false, cond_true, cond_false, Option.bind_some, Bool.not_true, Bool.not_false, sumE, Bool.true_and, Bool.and_true, Bool.false_and, Bool.and_false, beq_self_eq_true, bne_self_eq_false, m97_eq c _ hs]
      exact del' d3 hd3
    · simp only [Int.reduceEq, decide_true, decide_false, decide_true, decide_false, cond_true, cond_false, Option.bind_some, Bool.not_true, Bool.not_false, sumE, Bool.true_and, Bool.and_true, Bool.false_and, Bool.and_false, beq_self_eq_true, bne_self_eq_false, m97_eq c _ hs]
      exact del' d3 hd3
    · simp only [Int.reduceEq, decide_true, decide_false, decide_true, decide_false, cond_true, cond_false, Option.bind_some, Bool.not_true, Bool.not_false, sumE, Bool.true_and, Bool.and_true, Bool.false_and, Bool.and_false, beq_self_eq_true, bne_self_eq_false, m97_eq c _ hs]
      exact del' d3 hd3
    · simp only [Int.reduceEq, decide_true, decide_false, decide_true, decide_false, cond_true, cond_false, Option.bind_some, Bool.not_true, Bool.not_false, sumE, Bool.true_and, Bool.and_true, Bool.false_and, Bool.and_false, beq_self_eq_true, bne_self_eq_false, m97_eq c _ hs]
      exact del' d3 hd3
    · simp only [Int.reduceEq, decide_true, decide_false, decide_true, decide_false, cond_true, cond_false, Option.bind_some, Bool.not_true, Bool.not_false, sumE, Bool.true_and, Bool.and_true, Bool.false_and, Bool.and_false, beq_self_eq_true, bne_self_eq_false, m97_eq c _ hs]
      exact del' d3 hd3
    · simp only [Int.reduceEq, decide_true, decide_false, decide_true, decide_false, cond_true, cond_false, Option.bind_some, Bool.not_true, Bool.not_false, sumE, Bool.true_and, Bool.and_true, Bool.false_and, Bool.and_false, beq_self_eq_true, bne_self_eq_false, m109_eq c _ hs]
      exact ⟨_, rfl, _, d3, _, rfl, hd3, fun h0 => ⟨(cg_drop h h0).1, congrArg List.length (cg_drop h h0).2, KC.of_same (cg_drop h h0).2, fun T hT => up (tb_drop hT h0)⟩⟩
    · simp only [Int.reduceEq, decide_true, decide_false, decide_true, decide_false, cond_true, cond_false, Option.bind_some, Bool.not_true, Bool.not_false, sumE, Bool.true_and, Bool.and_true, Bool.false_and, Bool.and_false, beq_self_eq_true, bne_self_eq_false, m110_eq c _ hs]
      exact ⟨_, rfl, _, d3, _, rfl, hd3, fun h0 => ⟨(cg_double h h0).1, congrArg List.length (cg_double h h0).2, KC.of_same (cg_double h h0).2, fun T hT => up (tb_double hT h0)⟩⟩
    · simp only [Int.reduceEq, decide_true, decide_false, decide_true, decide_false, cond_true, cond_false, Option.bind_some, Bool.not_true, Bool.not_false, sumE, Bool.true_and, Bool.and_true, Bool.false_and, Bool.and_false, beq_self_eq_true, bne_self_eq_false, m111_eq c _ hs, m112_eq c _ hs, bne_decide, decide_not]
      by_cases hq : (crashC c i).1 = 0
      · simp only [hq, decide_true, decide_true, decide_false, cond_true, cond_false, Option.bind_some, Bool.not_true, Bool.not_false, sumE, Bool.true_and, Bool.and_true, Bool.false_and, Bool.and_false, beq_self_eq_true, bne_self_eq_false]
        exact ⟨_, rfl, _, d3, _, rfl, hd3, fun _ => ⟨(cg_crash h hq).1, congrArg List.length (cg_crash h hq).2, KC.of_same (cg_crash h hq).2, fun T hT => up (tb_crash hT hq)⟩⟩
      · simp only [hq, decide_false, decide_true, decide_false, cond_true, cond_false, Option.bind_some, Bool.not_true, Bool.not_false, sumE, Bool.true_and, Bool.and_true, Bool.false_and, Bool.and_false, beq_self_eq_true, bne_self_eq_false]
        exact ⟨_, rfl, _, d3, _, rfl, hd3, fun h0 => ⟨(cg_restart h h0).1, (cg_restart h h0).2, kc_restart h0, fun T hT => up (tb_restart hT h0)⟩⟩
    · obtain ⟨j, d4, e4, hd4, _, _⟩ := next_spec c.reps.length d3 hd3 (by omega)
      obtain ⟨h1, h2⟩ := m68_eq c hs
      simp only [Int.reduceEq, decide_true, decide_false, decide_true, decide_false, cond_true, cond_false, Option.bind_some, Bool.not_true, Bool.not_false, sumE, Bool.true_and, Bool.and_true, Bool.false_and, Bool.and_false, beq_self_eq_true, bne_self_eq_false]
      rw [show m20 (((c.1.length : Int), ()), ((d3, ()), ())) = _ from e4]
      simp only [decide_true, decide_false, cond_true, cond_false, Option.bind_some, Bool.not_true, Bool.not_false, sumE, Bool.true_and, Bool.and_true, Bool.false_and, Bool.and_false, beq_self_eq_true, bne_self_eq_false, m67_eq c _ _ hs, h1, bne_decide, decide_not]
      by_cases hq : (cutC c i j).1 = 0
      · simp only [hq, decide_true, decide_true, decide_false, cond_true, cond_false, Option.bind_some, Bool.not_true, Bool.not_false, sumE, Bool.true_and, Bool.and_true, Bool.false_and, Bool.and_false, beq_self_eq_true, bne_self_eq_false]
        exact ⟨_, rfl, _, d4, _, rfl, hd4, fun _ => ⟨(cg_cut h hq).1, congrArg List.length (cg_cut h hq).2, KC.of_same (cg_cut h hq).2, fun T hT => up (tb_cut hT hq)⟩⟩
      · simp only [hq, decide_false, decide_true, decide_false, cond_true, cond_false, Option.bind_some, Bool.not_true, Bool.not_false, sumE, Bool.true_and, Bool.and_true, Bool.false_and, Bool.and_false, beq_self_eq_true, bne_self_eq_false]
        refine ⟨_, rfl, 0, d4, (healC c), ?_, hd4, fun _ => ⟨(cg_heal h).1, congrArg List.length (cg_heal h).2.1, KC.of_same (cg_heal h).2.1, fun T hT => up (tb_heal h hT)⟩⟩
        rw [← h2]
  · rintro _ ⟨e, d2, x, rfl, hd2, hx⟩
    simp only [bne_decide]
    by_cases he : e = 0
    · simp only [he, ne_eq, not_true_eq_false, not_false_eq_true, eq_self, decide_true, decide_false, cond_true, cond_false, Option.bind_some, Bool.not_true, Bool.not_false, sumE, Bool.true_and, Bool.and_true, Bool.false_and, Bool.and_false, beq_self_eq_true, bne_self_eq_false]
      exact ⟨_, rfl, x, d2, rfl, (hx he).1, (hx he).2.1, hd2, (hx he).2.2.1, (hx he).2.2.2⟩
    · simp only [he, ne_eq, not_true_eq_false, not_false_eq_true, eq_self, decide_true, decide_false, cond_true, cond_false, Option.bind_some, Bool.not_true, Bool.not_false, sumE, Bool.true_and, Bool.and_true, Bool.false_and, Bool.and_false, beq_self_eq_true, bne_self_eq_false]
      exact ⟨_, rfl, c, d2, rfl, h, rfl, hd2, KC.refl c, fun T hT => hT.le (by omega)⟩

end Go.Proofs.Ytfbikpbejkgegaa

namespace Go.Proofs.Ytfbikpbejkgegaa
open Go Go.Abs Go.Raft
theorem sane34 : m60 ((), ()) = some ((true, ()), ()) := by kernel_rfl

theorem new34 {q : Int} (h1 : 1 ≤ q) (h5 : q ≤ 5) : m61 ((q, ()), ()) = some ((0, ()), (u2, ((newC q).reps, ((newC q).down, ())))) := by
  have hne : newE q = (0, newC q) := by
    unfold newE
    rw [if_neg (by rw [quorum_eq h1 h5]; omega)]
  have := (m61_eq q).1
  rw [hne] at this
  exact this

theorem start34 {q i : Int} (h1 : 1 ≤ q) (h5 : q ≤ 5) (i0 : 0 ≤ i) (i1 : i < q) : ∃ c' : CT, m62 ((((newC q).reps, ([], ((newC q).down, ([], ())))), (i, ())), ()) = some ((0, ()), oC c') ∧ CG c' ∧ c'.reps.length = q.toNat := by
  obtain ⟨hg, hl⟩ := cg_new h1 h5
  obtain ⟨s1, s2⟩ := stand_new h1 h5 i0 i1
  obtain ⟨e, c', e5, g1, _, g3⟩ := m62_ok hg i
  have he := g3 s1 s2
  subst he
  exact ⟨c', e5, (g1 rfl).1, by rw [(g1 rfl).2.1, hl]⟩

/-! ### What is agreed -/
theorem agL_spec : ∀ (l : List RT) (out : List OpT), (agL l out = out ∨ ∃ r ∈ l, agL l out = committed r) ∧ out.length ≤ (agL l out).length ∧ ∀ r ∈ l, (committed r).length ≤ (agL l out).length := by
  intro l
  induction l with
  | nil => intro out; exact ⟨.inl rfl, Nat.le_refl _, fun r hr => by cases hr⟩
  | cons x l ih =>
    intro out
    unfold agL
    obtain ⟨a, b, c⟩ := ih (if (committed x).length > out.length then committed x else out)
    refine ⟨?_, ?_, ?_⟩
    · rcases a with a | ⟨r, hr, a⟩
      · rw [a]
        split
        · exact .inr ⟨x, List.mem_cons_self .., rfl⟩
        · exact .inl rfl
      · exact .inr ⟨r, List.mem_cons_of_mem _ hr, a⟩
    · refine Nat.le_trans ?_ b
      split <;> omega
    · intro r hr
      rcases List.mem_cons.1 hr with rfl | hr
      · refine Nat.le_trans ?_ b
        split <;> omega
      · exact c r hr

theorem com_len {n : Int} {r : RT} (h : Chk n r) : (committed r).length = r.commit.toNat ∧ r.commit.toNat ≤ r.log.length := by
  have h1 := h.c0; have h2 := h.c1
  unfold committed
  rw [List.length_map, List.length_take]
  omega

theorem agreed_eq {c : CT} (h : CG c) : agreedC c = agL c.reps [] := by unfold agreedC; rw [if_pos (chkC_iff.2 h.v)]

theorem agreed_is {c : CT} (h : CG c) : agreedC c = [] ∨ ∃ (j : Nat) (r : RT), c.reps[j]? = some r ∧ agreedC c = committed r := by
  rw [agreed_eq h]
  rcases (agL_spec c.reps []).1 with a | ⟨r, hr, a⟩
  · exact .inl a
  · obtain ⟨j, hj⟩ := List.mem_iff_getElem?.1 hr
    exact .inr ⟨j, r, hj, a⟩

theorem agreed_len {c : CT} (h : CG c) : (agreedC c).length ≤ 256 := by
  rcases agreed_is h with a | ⟨j, r, hj, a⟩
  · rw [a]; exact Nat.zero_le _
  · have hC := (h.v.rp j r hj).2
    have := com_len hC
    have := hC.ll
    rw [a]; omega

end Go.Proofs.Ytfbikpbejkgegaa

namespace Go.Proofs.Ytfbikpbejkgegaa
open Go Go.Abs Go.Raft
/-- A log has a list of operations at its beginning. -/
def HasOps (b : RT) (out : List OpT) : Prop := out.length ≤ b.log.length ∧ ∀ (m : Nat) (o : OpT), out[m]? = some o → ∃ e, b.log[m]? = some e ∧ e.2.1 = o

theorem loop15c (out : List OpT) (hout : out.length ≤ 1000000) (r : RT) (c : CT) (reps : List RT) (x1 x2 x3 : Int) : ∀ (q k : Nat) (ok : Bool), k + q = out.length → (ok = true → out.length ≤ r.log.length) →
    ∃ ok' : Bool, loopT l15_0_21 (((k : Int), reps, x1, x2, x3, ok, ()), (out, ((r, ()), ((c, ()), ())))) = some ((reps, x1, x2, x3, ok', ()), (out, ((c, ()), ()))) ∧ (HasOps r out → ok = true → ok' = true) := by
  intro q
  induction q with
  | zero =>
    intro k ok hk _
    refine ⟨ok, loopT_inr ?_, fun _ h => h⟩
    have : ¬ (k : Int) < (out.length : Int) := by omega
    simp only [l15_0_21, decide_eq_false this, decide_true, decide_false, cond_true, cond_false, Option.bind_some, Bool.not_true, Bool.not_false, sumE, Bool.true_and, Bool.and_true, Bool.false_and, Bool.and_false, beq_self_eq_true, bne_self_eq_false]
  | succ q ih =>
    intro k ok hk hok
    have hlt : (k : Int) < (out.length : Int) := by omega
    cases ok
    · refine ⟨false, loopT_inr ?_, fun _ h => h⟩
      simp only [l15_0_21, decide_eq_true hlt, decide_true, decide_false, cond_true, cond_false, Option.bind_some, Bool.not_true, Bool.not_false, sumE, Bool.true_and, Bool.and_true, Bool.false_and, Bool.and_false, beq_self_eq_true, bne_self_eq_false]
    · have hlen := hok rfl
      obtain ⟨e, he⟩ := getD_some (l := r.log) (i := k) (by omega)
      obtain ⟨o, ho⟩ := getD_some (l := out) (i := k) (by omega)
      have b1 : decide ((0 : Int) ≤ (k : Int) ∧ (k : Int) < (out.length : Int)) = true := decide_eq_true (by omega)
      have key : ∃ y : Bool, l15_0_21 (((k : Int), reps, x1, x2, x3, true, ()), (out, ((r, ()), ((c, ()), ())))) = some (.inl (((((k + 1 : Nat) : Int), reps, x1, x2, x3, y, ()), (out, ((r, ()), ((c, ()), ())))))) ∧ (e.2.1 = o → y = true) := by
        simp only [l15_0_21, decide_eq_true hlt, decide_true, decide_false, cond_true, cond_false, Option.bind_some, Bool.not_true, Bool.not_false, sumE, Bool.true_and, Bool.and_true, Bool.false_and, Bool.and_false, beq_self_eq_true, bne_self_eq_false]
        rw [rowAt_G, rowG_nat he]
        simp only [b1, decide_true, decide_false, cond_true, cond_false, Option.bind_some, Bool.not_true, Bool.not_false, sumE, Bool.true_and, Bool.and_true, Bool.false_and, Bool.and_false, beq_self_eq_true, bne_self_eq_false, Int.toNat_natCast, ho, w64_nat (show k ≤ 4294967296 by omega)]
        refine ⟨_, rfl, fun h => ?_⟩
        subst h
        simp only [decide_true, decide_false, cond_true, cond_false, Option.bind_some, Bool.not_true, Bool.not_false, sumE, Bool.true_and, Bool.and_true, Bool.false_and, Bool.and_false, beq_self_eq_true, bne_self_eq_false]
      obtain ⟨y, e1, hy⟩ := key
      obtain ⟨ok', e2, h2⟩ := ih (k + 1) y (by omega) (fun _ => hlen)
      refine ⟨ok', by rw [← e2]; exact loopT_inl e1, fun hh _ => h2 hh (hy ?_)⟩
      obtain ⟨e', h3, h4⟩ := hh.2 k o ho
      rw [he] at h3; cases h3
      exact h4

theorem loop15b {c : CT} (h : CG c) {out : List OpT} (hout : out.length ≤ 1000000) {p : Nat → Bool} (hp : ∀ j, j < c.reps.length → p j = true → ∃ b, c.reps[j]? = some b ∧ HasOps b out) : ∀ (q j : Nat) (w : Nat), j + q = c.reps.length → w ≤ j → (List.range j).countP p ≤ w →
    ∃ w' : Nat, loopT l15_0_17 (((j : Int), (w : Int), c.reps, (c.reps.length : Int), ()), (out, ((c, ()), ()))) = some (((w' : Int), ()), ((c, ()), ())) ∧ (List.range c.reps.length).countP p ≤ w' := by
  have h5 := h.n5
  intro q
  induction q with
  | zero =>
    intro j w hj hw h1
    have : ¬ (j : Int) < (c.reps.length : Int) := by omega
    refine ⟨w, loopT_inr ?_, by rw [show c.reps.length = j by omega]; exact h1⟩
    simp only [l15_0_17, decide_eq_false this, decide_true, decide_false, cond_true, cond_false, Option.bind_some, Bool.not_true, Bool.not_false, sumE, Bool.true_and, Bool.and_true, Bool.false_and, Bool.and_false, beq_self_eq_true, bne_self_eq_false]
  | succ q ih =>
    intro j w hj hw h1
    obtain ⟨r, hr⟩ := getD_some (l := c.reps) (i := j) (by omega)
    have hlt : (j : Int) < (c.reps.length : Int) := by omega
    obtain ⟨ok, e1, k1⟩ := loop15c out hout r c c.reps (c.reps.length : Int) (j : Int) (w : Int) out.length 0 (decide ((r.log.length : Int) ≥ (out.length : Int))) (by omega) (fun hh => by have := of_decide_eq_true hh; omega)
    obtain ⟨w', e2, k2⟩ := ih (j + 1) (if ok then w + 1 else w) (by omega) (by split <;> omega) (by
      rw [List.range_succ, List.countP_append]
      simp only [List.countP_cons, List.countP_nil, Nat.zero_add]
      by_cases hpj : p j = true
      · obtain ⟨b, hb, hh⟩ := hp j (by omega) hpj
        rw [hr] at hb; cases hb
        have hok : ok = true := k1 hh (decide_eq_true (by have := hh.1; omega))
        rw [if_pos hpj, if_pos hok]; omega
      · rw [if_neg hpj]; split <;> omega)
    refine ⟨w', ?_, k2⟩
    rw [← e2]
    refine loopT_inl ?_
    simp only [l15_0_17, decide_eq_true hlt, decide_true, decide_false, cond_true, cond_false, Option.bind_some, Bool.not_true, Bool.not_false, sumE, Bool.true_and, Bool.and_true, Bool.false_and, Bool.and_false, beq_self_eq_true, bne_self_eq_false]
    rw [rowAt_G, rowG_nat hr]
    rw [show loopT l15_0_21 ((0, (c.reps, ((c.reps.length : Int), ((j : Int), ((w : Int), (decide ((r.2.2.2.2.1.length : Int) ≥ (out.length : Int)), ())))))), (out, ((r, ()), (((c.1, (c.2.1, (c.2.2.1, (c.2.2.2.1, ())))), ()), ())))) = _ from e1]
    cases ok
    · simp only [decide_true, decide_false, cond_true, cond_false, Option.bind_some, Bool.not_true, Bool.not_false, sumE, Bool.true_and, Bool.and_true, Bool.false_and, Bool.and_false, beq_self_eq_true, bne_self_eq_false, w64_nat (show j ≤ 4294967296 by omega), Bool.false_eq_true, if_false]
    · simp only [decide_true, decide_false, cond_true, cond_false, Option.bind_some, Bool.not_true, Bool.not_false, sumE, Bool.true_and, Bool.and_true, Bool.false_and, Bool.and_false, beq_self_eq_true, bne_self_eq_false, w64_nat (show j ≤ 4294967296 by omega), w64_nat (show w ≤ 4294967296 by omega), if_true]

theorem agreed_most {c : CT} (h : CG c) : Maj c.reps.length (fun j => ∃ b, c.reps[j]? = some b ∧ HasOps b (agreedC c)) := by
  rcases agreed_is h with a | ⟨i, r, hi, a⟩
  · rw [a]
    refine ⟨fun _ => true, fun j hj _ => ?_, by have := h.n1; simp; omega⟩
    exact ⟨_, List.getElem?_eq_getElem hj, Nat.zero_le _, fun m o ho => by simp at ho⟩
  · obtain ⟨g, hI, _⟩ := h.gd
    refine (hI.most hi).mono fun j hj hb => ?_
    obtain ⟨b, h1, h2, h3⟩ := hb
    refine ⟨b, h1, ?_⟩
    rw [a]
    have hC := (h.v.rp i r hi).2
    have hl := com_len hC
    refine ⟨by omega, fun m o ho => ?_⟩
    unfold committed at ho
    rw [← h2, List.getElem?_map, Option.map_eq_some_iff] at ho
    obtain ⟨e, he, rfl⟩ := ho
    rw [List.getElem?_take] at he
    split at he
    · exact ⟨e, he, rfl⟩
    · cases he

theorem loop15 : ∀ (q j : Nat) (c : CT) (d : Dice), j + q = 40 → CG c → DOK d → ∃ c' : CT, loopT l15_0_9 (((j : Int), ()), ((c, ()), ((d, ()), ()))) = some (.inr ((), ((c', ()), ()))) ∧ CG c' := by
  intro q
  induction q with
  | zero =>
    intro j c d hj h _
    refine ⟨c, loopT_inr ?_, h⟩
    have : ¬ (j : Int) < 40 := by omega
    simp only [l15_0_9, decide_eq_false this, decide_true, decide_false, cond_true, cond_false, Option.bind_some, Bool.not_true, Bool.not_false, sumE, Bool.true_and, Bool.and_true, Bool.false_and, Bool.and_false, beq_self_eq_true, bne_self_eq_false]
  | succ q ih =>
    intro j c d hj h hd
    have hlt : (j : Int) < 40 := by omega
    obtain ⟨b, e1, c1, d1, rfl, h1, _, hd1, _, _⟩ := m70_ok h hd
    obtain ⟨c', e2, h2⟩ := ih (j + 1) c1 d1 (by omega) h1 hd1
    refine ⟨c', ?_, h2⟩
    rw [← e2]
    refine loopT_inl ?_
    simp only [l15_0_9, decide_eq_true hlt, decide_true, decide_false, cond_true, cond_false, Option.bind_some, Bool.not_true, Bool.not_false, sumE, Bool.true_and, Bool.and_true, Bool.false_and, Bool.and_false, beq_self_eq_true, bne_self_eq_false, e1, m71_eq c1 h1.sh, chkC_iff.2 h1.v, w64_nat (show j ≤ 4294967296 by omega)]

theorem law15c (l : List Int) : m15 ((l, ()), ()) = some ((true, ()), ()) := by
  unfold m15
  simp only [light, Option.bind_some, sane34]
  by_cases hl : l.length ≤ 500
  · simp only [decide_eq_true hl, decide_true, decide_false, cond_true, cond_false, Option.bind_some, Bool.not_true, Bool.not_false, sumE, Bool.true_and, Bool.and_true, Bool.false_and, Bool.and_false, beq_self_eq_true, bne_self_eq_false, roll]
    obtain ⟨q, d1, e1, hd1, hq⟩ := one_spec [3, 5, 2] (l, 0, ()) (dok0 hl) (by simp) (by simp)
    have hq : 2 ≤ q ∧ q ≤ 5 := by simp at hq; omega
    obtain ⟨c0, e3, h0, _⟩ := start34 (q := q) (i := 0) (by omega) (by omega) (by omega) (by omega)
    obtain ⟨c, e2, h2⟩ := loop15 40 0 c0 d1 rfl h0 hd1
    obtain ⟨p, p1, p2⟩ := agreed_most h2
    have al := agreed_len h2
    obtain ⟨w, e4, h4⟩ := loop15b h2 (out := agreedC c) (by omega) p1 c.reps.length 0 0 (by omega) (Nat.le_refl _) (Nat.le_refl _)
    simp only [e1, decide_true, decide_false, cond_true, cond_false, Option.bind_some, Bool.not_true, Bool.not_false, sumE, Bool.true_and, Bool.and_true, Bool.false_and, Bool.and_false, beq_self_eq_true, bne_self_eq_false, new34 (show 1 ≤ q by omega) hq.2, e3]
    rw [show loopT l15_0_9 ((0, ()), (((c0.1, (c0.2.1, (c0.2.2.1, (c0.2.2.2.1, ())))), ()), ((d1, ()), ()))) = _ from e2]
    simp only [decide_true, decide_false, cond_true, cond_false, Option.bind_some, Bool.not_true, Bool.not_false, sumE, Bool.true_and, Bool.and_true, Bool.false_and, Bool.and_false, beq_self_eq_true, bne_self_eq_false, m66_eq c h2.sh]
    rw [show loopT l15_0_17 ((0, (0, (c.1, ((c.1.length : Int), ())))), (agreedC c, ((c, ()), ()))) = _ from e4]
    have n1 := h2.n1; have n5 := h2.n5
    have hq2 : decide ((w : Int) ≥ quorum (c.reps.length : Int)) = true := decide_eq_true (by rw [quorum_eq (by omega) (by omega)]; omega)
    simp only [decide_true, decide_false, cond_true, cond_false, Option.bind_some, Bool.not_true, Bool.not_false, sumE, Bool.true_and, Bool.and_true, Bool.false_and, Bool.and_false, beq_self_eq_true, bne_self_eq_false, m29_eq]
    rw [show decide ((w : Int) ≥ quorum (c.1.length : Int)) = true from hq2]
    simp only [decide_true, decide_false, cond_true, cond_false, Option.bind_some, Bool.not_true, Bool.not_false, sumE, Bool.true_and, Bool.and_true, Bool.false_and, Bool.and_false, beq_self_eq_true, bne_self_eq_false]
  · simp only [decide_eq_false hl, decide_true, decide_false, cond_true, cond_false, Option.bind_some, Bool.not_true, Bool.not_false, sumE, Bool.true_and, Bool.and_true, Bool.false_and, Bool.and_false, beq_self_eq_true, bne_self_eq_false]

theorem law15 : ∀ x, Abs.InRs [.row (.int .i64)] x → m15 (x, ()) = some ((true, ()), ()) := fun x _ => law15c x.1

end Go.Proofs.Ytfbikpbejkgegaa
