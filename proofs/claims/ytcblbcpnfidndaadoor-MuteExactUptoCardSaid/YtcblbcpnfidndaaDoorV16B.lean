/- Lemmas for the statement of the last text of this claim. -/
import Derived.Test.YtcblbcpnfidndaaDoorChecked
import Derived.Shelf.Strings.OnBuilder
import Derived.Shelf.Strings.IndexAnyAll
import Derived.Shelf.Strings.Search1
import Derived.ProofKit
import Derived.Test.YtcblbcpnfidndaaDoorPxO
import Derived.WalkKit
import Derived.BigCall
import Derived.Test.YtcblbcpnfidndaaDoorPlD
import Derived.Deep.RegionLaw
import Derived.Deep.LoopGhost
import Derived.Lib.Walk
import Derived.Maps.Own
import Derived.Shelf.RegionOpenPlain
import Derived.Lib.LazyBuf
import Derived.Test.YtcblbcpnfidndaaDoorPxP
import Derived.Test.YtcblbcpnfidndaaDoorV16A
set_option linter.unusedSimpArgs false
set_option linter.unusedVariables false
namespace Go.Proofs.YtcblbcpnfidndaaDoor
open Go Go.Abs Go.Lab
abbrev RuT : Type := List MT × List MT × List ByteArray × Unit

abbrev big : Nat := 9223372036854775807

/-- Whether two lists of labels have different values for one of some keys. -/
def diffK (a b : List LT) (ks : List ByteArray) : Bool := ks.any fun k => !decide (getL a k = getL b k)

theorem loop114 (a b : List LT) (ha : a.length ≤ big) (hb : b.length ≤ big) (ks : List ByteArray) (hk : ks.length ≤ big) : ∀ (k i : Nat), i + k = ks.length →
    ∃ j : Nat, loopT l114_2_2 (((i : Int), ks, (ks.length : Int), ()), ((a, ()), ((b, ()), ()))) = some (if diffK a b (ks.drop i) then .inl (((j : Int), ()), ((a, ()), ((b, ()), ()))) else .inr ((), ((a, ()), ((b, ()), ())))) := by
  intro k
  induction k with
  | zero =>
    intro i h
    refine ⟨0, ?_⟩
    rw [List.drop_eq_nil_of_le (by omega)]
    refine loopT_inr ?_
    have : decide ((i : Int) < (ks.length : Int)) = false := decide_eq_false (by omega)
    simp only [l114_2_2, this, sumE, sS]
    rfl
  | succ k ih =>
    intro i h
    obtain ⟨e, he, hd⟩ := drop_at (l := ks) (i := i) (by omega)
    have hlt : decide ((i : Int) < (ks.length : Int)) = true := decide_eq_true (by omega)
    have hw : w64 ((i : Int) + 1) = ((i + 1 : Nat) : Int) := w64_nat (by unfold big at hk; omega)
    have q1 := m38_eq a e ha
    have q2 := m38_eq b e hb
    rw [hd, show diffK a b (e :: ks.drop (i + 1)) = ((!decide (getL a e = getL b e)) || diffK a b (ks.drop (i + 1))) from List.any_cons]
    cases hq : decide (getL a e = getL b e)
    · refine ⟨i, loopT_inr ?_⟩
      simp only [l114_2_2, rowAt_G, rowG_nat he, hlt, q1, q2, toList_bl, beq_bl, hq, sumE, sS]
      rfl
    · obtain ⟨j, hj⟩ := ih (i + 1) (by omega)
      refine ⟨j, ?_⟩
      rw [Bool.not_true, Bool.false_or, ← hj]
      refine loopT_inl ?_
      simp only [l114_2_2, rowAt_G, rowG_nat he, hlt, q1, q2, toList_bl, beq_bl, hq, sumE, sS, hw]

theorem m114_eq (a b : List LT) (ha : a.length ≤ big) (hb : b.length ≤ big) (ks : List ByteArray) (hk : ks.length ≤ big) : m114 ((a, b, ks, ()), ()) = some ((!diffK a b ks, ()), ()) := by
  obtain ⟨j, h⟩ := loop114 a b ha hb ks hk ks.length 0 (by omega)
  rw [List.drop_zero] at h
  unfold m114
  rw [show loopT l114_2_2 ((0, ks, (ks.length : Int), ()), ((a, ()), ((b, ()), ()))) = _ from h]
  cases diffK a b ks
  · simp only [sumE, sS, Bool.false_eq_true, if_false]
  · simp only [sumE, sS, if_true, decide_eq_true (show (j : Int) ≥ 0 by omega)]

theorem loop121 (a b : List LT) (ha : a.length ≤ big) (hb : b.length ≤ big) (ks : List ByteArray) (hk : ks.length ≤ big) : ∀ (k i : Nat), i + k = ks.length →
    loopT l121_0_2 (((i : Int), ks, b, a, ()), ()) = some (if diffK a b (ks.drop i) then .inl ((false, ()), ()) else .inr ((), ())) := by
  intro k
  induction k with
  | zero =>
    intro i h
    rw [List.drop_eq_nil_of_le (by omega)]
    refine loopT_inr ?_
    have : decide ((i : Int) < (ks.length : Int)) = false := decide_eq_false (by omega)
    simp only [l121_0_2, this, sumE, sS]
    rfl
  | succ k ih =>
    intro i h
    obtain ⟨e, he, hd⟩ := drop_at (l := ks) (i := i) (by omega)
    have hlt : decide ((i : Int) < (ks.length : Int)) = true := decide_eq_true (by omega)
    have hw : w64 ((i : Int) + 1) = ((i + 1 : Nat) : Int) := w64_nat (by unfold big at hk; omega)
    have q1 := m44_eq a e ha
    have q2 := m44_eq b e hb
    rw [hd, show diffK a b (e :: ks.drop (i + 1)) = ((!decide (getL a e = getL b e)) || diffK a b (ks.drop (i + 1))) from List.any_cons]
    cases hq : decide (getL a e = getL b e)
    · refine loopT_inr ?_
      simp only [l121_0_2, rowAt_G, rowG_nat he, hlt, q1, q2, toList_bl, beq_bl, hq, sumE, sS]
      rfl
    · rw [Bool.not_true, Bool.false_or, ← ih (i + 1) (by omega)]
      refine loopT_inl ?_
      simp only [l121_0_2, rowAt_G, rowG_nat he, hlt, q1, q2, toList_bl, beq_bl, hq, sumE, sS, hw]

theorem m121_eq (a b : List LT) (ha : a.length ≤ big) (hb : b.length ≤ big) (ks : List ByteArray) (hk : ks.length ≤ big) : m121 ((ks, a, b, ()), ()) = some ((!diffK a b ks, ()), ()) := by
  have h := loop121 a b ha hb ks hk ks.length 0 (by omega)
  rw [List.drop_zero] at h
  unfold m121
  refine bind_of _ h ?_
  cases diffK a b ks <;> rfl

/-- The sizes of a rule, of alerts. -/
def RSz (r : RuT) : Prop := PSs r.1 ∧ PSs r.2.1 ∧ r.2.2.1.length ≤ big

def RSs (l : List RuT) : Prop := l.length ≤ big ∧ ∀ r ∈ l, RSz r

def FSs (f : List (List LT)) : Prop := f.length ≤ big ∧ ∀ l ∈ f, LSz l

def hitF (r : RuT) (x f : List LT) : Bool := allM r.1 f && (!allM r.2.1 f && !diffK x f r.2.2.1)

def hitR (x : List LT) (fs : List (List LT)) (r : RuT) : Bool := allM r.2.1 x && fs.any (hitF r x)

/-- Whether labels are inhibited. -/
def inhib (l : List RuT) (x : List LT) (fs : List (List LT)) : Bool := l.any (hitR x fs)

theorem loop68a (r : RuT) (hr : RSz r) (x : List LT) (hx : LSz x) (fs : List (List LT)) (hf : FSs fs) (l : List RuT) (n o : Int) : ∀ (k i : Nat), i + k = fs.length →
    loopT l68_0_6 (((i : Int), x, fs, fs, l, n, o, (fs.length : Int), ()), ((r, ()), ())) = some (if (fs.drop i).any (hitF r x) then .inl ((true, ()), ()) else .inr ((x, fs, l, n, o, ()), ())) := by
  intro k
  induction k with
  | zero =>
    intro i h
    rw [List.drop_eq_nil_of_le (by omega)]
    refine loopT_inr ?_
    have : decide ((i : Int) < (fs.length : Int)) = false := decide_eq_false (by omega)
    simp only [l68_0_6, this, sumE, sS]
    rfl
  | succ k ih =>
    intro i h
    obtain ⟨e, he, hd⟩ := drop_at (l := fs) (i := i) (by omega)
    have hlt : decide ((i : Int) < (fs.length : Int)) = true := decide_eq_true (by omega)
    have hlen := hf.1
    have hw : w64 ((i : Int) + 1) = ((i + 1 : Nat) : Int) := w64_nat (by unfold big at hlen; omega)
    have hze := hf.2 e (List.mem_of_getElem? he)
    have q1 := m30_eq r.1 e hr.1 hze
    have q2 := m30_eq r.2.1 e hr.2.1 hze
    have q3 := m114_eq x e hx.1 hze.1 r.2.2.1 hr.2.2
    rw [hd, List.any_cons]
    have go : ∀ b, hitF r x e = b → l68_0_6 (((i : Int), x, fs, fs, l, n, o, (fs.length : Int), ()), ((r, ()), ())) = (if b then some (.inr (.inl ((true, ()), ()))) else some (.inl ((((i + 1 : Nat) : Int), x, fs, fs, l, n, o, (fs.length : Int), ()), ((r, ()), ())))) := by
      intro b hb
      unfold hitF at hb
      subst hb
      simp only [l68_0_6, rowAt_G, rowG_nat he, hlt, q1, q2, q3, sumE, sS]
      cases allM r.1 e <;> cases allM r.2.1 e <;> cases diffK x e r.2.2.1 <;> simp only [sumE, sS, hw] <;> rfl
    cases hq : hitF r x e
    · rw [Bool.false_or, ← ih (i + 1) (by omega)]
      exact loopT_inl (go false hq)
    · exact loopT_inr (go true hq)

theorem loop68b (l : List RuT) (hl : RSs l) (x : List LT) (hx : LSz x) (fs : List (List LT)) (hf : FSs fs) : ∀ (k i : Nat), i + k = l.length →
    loopT l68_0_2 (((i : Int), x, fs, l, (l.length : Int), ()), ()) = some (if (l.drop i).any (hitR x fs) then .inl ((true, ()), ()) else .inr ((), ())) := by
  intro k
  induction k with
  | zero =>
    intro i h
    rw [List.drop_eq_nil_of_le (by omega)]
    refine loopT_inr ?_
    have : decide ((i : Int) < (l.length : Int)) = false := decide_eq_false (by omega)
    simp only [l68_0_2, this, sumE, sS]
    rfl
  | succ k ih =>
    intro i h
    obtain ⟨e, he, hd⟩ := drop_at (l := l) (i := i) (by omega)
    have hlt : decide ((i : Int) < (l.length : Int)) = true := decide_eq_true (by omega)
    have hlen := hl.1
    have hw : w64 ((i : Int) + 1) = ((i + 1 : Nat) : Int) := w64_nat (by unfold big at hlen; omega)
    have hze := hl.2 e (List.mem_of_getElem? he)
    have q1 := m30_eq e.2.1 x hze.2.1 hx
    have q2 := loop68a e hze x hx fs hf l (l.length : Int) (i : Int) fs.length 0 (by omega)
    rw [List.drop_zero] at q2
    rw [hd, List.any_cons]
    have go : ∀ b, hitR x fs e = b → l68_0_2 (((i : Int), x, fs, l, (l.length : Int), ()), ()) = (if b then some (.inr (.inl ((true, ()), ()))) else some (.inl ((((i + 1 : Nat) : Int), x, fs, l, (l.length : Int), ()), ()))) := by
      intro b hb
      unfold hitR at hb
      subst hb
      simp only [l68_0_2, rowAt_G, rowG_nat he, hlt, q1, sumE, sS]
      cases allM e.2.1 x
      · simp only [sumE, sS, hw]
        rfl
      · simp only [sumE, sS]
        rw [show loopT l68_0_6 ((0, x, fs, fs, l, (l.length : Int), (i : Int), (fs.length : Int), ()), ((e, ()), ())) = _ from q2]
        cases fs.any (hitF e x)
        · simp only [Bool.false_eq_true, if_false, sumE, sS, hw]
        · simp only [if_true, sumE, sS]
    cases hq : hitR x fs e
    · rw [Bool.false_or, ← ih (i + 1) (by omega)]
      exact loopT_inl (go false hq)
    · exact loopT_inr (go true hq)

theorem m68_eq (l : List RuT) (hl : RSs l) (x : List LT) (hx : LSz x) (fs : List (List LT)) (hf : FSs fs) : m68 ((l, x, fs, ()), ()) = some ((inhib l x fs, ()), ()) := by
  have h := loop68b l hl x hx fs hf l.length 0 (by omega)
  rw [List.drop_zero] at h
  unfold m68
  refine bind_of _ h ?_
  unfold inhib
  cases l.any (hitR x fs) <;> rfl

theorem loop76a (r : RuT) (hr : RSz r) (x : List LT) (hx : LSz x) (fs : List (List LT)) (hf : FSs fs) (l : List RuT) (o : Nat) (ho : l[o]? = some r) : ∀ (k i : Nat), i + k = fs.length →
    loopT l76_0_6 (((i : Int), fs, x, (o : Int), l, ()), ()) = some (if (fs.drop i).any (hitF r x) then .inl ((true, ()), ()) else .inr ((fs, x, l, (o : Int), ()), ())) := by
  intro k
  induction k with
  | zero =>
    intro i h
    rw [List.drop_eq_nil_of_le (by omega)]
    refine loopT_inr ?_
    have : decide ((i : Int) < (fs.length : Int)) = false := decide_eq_false (by omega)
    simp only [l76_0_6, this, sumE, sS]
    rfl
  | succ k ih =>
    intro i h
    obtain ⟨e, he, hd⟩ := drop_at (l := fs) (i := i) (by omega)
    have hlt : decide ((i : Int) < (fs.length : Int)) = true := decide_eq_true (by omega)
    have hlen := hf.1
    have hw : w64 ((i : Int) + 1) = ((i + 1 : Nat) : Int) := w64_nat (by unfold big at hlen; omega)
    have hze := hf.2 e (List.mem_of_getElem? he)
    have q1 := m31_eq r.1 e hr.1 hze
    have q2 := m31_eq r.2.1 e hr.2.1 hze
    have q3 := m121_eq x e hx.1 hze.1 r.2.2.1 hr.2.2
    rw [hd, List.any_cons]
    have go : ∀ b, hitF r x e = b → l76_0_6 (((i : Int), fs, x, (o : Int), l, ()), ()) = (if b then some (.inr (.inl ((true, ()), ()))) else some (.inl ((((i + 1 : Nat) : Int), fs, x, (o : Int), l, ()), ()))) := by
      intro b hb
      unfold hitF at hb
      subst hb
      simp only [l76_0_6, rowAt_G, rowG_nat he, rowG_nat ho, hlt, q1, q2, q3, sumE, sS]
      cases allM r.1 e <;> cases allM r.2.1 e <;> cases diffK x e r.2.2.1 <;> simp only [sumE, sS, hw] <;> rfl
    cases hq : hitF r x e
    · rw [Bool.false_or, ← ih (i + 1) (by omega)]
      exact loopT_inl (go false hq)
    · exact loopT_inr (go true hq)

theorem loop76b (l : List RuT) (hl : RSs l) (x : List LT) (hx : LSz x) (fs : List (List LT)) (hf : FSs fs) : ∀ (k i : Nat), i + k = l.length →
    loopT l76_0_2 (((i : Int), fs, x, l, ()), ()) = some (if (l.drop i).any (hitR x fs) then .inl ((true, ()), ()) else .inr ((), ())) := by
  intro k
  induction k with
  | zero =>
    intro i h
    rw [List.drop_eq_nil_of_le (by omega)]
    refine loopT_inr ?_
    have : decide ((i : Int) < (l.length : Int)) = false := decide_eq_false (by omega)
    simp only [l76_0_2, this, sumE, sS]
    rfl
  | succ k ih =>
    intro i h
    obtain ⟨e, he, hd⟩ := drop_at (l := l) (i := i) (by omega)
    have hlt : decide ((i : Int) < (l.length : Int)) = true := decide_eq_true (by omega)
    have hlen := hl.1
    have hw : w64 ((i : Int) + 1) = ((i + 1 : Nat) : Int) := w64_nat (by unfold big at hlen; omega)
    have hze := hl.2 e (List.mem_of_getElem? he)
    have q1 := m31_eq e.2.1 x hze.2.1 hx
    have q2 := loop76a e hze x hx fs hf l i he fs.length 0 (by omega)
    rw [List.drop_zero] at q2
    rw [hd, List.any_cons]
    have go : ∀ b, hitR x fs e = b → l76_0_2 (((i : Int), fs, x, l, ()), ()) = (if b then some (.inr (.inl ((true, ()), ()))) else some (.inl ((((i + 1 : Nat) : Int), fs, x, l, ()), ()))) := by
      intro b hb
      unfold hitR at hb
      subst hb
      simp only [l76_0_2, rowAt_G, rowG_nat he, hlt, q1, sumE, sS]
      cases allM e.2.1 x
      · simp only [sumE, sS, hw]
        rfl
      · simp only [sumE, sS]
        rw [show loopT l76_0_6 ((0, fs, x, (i : Int), l, ()), ()) = _ from q2]
        cases fs.any (hitF e x)
        · simp only [Bool.false_eq_true, if_false, sumE, sS, hw]
        · simp only [if_true, sumE, sS]
    cases hq : hitR x fs e
    · rw [Bool.false_or, ← ih (i + 1) (by omega)]
      exact loopT_inl (go false hq)
    · exact loopT_inr (go true hq)

theorem m76_eq (l : List RuT) (hl : RSs l) (x : List LT) (hx : LSz x) (fs : List (List LT)) (hf : FSs fs) : m76 ((l, x, fs, ()), ()) = some ((inhib l x fs, ()), ()) := by
  have h := loop76b l hl x hx fs hf l.length 0 (by omega)
  rw [List.drop_zero] at h
  unfold m76
  refine bind_of _ h ?_
  unfold inhib
  cases l.any (hitR x fs) <;> rfl

/-! ### The dice's rules -/
def GoodR (r : RuT) : Prop := r.1.length ≤ 8 ∧ r.2.1.length ≤ 8 ∧ (∀ m ∈ r.1, GoodM m) ∧ (∀ m ∈ r.2.1, GoodM m) ∧ r.2.2.1.Sublist keys4 ∧ r.1 ≠ [] ∧ r.2.1 ≠ []

theorem GoodR.z {r : RuT} (h : GoodR r) : RSz r := by
  obtain ⟨h1, h2, h3, h4, h5, _⟩ := h
  refine ⟨⟨by omega, fun m hm => (h3 m hm).p⟩, ⟨by omega, fun m hm => (h4 m hm).p⟩, ?_⟩
  have := h5.length_le
  rw [show keys4.length = 4 from rfl] at this
  unfold big; omega

theorem sevcrit : GoodM ((bs [115, 101, 118]), (0, ((bs [99, 114, 105, 116]), ()))) := by
  unfold GoodM; decide +kernel

theorem inh_loop : ∀ (n : Nat) (i : Int) (d : Dice) (l : List RuT), DOK d → i = n → l.length + n ≤ 1000 → (∀ r ∈ l, GoodR r) →
    ∃ (l' : List RuT) (d' : Dice), loopT l67_0_3 ((i, ()), ((d, ()), (l, ()))) = some ((), ((d', ()), (l', ()))) ∧ DOK d' ∧ l'.length = l.length + n ∧ ∀ r ∈ l', GoodR r := by
  intro n
  induction n with
  | zero =>
    intro i d l hd hi hl hg
    refine ⟨l, d, loopT_inr ?_, hd, rfl, hg⟩
    have : decide (i > 0) = false := decide_eq_false (by omega)
    simp only [l67_0_3, this, sumE, sS]
  | succ n ih =>
    intro i d l hd hi hl hg
    obtain ⟨s, d1, e1, hd1, hs, hsg⟩ := matchers_spec 1 d hd (by omega) (by omega)
    obtain ⟨t, d2, e2, hd2, ht, htg⟩ := matchers_spec 1 d1 hd1 (by omega) (by omega)
    obtain ⟨m, d3, e3, hd3, hm⟩ := matcher_spec d2 hd2
    obtain ⟨ks, d4, e4, hd4, hk⟩ := keysD_spec d3 hd3
    have h0 : decide (i > 0) = true := decide_eq_true (by omega)
    have b1 : decide (s.length + ([((bs [115, 101, 118]), (0, ((bs [99, 114, 105, 116]), ())))] : List Y12).length ≤ 4294967296) = true := decide_eq_true (by simp; omega)
    have b2 : decide (t.length + ([m] : List Y12).length ≤ 4294967296) = true := decide_eq_true (by simp; omega)
    have b3 : ∀ r : RuT, decide (l.length + ([r] : List Y14).length ≤ 4294967296) = true := fun r => decide_eq_true (by simp; omega)
    obtain ⟨l', d', e5, hd', hl', hg'⟩ := ih (i - 1) d4 (l ++ [(s ++ [((bs [115, 101, 118]), (0, ((bs [99, 114, 105, 116]), ())))], (t ++ [m], (ks, ())))]) hd4 (by omega) (by simp; omega) (fun x hx => by
      rcases List.mem_append.1 hx with h | h
      · exact hg x h
      · simp only [List.mem_singleton] at h
        subst h
        refine ⟨by simp; omega, by simp; omega, fun y hy => ?_, fun y hy => ?_, hk, by simp, by simp⟩
        · rcases List.mem_append.1 hy with h | h
          · exact hsg y h
          · simp only [List.mem_singleton] at h; subst h; exact sevcrit
        · rcases List.mem_append.1 hy with h | h
          · exact htg y h
          · simp only [List.mem_singleton] at h; subst h; exact hm)
    refine ⟨l', d', ?_, hd', by rw [hl']; simp; omega, hg'⟩
    rw [← e5]
    refine loopT_inl ?_
    simp only [l67_0_3, h0, e1, e2, e3, e4, sumE, sS, b1, b2, b3, w64_id (x := i - 1) (by omega) (by omega)]

theorem inh_spec (d : Dice) (hd : DOK d) : ∃ (l : List RuT) (d' : Dice), m67 ((), ((d, ()), ())) = some ((), ((d', ()), (l, ()))) ∧ DOK d' ∧ l.length ≤ 3 ∧ ∀ r ∈ l, GoodR r := by
  obtain ⟨a, d1, e1, hd1, b1, _⟩ := next_spec 3 d hd (by omega)
  have b1 := b1 (by omega)
  obtain ⟨l', d', e2, hd', hl', hg'⟩ := inh_loop a.toNat a d1 [] hd1 (by omega) (by simp; omega) (fun m hm => by cases hm)
  refine ⟨l', d', ?_, hd', by rw [hl']; simp; omega, hg'⟩
  unfold m67
  simp only [e1, Option.bind_some, e2]

end Go.Proofs.YtcblbcpnfidndaaDoor

namespace Go.Proofs.YtcblbcpnfidndaaDoor
open Go Go.Abs Go.Lab
/-! ### Loops over a row -/
def runL {S E B : Type} (step : Nat → S → E → S ⊕ B) (fin : S → B) : Nat → List E → S → B
  | _, [], s => fin s
  | i, e :: r, s => match step i s e with
    | .inl s' => runL step fin (i + 1) r s'
    | .inr b => b

theorem loop_list {A B S E : Type} {f : A → Option (A ⊕ B)} (l : List E) (st : Nat → S → A) (step : Nat → S → E → S ⊕ B) (fin : S → B) (I : Nat → S → Prop)
    (h1 : ∀ i e s, l[i]? = some e → i < l.length → I i s → f (st i s) = some (match step i s e with | .inl s' => .inl (st (i + 1) s') | .inr b => .inr b))
    (hI : ∀ i e s s', l[i]? = some e → I i s → step i s e = .inl s' → I (i + 1) s')
    (h2 : ∀ s, I l.length s → f (st l.length s) = some (.inr (fin s))) :
    ∀ (k i : Nat) (s : S), i + k = l.length → I i s → loopT f (st i s) = some (runL step fin i (l.drop i) s) := by
  intro k
  induction k with
  | zero =>
    intro i s h hi
    obtain rfl : i = l.length := by omega
    rw [List.drop_length]
    exact loopT_inr (h2 s hi)
  | succ k ih =>
    intro i s h hi
    obtain ⟨e, he, hd⟩ := drop_at (l := l) (i := i) (by omega)
    have q := h1 i e s he (by omega) hi
    rw [hd]
    unfold runL
    cases hs : step i s e with
    | inl s' =>
      rw [hs] at q
      simp only
      rw [← ih (i + 1) s' (by omega) (hI i e s s' he hi hs)]
      exact loopT_inl q
    | inr b =>
      rw [hs] at q
      exact loopT_inr q

theorem loop_list0 {A B S E : Type} {f : A → Option (A ⊕ B)} (l : List E) (st : Nat → S → A) (step : Nat → S → E → S ⊕ B) (fin : S → B)
    (h1 : ∀ i e s, l[i]? = some e → i < l.length → f (st i s) = some (match step i s e with | .inl s' => .inl (st (i + 1) s') | .inr b => .inr b))
    (h2 : ∀ s, f (st l.length s) = some (.inr (fin s))) (s : S) : loopT f (st 0 s) = some (runL step fin 0 l s) := by
  have := loop_list l st step fin (fun _ _ => True) (fun i e s he hl _ => h1 i e s he hl) (fun _ _ _ _ _ _ _ => trivial) (fun s _ => h2 s) l.length 0 s (by omega) trivial
  rwa [List.drop_zero] at this

theorem runL_fold {S E B : Type} (g : S → E → S) (fin : S → B) : ∀ (l : List E) (i : Nat) (s : S), runL (fun _ s e => .inl (g s e)) fin i l s = fin (l.foldl g s) := by
  intro l
  induction l with
  | nil => intro i s; rfl
  | cons e r ih => intro i s; exact ih (i + 1) (g s e)

/-- A loop that goes through the whole row. -/
theorem loop_thru {A B E : Type} {f : A → Option (A ⊕ B)} (l : List E) (st : Nat → A) (fin : B)
    (h1 : ∀ i e, l[i]? = some e → i < l.length → f (st i) = some (.inl (st (i + 1)))) (h2 : f (st l.length) = some (.inr fin)) : loopT f (st 0) = some fin := by
  have := loop_list0 (S := Unit) l (fun i _ => st i) (fun _ _ _ => .inl ()) (fun _ => fin) (fun i e _ he hi => h1 i e he hi) (fun _ => h2) ()
  exact this.trans (congrArg some (runL_fold (fun _ _ => ()) (fun _ => fin) l 0 ()))

/-- A loop of a known number of rounds. -/
theorem loop_ind {A B : Type} {f : A → Option (A ⊕ B)} {Q : B → Prop} (I : Nat → A → Prop) (n : Nat)
    (h1 : ∀ i a, i < n → I i a → ∃ a', f a = some (.inl a') ∧ I (i + 1) a') (h2 : ∀ a, I n a → ∃ b, f a = some (.inr b) ∧ Q b) : ∀ a, I 0 a → ∃ b, loopT f a = some b ∧ Q b := by
  have : ∀ (k i : Nat) a, i + k = n → I i a → ∃ b, loopT f a = some b ∧ Q b := by
    intro k
    induction k with
    | zero =>
      intro i a h hi
      obtain rfl : i = n := by omega
      obtain ⟨b, h, hq⟩ := h2 a hi
      exact ⟨b, loopT_inr h, hq⟩
    | succ k ih =>
      intro i a h hi
      obtain ⟨a', h, hi'⟩ := h1 i a (by omega) hi
      obtain ⟨b, hb, hq⟩ := ih (i + 1) a' (by omega) hi'
      exact ⟨b, by rw [← hb]; exact loopT_inl h, hq⟩
  exact fun a h => this n 0 a (by omega) h

theorem lt_t {i n : Nat} (h : i < n) : decide ((i : Int) < (n : Int)) = true := decide_eq_true (by omega)

theorem lt_f (n : Nat) : decide ((n : Int) < (n : Int)) = false := decide_eq_false (by omega)

/-! ### Silences -/
abbrev SiT : Type := Int × Int × Int × Int × List MT × Unit

def SSz (s : SiT) : Prop := s.2.2.2.2.1.length ≤ 4294967296 ∧ ∀ m ∈ s.2.2.2.2.1, PSz m ∧ MSz m

def SSs (l : List SiT) : Prop := l.length ≤ 1000 ∧ ∀ s ∈ l, SSz s

theorem SSz.p {s : SiT} (h : SSz s) : PSs s.2.2.2.2.1 := ⟨by have := h.1; omega, fun m hm => (h.2 m hm).1⟩

theorem SSs.at {l : List SiT} (h : SSs l) {i : Nat} {e : SiT} (he : l[i]? = some e) : SSz e := h.2 e (List.mem_of_getElem? he)

def hitS (x : List LT) (t : Int) (s : SiT) : Bool := decide (s.2.1 ≤ t) && (decide (t < s.2.2.1) && allM s.2.2.2.2.1 x)

def stepS (x : List LT) (t : Int) (a : Int × Bool) (s : SiT) : Int × Bool := bif hitS x t s && (!a.2 || decide (s.1 < a.1)) then (s.1, true) else a

/-- Which silence silences. -/
def silE (x : List LT) (t : Int) (l : List SiT) : Int × Bool := l.foldl (stepS x t) (0, false)

theorem m64_eq (l : List SiT) (hl : SSs l) (x : List LT) (hx : LSz x) (t : Int) : m64 ((l, x, t, ()), ()) = some (((silE x t l).1, (silE x t l).2, ()), ()) := by
  have h := loop_list0 (f := l64_0_2) l (fun i (a : Int × Bool) => (((i : Int), a.1, a.2, x, t, l, (l.length : Int), ()), ())) (fun _ a e => .inl (stepS x t a e)) (fun a => ((a.2, a.1, ()), ())) ?_ ?_ (0, false)
  · rw [runL_fold] at h
    unfold m64
    exact bind_of _ h rfl
  · intro i e ⟨a1, a2⟩ he hi
    have hl1 := hl.1
    have q := m30_eq e.2.2.2.2.1 x (hl.at he).p hx
    have hw : w64 ((i : Int) + 1) = ((i + 1 : Nat) : Int) := w64_nat (by omega)
    unfold stepS hitS
    simp only [l64_0_2, rowAt_G, rowG_nat he, lt_t hi, q, sumE, sS]
    cases decide (e.2.1 ≤ t) <;> cases decide (t < e.2.2.1) <;> cases allM e.2.2.2.2.1 x <;> cases a2 <;> cases decide (e.1 < a1) <;> simp only [sumE, sS, hw, Bool.not_true, Bool.not_false, Bool.or_true, Bool.true_or, Bool.or_false, Bool.false_or]
  · intro a
    simp only [l64_0_2, lt_f, sumE, sS]

theorem m81_eq (l : List SiT) (hl : SSs l) (x : List LT) (hx : LSz x) (t : Int) : m81 ((l, x, t, ()), ()) = some (((silE x t l).1, (silE x t l).2, ()), ()) := by
  have h := loop_list0 (f := l81_0_3) l (fun i (a : Int × Bool) => (((i : Int), a.1, a.2, x, t, l, ()), ())) (fun _ a e => .inl (stepS x t a e)) (fun a => ((a.2, a.1, ()), ())) ?_ ?_ (0, false)
  · rw [runL_fold] at h
    unfold m81
    exact bind_of _ h rfl
  · intro i e ⟨a1, a2⟩ he hi
    have hl1 := hl.1
    have q := m31_eq e.2.2.2.2.1 x (hl.at he).p hx
    have hw : w64 ((i : Int) + 1) = ((i + 1 : Nat) : Int) := w64_nat (by omega)
    unfold stepS hitS
    simp only [l81_0_3, rowAt_G, rowG_nat he, lt_t hi, q, sumE, sS]
    cases decide (e.2.1 ≤ t) <;> cases decide (t < e.2.2.1) <;> cases allM e.2.2.2.2.1 x <;> cases a2 <;> cases decide (e.1 < a1) <;> simp only [sumE, sS, hw, Bool.not_true, Bool.not_false, Bool.or_true, Bool.true_or, Bool.or_false, Bool.false_or]
  · intro a
    simp only [l81_0_3, lt_f, sumE, sS]

def stepN (t : Int) (a : Int × Bool) (s : SiT) : Int × Bool := bif decide (s.2.2.1 > t) && (!a.2 || decide (s.2.2.1 < a.1)) then (s.2.2.1, true) else a

/-- The next end. -/
def nextE (t : Int) (l : List SiT) : Int × Bool := l.foldl (stepN t) (0, false)

theorem m65_eq (l : List SiT) (hl : l.length ≤ 1000) (t : Int) : m65 ((l, t, ()), ()) = some (((nextE t l).1, (nextE t l).2, ()), ()) := by
  have h := loop_list0 (f := l65_0_3) l (fun i (a : Int × Bool) => (((i : Int), a.1, a.2, t, l, (l.length : Int), ()), ())) (fun _ a e => .inl (stepN t a e)) (fun a => ((a.2, a.1, ()), ())) ?_ ?_ (0, false)
  · rw [runL_fold] at h
    unfold m65
    exact bind_of _ h rfl
  · intro i e ⟨a1, a2⟩ he hi
    have hw : w64 ((i : Int) + 1) = ((i + 1 : Nat) : Int) := w64_nat (by omega)
    unfold stepN
    simp only [l65_0_3, rowAt_G, rowG_nat he, lt_t hi, sumE, sS]
    cases decide (e.2.2.1 > t) <;> cases a2 <;> cases decide (e.2.2.1 < a1) <;> simp only [sumE, sS, hw, Bool.not_true, Bool.not_false, Bool.or_true, Bool.true_or, Bool.or_false, Bool.false_or]
  · intro a
    simp only [l65_0_3, lt_f, sumE, sS]

theorem m82_eq (l : List SiT) (hl : l.length ≤ 1000) (t : Int) : m82 ((l, t, ()), ()) = some (((nextE t l).1, (nextE t l).2, ()), ()) := by
  have h := loop_list0 (f := l82_0_3) l (fun i (a : Int × Bool) => (((i : Int), a.1, a.2, t, l, ()), ())) (fun _ a e => .inl (stepN t a e)) (fun a => ((a.2, a.1, ()), ())) ?_ ?_ (0, false)
  · rw [runL_fold] at h
    unfold m82
    exact bind_of _ h rfl
  · intro i e ⟨a1, a2⟩ he hi
    have hw : w64 ((i : Int) + 1) = ((i + 1 : Nat) : Int) := w64_nat (by omega)
    unfold stepN
    simp only [l82_0_3, rowAt_G, rowG_nat he, lt_t hi, sumE, sS]
    cases decide (e.2.2.1 > t) <;> cases a2 <;> cases decide (e.2.2.1 < a1) <;> simp only [sumE, sS, hw, Bool.not_true, Bool.not_false, Bool.or_true, Bool.true_or, Bool.or_false, Bool.false_or]
  · intro a
    simp only [l82_0_3, lt_f, sumE, sS]

/-! ### Checks of silences -/
/-- A loop that ends at the first element of a kind. -/
theorem runL_any {E B : Type} (p : E → Bool) (b : Nat → B) (fin : B) : ∀ (l : List E) (i : Nat), ∃ j, i ≤ j ∧ runL (fun i (_ : Unit) e => bif p e then .inr (b i) else .inl ()) (fun _ => fin) i l () = bif l.any p then b j else fin := by
  intro l
  induction l with
  | nil => intro i; exact ⟨i, Nat.le_refl _, rfl⟩
  | cons e r ih =>
    intro i
    cases h : p e
    · obtain ⟨j, h1, h2⟩ := ih (i + 1)
      refine ⟨j, by omega, ?_⟩
      simp only [runL, h, cond_false, List.any_cons, Bool.false_or]
      exact h2
    · exact ⟨i, Nat.le_refl _, by simp only [runL, h, cond_true, List.any_cons, Bool.true_or]⟩

theorem m147_eq (m : MT) (hm : MSz m) : m147 ((m, ()), ()) = some ((!rightM m, ()), ()) := by
  unfold m147
  exact bind_of _ (m22_eq m hm) rfl

theorem any_not {E : Type} (p : E → Bool) (l : List E) : (l.any fun e => !p e) = !l.all p := by
  induction l with
  | nil => rfl
  | cons e r ih => rw [List.any_cons, List.all_cons, ih, Bool.not_and]

theorem wrong122 (ms : List MT) (hs : ms.length ≤ big) (hm : ∀ m ∈ ms, MSz m) : ∃ j : Nat, loopT l122_2_2 ((0, ms, (ms.length : Int), ()), ()) = some (bif ms.all rightM then .inr ((), ()) else .inl (((j : Int), ()), ())) := by
  have h := loop_list0 (f := l122_2_2) ms (fun i (_ : Unit) => (((i : Int), ms, (ms.length : Int), ()), ())) (fun i _ e => bif !rightM e then .inr (.inl (((i : Int), ()), ())) else .inl ()) (fun _ => .inr ((), ())) ?_ ?_ ()
  · obtain ⟨j, _, hj⟩ := runL_any (fun e => !rightM e) (fun i : Nat => (Sum.inl (((i : Int), ()), ()) : ((Int × Unit) × Unit) ⊕ (Unit × Unit))) (.inr ((), ())) ms 0
    refine ⟨j, ?_⟩
    refine h.trans (congrArg some (hj.trans ?_))
    rw [any_not]
    cases ms.all rightM <;> rfl
  · intro i e _ he hi
    unfold big at hs
    have hw : w64 ((i : Int) + 1) = ((i + 1 : Nat) : Int) := w64_nat (by omega)
    simp only [l122_2_2, rowAt_G, rowG_nat he, lt_t hi, m147_eq e (hm e (List.mem_of_getElem? he)), sumE, sS]
    cases rightM e <;> simp only [sumE, sS, hw, Bool.not_true, Bool.not_false]
  · intro _
    simp only [l122_2_2, lt_f, sumE, sS]

theorem m119_eq (ms : List MT) (hs : ms.length ≤ big) (hm : ∀ m ∈ ms, MSz m) : m119 ((ms, ()), ()) = some ((ms.all rightM, ()), ()) := by
  have h := loop_list0 (f := l119_0_2) ms (fun i (_ : Unit) => (((i : Int), ms, ()), ())) (fun i _ e => bif !rightM e then .inr (.inl ((false, ()), ())) else .inl ()) (fun _ => .inr ((), ())) ?_ ?_ ()
  · obtain ⟨j, _, hj⟩ := runL_any (fun e => !rightM e) (fun i : Nat => (Sum.inl ((false, ()), ()) : ((Bool × Unit) × Unit) ⊕ (Unit × Unit))) (.inr ((), ())) ms 0
    unfold m119
    refine bind_of _ (h.trans (congrArg some hj)) ?_
    rw [any_not]
    cases ms.all rightM <;> rfl
  · intro i e _ he hi
    unfold big at hs
    have hw : w64 ((i : Int) + 1) = ((i + 1 : Nat) : Int) := w64_nat (by omega)
    simp only [l119_0_2, rowAt_G, rowG_nat he, lt_t hi, m23_eq e (hm e (List.mem_of_getElem? he)), sumE, sS]
    cases rightM e <;> simp only [sumE, sS, hw, Bool.not_true, Bool.not_false]
  · intro _
    simp only [l119_0_2, lt_f, sumE, sS]

def chkS (last : Int) (s : SiT) : Int :=
  bif decide (s.1 < 1) || decide (s.1 ≤ last) then 6
  else bif decide (s.2.1 < 0) || (decide (s.2.1 ≥ s.2.2.1) || (decide (s.2.2.1 > 8589934592) || decide (s.2.2.2.1 < 0))) then 1
  else bif (s.2.2.2.2.1.length : Int) == 0 then 7
  else bif decide ((s.2.2.2.2.1.length : Int) > 8) then 5
  else bif s.2.2.2.2.1.all rightM then 0 else 8

theorem m122_eq (s : SiT) (hs : SSz s) (last : Int) : m122 ((s, last, ()), ()) = some ((chkS last s, ()), ()) := by
  obtain ⟨j, hj⟩ := wrong122 s.2.2.2.2.1 (by have := hs.1; unfold big; omega) (fun m h => (hs.2 m h).2)
  unfold m122 chkS
  have hj0 : decide ((j : Int) ≥ 0) = true := decide_eq_true (by omega)
  cases decide (s.1 < 1) <;> cases decide (s.1 ≤ last) <;> simp only [sumE, sS, Bool.or_true, Bool.true_or, Bool.or_false, Bool.false_or]
  cases decide (s.2.1 < 0) <;> simp only [sumE, sS, Bool.or_true, Bool.true_or, Bool.or_false, Bool.false_or]
  cases decide (s.2.1 ≥ s.2.2.1) <;> simp only [sumE, sS, Bool.or_true, Bool.true_or, Bool.or_false, Bool.false_or]
  cases decide (s.2.2.1 > 8589934592) <;> simp only [sumE, sS, Bool.or_true, Bool.true_or, Bool.or_false, Bool.false_or]
  cases decide (s.2.2.2.1 < 0) <;> simp only [sumE, sS, Bool.or_true, Bool.true_or, Bool.or_false, Bool.false_or]
  cases ((s.2.2.2.2.1.length : Int) == 0) <;> simp only [sumE, sS]
  cases decide ((s.2.2.2.2.1.length : Int) > 8) <;> simp only [sumE, sS]
  rw [hj]
  cases s.2.2.2.2.1.all rightM <;> simp only [sumE, sS, hj0]

def goS : Int → List SiT → Int
  | _, [] => 0
  | last, s :: r => bif chkS last s != 0 then chkS last s else goS s.1 r

/-- What is wrong with silences. -/
def chkE (l : List SiT) : Int := bif decide ((l.length : Int) > 24) then 5 else goS 0 l

theorem runL_goS {B : Type} (f : Int → B) (fin : B) : ∀ (l : List SiT) (i : Nat) (last : Int), ∃ b, runL (fun _ last e => bif chkS last e != 0 then .inr (f (chkS last e)) else .inl e.1) (fun _ => fin) i l last = b ∧ (goS last l = 0 ∧ b = fin ∨ goS last l ≠ 0 ∧ b = f (goS last l)) := by
  intro l
  induction l with
  | nil => intro i last; exact ⟨fin, rfl, .inl ⟨rfl, rfl⟩⟩
  | cons s r ih =>
    intro i last
    cases h : (chkS last s != 0)
    · obtain ⟨b, h1, h2⟩ := ih (i + 1) s.1
      refine ⟨b, ?_, ?_⟩
      · simp only [runL, h, cond_false]; exact h1
      · simp only [goS, h, cond_false]; exact h2
    · refine ⟨f (chkS last s), ?_, .inr ⟨?_, ?_⟩⟩
      · simp only [runL, h, cond_true]
      · simp only [goS, h, cond_true]; exact bne_iff_ne.1 h
      · simp only [goS, h, cond_true]

theorem m79_eq (l : List SiT) (hl : SSs l) : m79 ((l, ()), ()) = some ((chkE l, ()), ()) := by
  unfold m79 chkE
  cases decide ((l.length : Int) > 24)
  · simp only [sumE, sS]
    have h := loop_list0 (f := l79_0_5) l (fun i (last : Int) => (((i : Int), last, l, (l.length : Int), ()), ())) (fun _ last e => bif chkS last e != 0 then .inr (.inl ((chkS last e, ()), ())) else .inl e.1) (fun _ => .inr ((), ())) ?_ ?_ 0
    · obtain ⟨b, h1, h2⟩ := runL_goS (fun c : Int => (Sum.inl ((c, ()), ()) : ((Int × Unit) × Unit) ⊕ (Unit × Unit))) (.inr ((), ())) l 0 0
      refine bind_of b (h.trans (congrArg some h1)) ?_
      rcases h2 with ⟨e1, rfl⟩ | ⟨e1, rfl⟩
      · rw [e1]
      · rfl
    · intro i e last he hi
      have hl1 := hl.1
      have hw : w64 ((i : Int) + 1) = ((i + 1 : Nat) : Int) := w64_nat (by omega)
      simp only [l79_0_5, rowAt_G, rowG_nat he, lt_t hi, m122_eq e (hl.at he) last, sumE, sS]
      cases chkS last e != 0 <;> simp only [sumE, sS, hw]
    · intro _
      simp only [l79_0_5, lt_f, sumE, sS]
  · simp only [sumE, sS]

theorem m80_eq (l : List SiT) (hl : SSs l) : m80 ((l, ()), ()) = some ((chkE l, ()), ()) := by
  unfold m80 chkE
  cases decide ((l.length : Int) > 24)
  · simp only [sumE, sS]
    have h := loop_list (f := l80_0_4) l (fun i (last : Int) => (((i : Int), l, ()), ())) (fun _ last e => bif chkS last e != 0 then .inr (.inl ((chkS last e, ()), ())) else .inl e.1) (fun _ => .inr ((), ()))
      (fun i last => (i = 0 ∧ last = 0) ∨ ∃ e, 0 < i ∧ l[i - 1]? = some e ∧ last = e.1) ?_ ?_ ?_ l.length 0 0 (by omega) (.inl ⟨rfl, rfl⟩)
    · rw [List.drop_zero] at h
      obtain ⟨b, h1, h2⟩ := runL_goS (fun c : Int => (Sum.inl ((c, ()), ()) : ((Int × Unit) × Unit) ⊕ (Unit × Unit))) (.inr ((), ())) l 0 0
      refine bind_of b (h.trans (congrArg some h1)) ?_
      rcases h2 with ⟨e1, rfl⟩ | ⟨e1, rfl⟩
      · rw [e1]
      · rfl
    · intro i e last he hi hI
      have hl1 := hl.1
      have hw : w64 ((i : Int) + 1) = ((i + 1 : Nat) : Int) := w64_nat (by omega)
      have hz := hl.at he
      have q := m119_eq e.2.2.2.2.1 (by have := hz.1; unfold big; omega) (fun m h => (hz.2 m h).2)
      have key : ((bif (decide (e.1 < 1)) then (some ((true, (l, ((i : Int), ()))), ((e, ()), ()))) else (bif (decide ((i : Int) > 0)) then (Abs.rowAt l (w64 ((i : Int) - 1)) fun e60 _ => some ((decide (e.1 ≤ e60.1), (l, ((i : Int), ()))), ((e, ()), ()))) else some ((false, (l, ((i : Int), ()))), ((e, ()), ())))) : Option ((Bool × List SiT × Int × Unit) × ((SiT × Unit) × Unit))) = some ((decide (e.1 < 1) || decide (e.1 ≤ last), (l, ((i : Int), ()))), ((e, ()), ())) := by
        rcases hI with ⟨rfl, rfl⟩ | ⟨p, h0, hp, rfl⟩
        · cases h1 : decide (e.1 < 1)
          · have := of_decide_eq_false h1
            rw [decide_eq_false (show ¬ e.1 ≤ 0 by omega)]; rfl
          · rfl
        · cases h1 : decide (e.1 < 1)
          · have hw1 : w64 ((i : Int) - 1) = ((i - 1 : Nat) : Int) := by rw [w64_id (by omega) (by omega)]; omega
            simp only [decide_eq_true (show (i : Int) > 0 by omega), rowAt_G, hw1, rowG_nat hp, sumE, sS, Bool.false_or]
          · rfl
      simp only [l80_0_4, rowAt_G, rowG_nat he, lt_t hi, sumE, sS]
      simp only [rowAt_G] at key
      refine bind_of _ key ?_
      unfold chkS
      simp only [q, sumE, sS]
      cases decide (e.1 < 1) || decide (e.1 ≤ last) <;> simp only [sumE, sS]
      · cases decide (e.2.1 < 0) <;> simp only [sumE, sS, Bool.or_true, Bool.true_or, Bool.or_false, Bool.false_or]
        · cases decide (e.2.1 ≥ e.2.2.1) <;> simp only [sumE, sS, Bool.or_true, Bool.true_or, Bool.or_false, Bool.false_or]
          · cases decide (e.2.2.1 > 8589934592) <;> simp only [sumE, sS, Bool.or_true, Bool.true_or, Bool.or_false, Bool.false_or]
            · cases decide (e.2.2.2.1 < 0) <;> simp only [sumE, sS, Bool.or_true, Bool.true_or, Bool.or_false, Bool.false_or]
              · cases ((e.2.2.2.2.1.length : Int) == 0) <;> simp only [sumE, sS]
                · cases decide ((e.2.2.2.2.1.length : Int) > 8) <;> simp only [sumE, sS]
                  · rw [q]
                    cases e.2.2.2.2.1.all rightM <;> simp only [sumE, sS, hw, Bool.not_true, Bool.not_false] <;> rfl
                  · rfl
                · rfl
              · rfl
            · rfl
          · rfl
        · rfl
      · rfl
    · intro i e s s' he hI hs
      refine .inr ⟨e, by omega, by rw [Nat.add_sub_cancel]; exact he, ?_⟩
      cases hc : (chkS s e != 0) <;> rw [hc] at hs <;> simp only [cond_true, cond_false] at hs
      · exact (Sum.inl.inj hs).symm
      · cases hs
    · intro _ _
      simp only [l80_0_4, lt_f, sumE, sS]
  · simp only [sumE, sS]

end Go.Proofs.YtcblbcpnfidndaaDoor

namespace Go.Proofs.YtcblbcpnfidndaaDoor
open Go Go.Abs Go.Lab
theorem m113_eq (l : List SiT) (hl : SSs l) : m113 ((l, ()), ()) = some ((), (l, ())) := by
  have hl1 := hl.1
  have h := loop_thru (f := l113_0_3) l (fun i => (((i : Int), (l.length : Int), ()), (l, ()))) ((), (l, ())) ?_ ?_
  · unfold m113 m143
    have hb : decide (l.length ≤ 4294967296) = true := decide_eq_true (by omega)
    simp only [hb, sumE, sS]
    exact bind_of _ h rfl
  · intro i e he hi
    have hw : w64 ((i : Int) + 1) = ((i + 1 : Nat) : Int) := w64_nat (by omega)
    have hb : decide ((0 : Int) ≤ (i : Int) ∧ (i : Int) < (l.length : Int)) = true := decide_eq_true (by omega)
    have hc : decide (e.2.2.2.2.1.length ≤ 4294967296) = true := decide_eq_true (hl.at he).1
    have hs : l.set i (e.1, (e.2.1, (e.2.2.1, (e.2.2.2.1, (e.2.2.2.2.1, ()))))) = l := by
      obtain ⟨hlt, rfl⟩ := List.getElem?_eq_some_iff.1 he
      exact List.set_getElem_self hlt
    simp only [l113_0_3, m144, lt_t hi, hb, Int.toNat_natCast, he, hc, hs, hw, sumE, sS]
  · simp only [l113_0_3, lt_f, sumE, sS]

def addE (l : List SiT) (s : SiT) : Int × List SiT := bif chkE (l ++ [s]) != 0 then (chkE (l ++ [s]), []) else (0, l ++ [s])

theorem SSs.app {l : List SiT} (hl : SSs l) (h1 : l.length ≤ 999) {s : SiT} (hs : SSz s) : SSs (l ++ [s]) :=
  ⟨by simp; omega, fun x hx => by
    rcases List.mem_append.1 hx with h | h
    · exact hl.2 x h
    · simp at h; subst h; exact hs⟩

theorem m63_eq (l : List SiT) (hl : SSs l) (h1 : l.length ≤ 999) (s : SiT) (hs : SSz s) : m63 ((l, s, ()), ()) = some (((addE l s).1, ()), ((addE l s).2, ())) := by
  unfold m63 addE
  have q := m113_eq [s] ⟨by simp, fun x hx => by simp at hx; subst hx; exact hs⟩
  have hb : decide (l.length + ([s] : List SiT).length ≤ 4294967296) = true := decide_eq_true (by simp; omega)
  simp only [m113_eq l hl, q, hb, m79_eq _ (hl.app h1 hs), sumE, sS]
  cases chkE (l ++ [s]) != 0 <;> rfl

theorem m85_eq (l : List SiT) (hl : SSs l) (h1 : l.length ≤ 999) (s : SiT) (hs : SSz s) : m85 ((l, s, ()), ()) = some (((addE l s).1, ()), ((addE l s).2, ())) := by
  unfold m85 addE
  have hb : decide (l.length + ([s] : List SiT).length ≤ 4294967296) = true := decide_eq_true (by simp; omega)
  have hc : decide (0 + l.length ≤ 4294967296) = true := decide_eq_true (by omega)
  simp only [hb, hc, m80_eq _ (hl.app h1 hs), sumE, sS]
  cases chkE (l ++ [s]) != 0 <;> rfl

/-! ### End -/
theorem find_split (id : Int) : ∀ (l : List SiT), (∀ y ∈ l, y.1 ≠ id) ∨ ∃ a s b, l = a ++ s :: b ∧ (∀ y ∈ a, y.1 ≠ id) ∧ s.1 = id := by
  intro l
  induction l with
  | nil => exact .inl fun y hy => by cases hy
  | cons e r ih =>
    by_cases h : e.1 = id
    · exact .inr ⟨[], e, r, rfl, (fun y hy => by cases hy), h⟩
    · rcases ih with h1 | ⟨a, s, b, rfl, h1, h2⟩
      · exact .inl fun y hy => by
          rcases List.mem_cons.1 hy with rfl | hy
          · exact h
          · exact h1 y hy
      · exact .inr ⟨e :: a, s, b, rfl, fun y hy => by
          rcases List.mem_cons.1 hy with rfl | hy
          · exact h
          · exact h1 y hy, h2⟩

def endV (t : Int) (a : List SiT) (s : SiT) (b : List SiT) : Int × List SiT :=
  bif decide (s.2.2.1 ≤ t) then (9, []) else bif decide (s.2.1 ≥ t) then (0, a ++ b) else (0, a ++ (s.1, s.2.1, t, s.2.2.2) :: b)

theorem goS_asc : ∀ (l : List SiT) (last : Int), goS last l = 0 → ∀ s ∈ l, last < s.1 := by
  intro l
  induction l with
  | nil => intro last _ s hs; cases hs
  | cons e r ih =>
    intro last h s hs
    unfold goS at h
    cases hc : (chkS last e != 0)
    · rw [hc] at h
      simp only [cond_false] at h
      have h0 : chkS last e = 0 := by simpa using hc
      have hlt : last < e.1 := by
        unfold chkS at h0
        cases h1 : decide (e.1 ≤ last)
        · have := of_decide_eq_false h1; omega
        · rw [h1, Bool.or_true] at h0; cases h0
      rcases List.mem_cons.1 hs with rfl | hs
      · exact hlt
      · have := ih _ h s hs; omega
    · rw [hc] at h
      simp only [cond_true] at h
      rw [h] at hc
      cases hc

theorem goS_split : ∀ (a : List SiT) (last : Int) (s : SiT) (b : List SiT), goS last (a ++ s :: b) = 0 → ∀ y ∈ b, s.1 < y.1 := by
  intro a
  induction a with
  | nil =>
    intro last s b h
    rw [List.nil_append] at h
    unfold goS at h
    cases hc : (chkS last s != 0)
    · rw [hc] at h
      exact goS_asc b s.1 h
    · rw [hc] at h
      simp only [cond_true] at h
      rw [h] at hc
      cases hc
  | cons e r ih =>
    intro last s b h
    rw [List.cons_append] at h
    unfold goS at h
    cases hc : (chkS last e != 0)
    · rw [hc] at h
      exact ih e.1 s b h
    · rw [hc] at h
      simp only [cond_true] at h
      rw [h] at hc
      cases hc

theorem chk_go {l : List SiT} (h : chkE l = 0) : goS 0 l = 0 ∧ l.length ≤ 24 := by
  unfold chkE at h
  cases hc : decide ((l.length : Int) > 24)
  · rw [hc] at h
    exact ⟨h, by have := of_decide_eq_false hc; omega⟩
  · rw [hc] at h; cases h

theorem scan71 (l : List SiT) (hl : l.length ≤ 1000) (id : Int) : ∃ b, loopT l71_1_2 ((0, l, (l.length : Int), ()), ((id, ()), ())) = some b ∧
    (((∀ y ∈ l, y.1 ≠ id) → b = .inr ((), ((id, ()), ()))) ∧ ∀ a s c, l = a ++ s :: c → (∀ y ∈ a, y.1 ≠ id) → s.1 = id → b = .inl (((a.length : Int), ()), ((id, ()), ()))) := by
  have h := loop_list0 (f := l71_1_2) l (fun i (_ : Unit) => (((i : Int), l, (l.length : Int), ()), ((id, ()), ()))) (fun i _ e => bif e.1 == id then .inr (.inl (((i : Int), ()), ((id, ()), ()))) else .inl ()) (fun _ => .inr ((), ((id, ()), ()))) ?_ ?_ ()
  · refine ⟨_, h, ?_, ?_⟩
    · intro hn
      clear h
      generalize 0 = k
      revert k
      clear hl
      induction l with
      | nil => intro k; rfl
      | cons e r ih =>
        intro k
        have : (e.1 == id) = false := beq_eq_false_iff_ne.2 (hn e (List.mem_cons_self ..))
        simp only [runL, this, cond_false]
        exact ih (fun y hy => hn y (List.mem_cons_of_mem _ hy)) (k + 1)
    · intro a s c he ha hs
      subst he
      clear h hl
      have : ∀ k : Nat, runL (fun i (_ : Unit) (e : SiT) => bif e.1 == id then .inr (.inl (((i : Int), ()), ((id, ()), ()))) else .inl ()) (fun _ => (.inr ((), ((id, ()), ())) : ((Int × Unit) × ((Int × Unit) × Unit)) ⊕ (Unit × ((Int × Unit) × Unit)))) k (a ++ s :: c) () = .inl ((((k + a.length : Nat) : Int), ()), ((id, ()), ())) := by
        induction a with
        | nil =>
          intro k
          have : (s.1 == id) = true := beq_iff_eq.2 hs
          simp only [runL, List.nil_append, this, cond_true, List.length_nil, Nat.add_zero]
        | cons e r ih =>
          intro k
          have : (e.1 == id) = false := beq_eq_false_iff_ne.2 (ha e (List.mem_cons_self ..))
          simp only [runL, List.cons_append, this, cond_false]
          rw [ih (fun y hy => ha y (List.mem_cons_of_mem _ hy)) (k + 1), List.length_cons, show k + 1 + r.length = k + (r.length + 1) by omega]
      have q := this 0
      rw [Nat.zero_add] at q
      exact q
  · intro i e _ he hi
    have hw : w64 ((i : Int) + 1) = ((i + 1 : Nat) : Int) := w64_nat (by omega)
    simp only [l71_1_2, rowAt_G, rowG_nat he, lt_t hi, sumE, sS]
    cases (e.1 == id) <;> simp only [sumE, sS, hw]
  · intro _
    simp only [l71_1_2, lt_f, sumE, sS]

theorem m71_bad (l : List SiT) (hl : SSs l) (id t : Int) (h : chkE l ≠ 0) : m71 ((l, id, t, ()), ()) = some ((chkE l, ()), ([], ())) := by
  unfold m71
  have : (chkE l != 0) = true := bne_iff_ne.2 h
  simp only [m79_eq l hl, this, sumE, sS]

theorem m71_none (l : List SiT) (hl : SSs l) (id t : Int) (h : chkE l = 0) (hn : ∀ y ∈ l, y.1 ≠ id) : m71 ((l, id, t, ()), ()) = some ((3, ()), ([], ())) := by
  unfold m71
  obtain ⟨b, hb, h1, _⟩ := scan71 l hl.1 id
  rw [h1 hn] at hb
  simp only [m79_eq l hl, h, sumE, sS]
  rw [hb]
  rfl

theorem m71_hit (a : List SiT) (s : SiT) (c : List SiT) (hl : SSs (a ++ s :: c)) (t : Int) (h : chkE (a ++ s :: c) = 0) (ha : ∀ y ∈ a, y.1 ≠ s.1) :
    m71 ((a ++ s :: c, s.1, t, ()), ()) = some (((endV t a s c).1, ()), ((endV t a s c).2, ())) := by
  unfold m71
  have hl1 := hl.1
  obtain ⟨b, hb, _, h2⟩ := scan71 (a ++ s :: c) hl.1 s.1
  rw [h2 a s c rfl ha rfl] at hb
  have hs : (a ++ s :: c)[a.length]? = some s := by rw [List.getElem?_append_right (Nat.le_refl _), Nat.sub_self]; rfl
  have hlen : a.length < (a ++ s :: c).length := by simp
  have h0 : decide ((a.length : Int) < 0) = false := decide_eq_false (by omega)
  have hbd : decide ((0 : Int) ≤ (a.length : Int) ∧ (a.length : Int) < ((a ++ s :: c).length : Int)) = true := decide_eq_true (by omega)
  have hw : w64 ((a.length : Int) + 1) = ((a.length + 1 : Nat) : Int) := w64_nat (by omega)
  have hd : decide ((0 : Int) ≤ (a.length : Int) ∧ (a.length : Int) < ((a.length + 1 : Nat) : Int) ∧ ((a.length + 1 : Nat) : Int) ≤ ((a ++ s :: c).length : Int) ∧ (a ++ s :: c).length ≤ 4294967296) = true := decide_eq_true (by omega)
  have ht : (a ++ s :: c).take a.length = a := List.take_left' rfl
  have hdr : (a ++ s :: c).drop (a.length + 1) = c := by rw [show a ++ s :: c = (a ++ [s]) ++ c by simp]; exact List.drop_left' (by simp)
  have hset : ∀ z, (a ++ s :: c).set a.length z = a ++ z :: c := fun z => by rw [List.set_append_right _ _ (Nat.le_refl _), Nat.sub_self]; rfl
  simp only [m79_eq _ hl, h, sumE, sS]
  rw [hb]
  have hsum : ∀ {A B C : Type} (x : A) (f : A → C) (g : B → C), sumE (.inl x : A ⊕ B) f g = f x := fun _ _ _ => rfl
  simp only [sumE, sS, h0, rowAt_G, rowG_nat hs, m113_eq _ hl, hbd, Int.toNat_natCast, hs, hw, hd, ht, hdr, hset]
  unfold endV
  cases decide (s.2.2.1 ≤ t) <;> cases decide (s.2.1 ≥ t) <;> simp only [sumE, sS, decide_true]


def st83 (l : List SiT) (id t : Int) (i : Int) (f : Bool) (o : List SiT) : (Int × Int × Int × List SiT × Bool × Unit) × (List SiT × Unit) := ((i, t, id, l, f, ()), (o, ()))

theorem skip83 (l : List SiT) (hl : l.length ≤ 1000) (id t : Int) (f : Bool) (y : List SiT) : ∀ (p x o : List SiT), l = x ++ (p ++ y) → (∀ z ∈ p, z.1 ≠ id) → o.length ≤ x.length →
    loopT l83_0_7 (st83 l id t (x.length : Int) f o) = loopT l83_0_7 (st83 l id t ((x.length + p.length : Nat) : Int) f (o ++ p)) := by
  intro p
  induction p with
  | nil => intro x o _ _ _; rw [List.append_nil]; rfl
  | cons e r ih =>
    intro x o he hp ho
    have hlen : x.length < l.length := by rw [he]; simp
    have hat : l[x.length]? = some e := by rw [he, List.getElem?_append_right (Nat.le_refl _), Nat.sub_self]; rfl
    have hw : w64 ((x.length : Int) + 1) = ((x.length + 1 : Nat) : Int) := w64_nat (by omega)
    have hne : (e.1 == id) = false := beq_eq_false_iff_ne.2 (hp e (List.mem_cons_self ..))
    have hb : decide (o.length + ([e] : List SiT).length ≤ 4294967296) = true := decide_eq_true (by simp; omega)
    have q := ih (x ++ [e]) (o ++ [e]) (by rw [he]; simp) (fun z hz => hp z (List.mem_cons_of_mem _ hz)) (by simp; omega)
    rw [show (x ++ [e]).length = x.length + 1 by simp, show x.length + 1 + r.length = x.length + (e :: r).length by simp; omega, show o ++ [e] ++ r = o ++ e :: r by simp] at q
    rw [← q]
    refine loopT_inl ?_
    unfold st83
    simp only [l83_0_7, rowAt_G, rowG_nat hat, lt_t hlen, hne, hb, hw, sumE, sS]

theorem m83_bad (l : List SiT) (hl : SSs l) (id t : Int) (h : chkE l ≠ 0) : m83 ((l, id, t, ()), ()) = some ((chkE l, ()), ([], ())) := by
  unfold m83
  have : (chkE l != 0) = true := bne_iff_ne.2 h
  simp only [m80_eq l hl, this, sumE, sS]

theorem end83 (l : List SiT) (id t : Int) (f : Bool) (o : List SiT) : loopT l83_0_7 (st83 l id t (l.length : Int) f o) = some (.inr ((f, ()), (o, ()))) := by
  refine loopT_inr ?_
  unfold st83
  simp only [l83_0_7, lt_f, sumE, sS]

theorem m83_none (l : List SiT) (hl : SSs l) (id t : Int) (h : chkE l = 0) (hn : ∀ y ∈ l, y.1 ≠ id) : m83 ((l, id, t, ()), ()) = some ((3, ()), ([], ())) := by
  unfold m83
  have q := skip83 l hl.1 id t false [] l [] [] (by simp) hn (Nat.le_refl _)
  rw [show (([] : List SiT).length + l.length : Nat) = l.length by simp, List.nil_append, end83] at q
  simp only [m80_eq l hl, h, sumE, sS]
  exact bind_of _ q rfl

theorem m83_hit (a : List SiT) (s : SiT) (c : List SiT) (hl : SSs (a ++ s :: c)) (t : Int) (h : chkE (a ++ s :: c) = 0) (ha : ∀ y ∈ a, y.1 ≠ s.1) :
    m83 ((a ++ s :: c, s.1, t, ()), ()) = some (((endV t a s c).1, ()), ((endV t a s c).2, ())) := by
  have hl1 := hl.1
  have hc : ∀ y ∈ c, y.1 ≠ s.1 := fun y hy => by have := goS_split a 0 s c (chk_go h).1 y hy; omega
  have hat : (a ++ s :: c)[a.length]? = some s := by rw [List.getElem?_append_right (Nat.le_refl _), Nat.sub_self]; rfl
  have hlen : a.length < (a ++ s :: c).length := by simp
  have hw : w64 ((a.length : Int) + 1) = ((a.length + 1 : Nat) : Int) := w64_nat (by omega)
  have q1 := skip83 (a ++ s :: c) hl.1 s.1 t false (s :: c) a [] [] rfl ha (Nat.le_refl _)
  rw [show (([] : List SiT).length + a.length : Nat) = a.length by simp, List.nil_append] at q1
  have q2 : ∀ o : List SiT, o.length ≤ a.length + 1 → loopT l83_0_7 (st83 (a ++ s :: c) s.1 t ((a.length + 1 : Nat) : Int) true o) = some (.inr ((true, ()), (o ++ c, ()))) := by
    intro o ho
    have q := skip83 (a ++ s :: c) hl.1 s.1 t true [] c (a ++ [s]) o (by simp) hc (by simp; omega)
    rw [show (a ++ [s]).length + c.length = (a ++ s :: c).length by simp; omega, end83, show (a ++ [s]).length = a.length + 1 by simp] at q
    exact q
  have hsum : ∀ {A B C : Type} (x : A) (f : A → C) (g : B → C), sumE (.inl x : A ⊕ B) f g = f x := fun _ _ _ => rfl
  have hsum2 : ∀ {A B C : Type} (x : B) (f : A → C) (g : B → C), sumE (.inr x : A ⊕ B) f g = g x := fun _ _ _ => rfl
  have hb : ∀ z : SiT, decide (a.length + ([z] : List SiT).length ≤ 4294967296) = true := fun z => decide_eq_true (by simp; omega)
  unfold m83
  simp only [m80_eq _ hl, h, sumE, sS]
  rw [show loopT l83_0_7 ((0, t, s.1, a ++ s :: c, false, ()), ([], ())) = loopT l83_0_7 (st83 (a ++ s :: c) s.1 t (a.length : Int) false a) from q1]
  unfold endV
  cases h1 : decide (s.2.2.1 ≤ t)
  · cases h2 : decide (s.2.1 ≥ t)
    · have e : loopT l83_0_7 (st83 (a ++ s :: c) s.1 t (a.length : Int) false a) = loopT l83_0_7 (st83 (a ++ s :: c) s.1 t ((a.length + 1 : Nat) : Int) true (a ++ [(s.1, s.2.1, t, s.2.2.2)])) := by
        refine loopT_inl ?_
        unfold st83
        simp only [l83_0_7, rowAt_G, rowG_nat hat, lt_t hlen, h1, h2, hb, hw, sumE, sS]
      rw [e, q2 _ (by simp), List.append_assoc]
      rfl
    · have e : loopT l83_0_7 (st83 (a ++ s :: c) s.1 t (a.length : Int) false a) = loopT l83_0_7 (st83 (a ++ s :: c) s.1 t ((a.length + 1 : Nat) : Int) true a) := by
        refine loopT_inl ?_
        unfold st83
        simp only [l83_0_7, rowAt_G, rowG_nat hat, lt_t hlen, h1, h2, hb, hw, sumE, sS]
      rw [e, q2 _ (by omega)]
      rfl
  · have e : loopT l83_0_7 (st83 (a ++ s :: c) s.1 t (a.length : Int) false a) = some (.inl ((9, ()), ([], ()))) := by
      refine loopT_inr ?_
      unfold st83
      simp only [l83_0_7, rowAt_G, rowG_nat hat, lt_t hlen, h1, hb, hw, sumE, sS]
    rw [e]
    simp only [sumE, sS]

/-! ### Equal silences -/
theorem m84_refl (l : List SiT) (hl : SSs l) : m84 ((l, l, ()), ()) = some ((true, ()), ()) := by
  have hl1 := hl.1
  have h := loop_thru (f := l84_0_4) l (fun i => (((i : Int), l, l, ()), ())) (.inr ((), ())) ?_ ?_
  · unfold m84
    simp only [sumE, sS]
    exact bind_of _ h rfl
  · intro i e he hi
    have hw : w64 ((i : Int) + 1) = ((i + 1 : Nat) : Int) := w64_nat (by omega)
    have hz := (hl.at he).1
    have h2 := loop_thru (f := l84_0_10) e.2.2.2.2.1 (fun j => (((j : Int), l, l, (i : Int), ()), ((e, ()), ((e, ()), ())))) (.inr ((l, l, (i : Int), ()), ())) ?_ ?_
    · simp only [l84_0_4, lt_t hi, rowAt_G, rowG_nat he, sumE, sS]
      refine bind_of _ h2 ?_
      simp only [hw]
    · intro j m hj hji
      have hw2 : w64 ((j : Int) + 1) = ((j + 1 : Nat) : Int) := w64_nat (by omega)
      have h1 : ∀ b : ByteArray, (b == b) = true := fun b => by
        show (b.data == b.data) = true
        exact beq_self_eq_true _
      simp only [l84_0_10, lt_t hji, rowAt_G, rowG_nat hj, hw2, h1, beq_self_eq_true, Bool.and_self, Bool.not_true, sumE, sS]
    · simp only [l84_0_10, lt_f, sumE, sS]
  · simp only [l84_0_4, lt_f, sumE, sS]

end Go.Proofs.YtcblbcpnfidndaaDoor

namespace Go.Proofs.YtcblbcpnfidndaaDoor
open Go Go.Abs Go.Lab
/-- A silence of the dice. -/
def GoodS (s : SiT) : Prop := 0 ≤ s.2.1 ∧ s.2.1 < s.2.2.1 ∧ s.2.2.1 ≤ 2000 ∧ 0 ≤ s.2.2.2.1 ∧ s.2.2.2.2.1 ≠ [] ∧ s.2.2.2.2.1.length ≤ 8 ∧ ∀ m ∈ s.2.2.2.2.1, GoodM m

theorem GoodS.z {s : SiT} (h : GoodS s) : SSz s := ⟨by have := h.2.2.2.2.2.1; omega, fun m hm => ⟨(h.2.2.2.2.2.2 m hm).p, (h.2.2.2.2.2.2 m hm).z⟩⟩

theorem all_right {l : List MT} (h : ∀ m ∈ l, GoodM m) : l.all rightM = true := List.all_eq_true.2 fun m hm => (h m hm).1

theorem chkS_ok {s : SiT} (h : GoodS s) {last : Int} (h0 : 1 ≤ s.1) (h1 : last < s.1) : chkS last s = 0 := by
  obtain ⟨g1, g2, g3, g4, g5, g6, g7⟩ := h
  have : 0 < s.2.2.2.2.1.length := List.length_pos_iff.2 g5
  unfold chkS
  rw [decide_eq_false (show ¬ s.1 < 1 by omega), decide_eq_false (show ¬ s.1 ≤ last by omega), decide_eq_false (show ¬ s.2.1 < 0 by omega), decide_eq_false (show ¬ s.2.1 ≥ s.2.2.1 by omega),
    decide_eq_false (show ¬ s.2.2.1 > 8589934592 by omega), decide_eq_false (show ¬ s.2.2.2.1 < 0 by omega), beq_eq_false_iff_ne.2 (show (s.2.2.2.2.1.length : Int) ≠ 0 by omega), decide_eq_false (show ¬ (s.2.2.2.2.1.length : Int) > 8 by omega), all_right g7]
  rfl

def lastI (last : Int) (l : List SiT) : Int := l.foldl (fun _ s => s.1) last

theorem goS_snoc : ∀ (l : List SiT) (last : Int) (s : SiT), goS last l = 0 → chkS (lastI last l) s = 0 → goS last (l ++ [s]) = 0 := by
  intro l
  induction l with
  | nil =>
    intro last s _ h
    have : chkS last s = 0 := h
    rw [List.nil_append]
    unfold goS
    rw [this]
    rfl
  | cons e r ih =>
    intro last s h h2
    rw [List.cons_append]
    unfold goS at h ⊢
    cases hc : (chkS last e != 0)
    · rw [hc] at h
      exact ih e.1 s h h2
    · rw [hc] at h
      simp only [cond_true] at h
      rw [h] at hc
      cases hc

theorem lastI_mem : ∀ (l : List SiT) (last : Int), lastI last l = last ∨ ∃ s ∈ l, s.1 = lastI last l := by
  intro l
  induction l with
  | nil => intro last; exact .inl rfl
  | cons e r ih =>
    intro last
    rcases ih e.1 with h | ⟨s, h1, h2⟩
    · exact .inr ⟨e, List.mem_cons_self .., h.symm⟩
    · exact .inr ⟨s, List.mem_cons_of_mem _ h1, h2⟩

theorem silence_spec (id : Int) (d : Dice) (hd : DOK d) : ∃ (f t b : Int) (ms : List MT) (d' : Dice), m72 ((id, ()), ((d, ()), ())) = some ((), ((d', ()), ((id, f, t, b, ()), ()), ms, ())) ∧ DOK d' ∧ GoodS (id, f, t, b, ms, ()) := by
  obtain ⟨a1, d1, e1, hd1, b1, _⟩ := next_spec 600 d hd (by omega)
  have b1 := b1 (by omega)
  obtain ⟨a2, d2, e2, hd2, b2, _⟩ := next_spec 900 d1 hd1 (by omega)
  have b2 := b2 (by omega)
  obtain ⟨a3, d3, e3, hd3, b3, _⟩ := next_spec 3 d2 hd2 (by omega)
  have b3 := b3 (by omega)
  obtain ⟨ms, d4, e4, hd4, hl, hg⟩ := matchers_spec 1 d3 hd3 (by omega) (by omega)
  obtain ⟨m, d5, e5, hd5, hm⟩ := matcher_spec d4 hd4
  have hb : decide (ms.length + ([m] : List MT).length ≤ 4294967296) = true := decide_eq_true (by simp; omega)
  refine ⟨a1, a1 + 1 + a2, a3, ms ++ [m], d5, ?_, hd5, b1.1, by show a1 < a1 + 1 + a2; omega, by show a1 + 1 + a2 ≤ 2000; omega, b3.1, by simp, by show (ms ++ [m]).length ≤ 8; simp; omega, ?_⟩
  · unfold m72
    simp only [e1, e2, e3, e4, e5, hb, sumE, sS, w64_id (x := a1 + 1) (by omega) (by omega), w64_id (x := a1 + 1 + a2) (by omega) (by omega)]
  · intro x hx
    rcases List.mem_append.1 hx with h | h
    · exact hg x h
    · simp at h; subst h; exact hm

/-- Silences of the dice. -/
def GoodSs (l : List SiT) : Prop := l.length ≤ 3 ∧ goS 0 l = 0 ∧ ∀ s ∈ l, s.1 ≤ 2 * (l.length : Int) ∧ GoodS s

theorem GoodSs.chk {l : List SiT} (h : GoodSs l) : chkE l = 0 := by
  unfold chkE
  rw [decide_eq_false (by have := h.1; omega), cond_false, h.2.1]

theorem GoodSs.z {l : List SiT} (h : GoodSs l) : SSs l := ⟨by have := h.1; omega, fun s hs => (h.2.2 s hs).2.z⟩

theorem silences_loop : ∀ (n : Nat) (i : Int) (d : Dice) (l : List SiT), DOK d → i = n → l.length + n ≤ 3 → GoodSs l →
    ∃ (l' : List SiT) (d' : Dice), loopT l69_0_3 ((i, ()), ((d, ()), (l, ()))) = some ((), ((d', ()), (l', ()))) ∧ DOK d' ∧ GoodSs l' := by
  intro n
  induction n with
  | zero =>
    intro i d l hd hi hl hg
    refine ⟨l, d, loopT_inr ?_, hd, hg⟩
    have : decide (i > 0) = false := decide_eq_false (by omega)
    simp only [l69_0_3, this, sumE, sS]
  | succ n ih =>
    intro i d l hd hi hl hg
    obtain ⟨k, d1, e1, hd1, b1, _⟩ := next_spec 2 d hd (by omega)
    have b1 := b1 (by omega)
    have hid : w64 (w64 (w64 ((l.length : Int) * 2) + 1) + k) = (l.length : Int) * 2 + 1 + k := by
      rw [w64_id (x := (l.length : Int) * 2) (by omega) (by omega), w64_id (x := (l.length : Int) * 2 + 1) (by omega) (by omega), w64_id (by omega) (by omega)]
    obtain ⟨f, t, b, ms, d2, e2, hd2, hs⟩ := silence_spec ((l.length : Int) * 2 + 1 + k) d1 hd1
    obtain ⟨l', d', e3, hd', hl'⟩ := ih (i - 1) d2 (l ++ [((l.length : Int) * 2 + 1 + k, f, t, b, ms, ())]) hd2 (by omega) (by simp; omega) ⟨by simp; omega, goS_snoc l 0 _ hg.2.1 (chkS_ok hs (by simp only; omega) (by
        rcases lastI_mem l 0 with h | ⟨s, h1, h2⟩
        · rw [h]; simp only; omega
        · have := (hg.2.2 s h1).1
          rw [← h2]; simp only; omega)), fun s h => by
        rcases List.mem_append.1 h with h | h
        · exact ⟨by have := (hg.2.2 s h).1; simp; omega, (hg.2.2 s h).2⟩
        · simp only [List.mem_singleton] at h; subst h; exact ⟨by simp; omega, hs⟩⟩
    refine ⟨l', d', ?_, hd', hl'⟩
    rw [← e3]
    refine loopT_inl ?_
    have h0 : decide (i > 0) = true := decide_eq_true (by omega)
    have h1 : ∀ z : SiT, decide (l.length + ([z] : List SiT).length ≤ 4294967296) = true := fun z => decide_eq_true (by simp; omega)
    simp only [l69_0_3, h0, e1, hid, e2, sumE, sS, h1, w64_id (x := i - 1) (by omega) (by omega)]

theorem silences_spec (d : Dice) (hd : DOK d) : ∃ (l : List SiT) (d' : Dice), m69 ((), ((d, ()), ())) = some ((), ((d', ()), (l, ()))) ∧ DOK d' ∧ GoodSs l := by
  obtain ⟨a, d1, e1, hd1, b1, _⟩ := next_spec 4 d hd (by omega)
  have b1 := b1 (by omega)
  obtain ⟨l', d', e2, hd', hl'⟩ := silences_loop a.toNat a d1 [] hd1 (by omega) (by simp; omega) ⟨by simp, rfl, fun s hs => by cases hs⟩
  refine ⟨l', d', ?_, hd', hl'⟩
  unfold m69
  simp only [e1, Option.bind_some, e2]

end Go.Proofs.YtcblbcpnfidndaaDoor

namespace Go.Proofs.YtcblbcpnfidndaaDoor
open Go Go.Abs Go.Lab
/-! ### A row whose elements are looked at with the one before -/
def okP {E : Type} (bad : Option E → E → Bool) : Option E → List E → Bool
  | _, [] => true
  | p, e :: r => !bad p e && okP bad (some e) r

theorem loop_prev {A B E : Type} {f : A → Option (A ⊕ B)} (l : List E) (st : Nat → A) (bad : Option E → E → Bool) (no yes : B)
    (h1 : ∀ i e, l[i]? = some e → i < l.length → f (st i) = some (bif bad (if i = 0 then none else l[i - 1]?) e then .inr no else .inl (st (i + 1)))) (h2 : f (st l.length) = some (.inr yes)) :
    loopT f (st 0) = some (bif okP bad none l then yes else no) := by
  have key : ∀ (k i : Nat), i + k = l.length → loopT f (st i) = some (bif okP bad (if i = 0 then none else l[i - 1]?) (l.drop i) then yes else no) := by
    intro k
    induction k with
    | zero =>
      intro i h
      obtain rfl : i = l.length := by omega
      rw [List.drop_length]
      exact loopT_inr h2
    | succ k ih =>
      intro i h
      obtain ⟨e, he, hd⟩ := drop_at (l := l) (i := i) (by omega)
      have q := h1 i e he (by omega)
      rw [hd]
      unfold okP
      cases hb : bad (if i = 0 then none else l[i - 1]?) e
      · rw [hb] at q
        have := ih (i + 1) (by omega)
        rw [if_neg (by omega), Nat.add_sub_cancel, he] at this
        rw [Bool.not_false, Bool.true_and, ← this]
        exact loopT_inl q
      · rw [hb] at q
        exact loopT_inr q
  have := key l.length 0 (by omega)
  rw [List.drop_zero] at this
  exact this

theorem prev_case {E : Type} {l : List E} {i : Nat} (hi : i < l.length) : i = 0 ∨ ∃ p, 0 < i ∧ l[i - 1]? = some p ∧ (i ≤ 9223372036854775807 → w64 ((i : Int) - 1) = ((i - 1 : Nat) : Int)) := by
  by_cases h : i = 0
  · exact .inl h
  · obtain ⟨p, hp⟩ := getD_some (l := l) (i := i - 1) (by omega)
    exact .inr ⟨p, by omega, hp, fun hb => by rw [w64_id (by omega) (by omega)]; omega⟩

/-- At most, in the order of bytes. -/
def leB (a b : ByteArray) : Bool := Op.bytesLess a.toList b.toList || a.toList == b.toList

def badK (p : Option ByteArray) (k : ByteArray) : Bool := !keyS k || (match p with | none => false | some q => leB k q)

/-- Keys, ascending. -/
def keysOK (l : List ByteArray) : Bool := okP badK none l

theorem m158_eq (s : ByteArray) (hs : s.size ≤ big) : m158 ((s, ()), ()) = some ((keyS s, ()), ()) := by
  unfold m158
  exact bind_of _ (m87_eq s hs) rfl

theorem m142_eq (l : List ByteArray) (hl : l.length ≤ big) (hs : ∀ k ∈ l, k.size ≤ big) : m142 ((l, ()), ()) = some ((keysOK l, ()), ()) := by
  have h := loop_prev (f := l142_0_2) l (fun i => (((i : Int), l, l, (l.length : Int), ()), ())) badK (.inl ((false, ()), ())) (.inr ((), ())) ?_ ?_
  · unfold m142
    refine bind_of _ h ?_
    unfold keysOK
    cases okP badK none l <;> rfl
  · intro i e he hi
    unfold big at hl
    have hw : w64 ((i : Int) + 1) = ((i + 1 : Nat) : Int) := w64_nat (by omega)
    have q := m158_eq e (hs e (List.mem_of_getElem? he))
    rcases prev_case hi with h0 | ⟨p, h0, hp, hp1⟩
    · rw [if_pos h0]
      have : decide ((i : Int) > 0) = false := decide_eq_false (by omega)
      unfold badK
      simp only [l142_0_2, rowAt_G, rowG_nat he, lt_t hi, q, this, sumE, sS]
      cases keyS e <;> simp only [sumE, sS, hw, Bool.or_false]
    · rw [if_neg (by omega), hp]
      have : decide ((i : Int) > 0) = true := decide_eq_true (by omega)
      unfold badK leB
      simp only [l142_0_2, rowAt_G, rowG_nat he, lt_t hi, q, this, hp1 (by omega), rowG_nat hp, sumE, sS]
      cases keyS e <;> cases Op.bytesLess e.toList p.toList || e.toList == p.toList <;> simp only [sumE, sS, hw, Bool.or_false, Bool.or_true]
  · simp only [l142_0_2, lt_f, sumE, sS]

theorem m120_eq (l : List ByteArray) (hl : l.length ≤ big) (hs : ∀ k ∈ l, k.size ≤ big) : m120 ((l, ()), ()) = some ((keysOK l, ()), ()) := by
  have h := loop_prev (f := l120_0_2) l (fun i => (((i : Int), l, ()), ())) badK (.inl ((false, ()), ())) (.inr ((), ())) ?_ ?_
  · unfold m120
    refine bind_of _ h ?_
    unfold keysOK
    cases okP badK none l <;> rfl
  · intro i e he hi
    unfold big at hl
    have hw : w64 ((i : Int) + 1) = ((i + 1 : Nat) : Int) := w64_nat (by omega)
    have q := m89_eq e (hs e (List.mem_of_getElem? he))
    rcases prev_case hi with h0 | ⟨p, h0, hp, hp1⟩
    · rw [if_pos h0]
      have : decide ((i : Int) > 0) = false := decide_eq_false (by omega)
      unfold badK
      simp only [l120_0_2, rowAt_G, rowG_nat he, lt_t hi, q, this, sumE, sS]
      cases keyS e <;> simp only [sumE, sS, hw, Bool.or_false]
    · rw [if_neg (by omega), hp]
      have : decide ((i : Int) > 0) = true := decide_eq_true (by omega)
      unfold badK leB
      simp only [l120_0_2, rowAt_G, rowG_nat he, lt_t hi, q, this, hp1 (by omega), rowG_nat hp, sumE, sS]
      cases keyS e <;> cases Op.bytesLess e.toList p.toList || e.toList == p.toList <;> simp only [sumE, sS, hw, Bool.or_false, Bool.or_true]
  · simp only [l120_0_2, lt_f, sumE, sS]

/-! ### Checks of rules -/
/-- The first error. -/
def goF {E : Type} (chk : E → Int) : List E → Int
  | [] => 0
  | e :: r => bif chk e != 0 then chk e else goF chk r

theorem loop_first {A B E : Type} {f : A → Option (A ⊕ B)} (l : List E) (st : Nat → A) (chk : E → Int) (no : Int → B) (yes : B)
    (h1 : ∀ i e, l[i]? = some e → i < l.length → f (st i) = some (bif chk e != 0 then .inr (no (chk e)) else .inl (st (i + 1)))) (h2 : f (st l.length) = some (.inr yes)) :
    loopT f (st 0) = some (bif goF chk l != 0 then no (goF chk l) else yes) := by
  have key : ∀ (k i : Nat), i + k = l.length → loopT f (st i) = some (bif goF chk (l.drop i) != 0 then no (goF chk (l.drop i)) else yes) := by
    intro k
    induction k with
    | zero =>
      intro i h
      obtain rfl : i = l.length := by omega
      rw [List.drop_length]
      exact loopT_inr h2
    | succ k ih =>
      intro i h
      obtain ⟨e, he, hd⟩ := drop_at (l := l) (i := i) (by omega)
      have q := h1 i e he (by omega)
      rw [hd]
      unfold goF
      cases hb : (chk e != 0)
      · rw [hb] at q
        rw [cond_false, ← ih (i + 1) (by omega)]
        exact loopT_inl q
      · rw [hb] at q
        rw [cond_true, hb]
        exact loopT_inr q
  have := key l.length 0 (by omega)
  rw [List.drop_zero] at this
  exact this

/-- The sizes of a rule, texts with it. -/
def TSz (r : RuT) : Prop := (r.1.length ≤ big ∧ ∀ m ∈ r.1, MSz m) ∧ (r.2.1.length ≤ big ∧ ∀ m ∈ r.2.1, MSz m) ∧ r.2.2.1.length ≤ big ∧ ∀ k ∈ r.2.2.1, k.size ≤ big

def chkR (r : RuT) : Int :=
  bif (r.1.length : Int) == 0 || (r.2.1.length : Int) == 0 then 7
  else bif decide ((r.1.length : Int) > 8) || (decide ((r.2.1.length : Int) > 8) || decide ((r.2.2.1.length : Int) > 12)) then 5
  else bif !r.1.all rightM || (!r.2.1.all rightM || !keysOK r.2.2.1) then 8 else 0

/-- What is wrong with rules. -/
def chkRs (l : List RuT) : Int := bif decide ((l.length : Int) > 12) then 5 else goF chkR l

theorem wrong118 (ms : List MT) (hs : ms.length ≤ big) (hm : ∀ m ∈ ms, MSz m) : ∃ j : Nat, loopT l118_2_2 ((0, ms, (ms.length : Int), ()), ()) = some (bif ms.all rightM then .inr ((), ()) else .inl (((j : Int), ()), ())) ∧
    loopT l118_4_2 ((0, ms, (ms.length : Int), ()), ()) = some (bif ms.all rightM then .inr ((), ()) else .inl (((j : Int), ()), ())) := by
  have h := loop_list0 (f := l118_2_2) ms (fun i (_ : Unit) => (((i : Int), ms, (ms.length : Int), ()), ())) (fun i _ e => bif !rightM e then .inr (.inl (((i : Int), ()), ())) else .inl ()) (fun _ => .inr ((), ())) ?_ ?_ ()
  have g := loop_list0 (f := l118_4_2) ms (fun i (_ : Unit) => (((i : Int), ms, (ms.length : Int), ()), ())) (fun i _ e => bif !rightM e then .inr (.inl (((i : Int), ()), ())) else .inl ()) (fun _ => .inr ((), ())) ?_ ?_ ()
  · obtain ⟨j, _, hj⟩ := runL_any (fun e => !rightM e) (fun i : Nat => (Sum.inl (((i : Int), ()), ()) : ((Int × Unit) × Unit) ⊕ (Unit × Unit))) (.inr ((), ())) ms 0
    have hh : (bif (ms.any fun e => !rightM e) then (Sum.inl (((j : Int), ()), ()) : ((Int × Unit) × Unit) ⊕ (Unit × Unit)) else .inr ((), ())) = (bif ms.all rightM then .inr ((), ()) else .inl (((j : Int), ()), ())) := by
      rw [any_not]
      cases ms.all rightM <;> rfl
    exact ⟨j, h.trans (congrArg some (hj.trans hh)), g.trans (congrArg some (hj.trans hh))⟩
  · intro i e _ he hi
    unfold big at hs
    have hw : w64 ((i : Int) + 1) = ((i + 1 : Nat) : Int) := w64_nat (by omega)
    simp only [l118_4_2, rowAt_G, rowG_nat he, lt_t hi, m147_eq e (hm e (List.mem_of_getElem? he)), sumE, sS]
    cases rightM e <;> simp only [sumE, sS, hw, Bool.not_true, Bool.not_false]
  · intro _
    simp only [l118_4_2, lt_f, sumE, sS]
  · intro i e _ he hi
    unfold big at hs
    have hw : w64 ((i : Int) + 1) = ((i + 1 : Nat) : Int) := w64_nat (by omega)
    simp only [l118_2_2, rowAt_G, rowG_nat he, lt_t hi, m147_eq e (hm e (List.mem_of_getElem? he)), sumE, sS]
    cases rightM e <;> simp only [sumE, sS, hw, Bool.not_true, Bool.not_false]
  · intro _
    simp only [l118_2_2, lt_f, sumE, sS]

theorem m118_eq (r : RuT) (hr : TSz r) : m118 ((r, ()), ()) = some ((chkR r, ()), ()) := by
  obtain ⟨⟨a1, a2⟩, ⟨b1, b2⟩, c1, c2⟩ := hr
  obtain ⟨j, hj, _⟩ := wrong118 r.1 a1 a2
  obtain ⟨k, _, hk⟩ := wrong118 r.2.1 b1 b2
  have q := m142_eq r.2.2.1 c1 c2
  have hj0 : decide ((j : Int) ≥ 0) = true := decide_eq_true (by omega)
  have hk0 : decide ((k : Int) ≥ 0) = true := decide_eq_true (by omega)
  unfold m118 chkR
  cases ((r.1.length : Int) == 0) <;> simp only [sumE, sS, Bool.or_true, Bool.true_or, Bool.or_false, Bool.false_or]
  cases ((r.2.1.length : Int) == 0) <;> simp only [sumE, sS, Bool.or_true, Bool.true_or, Bool.or_false, Bool.false_or]
  cases decide ((r.1.length : Int) > 8) <;> simp only [sumE, sS, Bool.or_true, Bool.true_or, Bool.or_false, Bool.false_or]
  cases decide ((r.2.1.length : Int) > 8) <;> simp only [sumE, sS, Bool.or_true, Bool.true_or, Bool.or_false, Bool.false_or]
  cases decide ((r.2.2.1.length : Int) > 12) <;> simp only [sumE, sS, Bool.or_true, Bool.true_or, Bool.or_false, Bool.false_or]
  rw [hj, hk]
  cases r.1.all rightM <;> simp only [sumE, sS, hj0, q, Bool.not_true, Bool.not_false, Bool.or_true, Bool.true_or, Bool.or_false, Bool.false_or]
  cases r.2.1.all rightM <;> simp only [sumE, sS, hk0, Bool.not_true, Bool.not_false, Bool.or_true, Bool.true_or, Bool.or_false, Bool.false_or]
  cases keysOK r.2.2.1 <;> simp only [sumE, sS, Bool.not_true, Bool.not_false]

theorem m74_eq (l : List RuT) (hl : l.length ≤ big) (hr : ∀ r ∈ l, TSz r) : m74 ((l, ()), ()) = some ((chkRs l, ()), ()) := by
  unfold m74 chkRs
  cases decide ((l.length : Int) > 12)
  · simp only [sumE, sS]
    have h := loop_first (f := l74_0_4) l (fun i => (((i : Int), l, (l.length : Int), ()), ())) chkR (fun c => .inl ((c, ()), ())) (.inr ((), ())) ?_ ?_
    · refine bind_of _ h ?_
      cases hc : (goF chkR l != 0)
      · have : goF chkR l = 0 := by simpa using hc
        rw [this]; rfl
      · rfl
    · intro i e he hi
      unfold big at hl
      have hw : w64 ((i : Int) + 1) = ((i + 1 : Nat) : Int) := w64_nat (by omega)
      simp only [l74_0_4, rowAt_G, rowG_nat he, lt_t hi, m118_eq e (hr e (List.mem_of_getElem? he)), sumE, sS]
      cases chkR e != 0 <;> simp only [sumE, sS, hw]
    · simp only [l74_0_4, lt_f, sumE, sS]
  · simp only [sumE, sS]

theorem m75_eq (l : List RuT) (hl : l.length ≤ big) (hr : ∀ r ∈ l, TSz r) : m75 ((l, ()), ()) = some ((chkRs l, ()), ()) := by
  unfold m75 chkRs
  cases decide ((l.length : Int) > 12)
  · simp only [sumE, sS]
    have h := loop_first (f := l75_0_4) l (fun i => (((i : Int), l, ()), ())) chkR (fun c => .inl ((c, ()), ())) (.inr ((), ())) ?_ ?_
    · refine bind_of _ h ?_
      cases hc : (goF chkR l != 0)
      · have : goF chkR l = 0 := by simpa using hc
        rw [this]; rfl
      · rfl
    · intro i e he hi
      unfold big at hl
      have hw : w64 ((i : Int) + 1) = ((i + 1 : Nat) : Int) := w64_nat (by omega)
      obtain ⟨⟨a1, a2⟩, ⟨b1, b2⟩, c1, c2⟩ := hr e (List.mem_of_getElem? he)
      have q1 := m119_eq e.1 a1 a2
      have q2 := m119_eq e.2.1 b1 b2
      have q3 := m120_eq e.2.2.1 c1 c2
      unfold chkR
      simp only [l75_0_4, rowAt_G, rowG_nat he, lt_t hi, sumE, sS]
      cases ((e.1.length : Int) == 0) <;> simp only [sumE, sS, Bool.or_true, Bool.true_or, Bool.or_false, Bool.false_or]
      · cases ((e.2.1.length : Int) == 0) <;> simp only [sumE, sS, Bool.or_true, Bool.true_or, Bool.or_false, Bool.false_or]
        · cases decide ((e.1.length : Int) > 8) <;> simp only [sumE, sS, Bool.or_true, Bool.true_or, Bool.or_false, Bool.false_or]
          · cases decide ((e.2.1.length : Int) > 8) <;> simp only [sumE, sS, Bool.or_true, Bool.true_or, Bool.or_false, Bool.false_or]
            · cases decide ((e.2.2.1.length : Int) > 12) <;> simp only [sumE, sS, q1, q2, q3, Bool.or_true, Bool.true_or, Bool.or_false, Bool.false_or]
              · cases e.1.all rightM <;> simp only [sumE, sS, Bool.not_true, Bool.not_false, Bool.or_true, Bool.true_or, Bool.or_false, Bool.false_or]
                · rfl
                · cases e.2.1.all rightM <;> simp only [sumE, sS, Bool.not_true, Bool.not_false, Bool.or_true, Bool.true_or, Bool.or_false, Bool.false_or]
                  · rfl
                  · cases keysOK e.2.2.1 <;> simp only [sumE, sS, hw, Bool.not_true, Bool.not_false] <;> rfl
              · rfl
            · rfl
          · rfl
        · rfl
      · rfl
    · simp only [l75_0_4, lt_f, sumE, sS]
  · simp only [sumE, sS]

/-! ### What mutes -/
theorem m77_eq (r : List RuT) (hr : RSs r) (l : List SiT) (hl : SSs l) (x : List LT) (hx : LSz x) (f : List (List LT)) (hf : FSs f) (t : Int) : m77 ((r, l, x, f, t, ()), ()) = some (((silE x t l).2 || inhib r x f, ()), ()) := by
  unfold m77
  simp only [m64_eq l hl x hx, m68_eq r hr x hx f hf, sumE, sS]
  cases (silE x t l).2 <;> rfl

theorem m78_eq (r : List RuT) (hr : RSs r) (l : List SiT) (hl : SSs l) (x : List LT) (hx : LSz x) (f : List (List LT)) (hf : FSs f) (t : Int) : m78 ((r, l, x, f, t, ()), ()) = some (((silE x t l).2 || inhib r x f, ()), ()) := by
  unfold m78
  simp only [m81_eq l hl x hx, m76_eq r hr x hx f hf, sumE, sS]
  cases (silE x t l).2 <;> rfl

theorem end_ex (l : List SiT) (hl : SSs l) (id t : Int) : ∃ (c : Int) (m : List SiT), m71 ((l, id, t, ()), ()) = some ((c, ()), (m, ())) ∧ m83 ((l, id, t, ()), ()) = some ((c, ()), (m, ())) ∧ SSs m := by
  have nil : SSs [] := ⟨by simp, fun x hx => by cases hx⟩
  by_cases h : chkE l = 0
  · rcases find_split id l with h1 | ⟨a, s, b, rfl, h1, rfl⟩
    · exact ⟨3, [], m71_none l hl id t h h1, m83_none l hl id t h h1, nil⟩
    · refine ⟨_, _, m71_hit a s b hl t h h1, m83_hit a s b hl t h h1, ?_⟩
      have hlen := hl.1
      unfold endV
      cases decide (s.2.2.1 ≤ t)
      · cases decide (s.2.1 ≥ t)
        · refine ⟨by simp at hlen ⊢; omega, fun y hy => ?_⟩
          simp only [cond_false] at hy
          rcases List.mem_append.1 hy with h | h
          · exact hl.2 y (by simp [h])
          · rcases List.mem_cons.1 h with h | h
            · subst h; exact hl.2 s (by simp)
            · exact hl.2 y (by simp [h])
        · refine ⟨by simp at hlen ⊢; omega, fun y hy => ?_⟩
          simp only [cond_false, cond_true] at hy
          rcases List.mem_append.1 hy with h | h
          · exact hl.2 y (by simp [h])
          · exact hl.2 y (by simp [h])
      · exact nil
  · exact ⟨_, [], m71_bad l hl id t h, m83_bad l hl id t h, nil⟩

theorem add_zero {l : List SiT} {s : SiT} (h : (addE l s).1 = 0) : (addE l s).2 = l ++ [s] ∧ chkE (l ++ [s]) = 0 := by
  unfold addE at h ⊢
  cases hc : (chkE (l ++ [s]) != 0)
  · exact ⟨rfl, by simpa using hc⟩
  · rw [hc] at h
    rw [show chkE (l ++ [s]) = 0 from h] at hc
    cases hc

theorem add_z {l : List SiT} (hl : SSs l) (h1 : l.length ≤ 999) {s : SiT} (hs : SSz s) : SSs (addE l s).2 := by
  unfold addE
  cases (chkE (l ++ [s]) != 0)
  · exact hl.app h1 hs
  · exact ⟨by simp, fun x hx => by cases hx⟩

end Go.Proofs.YtcblbcpnfidndaaDoor

namespace Go.Proofs.YtcblbcpnfidndaaDoor
open Go Go.Abs Go.Lab
theorem lt3 {A : Type} {a b c : A} {i : Nat} (h : i < [a, b, c].length) : decide ((i : Int) < 3) = true := decide_eq_true (by have : i < 3 := h; omega)

theorem at3 {A : Type} (a b c : A) {i : Nat} (h : i < 3) : ∃ e, [a, b, c][i]? = some e ∧ e ∈ [a, b, c] := by
  obtain ⟨e, he⟩ := getD_some (l := [a, b, c]) (i := i) h
  exact ⟨e, he, List.mem_of_getElem? he⟩

theorem drop_q {A B : Type} {o : Option A} {P : B → Prop} {g : B → A} (h : ∃ r, o = some r ∧ ∃ d, P d ∧ r = g d) : ∃ d, P d ∧ o = some (g d) := by
  obtain ⟨r, h1, d, h2, rfl⟩ := h
  exact ⟨d, h2, h1⟩

theorem drop_e {A : Type} {o : Option A} {x : A} (h : ∃ r, o = some r ∧ r = x) : o = some x := by
  obtain ⟨r, h1, rfl⟩ := h
  exact h1

theorem loop16a (X : Int) (L : List RuT) (hL : RSs L) (firing fire : List (List LT)) (hf : FSs firing) (hg : FSs fire) (y0 y1 y2 labels : List LT) (hy : ∀ y ∈ [y0, y1, y2], LSz y) (lists : List RuT × List RuT × List RuT × Unit) (id : Int) (raw s odd : List SiT) (hs : SSs s) (o : Int) (d : Dice) :
    loopT l16_0_14 ((0, X, L, firing, (y0, y1, y2, ()), labels, lists, id, raw, o, ()), (fire, s, (d, ()), odd, ())) = some (.inr ((X, firing, labels, lists, id, raw, o, ()), (fire, s, (d, ()), odd, ()))) := by
  refine loop_thru (f := l16_0_14) [y0, y1, y2] (fun i => (((i : Int), X, L, firing, (y0, y1, y2, ()), labels, lists, id, raw, o, ()), (fire, s, (d, ()), odd, ()))) _ ?_ rfl
  intro i e he hi
  have hi3 : i < 3 := hi
  have hw : w64 ((i : Int) + 1) = ((i + 1 : Nat) : Int) := w64_nat (by omega)
  have hz := hy e (List.mem_of_getElem? he)
  simp only [l16_0_14, lt3 hi, rowAt_G, rowG_nat he, m68_eq L hL e hz fire hg, m76_eq L hL e hz fire hg, m68_eq L hL e hz firing hf, m76_eq L hL e hz firing hf, m77_eq L hL s hs e hz fire hg, m78_eq L hL s hs e hz fire hg, hw, beq_self_eq_true, sumE, sS]

theorem loop16b (X : Int) (firing fire : List (List LT)) (hf : FSs firing) (hg : FSs fire) (f0 : List LT) (hf0 : fire[0]? = some f0) (labels : List LT) (hl : LSz labels) (a b c : List RuT) (hr : ∀ r ∈ [a, b, c], RSs r ∧ r.length ≤ big ∧ ∀ x ∈ r, TSz x) (id : Int) (raw s odd : List SiT) (hs : SSs s) (d : Dice) (hd : DOK d) :
    ∃ d', DOK d' ∧ loopT l16_0_9 ((X, firing, 0, labels, (a, b, c, ()), id, raw, ()), (fire, s, (d, ()), odd, ())) = some (.inr ((id, X, raw, ()), ((d', ()), odd, s, ()))) := by
  refine drop_q (loop_ind (f := l16_0_9) (Q := fun r => ∃ d', DOK d' ∧ r = .inr ((id, X, raw, ()), ((d', ()), odd, s, ()))) (fun i st => ∃ d, DOK d ∧ st = ((X, firing, (i : Int), labels, (a, b, c, ()), id, raw, ()), (fire, s, (d, ()), odd, ()))) 3 ?_ ?_ _ ⟨d, hd, rfl⟩)
  · rintro i _ hi ⟨d, hd, rfl⟩
    obtain ⟨e, he, hm⟩ := at3 a b c hi
    obtain ⟨r1, r2, r3⟩ := hr e hm
    obtain ⟨y, d1, e1, hd1, hy⟩ := labels_spec d hd
    have hyz := (from_good hy).z
    have hf0z := hg.2 f0 (List.mem_of_getElem? hf0)
    have hw : w64 ((i : Int) + 1) = ((i + 1 : Nat) : Int) := w64_nat (by omega)
    have hb0 : decide ((0 : Int) ≤ 0 ∧ (0 : Int) < ((fire.length : Nat) : Int)) = true := decide_eq_true (by have := (List.getElem?_eq_some_iff.1 hf0).1; omega)
    refine ⟨_, ?_, d1, hd1, rfl⟩
    simp only [l16_0_9, decide_eq_true (show (i : Int) < 3 by omega), rowAt_G, rowG_nat he, m74_eq e r2 r3, m75_eq e r2 r3, e1, hb0, hf0, sumE, sS]
    refine bind_of _ (loop16a X e r1 firing fire hf hg y f0 labels labels (fun z hz => ?_) (a, b, c, ()) id raw s odd hs (i : Int) d1) ?_
    · simp only [List.mem_cons, List.not_mem_nil, or_false] at hz
      rcases hz with rfl | rfl | rfl <;> assumption
    · simp only [hw]
  · rintro _ ⟨d, hd, rfl⟩
    exact ⟨_, rfl, d, hd, rfl⟩

theorem loop16c (N : Int) (L : List SiT) (hL : SSs L) (id k : Int) (xs : Int × Int × Int × Unit) (X : Int) (lists : List SiT × List SiT × List SiT × Unit) (o n : Int) (d : Dice) :
    loopT l16_0_36 ((0, N, L, (id, k, ()), id, xs, X, lists, o, n, ()), ((d, ()), ())) = some (.inr ((L, id, xs, X, lists, o, n, ()), ((d, ()), ()))) := by
  refine loop_thru (f := l16_0_36) [id, k] (fun i => (((i : Int), N, L, (id, k, ()), id, xs, X, lists, o, n, ()), ((d, ()), ()))) _ ?_ rfl
  intro i e he hi
  have hi3 : i < 2 := hi
  have hw : w64 ((i : Int) + 1) = ((i + 1 : Nat) : Int) := w64_nat (by omega)
  obtain ⟨c, m, h1, h2, hm⟩ := end_ex L hL e N
  simp only [l16_0_36, decide_eq_true (show (i : Int) < 2 by omega), rowAt_G, rowG_nat he, h1, h2, m84_refl m hm, hw, sumE, sS]

theorem loop16d (L : List SiT) (hL : SSs L) (id x0 x1 x2 X : Int) (lists : List SiT × List SiT × List SiT × Unit) (o : Int) (d : Dice) (hd : DOK d) :
    ∃ d', DOK d' ∧ loopT l16_0_26 ((L, 0, id, (x0, x1, x2, ()), X, lists, o, ()), ((d, ()), ())) = some (.inr ((id, X, lists, o, L, ()), ((d', ()), ()))) := by
  refine drop_q (loop_ind (f := l16_0_26) (Q := fun r => ∃ d', DOK d' ∧ r = .inr ((id, X, lists, o, L, ()), ((d', ()), ()))) (fun i st => ∃ d, DOK d ∧ st = ((L, (i : Int), id, (x0, x1, x2, ()), X, lists, o, ()), ((d, ()), ()))) 3 ?_ ?_ _ ⟨d, hd, rfl⟩)
  · rintro i _ hi ⟨d, hd, rfl⟩
    obtain ⟨e, he, hm⟩ := at3 x0 x1 x2 hi
    obtain ⟨y, d1, e1, hd1, hy⟩ := labels_spec d hd
    have hyz := (from_good hy).z
    obtain ⟨k, d2, e2, hd2, _⟩ := next_spec 8 d1 hd1 (by omega)
    have hw : w64 ((i : Int) + 1) = ((i + 1 : Nat) : Int) := w64_nat (by omega)
    refine ⟨_, ?_, d2, hd2, rfl⟩
    simp only [l16_0_26, decide_eq_true (show (i : Int) < 3 by omega), rowAt_G, rowG_nat he, e1, m64_eq L hL y hyz, m81_eq L hL y hyz, m65_eq L hL.1, m82_eq L hL.1, e2, beq_self_eq_true, sumE, sS]
    refine bind_of _ (loop16c e L hL id k (x0, x1, x2, ()) X lists o (i : Int) d2) ?_
    simp only [hw]
  · rintro _ ⟨d, hd, rfl⟩
    exact ⟨_, rfl, d, hd, rfl⟩

theorem loop16e (id X : Int) (a b c : List SiT) (hs : ∀ l ∈ [a, b, c], SSs l ∧ l.length ≤ 900) (d : Dice) (hd : DOK d) :
    loopT l16_0_21 ((id, 0, X, (a, b, c, ()), ()), ((d, ()), ())) = some (.inr ((), ())) := by
  refine drop_e (loop_ind (f := l16_0_21) (Q := fun r => r = .inr ((), ())) (fun i st => ∃ d, DOK d ∧ st = ((id, (i : Int), X, (a, b, c, ()), ()), ((d, ()), ()))) 3 ?_ ?_ _ ⟨d, hd, rfl⟩)
  · rintro i _ hi ⟨d, hd, rfl⟩
    obtain ⟨L, he, hm⟩ := at3 a b c hi
    obtain ⟨hL, hn⟩ := hs L hm
    obtain ⟨x1, d1, e1, hd1, _⟩ := next_spec 1500 d hd (by omega)
    obtain ⟨x2, d2, e2, hd2, _⟩ := next_spec 700 d1 hd1 (by omega)
    obtain ⟨d3, hd3, e3⟩ := loop16d L hL id X x1 x2 X (a, b, c, ()) (i : Int) d2 hd2
    obtain ⟨p, d4, e4, hd4, _⟩ := pick_spec [id, 7, 8, 1] d3 hd3 (by simp) (by simp)
    obtain ⟨f, t, w, ms, d5, e5, hd5, hg⟩ := silence_spec p d4 hd4
    obtain ⟨x3, d6, e6, hd6, _⟩ := next_spec 3 d5 hd5 (by omega)
    obtain ⟨x4, d7, e7, hd7, _⟩ := pick_spec [5, 0, 8589934592, 8589934593] d6 hd6 (by simp) (by simp)
    obtain ⟨x5, d8, e8, hd8, _⟩ := pick_spec [0, (-1)] d7 hd7 (by simp) (by simp)
    obtain ⟨ns, d9, e9, hd9, hn9, hg9⟩ := matchers_spec 2 d8 hd8 (by omega) (by omega)
    have hz : SSz (9, w64 (x3 - 1), x4, x5, ns, ()) := ⟨by show ns.length ≤ 4294967296; omega, fun m hm => ⟨(hg9 m hm).p, (hg9 m hm).z⟩⟩
    have q1 := m63_eq L hL (by omega) (p, f, t, w, ms, ()) hg.z
    have q2 := m63_eq L hL (by omega) (9, w64 (x3 - 1), x4, x5, ns, ()) hz
    have q3 := m85_eq L hL (by omega) (9, w64 (x3 - 1), x4, x5, ns, ()) hz
    have q4 := m84_refl _ (add_z hL (by omega) hz)
    have hw : w64 ((i : Int) + 1) = ((i + 1 : Nat) : Int) := w64_nat (by omega)
    refine ⟨_, ?_, d9, hd9, rfl⟩
    simp only [l16_0_21, decide_eq_true (show (i : Int) < 3 by omega), rowAt_G, rowG_nat he, m79_eq L hL, m80_eq L hL, e1, e2, sumE, sS]
    refine bind_of _ e3 ?_
    simp only [sumE, e4, e5, q1, sumE, sS]
    cases hc : ((addE L (p, f, t, w, ms, ())).1 == 0)
    · simp only [e6, e7, e8, e9, q2, q3, q4, hw, sumE, sS]
    · obtain ⟨h1, h2⟩ := add_zero (by simpa using hc)
      have q5 := m79_eq _ (add_z hL (by omega) (s := (p, f, t, w, ms, ())) hg.z)
      rw [h1, h2] at q5
      simp only [h1, q5, e6, e7, e8, e9, q2, q3, q4, hw, sumE, sS]
  · rintro _ ⟨d, hd, rfl⟩
    exact ⟨_, rfl, rfl⟩

/-- What is read is small. -/
theorem small_ms {l : List MT} (h : InB 1048576 (.row (.cons .str (.cons (.int .i64) (.cons .str .unit)))) l) : l.length ≤ 1048576 ∧ ∀ m ∈ l, PSz m ∧ MSz m := by
  refine ⟨h.1, fun m hm => ?_⟩
  have := h.2 m hm
  obtain ⟨h1, _, h2, _⟩ := this
  have h1 : m.1.size ≤ 1048576 := h1
  have h2 : m.2.2.1.size ≤ 1048576 := h2
  exact ⟨show _ ≤ _ by omega, show _ ≤ _ by omega, show _ ≤ _ by omega⟩

theorem small_ls {l : List LT} (h : InB 1048576 (.row (.cons .str (.cons .str .unit))) l) : LSz l := by
  refine ⟨Nat.le_trans h.1 (by decide), fun x hx => ?_⟩
  have h2 : x.2.1.size ≤ 1048576 := (h.2 x hx).2.1
  omega

theorem small_rule {r : RuT} (h : InB 1048576 (.cons (.row (.cons .str (.cons (.int .i64) (.cons .str .unit)))) (.cons (.row (.cons .str (.cons (.int .i64) (.cons .str .unit)))) (.cons (.row .str) .unit))) r) : RSz r ∧ TSz r := by
  obtain ⟨h1, h2, h3, _⟩ := h
  have a := small_ms h1
  have b := small_ms h2
  have c1 : r.2.2.1.length ≤ 1048576 := h3.1
  have c2 : ∀ k ∈ r.2.2.1, k.size ≤ 1048576 := h3.2
  have u : ∀ {n : Nat}, n ≤ 1048576 → n ≤ 9223372036854775807 := fun h => by omega
  exact ⟨⟨⟨u a.1, fun m hm => (a.2 m hm).1⟩, ⟨u b.1, fun m hm => (b.2 m hm).1⟩, u c1⟩, ⟨u a.1, fun m hm => (a.2 m hm).2⟩, ⟨u b.1, fun m hm => (b.2 m hm).2⟩, u c1, fun k hk => u (c2 k hk)⟩

theorem good_rule {r : RuT} (h : GoodR r) : TSz r := by
  obtain ⟨h1, h2, h3, h4, h5, _⟩ := h
  have h6 := h5.length_le
  rw [show keys4.length = 4 from rfl] at h6
  exact ⟨⟨by unfold big; omega, fun m hm => (h3 m hm).z⟩, ⟨by unfold big; omega, fun m hm => (h4 m hm).z⟩, by unfold big; omega, fun k hk => by have := (keys4_ok k (h5.subset hk)).2; unfold big; omega⟩

abbrev tMs : Ty := .row (.cons .str (.cons (.int .i64) (.cons .str .unit)))

abbrev tLs : Ty := .row (.cons .str (.cons .str .unit))

theorem law16c (t : List Int) (inn : List RuT) (raw : List SiT) (labels : List LT) (firing : List (List LT)) (X id : Int)
    (h1 : ∀ r ∈ inn, RSz r ∧ TSz r) (h2 : ∀ s ∈ raw, SSz s) (h3 : LSz labels) (h4 : ∀ l ∈ firing, LSz l) : m16 ((t, inn, raw, labels, firing, X, id, ()), ()) = some ((true, ()), ()) := by
  unfold m16
  simp only [light, sumE, sS]
  by_cases ht : t.length ≤ 500
  · simp only [decide_eq_true ht, sumE, sS]
    by_cases c1 : (inn.length : Int) > 20
    · simp only [decide_eq_true c1, sumE, sS, sane22]
    · by_cases c2 : (raw.length : Int) > 40
      · simp only [decide_eq_false c1, decide_eq_true c2, sumE, sS, sane22]
      · by_cases c3 : (labels.length : Int) > 20
        · simp only [decide_eq_false c1, decide_eq_false c2, decide_eq_true c3, sumE, sS, sane22]
        · by_cases c4 : (firing.length : Int) > 20
          · simp only [decide_eq_false c1, decide_eq_false c2, decide_eq_false c3, decide_eq_true c4, sumE, sS, sane22]
          · simp only [decide_eq_false c1, decide_eq_false c2, decide_eq_false c3, decide_eq_false c4, roll, sumE, sS]
            obtain ⟨a, d1, e1, hd1, hn, ha⟩ := inh_spec _ (dok0 ht)
            obtain ⟨s, d2, e2, hd2, hs⟩ := silences_spec d1 hd1
            obtain ⟨p, d3, e3, hd3, _⟩ := pick_spec [0, 1, 9] d2 hd2 (by simp) (by simp)
            obtain ⟨f, u, w, ms, d4, e4, hd4, hg⟩ := silence_spec p d3 hd3
            obtain ⟨m1, d5, e5, hd5, hn5, hg5⟩ := matchers_spec 1 d4 hd4 (by omega) (by omega)
            obtain ⟨m2, d6, e6, hd6, hn6, hg6⟩ := matchers_spec 9 d5 hd5 (by omega) (by omega)
            obtain ⟨ks, d7, e7, hd7, hk7⟩ := keysD_spec d6 hd6
            obtain ⟨x1, d8, e8, hd8, hx1⟩ := labels_spec d7 hd7
            obtain ⟨x2, d9, e9, hd9, hx2⟩ := labels_spec d8 hd8
            obtain ⟨x3, d10, e10, hd10, hx3⟩ := labels_spec d9 hd9
            have hs3 := hs.1
            have hsz := hs.z
            have hk4 := hk7.length_le
            rw [show keys4.length = 4 from rfl] at hk4
            have b1 : decide (0 + s.length ≤ 4294967296) = true := decide_eq_true (by omega)
            have b2 : decide (s.length + ([(p, f, u, w, ms, ())] : List SiT).length ≤ 4294967296) = true := decide_eq_true (by simp; omega)
            have b3 : decide (([(m1, m2, ks, ())] : List RuT).length + a.length ≤ 4294967296) = true := decide_eq_true (by simp; omega)
            have hw1 : RSz (m1, m2, ks, ()) ∧ TSz (m1, m2, ks, ()) := by
              have u : ∀ {n : Nat}, n ≤ 1048576 → n ≤ 9223372036854775807 := fun h => by omega
              exact ⟨⟨⟨u (by show m1.length ≤ _; omega), fun m hm => (hg5 m hm).p⟩, ⟨u (by show m2.length ≤ _; omega), fun m hm => (hg6 m hm).p⟩, u (by show ks.length ≤ _; omega)⟩,
                ⟨u (by show m1.length ≤ _; omega), fun m hm => (hg5 m hm).z⟩, ⟨u (by show m2.length ≤ _; omega), fun m hm => (hg6 m hm).z⟩, u (by show ks.length ≤ _; omega), fun k hk => u (by have := (keys4_ok k (hk7.subset hk)).2; omega)⟩
            have hr : ∀ r ∈ [a, [(m1, m2, ks, ())] ++ a, inn], RSs r ∧ r.length ≤ big ∧ ∀ x ∈ r, TSz x := by
              intro r hr
              simp only [List.mem_cons, List.not_mem_nil, or_false] at hr
              rcases hr with rfl | rfl | rfl
              · exact ⟨⟨by unfold big; omega, fun x hx => (ha x hx).z⟩, by unfold big; omega, fun x hx => good_rule (ha x hx)⟩
              · have hlen : ([(m1, m2, ks, ())] ++ a).length ≤ big := by unfold big; simp; omega
                have hall : ∀ x ∈ [(m1, m2, ks, ())] ++ a, RSz x ∧ TSz x := fun x hx => by
                  rcases List.mem_append.1 hx with h | h
                  · simp only [List.mem_singleton] at h; subst h; exact hw1
                  · exact ⟨(ha x h).z, good_rule (ha x h)⟩
                exact ⟨⟨hlen, fun x hx => (hall x hx).1⟩, hlen, fun x hx => (hall x hx).2⟩
              · exact ⟨⟨by unfold big; omega, fun x hx => (h1 x hx).1⟩, by unfold big; omega, fun x hx => (h1 x hx).2⟩
            have hfire : FSs [x1, x2, x3] := ⟨by simp [big], fun y hy => by
              simp only [List.mem_cons, List.not_mem_nil, or_false] at hy
              rcases hy with rfl | rfl | rfl
              · exact (from_good hx1).z
              · exact (from_good hx2).z
              · exact (from_good hx3).z⟩
            obtain ⟨d11, hd11, q1⟩ := loop16b X firing [x1, x2, x3] ⟨by unfold big; omega, h4⟩ hfire x1 rfl labels h3 a ([(m1, m2, ks, ())] ++ a) inn hr id raw s (s ++ [(p, f, u, w, ms, ())]) hsz d10 hd10
            have q2 := loop16e id X s (s ++ [(p, f, u, w, ms, ())]) raw (fun l hl => by
              simp only [List.mem_cons, List.not_mem_nil, or_false] at hl
              rcases hl with rfl | rfl | rfl
              · exact ⟨hsz, by omega⟩
              · exact ⟨hsz.app (by omega) hg.z, by simp; omega⟩
              · exact ⟨⟨by omega, h2⟩, by omega⟩) d11 hd11
            simp only [e1, e2, b1, e3, e4, b2, e5, e6, e7, b3, e8, e9, e10, sumE, sS]
            refine bind_of _ q1 ?_
            simp only [sumE]
            refine bind_of _ q2 ?_
            simp only [sane22, sumE, sS]
  · simp only [decide_eq_false ht, sumE, sS, sane22]

theorem law16 : ∀ x, Abs.InBs 1048576 [.row (.int .i64), .row (.cons tMs (.cons tMs (.cons (.row .str) .unit))), .row (.cons (.int .i64) (.cons (.int .i64) (.cons (.int .i64) (.cons (.int .i64) (.cons tMs .unit))))), tLs, .row tLs, .int .i64, .int .i64] x → m16 (x, ()) = some ((true, ()), ()) := by
  intro x h
  obtain ⟨_, h1, h2, h3, h4, _⟩ := h
  refine law16c x.1 x.2.1 x.2.2.1 x.2.2.2.1 x.2.2.2.2.1 x.2.2.2.2.2.1 x.2.2.2.2.2.2.1 (fun r hr => small_rule (h1.2 r hr)) (fun s hs => ?_) (small_ls h3) (fun l hl => small_ls (h4.2 l hl))
  have := small_ms (h2.2 s hs).2.2.2.2.1
  exact ⟨Nat.le_trans this.1 (by decide), this.2⟩

end Go.Proofs.YtcblbcpnfidndaaDoor
