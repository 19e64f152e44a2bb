/- Lemmas for the statement of the last text of this claim. -/
import Derived.Test.YtcblbcpnfidndaaDoorChecked
import Derived.Shelf.Strings.OnBuilder
import Derived.Shelf.Strings.IndexAnyAll
import Derived.Shelf.Strings.Search1
import Derived.ProofKit
import Derived.Shelf.Strings.Runes
import Derived.Shelf.Small.Utf8
import Derived.Lib.OthersKept
import Derived.Laws.RangeAny
import Derived.Laws.Runes
import Derived.WalkKit
import Derived.BigCall
import Derived.BigQuiet
import Derived.WalkMore
import Derived.Deep.DeepBigQuietO
import Derived.Deep.CutRange
import Derived.Test.YtcblbcpnfidndaaDoorPxO
import Derived.Test.YtcblbcpnfidndaaDoorPlD
import Derived.Deep.RegionLaw
import Derived.Deep.LoopGhost
import Derived.Lib.Walk
import Derived.Maps.Own
import Derived.Shelf.RegionOpenPlain
import Derived.Lib.LazyBuf
import Derived.Test.YtcblbcpnfidndaaDoorPxP
import Derived.Test.YtcblbcpnfidndaaDoorV3A
set_option linter.unusedSimpArgs false
set_option linter.unusedVariables false
namespace Go.Proofs.YtcblbcpnfidndaaDoor
open Go Go.Abs Go.Lab
def isOp (c : UInt8) : Bool := c == 61 || (c == 33 || c == 126)

theorem eqU (c : UInt8) (n : UInt8) : (u8 c == (n.toNat : Int)) = (c == n) := by
  by_cases h : c = n
  · subst h; simp [u8]
  · rw [beq_eq_false_iff_ne.2 h]
    exact beq_eq_false_iff_ne.2 fun e => h (UInt8.toNat_inj.1 (by unfold u8 at e; omega))

theorem upto_drop {p : UInt8 → Bool} : ∀ (s : List UInt8), s = upTo p s ++ s.drop (upTo p s).length
  | [] => rfl
  | c :: s => by
    unfold upTo
    by_cases h : p c = true
    · rw [if_pos h]; rfl
    · rw [if_neg h, List.length_cons, List.drop_succ_cons, List.cons_append, ← upto_drop s]

theorem upto_take {p : UInt8 → Bool} : ∀ (s : List UInt8), s.take (upTo p s).length = upTo p s
  | [] => rfl
  | c :: s => by
    unfold upTo
    by_cases h : p c = true
    · rw [if_pos h]; rfl
    · rw [if_neg h, List.length_cons, List.take_succ_cons, upto_take s]

theorem upto_len {p : UInt8 → Bool} (s : List UInt8) : (upTo p s).length ≤ s.length := by
  have := congrArg List.length (upto_drop (p := p) s)
  rw [List.length_append] at this
  omega

abbrev M0 : MT := (ByteArray.empty, 0, ByteArray.empty, ())

theorem loop137a (s : ByteArray) (hs : s.size ≤ 4194304) (m : MT) : ∀ (k i : Nat), i + k = s.size →
    loopT l137_0_2 (((i : Int), s, ()), ((m, ()), ())) = some ((((i + (upTo isOp ((bl s).drop i)).length : Nat) : Int), s, ()), ((m, ()), ())) := by
  intro k
  induction k with
  | zero =>
    intro i h
    rw [List.drop_eq_nil_of_le (by rw [len_bl]; omega)]
    refine loopT_inr ?_
    have : decide ((i : Int) < (s.size : Int)) = false := decide_eq_false (by omega)
    simp only [l137_0_2, this, sumE, sS]
    rfl
  | succ k ih =>
    intro i h
    obtain ⟨c, hc, hd⟩ := drop_at (l := bl s) (i := i) (by rw [len_bl]; omega)
    have hlt : decide ((i : Int) < (s.size : Int)) = true := decide_eq_true (by omega)
    have hbd : decide ((0 : Int) ≤ (i : Int) ∧ (i : Int) < (s.size : Int)) = true := decide_eq_true (by omega)
    have hw : w64 ((i : Int) + 1) = ((i + 1 : Nat) : Int) := w64_nat (by omega)
    have e1 : (u8 c == 61) = (c == 61) := eqU c 61
    have e2 : (u8 c == 33) = (c == 33) := eqU c 33
    have e3 : (u8 c == 126) = (c == 126) := eqU c 126
    have hstep : l137_0_2 (((i : Int), s, ()), ((m, ()), ())) = if isOp c then some (.inr (((i : Int), s, ()), ((m, ()), ()))) else some (.inl ((((i + 1 : Nat) : Int), s, ()), ((m, ()), ()))) := by
      unfold isOp
      simp only [l137_0_2, hlt, hbd, byte_at hc, bne, e1, e2, e3, sumE, sS]
      cases (c == 61) <;> cases (c == 33) <;> cases (c == 126) <;> simp only [sumE, sS, hw, Bool.or_true, Bool.true_or, Bool.or_false, Bool.false_or, Bool.false_eq_true, if_true, if_false]
    rw [hd]
    unfold upTo
    by_cases hop : isOp c = true
    · rw [if_pos hop] at hstep ⊢
      exact loopT_inr hstep
    · rw [if_neg hop] at hstep ⊢
      rw [loopT_inl hstep, ih (i + 1) (by omega), List.length_cons]
      rw [show i + 1 + (upTo isOp ((bl s).drop (i + 1))).length = i + ((upTo isOp ((bl s).drop (i + 1))).length + 1) by omega]

def opsB : List ByteArray := [(bs [61]), (bs [33, 61]), (bs [126]), (bs [33, 126])]

theorem step137b (t : ByteArray) (ht : t.size ≤ 4194304) (m0 m : MT) (i : Nat) (op : ByteArray) (ho : opsB[i]? = some op) (hsz : op.size ≤ 2) :
    l137_0_8 ((t, (i : Int), ()), ((m0, ()), ((m, ()), (opsB, ())))) = some (if preL (bl op ++ [34]) (bl t) then .inr ((mkB ((bl t).drop (op.size + 1)), ()), ((m0, ()), (((m.1, (i : Int), m.2.2), ()), ())))
      else .inl ((t, ((i + 1 : Nat) : Int), ()), ((m0, ()), ((m, ()), (opsB, ()))))) := by
  have hi : i < opsB.length := (List.getElem?_eq_some_iff.1 ho).1
  have hi4 : i < 4 := hi
  have hlt : decide ((i : Int) < ((opsB.length : Nat) : Int)) = true := decide_eq_true (by omega)
  have hbd : decide ((0 : Int) ≤ (i : Int) ∧ (i : Int) < ((opsB.length : Nat) : Int)) = true := decide_eq_true (by omega)
  have hw : w64 ((i : Int) + 1) = ((i + 1 : Nat) : Int) := w64_nat (by omega)
  by_cases h1 : (t.size : Int) > (op.size : Int)
  · have d0 : decide ((0 : Int) ≤ (op.size : Int)) = true := decide_eq_true (by omega)
    have d1 : decide (0 ≤ op.size ∧ op.size ≤ t.size) = true := decide_eq_true (by omega)
    obtain ⟨c, hc⟩ := getD_some (l := bl t) (i := op.size) (by rw [len_bl]; omega)
    have d2 : decide ((0 : Int) ≤ (op.size : Int) ∧ (op.size : Int) < (t.size : Int)) = true := decide_eq_true (by omega)
    have e34 : (u8 c == 34) = (c == 34) := eqU c 34
    have hpre : preL (bl op ++ [34]) (bl t) = ((bl t).take op.size == bl op && c == 34) := by
      unfold preL
      rw [List.length_append, len_bl, List.length_singleton, List.take_add_one, hc]
      by_cases ha : (bl t).take op.size = bl op
      · rw [ha]
        by_cases hb : c = 34
        · subst hb; simp
        · simp [hb]
      · rw [beq_eq_false_iff_ne.2 ha, Bool.false_and]
        refine beq_eq_false_iff_ne.2 fun e => ha ?_
        have := List.append_inj_left' e (by simp)
        exact this
    rw [hpre]
    simp only [l137_0_8, hlt, hbd, Int.toNat_natCast, ho, decide_eq_true h1, d0, d1, ext_take, toList_bl, bl_mk, sumE, sS]
    cases ha : ((bl t).take op.size == bl op)
    · simp only [sumE, sS, hw, Bool.false_and, Bool.false_eq_true, if_false]
    · simp only [sumE, sS, d2, byte_at hc, byte_n hc, e34, Bool.true_and]
      cases hb : (c == 34)
      · simp only [sumE, sS, hw, Bool.false_eq_true, if_false]
      · have hw2 : w64 ((op.size : Int) + 1) = ((op.size + 1 : Nat) : Int) := w64_nat (by omega)
        have d3 : decide ((0 : Int) ≤ ((op.size + 1 : Nat) : Int)) = true := decide_eq_true (by omega)
        have d4 : decide (op.size + 1 ≤ t.size ∧ t.size ≤ t.size) = true := decide_eq_true (by omega)
        simp only [sumE, sS, hw2, d3, Int.toNat_natCast, d4, ext_mk, if_true]
  · have : preL (bl op ++ [34]) (bl t) = false := by
      cases hp : preL (bl op ++ [34]) (bl t)
      · rfl
      · have := pre_len hp
        rw [List.length_append, len_bl, len_bl, List.length_singleton] at this
        omega
    rw [this]
    simp only [l137_0_8, hlt, hbd, Int.toNat_natCast, ho, decide_eq_false h1, hw, sumE, sS, Bool.false_eq_true, if_false]

/-- The operator ahead of a quoted value, and what is behind its 34. -/
def opR (t : List UInt8) : Option (Nat × List UInt8) :=
  if preL [61, 34] t then some (0, t.drop 2) else if preL [33, 61, 34] t then some (1, t.drop 3) else if preL [126, 34] t then some (2, t.drop 2) else if preL [33, 126, 34] t then some (3, t.drop 3) else none

theorem loop137b (t : ByteArray) (ht : t.size ≤ 4194304) (m0 m : MT) :
    loopT l137_0_8 ((t, 0, ()), ((m0, ()), ((m, ()), (opsB, ())))) = some (match opR (bl t) with
      | some (i, r) => ((mkB r, ()), ((m0, ()), (((m.1, (i : Int), m.2.2), ()), ())))
      | none => ((t, ()), ((m0, ()), ((m, ()), ())))) := by
  have s0 := step137b t ht m0 m 0 (bs [61]) rfl (by decide)
  have s1 := step137b t ht m0 m 1 (bs [33, 61]) rfl (by decide)
  have s2 := step137b t ht m0 m 2 (bs [126]) rfl (by decide)
  have s3 := step137b t ht m0 m 3 (bs [33, 126]) rfl (by decide)
  have s4 : l137_0_8 ((t, ((4 : Nat) : Int), ()), ((m0, ()), ((m, ()), (opsB, ())))) = some (.inr ((t, ()), ((m0, ()), ((m, ()), ())))) := rfl
  unfold opR
  by_cases h0 : preL [61, 34] (bl t) = true
  · rw [if_pos h0]
    rw [show bl (bs [61]) ++ [34] = [61, 34] from rfl, if_pos h0] at s0
    exact loopT_inr s0
  · rw [if_neg h0]
    rw [show bl (bs [61]) ++ [34] = [61, 34] from rfl, if_neg h0] at s0
    rw [show loopT l137_0_8 ((t, 0, ()), ((m0, ()), ((m, ()), (opsB, ())))) = _ from loopT_inl s0]
    by_cases h1 : preL [33, 61, 34] (bl t) = true
    · rw [if_pos h1]
      rw [show bl (bs [33, 61]) ++ [34] = [33, 61, 34] from rfl, if_pos h1] at s1
      exact loopT_inr s1
    · rw [if_neg h1]
      rw [show bl (bs [33, 61]) ++ [34] = [33, 61, 34] from rfl, if_neg h1] at s1
      rw [show loopT l137_0_8 ((t, ((0 + 1 : Nat) : Int), ()), ((m0, ()), ((m, ()), (opsB, ())))) = _ from loopT_inl s1]
      by_cases h2 : preL [126, 34] (bl t) = true
      · rw [if_pos h2]
        rw [show bl (bs [126]) ++ [34] = [126, 34] from rfl, if_pos h2] at s2
        exact loopT_inr s2
      · rw [if_neg h2]
        rw [show bl (bs [126]) ++ [34] = [126, 34] from rfl, if_neg h2] at s2
        rw [show loopT l137_0_8 ((t, ((1 + 1 : Nat) : Int), ()), ((m0, ()), ((m, ()), (opsB, ())))) = _ from loopT_inl s2]
        by_cases h3 : preL [33, 126, 34] (bl t) = true
        · rw [if_pos h3]
          rw [show bl (bs [33, 126]) ++ [34] = [33, 126, 34] from rfl, if_pos h3] at s3
          exact loopT_inr s3
        · rw [if_neg h3]
          rw [show bl (bs [33, 126]) ++ [34] = [33, 126, 34] from rfl, if_neg h3] at s3
          rw [show loopT l137_0_8 ((t, ((2 + 1 : Nat) : Int), ()), ((m0, ()), ((m, ()), (opsB, ())))) = _ from loopT_inl s3]
          exact loopT_inr s4

theorem ext_one {s : ByteArray} {i : Nat} {c : UInt8} (hc : (bl s)[i]? = some c) : s.extract i (i + 1) = mkB [c] := bl_inj (by
  have hcl : i < (bl s).length := (List.getElem?_eq_some_iff.1 hc).1
  rw [extract_bl, bl_mk, List.drop_eq_getElem_cons hcl, show i + 1 - i = 1 by omega, List.take_succ_cons, List.take_zero]
  rw [(List.getElem?_eq_some_iff.1 hc).2])

theorem loop137c (t : ByteArray) (ht : t.size ≤ 4194304) (m0 m : MT) : ∀ (k i : Nat) (v : List UInt8), t.size - i ≤ k → i ≤ t.size → v.length ≤ i →
    loopT l137_0_18 (((i : Int), t, mkB v, ()), ((m0, ()), ((m, ()), ()))) = some (match unq ((bl t).drop i) with
      | some (u, r) => .inl ((mkB r, true, ()), (((m.1, m.2.1, mkB (v ++ u), ()), ()), ()))
      | none => .inr ((), ((m0, ()), ((m, ()), ())))) := by
  intro k
  induction k with
  | zero =>
    intro i v h hi hv
    rw [List.drop_eq_nil_of_le (by rw [len_bl]; omega)]
    refine loopT_inr ?_
    have : decide ((i : Int) < (t.size : Int)) = false := decide_eq_false (by omega)
    simp only [l137_0_18, this, sumE, sS]
    rfl
  | succ k ih =>
    intro i v h hi hv
    by_cases hil : i = t.size
    · rw [List.drop_eq_nil_of_le (by rw [len_bl]; omega)]
      refine loopT_inr ?_
      have : decide ((i : Int) < (t.size : Int)) = false := decide_eq_false (by omega)
      simp only [l137_0_18, this, sumE, sS]
      rfl
    · obtain ⟨c, hc, hd⟩ := drop_at (l := bl t) (i := i) (by rw [len_bl]; omega)
      have hlt : decide ((i : Int) < (t.size : Int)) = true := decide_eq_true (by omega)
      have hbd : decide ((0 : Int) ≤ (i : Int) ∧ (i : Int) < (t.size : Int)) = true := decide_eq_true (by omega)
      have hw : w64 ((i : Int) + 1) = ((i + 1 : Nat) : Int) := w64_nat (by omega)
      have hw2 : w64 (((i + 1 : Nat) : Int) + 1) = ((i + 1 + 1 : Nat) : Int) := w64_nat (by omega)
      have e34 : (u8 c == 34) = (c == 34) := eqU c 34
      have e92 : (u8 c == 92) = (c == 92) := eqU c 92
      have d0 : ∀ n : Nat, decide ((0 : Int) ≤ (n : Int)) = true := fun n => decide_eq_true (by omega)
      have d1 : decide (i + 1 ≤ t.size ∧ t.size ≤ t.size) = true := decide_eq_true (by omega)
      have d2 : decide (i ≤ i + 1 ∧ i + 1 ≤ t.size) = true := decide_eq_true (by omega)
      have d3 : ∀ x : UInt8, decide ((mkB v).size + (mkB [x]).size ≤ 4294967296) = true := fun x => decide_eq_true (by rw [size_mk, size_mk]; simp; omega)
      rw [hd]
      by_cases h34 : c = 34
      · subst h34
        rw [unq_end]
        refine loopT_inr ?_
        simp only [l137_0_18, hlt, hbd, byte_at hc, byte_n hc, e34, hw, d0, Int.toNat_natCast, d1, ext_mk, sumE, sS, List.append_nil]
      · have b34 : (c == 34) = false := beq_eq_false_iff_ne.2 h34
        by_cases h92 : c = 92
        · subst h92
          by_cases hend : i + 1 < t.size
          · obtain ⟨d, hdc, hdd⟩ := drop_at (l := bl t) (i := i + 1) (by rw [len_bl]; exact hend)
            rw [hdd, unq_esc2]
            have x1 : decide (((i + 1 : Nat) : Int) < (t.size : Int)) = true := decide_eq_true (by omega)
            have d4 : decide (i + 1 ≤ i + 1 + 1 ∧ i + 1 + 1 ≤ t.size) = true := decide_eq_true (by omega)
            have q := ih (i + 1 + 1) (v ++ [d]) (by omega) (by omega) (by simp; omega)
            have hst : l137_0_18 (((i : Int), t, mkB v, ()), ((m0, ()), ((m, ()), ()))) = some (.inl ((((i + 1 + 1 : Nat) : Int), t, mkB (v ++ [d]), ()), ((m0, ()), ((m, ()), ())))) := by
              simp only [l137_0_18, hlt, hbd, byte_at hc, byte_n hc, e34, e92, b34, hw, x1, d0, Int.toNat_natCast, hw2, d4, ext_one hdc, d3, mk_app, sumE, sS]
            rw [loopT_inl hst, q]
            cases unq ((bl t).drop (i + 1 + 1)) with
            | none => rfl
            | some p => simp
          · have hd2 : (bl t).drop (i + 1) = [] := List.drop_eq_nil_of_le (by rw [len_bl]; omega)
            rw [hd2, unq_last]
            have x1 : decide (((i + 1 : Nat) : Int) < (t.size : Int)) = false := decide_eq_false (by omega)
            have hst : l137_0_18 (((i : Int), t, mkB v, ()), ((m0, ()), ((m, ()), ()))) = some (.inl ((((i + 1 : Nat) : Int), t, mkB (v ++ [92]), ()), ((m0, ()), ((m, ()), ())))) := by
              simp only [l137_0_18, hlt, hbd, byte_at hc, byte_n hc, e34, e92, b34, hw, x1, d0, Int.toNat_natCast, d2, ext_one hc, d3, mk_app, sumE, sS]
            have q := ih (i + 1) (v ++ [92]) (by omega) (by omega) (by simp; omega)
            rw [hd2] at q
            rw [loopT_inl hst, q]
            rfl
        · have b92 : (c == 92) = false := beq_eq_false_iff_ne.2 h92
          rw [unq_byte h34 h92]
          have q := ih (i + 1) (v ++ [c]) (by omega) (by omega) (by simp; omega)
          have hst : l137_0_18 (((i : Int), t, mkB v, ()), ((m0, ()), ((m, ()), ()))) = some (.inl ((((i + 1 : Nat) : Int), t, mkB (v ++ [c]), ()), ((m0, ()), ((m, ()), ())))) := by
            simp only [l137_0_18, hlt, hbd, byte_at hc, byte_n hc, e34, e92, b34, b92, hw, d0, Int.toNat_natCast, d2, ext_one hc, d3, mk_app, sumE, sS]
          rw [loopT_inl hst, q]
          cases unq ((bl t).drop (i + 1)) with
          | none => rfl
          | some p => simp

/-- A key, an operator, a value, what is left. -/
def readR (s : List UInt8) : Option (List UInt8 × Nat × List UInt8 × List UInt8) :=
  match opR (s.drop (upTo isOp s).length) with
  | none => none
  | some (i, t) => match unq t with
    | none => none
    | some (v, r) => some (upTo isOp s, i, v, r)

theorem m137_eq (s : ByteArray) (hs : s.size ≤ 4194304) : ∃ m : MT, m137 ((s, ()), ()) = some (match readR (bl s) with
    | some (k, i, v, r) => ((mkB r, true, ()), (((mkB k, (i : Int), mkB v, ()), ()), ()))
    | none => ((ByteArray.empty, false, ()), ((m, ()), ()))) := by
  have q1 := loop137a s hs M0 s.size 0 (by omega)
  rw [Nat.zero_add, List.drop_zero] at q1
  have hl := upto_len (p := isOp) (bl s)
  rw [len_bl] at hl
  have d0 : decide ((0 : Int) ≤ (((upTo isOp (bl s)).length : Nat) : Int)) = true := decide_eq_true (by omega)
  have d1 : decide (0 ≤ (upTo isOp (bl s)).length ∧ (upTo isOp (bl s)).length ≤ s.size) = true := decide_eq_true (by omega)
  have d2 : decide ((upTo isOp (bl s)).length ≤ s.size ∧ s.size ≤ s.size) = true := decide_eq_true (by omega)
  have htk : (bl s).take (upTo isOp (bl s)).length = upTo isOp (bl s) := upto_take (bl s)
  have q2 := loop137b (mkB ((bl s).drop (upTo isOp (bl s)).length)) (by rw [size_mk, List.length_drop, len_bl]; omega) M0 (mkB (upTo isOp (bl s)), -1, ByteArray.empty, ())
  rw [bl_mk] at q2
  have go : ∀ m : MT, m137 ((s, ()), ()) = some (match readR (bl s) with
    | some (k, i, v, r) => ((mkB r, true, ()), (((mkB k, (i : Int), mkB v, ()), ()), ()))
    | none => ((ByteArray.empty, false, ()), ((m, ()), ()))) → ∃ m : MT, m137 ((s, ()), ()) = some (match readR (bl s) with
    | some (k, i, v, r) => ((mkB r, true, ()), (((mkB k, (i : Int), mkB v, ()), ()), ()))
    | none => ((ByteArray.empty, false, ()), ((m, ()), ()))) := fun m h => ⟨m, h⟩
  unfold readR at go ⊢
  cases ho : opR ((bl s).drop (upTo isOp (bl s)).length) with
  | none =>
    rw [ho] at q2 go
    refine go (mkB (upTo isOp (bl s)), -1, ByteArray.empty, ()) ?_
    unfold m137
    refine bind_of _ (show loopT l137_0_2 ((0, s, ()), ((M0, ()), ())) = _ from q1) ?_
    simp only [d0, Int.toNat_natCast, d1, d2, ext_mk, ext_take, htk, m92, sumE, sS]
    refine bind_of _ (show loopT l137_0_8 ((mkB ((bl s).drop (upTo isOp (bl s)).length), 0, ()), ((M0, ()), (((mkB (upTo isOp (bl s)), -1, ByteArray.empty, ()), ()), (opsB, ())))) = _ from q2) ?_
    rfl
  | some p =>
    obtain ⟨i, t⟩ := p
    rw [ho] at q2 go
    have htl : t.length ≤ 4194304 := by
      have : t.length ≤ ((bl s).drop (upTo isOp (bl s)).length).length := by
        unfold opR at ho
        repeat' split at ho
        all_goals first | (cases ho; rw [List.length_drop]; omega) | cases ho
      rw [List.length_drop, len_bl] at this
      omega
    have q3 := loop137c (mkB t) (by rw [size_mk]; exact htl) M0 (mkB (upTo isOp (bl s)), (i : Int), ByteArray.empty, ()) t.length 0 [] (by rw [size_mk]; omega) (by omega) (by simp)
    rw [bl_mk, List.drop_zero, ← empty_mk] at q3
    have hneg : decide ((i : Int) < 0) = false := decide_eq_false (by omega)
    cases hu : unq t with
    | none =>
      simp only [hu] at q3 go ⊢
      refine go (mkB (upTo isOp (bl s)), (i : Int), ByteArray.empty, ()) ?_
      unfold m137
      refine bind_of _ (show loopT l137_0_2 ((0, s, ()), ((M0, ()), ())) = _ from q1) ?_
      simp only [d0, Int.toNat_natCast, d1, d2, ext_mk, ext_take, htk, m92, sumE, sS]
      refine bind_of _ (show loopT l137_0_8 ((mkB ((bl s).drop (upTo isOp (bl s)).length), 0, ()), ((M0, ()), (((mkB (upTo isOp (bl s)), -1, ByteArray.empty, ()), ()), (opsB, ())))) = _ from q2) ?_
      simp only [hneg, sumE, sS]
      exact bind_of _ (show loopT l137_0_18 ((0, mkB t, ByteArray.empty, ()), ((M0, ()), (((mkB (upTo isOp (bl s)), (i : Int), ByteArray.empty, ()), ()), ()))) = _ from q3) rfl
    | some p =>
      simp only [hu] at q3 go ⊢
      refine go M0 ?_
      unfold m137
      refine bind_of _ (show loopT l137_0_2 ((0, s, ()), ((M0, ()), ())) = _ from q1) ?_
      simp only [d0, Int.toNat_natCast, d1, d2, ext_mk, ext_take, htk, m92, sumE, sS]
      refine bind_of _ (show loopT l137_0_8 ((mkB ((bl s).drop (upTo isOp (bl s)).length), 0, ()), ((M0, ()), (((mkB (upTo isOp (bl s)), -1, ByteArray.empty, ()), ()), (opsB, ())))) = _ from q2) ?_
      simp only [hneg, sumE, sS]
      refine bind_of _ (show loopT l137_0_18 ((0, mkB t, ByteArray.empty, ()), ((M0, ()), (((mkB (upTo isOp (bl s)), (i : Int), ByteArray.empty, ()), ()), ()))) = _ from q3) ?_
      simp only [sumE, List.nil_append]

theorem readR_len {s k v r : List UInt8} {i : Nat} (h : readR s = some (k, i, v, r)) : r.length < s.length ∧ k.length ≤ s.length ∧ v.length ≤ s.length := by
  unfold readR at h
  split at h
  · cases h
  · rename_i i' t ho
    split at h
    · cases h
    · rename_i v' r' hu
      cases h
      obtain ⟨a, b⟩ := unq_le hu
      have : t.length ≤ (s.drop (upTo isOp s).length).length := by
        unfold opR at ho
        repeat' split at ho
        all_goals first | (cases ho; rw [List.length_drop]; omega) | cases ho
      rw [List.length_drop] at this
      have := upto_len (p := isOp) s
      exact ⟨by omega, this, by omega⟩

/-! ### Several -/
theorem step102 (s : ByteArray) (out : List MT) (hs : s.size ≤ 4194304) (ho : out.length ≤ 1000) :
    l102_0_2 ((s, ()), (out, ())) = some (match readR (bl s) with
      | none => .inr ((false, ()), ([], ()))
      | some (k, i, v, r) => if 20 < out.length then .inr ((false, ()), ([], ())) else match r with
        | [] => .inr ((true, ()), (out ++ [(mkB k, (i : Int), mkB v, ())], ()))
        | c :: r => if c = 44 then .inl ((mkB r, ()), (out ++ [(mkB k, (i : Int), mkB v, ())], ())) else .inr ((false, ()), ([], ()))) := by
  obtain ⟨m, q⟩ := m137_eq s hs
  cases hr : readR (bl s) with
  | none =>
    rw [hr] at q
    simp only [l102_0_2, q, sumE, sS]
  | some p =>
    obtain ⟨k, i, v, r⟩ := p
    rw [hr] at q
    by_cases h20 : 20 < out.length
    · have d : decide ((((out.length : Nat) : Int) : Int) > 20) = true := decide_eq_true (by omega)
      simp only [l102_0_2, q, d, sumE, sS]
      rw [if_pos h20]
    · have d : decide ((((out.length : Nat) : Int) : Int) > 20) = false := decide_eq_false (by omega)
      have hb : ∀ z : MT, decide (out.length + ([z] : List MT).length ≤ 4294967296) = true := fun z => decide_eq_true (by simp; omega)
      simp only [l102_0_2, q, d, hb, toList_bl, sumE, sS]
      rw [if_neg h20]
      cases r with
      | nil =>
        have : (bl (mkB ([] : List UInt8)) == bl ByteArray.empty) = true := rfl
        simp only [this, sumE, sS]
      | cons c r =>
        have e1 : (bl (mkB (c :: r)) == bl ByteArray.empty) = false := rfl
        have e2 : decide ((0 : Int) ≤ 0 ∧ (0 : Int) < ((mkB (c :: r)).size : Int)) = true := decide_eq_true (by rw [size_mk, List.length_cons]; omega)
        have e3 : ((((mkB (c :: r))[0]?.getD 0).toNat : Nat) : Int) = u8 c := byte_n (s := mkB (c :: r)) (i := 0) rfl
        have e4 : (u8 c == 44) = (c == 44) := eqU c 44
        have e5 : decide (1 ≤ (mkB (c :: r)).size ∧ (mkB (c :: r)).size ≤ (mkB (c :: r)).size) = true := decide_eq_true (by rw [size_mk, List.length_cons]; omega)
        have e6 : (mkB (c :: r)).extract 1 (mkB (c :: r)).size = mkB r := by rw [ext_mk, bl_mk]; rfl
        simp only [e1, e2, e3, bne, e4, sumE, sS]
        by_cases hc : c = 44
        · subst hc
          simp only [e5, e6, beq_self_eq_true, sumE, sS, if_true]
        · rw [beq_eq_false_iff_ne.2 hc, if_neg hc]
          simp only [sumE, sS]

/-- Reading several ends. -/
theorem end102 : ∀ (n : Nat) (s : ByteArray) (out : List MT), s.size ≤ n → s.size ≤ 4194304 → out.length ≤ 21 → (∀ m ∈ out, m.1.size ≤ 4194304 ∧ m.2.2.1.size ≤ 4194304) →
    ∃ (ok : Bool) (out' : List MT), loopT l102_0_2 ((s, ()), (out, ())) = some ((ok, ()), (out', ())) ∧ out'.length ≤ 1000 ∧ ∀ m ∈ out', m.1.size ≤ 4194304 ∧ m.2.2.1.size ≤ 4194304 := by
  intro n
  induction n using Nat.strongRecOn with
  | _ n ih =>
    intro s out hn hs ho hz
    have h := step102 s out hs (by omega)
    cases hr : readR (bl s) with
    | none =>
      rw [hr] at h
      exact ⟨false, [], loopT_inr h, by simp, fun m hm => by cases hm⟩
    | some p =>
      obtain ⟨k, i, v, r⟩ := p
      rw [hr] at h
      simp only at h
      obtain ⟨l1, l2, l3⟩ := readR_len hr
      rw [len_bl] at l1 l2 l3
      have hz2 : ∀ m ∈ out ++ [((mkB k, (i : Int), mkB v, ()) : MT)], m.1.size ≤ 4194304 ∧ m.2.2.1.size ≤ 4194304 := fun m hm => by
        rcases List.mem_append.1 hm with h | h
        · exact hz m h
        · simp only [List.mem_singleton] at h; subst h; exact ⟨by rw [size_mk]; omega, by rw [size_mk]; omega⟩
      by_cases h20 : 20 < out.length
      · rw [if_pos h20] at h
        exact ⟨false, [], loopT_inr h, by simp, fun m hm => by cases hm⟩
      · rw [if_neg h20] at h
        cases r with
        | nil => exact ⟨true, _, loopT_inr h, by simp; omega, hz2⟩
        | cons c r =>
          simp only at h
          by_cases hc : c = 44
          · rw [if_pos hc] at h
            rw [loopT_inl h]
            rw [List.length_cons] at l1
            exact ih r.length (by omega) (mkB r) _ (by rw [size_mk]; exact Nat.le_refl _) (by rw [size_mk]; omega) (by simp; omega) hz2
          · rw [if_neg hc] at h
            exact ⟨false, [], loopT_inr h, by simp, fun m hm => by cases hm⟩

end Go.Proofs.YtcblbcpnfidndaaDoor

namespace Go.Proofs.YtcblbcpnfidndaaDoor
open Go Go.Abs Go.Lab
/-- The operators' texts. -/
def opL (n : Int) : List UInt8 := if n = 0 then [61] else if n = 1 then [33, 61] else if n = 2 then [126] else [33, 126]

def partM (m : MT) : List UInt8 := item (bl m.1) (opL m.2.1) (bl m.2.2.1)

theorem op_at {n : Int} (h0 : 0 ≤ n) (h3 : n ≤ 3) : opsB[n.toNat]? = some (mkB (opL n)) := by
  have : n = 0 ∨ n = 1 ∨ n = 2 ∨ n = 3 := by omega
  rcases this with rfl | rfl | rfl | rfl <;> rfl

theorem op_len (n : Int) : (opL n).length ≤ 2 := by
  unfold opL
  split
  · simp
  · split
    · simp
    · split <;> simp

theorem partM_eq (m : MT) (o : List UInt8) (ho : o = opL m.2.1) : (m.1 ++ mkB o) ++ hQuote m.2.2.1 = mkB (partM m) := by
  subst ho
  rw [app_mk]
  unfold hQuote partM item
  rw [mk_app]
  simp [bl]

theorem m95_eq (m : MT) (hm : MSz m) : m95 ((m, ()), ()) = some ((!rightM m, ()), ()) := by
  unfold m95
  exact bind_of _ (m22_eq m hm) rfl

theorem right_sz {m : MT} (h : rightM m = true) : m.1.size ≤ 24 ∧ m.2.2.1.size ≤ 64 ∧ keyS m.1 = true ∧ valS m.2.2.1 = true ∧ 0 ≤ m.2.1 ∧ m.2.1 ≤ 3 := by
  unfold rightM at h
  simp only [Bool.and_eq_true, decide_eq_true_eq] at h
  exact ⟨keyS_sz h.1, valS_sz h.2.2.2, h.1, h.2.2.2, by omega, by omega⟩

theorem partM_len {m : MT} (h : rightM m = true) : (partM m).length ≤ 160 := by
  obtain ⟨a, b, _⟩ := right_sz h
  have := esc_len (bl m.2.2.1)
  have := op_len m.2.1
  rw [len_bl] at *
  unfold partM item
  simp [len_bl]
  omega

theorem format_ok (ms : List MT) (hn : ms.length ≤ 8) (hm : ∀ m ∈ ms, rightM m = true) : m29 ((ms, ()), ()) = some ((mkB (commas (ms.map partM)), ()), ()) := by
  have hz : ∀ m ∈ ms, MSz m := fun m h => by
    obtain ⟨a, b, _⟩ := right_sz (hm m h)
    exact ⟨by omega, by omega⟩
  have h1 : loopT l29_2_2 ((0, ms, (ms.length : Int), ()), ()) = some (.inr ((), ())) := by
    refine loop_thru (f := l29_2_2) ms (fun i => (((i : Int), ms, (ms.length : Int), ()), ())) _ ?_ ?_
    · intro i e he hi
      have hw : w64 ((i : Int) + 1) = ((i + 1 : Nat) : Int) := w64_nat (by omega)
      have hme := List.mem_of_getElem? he
      simp only [l29_2_2, rowAt_G, rowG_nat he, lt_t hi, m95_eq e (hz e hme), hm e hme, hw, sumE, sS]
    · simp only [l29_2_2, lt_f, sumE, sS]
  have h2 : loopT l29_0_5 ((0, ms, (ms.length : Int), ()), ([], ())) = some ((), (ms.map fun m => mkB (partM m), ())) := by
    refine drop_e (loop_ind (f := l29_0_5) (Q := fun b => b = ((), (ms.map fun m => mkB (partM m), ()))) (fun i st => st = (((i : Int), ms, (ms.length : Int), ()), ((ms.take i).map fun m => mkB (partM m), ()))) ms.length ?_ ?_ _ rfl)
    · rintro i _ hi rfl
      obtain ⟨e, he⟩ := getD_some (l := ms) (i := i) hi
      obtain ⟨a, b, _, _, c, d⟩ := right_sz (hm e (List.mem_of_getElem? he))
      have ho := op_at c d
      have hol := op_len e.2.1
      have hq := quote_size e.2.2.1
      have hw : w64 ((i : Int) + 1) = ((i + 1 : Nat) : Int) := w64_nat (by omega)
      have b1 : decide (e.1.size + (mkB (opL e.2.1)).size ≤ 4294967296) = true := decide_eq_true (by rw [size_mk]; omega)
      have b2 : decide (e.2.2.1.size ≤ 4294967296) = true := decide_eq_true (by omega)
      have b3 : decide ((e.1 ++ mkB (opL e.2.1)).size + (hQuote e.2.2.1).size ≤ 4294967296) = true := decide_eq_true (by rw [sz_app, size_mk]; omega)
      have b4 : decide (((ms.take i).map fun m => mkB (partM m)).length + [mkB (partM e)].length ≤ 4294967296) = true := decide_eq_true (by simp; omega)
      have hr : ∀ {B : Type} (F : ByteArray → Option B), rowG ([(bs [61]), (bs [33, 61]), (bs [126]), (bs [33, 126])] : List ByteArray) e.2.1 F = F (mkB (opL e.2.1)) := fun F => rowG_int c ho F
      refine ⟨_, ?_, rfl⟩
      rw [show ms.take (i + 1) = ms.take i ++ [e] by rw [List.take_add_one, he]; rfl, List.map_append]
      simp only [l29_0_5, m96, rowAt_G, rowG_nat he, lt_t hi, hr, b1, b2, b3, partM_eq e _ rfl, b4, hw, sumE, sS]
      rfl
    · rintro _ rfl
      refine ⟨_, ?_, rfl⟩
      simp only [l29_0_5, lt_f, sumE, sS]
      rw [List.take_of_length_le (Nat.le_refl _)]
  have hj : hJoin (ms.map fun m => mkB (partM m)) (bs [44]) = mkB (commas (ms.map partM)) := by
    unfold hJoin
    rw [List.map_map]
    exact congrArg mkB (join_commas _)
  have hcl := commas_len (ms.map partM) 160 (fun x hx => by
    obtain ⟨y, hy, rfl⟩ := List.mem_map.1 hx
    exact partM_len (hm y hy))
  rw [List.length_map] at hcl
  have := Nat.mul_le_mul_right 161 hn
  have b5 : decide (List.length (ms.map fun m => mkB (partM m)) ≤ 4294967296 ∧ (mkB (commas (ms.map partM))).size ≤ 140737488355328) = true := decide_eq_true (by rw [List.length_map, size_mk]; omega)
  unfold m29
  simp only [decide_eq_false (show ¬ (((ms.length : Int) : Int) > 8) by omega), h1, sumE, h2, hj, b5, sumE, sS]

/-! ### Bytes below 128 -/
def asc (l : List UInt8) : Bool := l.all fun c => decide (c.toNat < 128)

theorem asc_app (a b : List UInt8) : asc (a ++ b) = (asc a && asc b) := List.all_append

theorem asc_key {k : List UInt8} (h : keyL k = true) : asc k = true := List.all_eq_true.2 fun c hc => by
  have h := (key_all h).2.2 c hc
  unfold keyChar at h
  simp only [Bool.or_eq_true, Bool.and_eq_true, decide_eq_true_eq, beq_iff_eq, UInt8.le_iff_toNat_le] at h
  refine decide_eq_true ?_
  rcases h with (⟨_, h⟩ | ⟨_, h⟩) | h
  · have : c.toNat ≤ 122 := h; omega
  · have : c.toNat ≤ 57 := h; omega
  · subst h; decide

theorem asc_esc : ∀ {v : List UInt8}, asc v = true → asc (esc v) = true
  | [], _ => rfl
  | c :: v, h => by
    unfold asc at h
    rw [List.all_cons, Bool.and_eq_true] at h
    have ih := asc_esc (v := v) h.2
    unfold asc at ih
    simp only [esc]
    unfold asc
    split
    · rw [List.all_cons, List.all_cons, h.1, ih]; rfl
    · rw [List.all_cons, h.1, ih]; rfl

theorem asc_val {v : List UInt8} (h : valL v = true) : asc v = true := List.all_eq_true.2 fun c hc => by
  unfold valL at h
  rw [Bool.and_eq_true] at h
  have h := (List.all_eq_true.1 h.1) c hc
  simp only [Bool.and_eq_true, decide_eq_true_eq, UInt8.le_iff_toNat_le] at h
  have : c.toNat ≤ 126 := h.2
  exact decide_eq_true (by omega)

theorem asc_part {m : MT} (h : rightM m = true) : asc (partM m) = true := by
  obtain ⟨_, _, a, b, c, d⟩ := right_sz h
  unfold partM item
  rw [asc_app, asc_app, asc_key a, show (34 :: (esc (bl m.2.2.1) ++ [34]) : List UInt8) = [34] ++ (esc (bl m.2.2.1) ++ [34]) from rfl, asc_app, asc_app, asc_esc (asc_val b)]
  have : m.2.1 = 0 ∨ m.2.1 = 1 ∨ m.2.1 = 2 ∨ m.2.1 = 3 := by omega
  rcases this with e | e | e | e <;> rw [e] <;> rfl

theorem asc_commas : ∀ {l : List (List UInt8)}, (∀ x ∈ l, asc x = true) → asc (commas l) = true
  | [], _ => rfl
  | [x], h => h x (List.mem_cons_self ..)
  | x :: y :: l, h => by
    rw [commas_cons x (by simp), asc_app, h x (List.mem_cons_self ..), show (44 :: commas (y :: l)) = [44] ++ commas (y :: l) from rfl, asc_app, asc_commas (l := y :: l) fun z hz => h z (List.mem_cons_of_mem _ hz)]
    rfl

/-! ### Reading a matcher -/
theorem any_key {k : List UInt8} (hk : keyL k = true) {c : UInt8} (hc : isOp c = true) (r : List UInt8) : Lib.indexAny (k ++ c :: r) [61, 33, 126] = (k.length : Int) := by
  have hop : ∀ x : UInt8, ([61, 33, 126] : List UInt8).contains x = isOp x := fun x => by
    unfold isOp
    simp only [List.contains_cons, List.contains_nil, Bool.or_false]
  refine Lib.indexAny_hit (fun j b hj hb => ?_) (by rw [List.getElem?_append_right (Nat.le_refl _), Nat.sub_self]; rfl) (by rw [hop]; exact hc)
  rw [List.getElem?_append_left hj] at hb
  have h := (key_all hk).2.2 b (List.mem_of_getElem? hb)
  rw [hop]
  unfold isOp
  rw [beq_eq_false_iff_ne.2 (keyChar_ne h (by decide)), beq_eq_false_iff_ne.2 (keyChar_ne h (by decide)), beq_eq_false_iff_ne.2 (keyChar_ne h (by decide))]
  rfl

theorem loop100 (n : Int) (h0 : 0 ≤ n) (h3 : n ≤ 3) (r : List UInt8) (m0 m : MT) :
    loopT l100_0_7 ((0, mkB (opL n ++ 34 :: r), ((bs [61]), (bs [33, 61]), (bs [126]), (bs [33, 126]), ()), ()), ((m0, ()), ((m, ()), ()))) = some ((mkB (34 :: r), ()), ((m0, ()), (((m.1, n, m.2.2), ()), ()))) := by
  have step : ∀ (i : Nat) (o : ByteArray), ([(bs [61]), (bs [33, 61]), (bs [126]), (bs [33, 126])] : List ByteArray)[i]? = some o → i < 4 →
      l100_0_7 (((i : Int), mkB (opL n ++ 34 :: r), ((bs [61]), (bs [33, 61]), (bs [126]), (bs [33, 126]), ()), ()), ((m0, ()), ((m, ()), ()))) = some (if preL (bl o) (opL n ++ 34 :: r) then .inr ((mkB ((opL n ++ 34 :: r).drop o.size), ()), ((m0, ()), (((m.1, (i : Int), m.2.2), ()), ())))
        else .inl ((((i + 1 : Nat) : Int), mkB (opL n ++ 34 :: r), ((bs [61]), (bs [33, 61]), (bs [126]), (bs [33, 126]), ()), ()), ((m0, ()), ((m, ()), ())))) := by
    intro i o ho hi
    have hw : w64 ((i : Int) + 1) = ((i + 1 : Nat) : Int) := w64_nat (by omega)
    have e := m103_eq (mkB (opL n ++ 34 :: r)) o
    by_cases hp : preL (bl o) (bl (mkB (opL n ++ 34 :: r))) = true
    · rw [if_pos hp] at e
      rw [if_pos (show preL (bl o) (opL n ++ 34 :: r) = true from hp)]
      simp only [l100_0_7, decide_eq_true (show (i : Int) < 4 by omega), rowAt_G, rowG_nat ho, e, bl_mk, sumE, sS]
    · rw [if_neg hp] at e
      rw [if_neg (show ¬ preL (bl o) (opL n ++ 34 :: r) = true from hp)]
      simp only [l100_0_7, decide_eq_true (show (i : Int) < 4 by omega), rowAt_G, rowG_nat ho, e, hw, sumE, sS]
  have s0 := step 0 (bs [61]) rfl (by omega)
  have s1 := step 1 (bs [33, 61]) rfl (by omega)
  have s2 := step 2 (bs [126]) rfl (by omega)
  have s3 := step 3 (bs [33, 126]) rfl (by omega)
  have : n = 0 ∨ n = 1 ∨ n = 2 ∨ n = 3 := by omega
  rcases this with rfl | rfl | rfl | rfl
  · rw [show preL (bl (bs [61])) (opL 0 ++ 34 :: r) = true from rfl, if_pos rfl] at s0
    exact loopT_inr s0
  · rw [show preL (bl (bs [61])) (opL 1 ++ 34 :: r) = false from rfl, if_neg (by simp)] at s0
    rw [show preL (bl (bs [33, 61])) (opL 1 ++ 34 :: r) = true from rfl, if_pos rfl] at s1
    exact (loopT_inl s0).trans (loopT_inr s1)
  · rw [show preL (bl (bs [61])) (opL 2 ++ 34 :: r) = false from rfl, if_neg (by simp)] at s0
    rw [show preL (bl (bs [33, 61])) (opL 2 ++ 34 :: r) = false from rfl, if_neg (by simp)] at s1
    rw [show preL (bl (bs [126])) (opL 2 ++ 34 :: r) = true from rfl, if_pos rfl] at s2
    exact (loopT_inl s0).trans ((loopT_inl s1).trans (loopT_inr s2))
  · rw [show preL (bl (bs [61])) (opL 3 ++ 34 :: r) = false from rfl, if_neg (by simp)] at s0
    rw [show preL (bl (bs [33, 61])) (opL 3 ++ 34 :: r) = false from rfl, if_neg (by simp)] at s1
    rw [show preL (bl (bs [126])) (opL 3 ++ 34 :: r) = false from rfl, if_neg (by simp)] at s2
    rw [show preL (bl (bs [33, 126])) (opL 3 ++ 34 :: r) = true from rfl, if_pos rfl] at s3
    exact (loopT_inl s0).trans ((loopT_inl s1).trans ((loopT_inl s2).trans (loopT_inr s3)))

theorem op_head {n : Int} (h0 : 0 ≤ n) (h3 : n ≤ 3) (r : List UInt8) : ∃ c q, opL n ++ r = c :: q ∧ isOp c = true := by
  have : n = 0 ∨ n = 1 ∨ n = 2 ∨ n = 3 := by omega
  rcases this with rfl | rfl | rfl | rfl <;> exact ⟨_, _, rfl, rfl⟩

theorem m100_back (m : MT) (h : rightM m = true) (r : List UInt8) (hr : asc r = true) (hl : r.length ≤ 4194304) : m100 ((mkB (partM m ++ r), ()), ()) = some ((mkB r, true, ()), ((m, ()), ())) := by
  obtain ⟨z1, z2, a, b, c, d⟩ := right_sz h
  have hpl := partM_len h
  have hop := op_len m.2.1
  have hsplit : partM m ++ r = bl m.1 ++ (opL m.2.1 ++ 34 :: (esc (bl m.2.2.1) ++ 34 :: r)) := by unfold partM item; simp
  obtain ⟨o, q, ho, hoc⟩ := op_head c d (34 :: (esc (bl m.2.2.1) ++ 34 :: r))
  have hany : hAny (mkB (partM m ++ r)) (bs [61, 33, 126]) = ((bl m.1).length : Int) := by
    unfold hAny
    show Lib.indexAny (bl (mkB (partM m ++ r))) [61, 33, 126] = _
    rw [bl_mk, hsplit, ho]
    exact any_key a hoc q
  have hsz : (mkB (partM m ++ r)).size ≤ 4194304 + 160 := by rw [size_mk, List.length_append]; omega
  have b0 : (decide (2 ≤ (bs [61, 33, 126]).size) && isAsc (bs [61, 33, 126]) && decide ((mkB (partM m ++ r)).size < 4294967281 ∧ (bs [61, 33, 126]).size < 4294967281)) = true := by
    rw [show (decide (2 ≤ (bs [61, 33, 126]).size) && isAsc (bs [61, 33, 126])) = true from rfl, decide_eq_true (show (mkB (partM m ++ r)).size < 4294967281 ∧ (bs [61, 33, 126]).size < 4294967281 from ⟨by omega, by decide⟩)]
    rfl
  have hle : (bl m.1).length ≤ (mkB (partM m ++ r)).size := by rw [size_mk, hsplit, List.length_append]; omega
  have b1 : decide (((bl m.1).length : Int) < 0) = false := decide_eq_false (by omega)
  have b2 : decide ((0 : Int) ≤ ((bl m.1).length : Int)) = true := decide_eq_true (by omega)
  have b3 : decide (0 ≤ (bl m.1).length ∧ (bl m.1).length ≤ (mkB (partM m ++ r)).size) = true := decide_eq_true (by omega)
  have b4 : decide ((bl m.1).length ≤ (mkB (partM m ++ r)).size ∧ (mkB (partM m ++ r)).size ≤ (mkB (partM m ++ r)).size) = true := decide_eq_true (by omega)
  have t1 : (partM m ++ r).take (bl m.1).length = bl m.1 := by rw [hsplit]; exact List.take_left' rfl
  have t2 : (partM m ++ r).drop (bl m.1).length = opL m.2.1 ++ 34 :: (esc (bl m.2.2.1) ++ 34 :: r) := by rw [hsplit]; exact List.drop_left' rfl
  have q1 := loop100 m.2.1 c d (esc (bl m.2.2.1) ++ 34 :: r) M0 (m.1, -1, ByteArray.empty, ())
  have hel := esc_len (bl m.2.2.1)
  rw [len_bl] at hel
  have b5 : decide ((mkB (34 :: (esc (bl m.2.2.1) ++ 34 :: r))).size ≤ 4294967296) = true := decide_eq_true (by rw [size_mk]; simp; omega)
  unfold m100
  simp only [b0, hany, b1, b2, Int.toNat_natCast, b3, b4, ext_take, ext_mk, bl_mk, t1, t2, m96, mk_bl, sumE, sS]
  refine bind_of _ (show loopT l100_0_7 ((0, mkB (opL m.2.1 ++ 34 :: (esc (bl m.2.2.1) ++ 34 :: r)), ((bs [61]), (bs [33, 61]), (bs [126]), (bs [33, 126]), ()), ()), ((M0, ()), (((m.1, -1, ByteArray.empty, ()), ()), ()))) = _ from q1) ?_
  simp only [b5, unq_at, mk_bl, sumE, sS]

theorem read32 (text : ByteArray) : ∀ (l : List MT) (m : MT) (out : List MT) (pre : List UInt8), pre = [] ∨ pre = [44] → (∀ y ∈ m :: l, rightM y = true) → (commas ((m :: l).map partM)).length ≤ 4194303 → out.length + l.length ≤ 1000 →
    loopT l32_0_3 ((mkB (pre ++ commas ((m :: l).map partM)), text, true, ()), (out, ())) = some ((text, true, ()), (out ++ m :: l, ())) := by
  have step : ∀ (m : MT) (out : List MT) (pre r : List UInt8), pre = [] ∨ pre = [44] → rightM m = true → asc r = true → r.length ≤ 4194304 → out.length ≤ 1000 →
      l32_0_3 ((mkB (pre ++ (partM m ++ r)), text, true, ()), (out, ())) = some (.inl ((mkB r, text, true, ()), (out ++ [m], ()))) := by
    intro m out pre r hp hm hr hl ho
    obtain ⟨_, _, k1, _, c, d⟩ := right_sz hm
    obtain ⟨h1, _, h2⟩ := key_all (s := bl m.1) k1
    obtain ⟨x, q, hx, hkx⟩ : ∃ x q, partM m ++ r = x :: q ∧ keyChar x = true := by
      unfold partM item
      cases hb : bl m.1 with
      | nil => exact absurd hb h1
      | cons x q => exact ⟨x, _, rfl, h2 x (by rw [hb]; exact List.mem_cons_self ..)⟩
    have e1 : ((mkB (pre ++ (partM m ++ r))).toList == ByteArray.empty.toList) = false := by
      rw [toList_bl, toList_bl, bl_mk, bl_empty, hx]
      rcases hp with rfl | rfl <;> rfl
    have e2 : m101 ((mkB (pre ++ (partM m ++ r)), bs [44], ()), ()) = some ((mkB (partM m ++ r), ()), ()) := by
      rw [m101_eq, bl_mk]
      rcases hp with rfl | rfl
      · have : preL (bl (bs [44])) ([] ++ (partM m ++ r)) = false := by
          rw [List.nil_append, hx]
          unfold preL
          refine beq_eq_false_iff_ne.2 fun e => ?_
          have e : [x] = [44] := e
          simp at e
          rw [e] at hkx
          exact absurd hkx (by decide)
        rw [this]
        rfl
      · rfl
    have hb : decide (out.length + [m].length ≤ 4294967296) = true := decide_eq_true (by simp; omega)
    simp only [l32_0_3, e1, e2, m100_back m hm r hr hl, hb, sumE, sS]
  have stop : ∀ out : List MT, l32_0_3 ((mkB [], text, true, ()), (out, ())) = some (.inr ((text, true, ()), (out, ()))) := fun out => by
    have : ((mkB ([] : List UInt8)).toList == ByteArray.empty.toList) = true := by rw [toList_bl, toList_bl]; rfl
    simp only [l32_0_3, this, sumE, sS]
  intro l
  induction l with
  | nil =>
    intro m out pre hp hm hl ho
    have h := step m out pre [] hp (hm m (List.mem_cons_self ..)) rfl (by simp) (by simp at ho; omega)
    rw [List.append_nil] at h
    rw [show commas ([m].map partM) = partM m from rfl]
    exact (loopT_inl h).trans (loopT_inr (stop _))
  | cons y l ih =>
    intro m out pre hp hm hl ho
    have hcm : commas ((m :: y :: l).map partM) = partM m ++ 44 :: commas ((y :: l).map partM) := rfl
    rw [hcm] at hl ⊢
    rw [List.length_append, List.length_cons] at hl
    have hasc : asc (44 :: commas ((y :: l).map partM)) = true := by
      rw [show (44 :: commas ((y :: l).map partM)) = [44] ++ commas ((y :: l).map partM) from rfl, asc_app, asc_commas fun z hz => by
        obtain ⟨w, hw, rfl⟩ := List.mem_map.1 hz
        exact asc_part (hm w (List.mem_cons_of_mem _ hw))]
      rfl
    have h := step m out pre (44 :: commas ((y :: l).map partM)) hp (hm m (List.mem_cons_self ..)) hasc (by rw [List.length_cons]; omega) (by simp at ho; omega)
    rw [loopT_inl h]
    have := ih y (out ++ [m]) [44] (.inr rfl) (fun z hz => hm z (List.mem_cons_of_mem _ hz)) (by omega) (by simp at ho ⊢; omega)
    rw [show (44 :: commas ((y :: l).map partM)) = [44] ++ commas ((y :: l).map partM) from rfl, this]
    simp

theorem matchers_back (ms : List MT) (hn : ms.length ≤ 8) (hm : ∀ m ∈ ms, rightM m = true) : m32 ((mkB (commas (ms.map partM)), ()), ()) = some ((0, ()), (ms, ())) := by
  have hcl := commas_len (ms.map partM) 160 (fun x hx => by
    obtain ⟨y, hy, rfl⟩ := List.mem_map.1 hx
    exact partM_len (hm y hy))
  rw [List.length_map] at hcl
  have := Nat.mul_le_mul_right 161 hn
  have h1 : loopT l32_0_3 ((mkB (commas (ms.map partM)), mkB (commas (ms.map partM)), true, ()), ([], ())) = some ((mkB (commas (ms.map partM)), true, ()), (ms, ())) := by
    cases ms with
    | nil =>
      refine loopT_inr ?_
      have : ((mkB (commas (([] : List MT).map partM))).toList == ByteArray.empty.toList) = true := by rw [toList_bl, toList_bl]; rfl
      simp only [l32_0_3, this, sumE, sS]
    | cons m l =>
      have := read32 (mkB (commas ((m :: l).map partM))) l m [] [] (.inl rfl) hm (by omega) (by simp at hn ⊢; omega)
      simpa using this
  unfold m32
  refine bind_of _ h1 ?_
  simp only [format_ok ms hn hm, beq_self_eq_true, sumE, sS]

theorem m34_refl (l : List MT) (hl : l.length ≤ big) : m34 ((l, l, ()), ()) = some ((true, ()), ()) := by
  have h := loop_thru (f := l34_0_4) l (fun i => (((i : Int), l, l, (l.length : Int), ()), ())) (.inr ((), ())) ?_ ?_
  · unfold m34
    simp only [sumE, sS]
    exact bind_of _ h rfl
  · intro i e he hi
    unfold big at hl
    have hw : w64 ((i : Int) + 1) = ((i + 1 : Nat) : Int) := w64_nat (by omega)
    have h1 : ∀ b : ByteArray, (b == b) = true := fun b => by
      show (b.data == b.data) = true
      exact beq_self_eq_true _
    simp only [l34_0_4, lt_t hi, rowAt_G, rowG_nat he, hw, h1, beq_self_eq_true, Bool.and_self, Bool.not_true, sumE, sS]
  · simp only [l34_0_4, lt_f, sumE, sS]

end Go.Proofs.YtcblbcpnfidndaaDoor

namespace Go.Proofs.YtcblbcpnfidndaaDoor
open Go Go.Abs Go.Lab
def allR (ms : List MT) : Bool := decide (ms.length ≤ 8) && ms.all rightM

def formE (ms : List MT) : ByteArray := if allR ms then mkB (commas (ms.map partM)) else ByteArray.empty

def IsM (l : List MT) (w : ByteArray) : Prop := allR l = true ∧ w = mkB (commas (l.map partM))

theorem allR_iff {ms : List MT} : allR ms = true ↔ ms.length ≤ 8 ∧ ∀ m ∈ ms, rightM m = true := by
  unfold allR
  rw [Bool.and_eq_true, decide_eq_true_eq, List.all_eq_true]

theorem bad29 (ms : List MT) (hl : ms.length ≤ 8) (hm : ∀ m ∈ ms, MSz m) (hb : ms.all rightM = false) : ∃ k : Int, 0 ≤ k ∧ loopT l29_2_2 ((0, ms, (ms.length : Int), ()), ()) = some (.inl ((k, ()), ())) := by
  have key : ∀ (n i : Nat), i + n = ms.length → (∀ (j : Nat) (m : MT), j < i → ms[j]? = some m → rightM m = true) → ∃ k : Int, 0 ≤ k ∧ loopT l29_2_2 (((i : Int), ms, (ms.length : Int), ()), ()) = some (.inl ((k, ()), ())) := by
    intro n
    induction n with
    | zero =>
      intro i h hj
      exfalso
      have : ms.all rightM = true := List.all_eq_true.2 fun m hmm => by
        obtain ⟨j, hjl, rfl⟩ := List.mem_iff_getElem.1 hmm
        exact hj j _ (by omega) (List.getElem?_eq_getElem hjl)
      rw [this] at hb
      cases hb
    | succ n ih =>
      intro i h hj
      obtain ⟨e, he⟩ := getD_some (l := ms) (i := i) (by omega)
      have hme := List.mem_of_getElem? he
      have hw : w64 ((i : Int) + 1) = ((i + 1 : Nat) : Int) := w64_nat (by omega)
      have q := m95_eq e (hm e hme)
      cases hr : rightM e with
      | false =>
        rw [hr] at q
        refine ⟨(i : Int), by omega, loopT_inr ?_⟩
        simp only [l29_2_2, lt_t (show i < ms.length by omega), rowAt_G, rowG_nat he, q, sumE, sS]
      | true =>
        rw [hr] at q
        have hst : l29_2_2 (((i : Int), ms, (ms.length : Int), ()), ()) = some (.inl ((((i + 1 : Nat) : Int), ms, (ms.length : Int), ()), ())) := by
          simp only [l29_2_2, lt_t (show i < ms.length by omega), rowAt_G, rowG_nat he, q, hw, sumE, sS]
        obtain ⟨k, hk, h2⟩ := ih (i + 1) (by omega) (fun j m h1 h2 => by
          by_cases hji : j = i
          · subst hji; rw [he] at h2; cases h2; exact hr
          · exact hj j m (by omega) h2)
        exact ⟨k, hk, (loopT_inl hst).trans h2⟩
  exact key ms.length 0 (by omega) (fun j m h => absurd h (Nat.not_lt_zero _))

theorem m29_eq (ms : List MT) (hm : ∀ m ∈ ms, MSz m) : m29 ((ms, ()), ()) = some ((formE ms, ()), ()) := by
  by_cases hl : ms.length ≤ 8
  · cases ha : ms.all rightM with
    | true =>
      have h : allR ms = true := by unfold allR; rw [decide_eq_true hl, ha]; rfl
      rw [format_ok ms hl (List.all_eq_true.1 ha)]
      unfold formE
      rw [if_pos h]
    | false =>
      have h : ¬ allR ms = true := by unfold allR; rw [ha, Bool.and_false]; simp
      obtain ⟨k, hk, q⟩ := bad29 ms hl hm ha
      have h0 : decide ((k : Int) ≥ 0) = true := decide_eq_true hk
      unfold formE
      rw [if_neg h]
      unfold m29
      simp only [decide_eq_false (show ¬ (((ms.length : Int) : Int) > 8) by omega), q, sumE, h0, sumE, sS]
  · have h : ¬ allR ms = true := fun h => hl (allR_iff.1 h).1
    unfold formE
    rw [if_neg h]
    unfold m29
    simp only [decide_eq_true (show ((ms.length : Int) : Int) > 8 by omega), sumE, sS]

/-! ### Any text: the program's matcher -/
theorem any_lt (chars : List UInt8) : ∀ s : List UInt8, Lib.indexAny s chars < s.length ∨ Lib.indexAny s chars = -1
  | [] => .inr rfl
  | b :: l => by
    have ih := any_lt chars l
    have h1 := Lib.indexAny_ge chars l
    unfold Lib.indexAny
    rw [List.length_cons]
    split
    · exact .inl (by omega)
    · split
      · exact .inr rfl
      · rename_i h
        have : Lib.indexAny l chars ≠ -1 := fun e => h (beq_iff_eq.2 e)
        exact .inl (by omega)

theorem loop100t (t : ByteArray) (m0 m : MT) : ∃ (t' : ByteArray) (op : Int), t'.size ≤ t.size ∧
    loopT l100_0_7 ((0, t, ((bs [61]), (bs [33, 61]), (bs [126]), (bs [33, 126]), ()), ()), ((m0, ()), ((m, ()), ()))) = some ((t', ()), ((m0, ()), (((m.1, op, m.2.2), ()), ()))) := by
  have step : ∀ (i : Nat) (o : ByteArray), ([(bs [61]), (bs [33, 61]), (bs [126]), (bs [33, 126])] : List ByteArray)[i]? = some o → i < 4 →
      l100_0_7 (((i : Int), t, ((bs [61]), (bs [33, 61]), (bs [126]), (bs [33, 126]), ()), ()), ((m0, ()), ((m, ()), ()))) = some (if preL (bl o) (bl t) then .inr ((mkB ((bl t).drop o.size), ()), ((m0, ()), (((m.1, (i : Int), m.2.2), ()), ())))
        else .inl ((((i + 1 : Nat) : Int), t, ((bs [61]), (bs [33, 61]), (bs [126]), (bs [33, 126]), ()), ()), ((m0, ()), ((m, ()), ())))) := by
    intro i o ho hi
    have hw : w64 ((i : Int) + 1) = ((i + 1 : Nat) : Int) := w64_nat (by omega)
    have e := m103_eq t o
    by_cases hp : preL (bl o) (bl t) = true
    · rw [if_pos hp] at e ⊢
      simp only [l100_0_7, decide_eq_true (show (i : Int) < 4 by omega), rowAt_G, rowG_nat ho, e, sumE, sS]
    · rw [if_neg hp] at e ⊢
      simp only [l100_0_7, decide_eq_true (show (i : Int) < 4 by omega), rowAt_G, rowG_nat ho, e, hw, sumE, sS]
  have s0 := step 0 (bs [61]) rfl (by omega)
  have s1 := step 1 (bs [33, 61]) rfl (by omega)
  have s2 := step 2 (bs [126]) rfl (by omega)
  have s3 := step 3 (bs [33, 126]) rfl (by omega)
  have s4 : l100_0_7 ((((4 : Nat) : Int), t, ((bs [61]), (bs [33, 61]), (bs [126]), (bs [33, 126]), ()), ()), ((m0, ()), ((m, ()), ()))) = some (.inr ((t, ()), ((m0, ()), ((m, ()), ())))) := rfl
  have hz : ∀ k, (mkB ((bl t).drop k)).size ≤ t.size := fun k => by rw [size_mk, List.length_drop, len_bl]; omega
  by_cases h0 : preL (bl (bs [61])) (bl t) = true
  · rw [if_pos h0] at s0
    exact ⟨_, _, hz _, loopT_inr s0⟩
  rw [if_neg h0] at s0
  by_cases h1 : preL (bl (bs [33, 61])) (bl t) = true
  · rw [if_pos h1] at s1
    exact ⟨_, _, hz _, (loopT_inl s0).trans (loopT_inr s1)⟩
  rw [if_neg h1] at s1
  by_cases h2 : preL (bl (bs [126])) (bl t) = true
  · rw [if_pos h2] at s2
    exact ⟨_, _, hz _, (loopT_inl s0).trans ((loopT_inl s1).trans (loopT_inr s2))⟩
  rw [if_neg h2] at s2
  by_cases h3 : preL (bl (bs [33, 126])) (bl t) = true
  · rw [if_pos h3] at s3
    exact ⟨_, _, hz _, (loopT_inl s0).trans ((loopT_inl s1).trans ((loopT_inl s2).trans (loopT_inr s3)))⟩
  rw [if_neg h3] at s3
  exact ⟨t, m.2.1, Nat.le_refl _, (loopT_inl s0).trans ((loopT_inl s1).trans ((loopT_inl s2).trans ((loopT_inl s3).trans (loopT_inr s4))))⟩

theorem m100_any (s : ByteArray) (hs : s.size ≤ 4194304) : ∃ (m : MT) (r : ByteArray) (ok : Bool), m100 ((s, ()), ()) = some ((r, ok, ()), ((m, ()), ())) ∧ r.size ≤ s.size ∧ (ok = true → r.size < s.size) ∧ m.1.size ≤ s.size ∧ m.2.2.1.size ≤ s.size := by
  have b0 : (decide (2 ≤ (bs [61, 33, 126]).size) && isAsc (bs [61, 33, 126]) && decide (s.size < 4294967281 ∧ (bs [61, 33, 126]).size < 4294967281)) = true := by
    rw [show (decide (2 ≤ (bs [61, 33, 126]).size) && isAsc (bs [61, 33, 126])) = true from rfl, decide_eq_true (show s.size < 4294967281 ∧ (bs [61, 33, 126]).size < 4294967281 from ⟨by omega, by decide⟩)]
    rfl
  have hlt := any_lt (bl (bs [61, 33, 126])) (bl s)
  rw [len_bl] at hlt
  rw [show Lib.indexAny (bl s) (bl (bs [61, 33, 126])) = hAny s (bs [61, 33, 126]) from rfl] at hlt
  generalize hk : hAny s (bs [61, 33, 126]) = k at hlt
  by_cases hn : k < 0
  · refine ⟨M0, ByteArray.empty, false, ?_, Nat.zero_le _, (fun h => by cases h), Nat.zero_le _, Nat.zero_le _⟩
    unfold m100
    simp only [b0, hk, decide_eq_true hn, sumE, sS]
  · obtain ⟨n, rfl⟩ := Int.eq_ofNat_of_zero_le (show 0 ≤ k by omega)
    have hns : n ≤ s.size := by omega
    have b2 : decide ((0 : Int) ≤ (n : Int)) = true := decide_eq_true (by omega)
    have b3 : decide (0 ≤ n ∧ n ≤ s.size) = true := decide_eq_true (by omega)
    have b4 : decide (n ≤ s.size ∧ s.size ≤ s.size) = true := decide_eq_true (by omega)
    obtain ⟨t', op, ht, q⟩ := loop100t (mkB ((bl s).drop n)) M0 (mkB ((bl s).take n), -1, ByteArray.empty, ())
    rw [size_mk, List.length_drop, len_bl] at ht
    have b5 : decide (t'.size ≤ 4294967296) = true := decide_eq_true (by omega)
    obtain ⟨u1, u2, u3⟩ := unq_size t'
    refine ⟨(mkB ((bl s).take n), op, (hUnq t').1, ()), (hUnq t').2.1, (hUnq t').2.2, ?_, by omega, (fun h => by have := u3 h; omega), by show (mkB ((bl s).take n)).size ≤ _; rw [size_mk, List.length_take, len_bl]; omega, by show (hUnq t').1.size ≤ _; omega⟩
    unfold m100
    simp only [b0, hk, decide_eq_false hn, b2, Int.toNat_natCast, b3, b4, ext_take, ext_mk, m96, sumE, sS]
    refine bind_of _ (show loopT l100_0_7 ((0, mkB ((bl s).drop n), ((bs [61]), (bs [33, 61]), (bs [126]), (bs [33, 126]), ()), ()), ((M0, ()), (((mkB ((bl s).take n), -1, ByteArray.empty, ()), ()), ()))) = _ from q) ?_
    simp only [b5, sumE, sS]

theorem stop32 (s text : ByteArray) (ok : Bool) (out : List MT) (h : ok = false ∨ s = ByteArray.empty) : l32_0_3 ((s, text, ok, ()), (out, ())) = some (.inr ((text, ok, ()), (out, ()))) := by
  have e2 : (s.toList == ByteArray.empty.toList) = decide (s = ByteArray.empty) := by rw [toList_bl, toList_bl, beq_bl]
  cases ok
  · simp only [l32_0_3, sumE, sS]
  · rcases h with h | h
    · cases h
    · simp only [l32_0_3, e2, decide_eq_true h, sumE, sS]

theorem end32 (text : ByteArray) : ∀ (n : Nat) (s : ByteArray) (ok : Bool) (out : List MT), s.size ≤ n → s.size + out.length ≤ 4194304 → (∀ m ∈ out, MSz m) →
    ∃ (ok' : Bool) (out' : List MT), loopT l32_0_3 ((s, text, ok, ()), (out, ())) = some ((text, ok', ()), (out', ())) ∧ ∀ m ∈ out', MSz m := by
  intro n
  induction n using Nat.strongRecOn with
  | _ n ih =>
    intro s ok out hn ho hz
    by_cases hstop : ok = false ∨ s = ByteArray.empty
    · exact ⟨ok, out, loopT_inr (stop32 s text ok out hstop), hz⟩
    · have h0 : ok = true := by cases ok <;> simp at hstop ⊢
      subst h0
      simp only [Bool.true_eq_false, false_or] at hstop
      have e2 : (s.toList == ByteArray.empty.toList) = false := by rw [toList_bl, toList_bl, beq_bl]; exact decide_eq_false hstop
      have e3 : m101 ((s, bs [44], ()), ()) = some ((trimC s, ()), ()) := m101_eq s (bs [44])
      have ht := trim_size s
      obtain ⟨m, r, ok', q, l1, l2, l3, l4⟩ := m100_any (trimC s) (by omega)
      have hb : decide (out.length + ([m] : List MT).length ≤ 4294967296) = true := decide_eq_true (by simp; omega)
      have hst : l32_0_3 ((s, text, true, ()), (out, ())) = some (.inl ((r, text, ok', ()), (out ++ [m], ()))) := by
        simp only [l32_0_3, e2, e3, q, hb, sumE, sS]
      have hz2 : ∀ x ∈ out ++ [m], MSz x := fun x hx => by
        rcases List.mem_append.1 hx with h | h
        · exact hz x h
        · simp only [List.mem_singleton] at h; subst h; exact ⟨by omega, by omega⟩
      rw [loopT_inl hst]
      cases ok' with
      | false => exact ⟨false, _, loopT_inr (stop32 r text false _ (.inl rfl)), hz2⟩
      | true =>
        have := l2 rfl
        exact ih r.size (by omega) r true _ (Nat.le_refl _) (by simp; omega) hz2

theorem m32_any (w : ByteArray) (hw : w.size ≤ 4194304) : (∃ l, IsM l w ∧ m32 ((w, ()), ()) = some ((0, ()), (l, ()))) ∨ ((∀ l, ¬ IsM l w) ∧ m32 ((w, ()), ()) = some ((2, ()), ([], ()))) := by
  by_cases hex : ∃ l, IsM l w
  · obtain ⟨l, h1, rfl⟩ := hex
    obtain ⟨a, b⟩ := allR_iff.1 h1
    exact .inl ⟨l, ⟨h1, rfl⟩, matchers_back l a b⟩
  · refine .inr ⟨fun l hl => hex ⟨l, hl⟩, ?_⟩
    obtain ⟨ok, out, q, hz⟩ := end32 w w.size w true [] (Nat.le_refl _) (by simp; omega) (fun m hm => by cases hm)
    unfold m32
    refine bind_of _ q ?_
    cases ok
    · simp only [sumE, sS]
    · have hne : decide (formE out = w) = false := decide_eq_false fun h => by
        unfold formE at h
        by_cases ha : allR out = true
        · rw [if_pos ha] at h
          exact hex ⟨out, ha, h.symm⟩
        · rw [if_neg ha] at h
          exact hex ⟨[], rfl, h.symm⟩
      simp only [m29_eq out hz, toList_bl, beq_bl, hne, sumE, sS]

theorem commas_inj {a b : List MT} (ha : allR a = true) (hb : allR b = true) (h : mkB (commas (a.map partM)) = mkB (commas (b.map partM))) : a = b := by
  obtain ⟨a1, a2⟩ := allR_iff.1 ha
  obtain ⟨b1, b2⟩ := allR_iff.1 hb
  have q1 := matchers_back a a1 a2
  have q2 := matchers_back b b1 b2
  rw [h, q2] at q1
  injection q1 with q1
  injection q1 with _ q1
  injection q1 with q1 _
  exact q1.symm

/-! ### Reading with the reference -/
theorem op_partM {m : MT} (h : rightM m = true) (r : List UInt8) : readR (partM m ++ r) = some (bl m.1, m.2.1.toNat, bl m.2.2.1, r) := by
  obtain ⟨_, _, k1, _, c, d⟩ := right_sz h
  obtain ⟨o, q, ho, hoc⟩ := op_head c d (34 :: (esc (bl m.2.2.1) ++ 34 :: r))
  have hsplit : partM m ++ r = bl m.1 ++ (opL m.2.1 ++ 34 :: (esc (bl m.2.2.1) ++ 34 :: r)) := by unfold partM item; simp
  have hu : upTo isOp (partM m ++ r) = bl m.1 := by
    rw [hsplit, ho]
    refine upTo_append (fun x hx => ?_) hoc
    have h := (key_all (s := bl m.1) k1).2.2 x hx
    unfold isOp
    rw [beq_eq_false_iff_ne.2 (keyChar_ne h (by decide)), beq_eq_false_iff_ne.2 (keyChar_ne h (by decide)), beq_eq_false_iff_ne.2 (keyChar_ne h (by decide))]
    rfl
  have hd : (partM m ++ r).drop (bl m.1).length = opL m.2.1 ++ 34 :: (esc (bl m.2.2.1) ++ 34 :: r) := by
    rw [hsplit]
    exact List.drop_left' rfl
  have ho2 : opR (opL m.2.1 ++ 34 :: (esc (bl m.2.2.1) ++ 34 :: r)) = some (m.2.1.toNat, esc (bl m.2.2.1) ++ 34 :: r) := by
    have : m.2.1 = 0 ∨ m.2.1 = 1 ∨ m.2.1 = 2 ∨ m.2.1 = 3 := by omega
    rcases this with e | e | e | e <;> rw [e] <;> rfl
  unfold readR
  rw [hu, hd, ho2]
  simp only [unq_esc]

theorem read102M : ∀ (l : List MT) (m : MT) (out : List MT), (∀ y ∈ m :: l, rightM y = true) → (commas ((m :: l).map partM)).length ≤ 4194304 → out.length + l.length ≤ 20 →
    loopT l102_0_2 ((mkB (commas ((m :: l).map partM)), ()), (out, ())) = some ((true, ()), (out ++ m :: l, ())) := by
  have back : ∀ m : MT, rightM m = true → ((mkB (bl m.1), ((m.2.1.toNat : Nat) : Int), mkB (bl m.2.2.1), ()) : MT) = m := fun m h => by
    obtain ⟨_, _, _, _, c, d⟩ := right_sz h
    obtain ⟨a, b, e, ⟨⟩⟩ := m
    simp only at c d ⊢
    rw [mk_bl, mk_bl, Int.toNat_of_nonneg c]
  intro l
  induction l with
  | nil =>
    intro m out hr hl ho
    have hm := hr m (List.mem_cons_self ..)
    have hz : (mkB (commas ([m].map partM))).size ≤ 4194304 := by rw [size_mk]; exact hl
    have h := step102 (mkB (commas ([m].map partM))) out hz (by simp at ho; omega)
    have hrd := op_partM hm []
    rw [List.append_nil] at hrd
    rw [bl_mk, show commas ([m].map partM) = partM m from rfl, hrd] at h
    simp only at h
    rw [if_neg (by simp at ho; omega), back m hm] at h
    exact loopT_inr h
  | cons y l ih =>
    intro m out hr hl ho
    have hm := hr m (List.mem_cons_self ..)
    have hcm : commas ((m :: y :: l).map partM) = partM m ++ 44 :: commas ((y :: l).map partM) := rfl
    rw [hcm] at hl ⊢
    have hz : (mkB (partM m ++ 44 :: commas ((y :: l).map partM))).size ≤ 4194304 := by rw [size_mk]; exact hl
    have h := step102 (mkB (partM m ++ 44 :: commas ((y :: l).map partM))) out hz (by simp at ho; omega)
    rw [bl_mk, op_partM hm] at h
    simp only at h
    rw [if_neg (by simp at ho; omega), if_pos trivial, back m hm] at h
    rw [List.length_append, List.length_cons] at hl
    rw [loopT_inl h, ih y (out ++ [m]) (fun z hz => hr z (List.mem_cons_of_mem _ hz)) (by omega) (by simp at ho ⊢; omega)]
    simp

theorem several_back (m : MT) (l : List MT) (hr : ∀ y ∈ m :: l, rightM y = true) (hl : (commas ((m :: l).map partM)).length ≤ 4194304) (ho : l.length ≤ 20) :
    m102 ((mkB (commas ((m :: l).map partM)), ()), ()) = some ((true, ()), (m :: l, ())) := by
  unfold m102
  refine bind_of _ (read102M l m [] hr hl (by simp; omega)) ?_
  rfl

theorem several_any (w : ByteArray) (hw : w.size ≤ 4194304) : ∃ (ok : Bool) (ms : List MT), m102 ((w, ()), ()) = some ((ok, ()), (ms, ())) ∧ ms.length ≤ 1000 ∧ ∀ m ∈ ms, m.1.size ≤ 4194304 ∧ m.2.2.1.size ≤ 4194304 := by
  obtain ⟨ok, ms, q1, q2, q3⟩ := end102 w.size w [] (Nat.le_refl _) hw (by simp) (fun m hm => by cases hm)
  refine ⟨ok, ms, ?_, q2, q3⟩
  unfold m102
  exact bind_of _ q1 rfl

end Go.Proofs.YtcblbcpnfidndaaDoor

namespace Go.Proofs.YtcblbcpnfidndaaDoor
open Go Go.Abs Go.Lab
theorem parts_lenM (ms : List MT) (hl : ms.length ≤ 8) (i : Nat) (h : ∀ (j : Nat) (m : MT), j < i → ms[j]? = some m → rightM m = true) : (commas ((ms.map partM).take i)).length ≤ 1288 := by
  have := commas_len ((ms.map partM).take i) 160 (fun x hx => by
    obtain ⟨j, hj, rfl⟩ := List.mem_iff_getElem.1 hx
    rw [List.length_take, List.length_map] at hj
    rw [List.getElem_take, List.getElem_map]
    exact partM_len (h j _ (by omega) (List.getElem?_eq_getElem (by omega))))
  have h2 : ((ms.map partM).take i).length ≤ 8 := by rw [List.length_take, List.length_map]; omega
  have := Nat.mul_le_mul_right 161 h2
  omega

theorem loop28 (ms : List MT) (hl : ms.length ≤ 8) (hm : ∀ m ∈ ms, MSz m) : ∀ (n i : Nat), i + n = ms.length → (∀ (j : Nat) (m : MT), j < i → ms[j]? = some m → rightM m = true) →
    ∃ b, loopT l28_0_5 (((i : Int), ms, mkB (commas ((ms.map partM).take i)), ()), ()) = some b ∧ sumE b (fun d => some ((d.1.1, ()), ())) (fun d => some ((d.1.1, ()), ())) = some ((formE ms, ()), ()) := by
  intro n
  induction n with
  | zero =>
    intro i h hj
    have hi : i = ms.length := by omega
    have ha : allR ms = true := allR_iff.2 ⟨hl, fun m hmm => by
      obtain ⟨j, hjl, rfl⟩ := List.mem_iff_getElem.1 hmm
      exact hj j _ (by omega) (List.getElem?_eq_getElem hjl)⟩
    subst hi
    refine ⟨_, loopT_inr (by simp only [l28_0_5, lt_f, sumE, sS]; rfl), ?_⟩
    simp only [sumE]
    unfold formE
    rw [if_pos ha, List.take_of_length_le (by rw [List.length_map]; exact Nat.le_refl _)]
  | succ n ih =>
    intro i h hj
    obtain ⟨e, he⟩ := getD_some (l := ms) (i := i) (by omega)
    have hme := List.mem_of_getElem? he
    have hw : w64 ((i : Int) + 1) = ((i + 1 : Nat) : Int) := w64_nat (by omega)
    have q := m23_eq e (hm e hme)
    cases hr : rightM e with
    | false =>
      rw [hr] at q
      refine ⟨_, loopT_inr (by simp only [l28_0_5, lt_t (show i < ms.length by omega), rowAt_G, rowG_nat he, q, sumE, sS]; rfl), ?_⟩
      have h : ¬ allR ms = true := fun h => by
        have := (allR_iff.1 h).2 e hme
        rw [hr] at this
        cases this
      simp only [sumE]
      unfold formE
      rw [if_neg h]
    | true =>
      rw [hr] at q
      obtain ⟨z1, z2, k1, k2, c, d⟩ := right_sz hr
      have hj' : ∀ (j : Nat) (m : MT), j < i + 1 → ms[j]? = some m → rightM m = true := fun j m h1 h2 => by
        by_cases hji : j = i
        · subst hji; rw [he] at h2; cases h2; exact hr
        · exact hj j m (by omega) h2
      have hp := parts_lenM ms hl i hj
      have hpl := partM_len hr
      have ho := op_at c d
      have hol := op_len e.2.1
      have hq := quote_size e.2.2.1
      have q3 := m93_eq e.2.2.1 (by omega)
      have hop : decide ((0 : Int) ≤ e.2.1 ∧ (e.2.1 : Int) < (([(bs [61]), (bs [33, 61]), (bs [126]), (bs [33, 126])] : List ByteArray).length : Nat)) = true := decide_eq_true (by show 0 ≤ e.2.1 ∧ e.2.1 < 4; omega)
      have ho2 : ([(bs [61]), (bs [33, 61]), (bs [126]), (bs [33, 126])] : List ByteArray)[e.2.1.toNat]? = some (mkB (opL e.2.1)) := ho
      have b1 : decide (e.1.size + (mkB (opL e.2.1)).size ≤ 4294967296) = true := decide_eq_true (by rw [size_mk]; omega)
      have b3 : decide ((e.1 ++ mkB (opL e.2.1)).size + (hQuote e.2.2.1).size ≤ 4294967296) = true := decide_eq_true (by rw [sz_app, size_mk]; omega)
      have hmp : (ms.map partM)[i]? = some (partM e) := by rw [List.getElem?_map, he]; rfl
      have htk : (ms.map partM).take (i + 1) = (ms.map partM).take i ++ [partM e] := by rw [List.take_add_one, hmp]; rfl
      have hst : l28_0_5 (((i : Int), ms, mkB (commas ((ms.map partM).take i)), ()), ()) = some (.inl ((((i + 1 : Nat) : Int), ms, mkB (commas ((ms.map partM).take (i + 1))), ()), ())) := by
        rw [htk]
        by_cases h0 : i = 0
        · subst h0
          have b5 : decide ((mkB (commas ((ms.map partM).take 0))).size + (mkB (partM e)).size ≤ 4294967296) = true := decide_eq_true (by rw [size_mk, size_mk]; omega)
          have d0 : decide (((0 : Nat) : Int) > 0) = false := rfl
          simp only [l28_0_5, lt_t (show 0 < ms.length by omega), rowAt_G, rowG_nat he, q, d0, m92, hop, ho2, b1, q3, b3, partM_eq e _ rfl, b5, hw, mk_app, sumE, sS]
          rfl
        · have d0 : decide ((i : Int) > 0) = true := decide_eq_true (by omega)
          have b4 : decide ((mkB (commas ((ms.map partM).take i))).size + 1 ≤ 4294967296) = true := decide_eq_true (by rw [size_mk]; omega)
          have e44 : mkB (commas ((ms.map partM).take i)) ++ bs [44] = mkB (commas ((ms.map partM).take i) ++ [44]) := by
            rw [show bs [44] = mkB [44] from rfl, mk_app]
          have b5 : decide ((mkB (commas ((ms.map partM).take i) ++ [44])).size + (mkB (partM e)).size ≤ 4294967296) = true := decide_eq_true (by rw [size_mk, size_mk, List.length_append]; simp; omega)
          have hne : (ms.map partM).take i ≠ [] := by
            intro h
            have := congrArg List.length h
            rw [List.length_take, List.length_map, List.length_nil] at this
            omega
          simp only [l28_0_5, lt_t (show i < ms.length by omega), rowAt_G, rowG_nat he, q, d0, b4, e44, m92, hop, ho2, b1, q3, b3, partM_eq e _ rfl, b5, hw, mk_app, sumE, sS]
          rw [commas_snoc _ _ hne]
          simp
      obtain ⟨b, h1, h2⟩ := ih (i + 1) (by omega) hj'
      exact ⟨b, (loopT_inl hst).trans h1, h2⟩

theorem m28_eq (ms : List MT) (hm : ∀ m ∈ ms, MSz m) : m28 ((ms, ()), ()) = some ((formE ms, ()), ()) := by
  by_cases hl : ms.length ≤ 8
  · obtain ⟨b, h1, h2⟩ := loop28 ms hl hm ms.length 0 (by omega) (fun j m h => absurd h (Nat.not_lt_zero _))
    unfold m28
    simp only [decide_eq_false (show ¬ (((ms.length : Int) : Int) > 8) by omega), sumE, sS]
    exact bind_of _ (show loopT l28_0_5 ((0, ms, ByteArray.empty, ()), ()) = _ from h1) h2
  · have h : ¬ allR ms = true := fun h => hl (allR_iff.1 h).1
    unfold formE
    rw [if_neg h]
    unfold m28
    simp only [decide_eq_true (show ((ms.length : Int) : Int) > 8 by omega), sumE, sS]

theorem formE_size (ms : List MT) : (formE ms).size ≤ 1288 := by
  unfold formE
  by_cases h : allR ms = true
  · rw [if_pos h]
    obtain ⟨h1, h2⟩ := allR_iff.1 h
    have := parts_lenM ms h1 ms.length (fun j m _ h => h2 m (List.mem_of_getElem? h))
    rw [List.take_of_length_le (by rw [List.length_map]; exact Nat.le_refl _)] at this
    rw [size_mk]
    exact this
  · rw [if_neg h]
    exact Nat.zero_le _

theorem m33_any (w : ByteArray) (hw : w.size ≤ 4194304) : (∃ l, IsM l w ∧ m33 ((w, ()), ()) = some ((0, ()), (l, ()))) ∨ ((∀ l, ¬ IsM l w) ∧ m33 ((w, ()), ()) = some ((2, ()), ([], ()))) := by
  have e0 : (w.toList == ByteArray.empty.toList) = decide (w = ByteArray.empty) := by rw [toList_bl, toList_bl, beq_bl]
  by_cases hex : ∃ l, IsM l w
  · obtain ⟨l, h1, h2⟩ := hex
    refine .inl ⟨l, ⟨h1, h2⟩, ?_⟩
    unfold m33
    cases l with
    | nil =>
      have : w = ByteArray.empty := h2
      simp only [e0, decide_eq_true this, sumE, sS]
    | cons m l =>
      obtain ⟨a, b⟩ := allR_iff.1 h1
      have hne : commas ((m :: l).map partM) ≠ [] := by
        rw [List.map_cons]
        exact commas_ne item_ne
      have hwe : ¬ w = ByteArray.empty := fun e => hne (by
        have := congrArg bl (h2.symm.trans e)
        rw [bl_mk] at this
        exact this)
      have hlen : (commas ((m :: l).map partM)).length ≤ 4194304 := by
        rw [h2, size_mk] at hw
        exact hw
      have q1 := several_back m l b hlen (by simp at a; omega)
      rw [← h2] at q1
      have hz : ∀ x ∈ m :: l, MSz x := fun x hx => by
        obtain ⟨z1, z2, _⟩ := right_sz (b x hx)
        exact ⟨by omega, by omega⟩
      have hf : formE (m :: l) = w := by unfold formE; rw [if_pos h1, h2]
      simp only [e0, decide_eq_false hwe, q1, m28_eq _ hz, hf, beq_self_eq_true, sumE, sS]
  · refine .inr ⟨fun l hl => hex ⟨l, hl⟩, ?_⟩
    have hwe : ¬ w = ByteArray.empty := fun e => hex ⟨[], rfl, e⟩
    obtain ⟨ok, ms, q1, q2, q3⟩ := several_any w hw
    unfold m33
    simp only [e0, decide_eq_false hwe, q1, sumE, sS]
    cases ok
    · simp only [sumE, sS]
    · have hz : ∀ x ∈ ms, MSz x := fun x hx => by
        obtain ⟨z1, z2⟩ := q3 x hx
        exact ⟨by omega, by omega⟩
      have hne : decide (formE ms = w) = false := decide_eq_false fun h => by
        unfold formE at h
        by_cases ha : allR ms = true
        · rw [if_pos ha] at h
          exact hex ⟨ms, ha, h.symm⟩
        · rw [if_neg ha] at h
          exact hwe h.symm
      simp only [m28_eq _ hz, toList_bl, beq_bl, hne, sumE, sS]

theorem matchers_both (w : ByteArray) (hw : w.size ≤ 4194304) : ∃ (c : Int) (l : List MT), m32 ((w, ()), ()) = some ((c, ()), (l, ())) ∧ m33 ((w, ()), ()) = some ((c, ()), (l, ())) ∧ l.length ≤ 8 := by
  rcases m32_any w hw with ⟨l, h1, h2⟩ | ⟨h1, h2⟩
  · rcases m33_any w hw with ⟨l', h3, h4⟩ | ⟨h3, h4⟩
    · have : l = l' := commas_inj h1.1 h3.1 (h1.2.symm.trans h3.2)
      subst this
      exact ⟨0, l, h2, h4, (allR_iff.1 h1.1).1⟩
    · exact absurd h1 (h3 l)
  · rcases m33_any w hw with ⟨l', h3, h4⟩ | ⟨h3, h4⟩
    · exact absurd h3 (h1 l')
    · exact ⟨2, [], h2, h4, by simp⟩

theorem loop3a (ms X : List MT) (raw : MT) (l labels : List LT) (text value : ByteArray) (hX : X.length ≤ 1000) (hz : ∀ m ∈ X, MSz m ∧ PSz m) (hl : LSz l) (hlb : LSz labels) (hv : value.size ≤ 4294967294) :
    loopT l3_0_7 ((0, value, labels, text, ((X.length : Nat) : Int), ()), (l, (X, ((raw, ()), (ms, ()))))) = some (.inr ((value, text, ()), (l, ((raw, ()), (ms, ()))))) := by
  refine loop_thru (f := l3_0_7) X (fun i => (((i : Int), value, labels, text, ((X.length : Nat) : Int), ()), (l, (X, ((raw, ()), (ms, ())))))) _ ?_ ?_
  · intro i e he hi
    obtain ⟨z1, z2⟩ := hz e (List.mem_of_getElem? he)
    have hw : w64 ((i : Int) + 1) = ((i + 1 : Nat) : Int) := w64_nat (by omega)
    have hb : decide ((0 : Int) ≤ (i : Int) ∧ (i : Int) < ((X.length : Nat) : Int)) = true := decide_eq_true (by omega)
    simp only [l3_0_7, lt_t hi, hb, Int.toNat_natCast, he, m22_eq e z1, m23_eq e z1, m24_eq e l z2 hl, m25_eq e l z2 hl, m24_eq e labels z2 hlb, m25_eq e labels z2 hlb, m26_eq e.2.2.1 value z2 (by omega), m27_eq e.2.2.1 value z2 hv, beq_self_eq_true, hw, sumE, sS]
  · simp only [l3_0_7, lt_f, sumE, sS]

theorem loop3c (w0 w1 w2 w3 value text : ByteArray) (hw : ∀ w ∈ [w0, w1, w2, w3], w.size ≤ 4194304) (lists : List MT × List MT × List MT × Unit) (j : Int) (l : List LT) :
    loopT l3_0_19 ((0, (w0, w1, w2, w3, ()), value, text, lists, j, ()), (l, ())) = some (.inr ((value, text, lists, j, ()), (l, ()))) := by
  refine loop_thru (f := l3_0_19) [w0, w1, w2, w3] (fun i => (((i : Int), (w0, w1, w2, w3, ()), value, text, lists, j, ()), (l, ()))) _ ?_ rfl
  intro i e he hi
  have hi4 : i < 4 := hi
  have hi2 : w64 ((i : Int) + 1) = ((i + 1 : Nat) : Int) := w64_nat (by omega)
  obtain ⟨c, r, h1, h2, h3⟩ := matchers_both e (hw e (List.mem_of_getElem? he))
  have q := m34_refl r (by unfold big; omega)
  simp only [l3_0_19, decide_eq_true (show (i : Int) < 4 by omega), rowAt_G, rowG_nat he, h1, h2, q, bne_self_eq_false, hi2, sumE, sS]

theorem loop3b (value text : ByteArray) (hv : value.size ≤ 200) (ht : text.size ≤ 500) (a b c : List MT) (hL : ∀ L ∈ [a, b, c], PSs L ∧ ∀ m ∈ L, MSz m) (l : List LT) (hl : LSz l) :
    loopT l3_0_13 ((0, value, text, (a, b, c, ()), ()), (l, ())) = some (.inr ((), ())) := by
  refine loop_thru (f := l3_0_13) [a, b, c] (fun i => (((i : Int), value, text, (a, b, c, ()), ()), (l, ()))) _ ?_ rfl
  intro i e he hi
  have hi3 : i < 3 := hi
  have hw : w64 ((i : Int) + 1) = ((i + 1 : Nat) : Int) := w64_nat (by omega)
  obtain ⟨hp, hz⟩ := hL e (List.mem_of_getElem? he)
  have hs := formE_size e
  have b1 : decide ((formE e).size + 1 ≤ 4294967296) = true := decide_eq_true (by omega)
  have b2 : decide (3 + value.size ≤ 4294967296) = true := decide_eq_true (by omega)
  have z2 : ((bs [97, 61, 34]) ++ value).size = 3 + value.size := sz_app _ _
  have b3 : decide (((bs [97, 61, 34]) ++ value).size + 1 ≤ 4294967296) = true := decide_eq_true (by rw [z2]; omega)
  simp only [l3_0_13, decide_eq_true (show (i : Int) < 3 by omega), rowAt_G, rowG_nat he, m28_eq e hz, m29_eq e hz, m30_eq e l hp hl, m31_eq e l hp hl, beq_self_eq_true, sumE, sS]
  rw [b1, b2, b3]
  simp only [sumE, sS]
  refine bind_of _ (loop3c _ _ _ _ value text (fun w hw => ?_) (a, b, c, ()) (i : Int) l) ?_
  · simp only [List.mem_cons, List.not_mem_nil, or_false] at hw
    rcases hw with rfl | rfl | rfl | rfl
    · omega
    · omega
    · rw [sz_app]; show _ + 1 ≤ _; omega
    · rw [sz_app, z2]; show 3 + value.size + 1 ≤ _; omega
  · simp only [sumE, hw]

theorem law3c (t : List Int) (raw : MT) (labels : List LT) (text value : ByteArray) (h1 : raw.1.size ≤ 1048576 ∧ raw.2.2.1.size ≤ 1048576) (h2 : ∀ x ∈ labels, x.2.1.size ≤ 1048576) : m3 ((t, raw, labels, text, value, ()), ()) = some ((true, ()), ()) := by
  unfold m3
  simp only [light, sumE, sS]
  by_cases ht : t.length ≤ 500
  · simp only [decide_eq_true ht, sumE, sS]
    by_cases c1 : (labels.length : Int) > 20
    · simp only [decide_eq_true c1, sumE, sS, sane20]
    by_cases c2 : (text.size : Int) > 500
    · simp only [decide_eq_false c1, decide_eq_true c2, sumE, sS, sane20]
    by_cases c3 : (value.size : Int) > 200
    · simp only [decide_eq_false c1, decide_eq_false c2, decide_eq_true c3, sumE, sS, sane20]
    by_cases c4 : (raw.2.2.1.size : Int) > 200
    · simp only [decide_eq_false c1, decide_eq_false c2, decide_eq_false c3, decide_eq_true c4, sumE, sS, sane20]
    simp only [decide_eq_false c1, decide_eq_false c2, decide_eq_false c3, decide_eq_false c4, roll, sumE, sS]
    obtain ⟨l, d1, e1, hd1, hl⟩ := labels_spec _ (dok0 ht)
    obtain ⟨ms, d2, e2, hd2, hn, hm⟩ := matchers_spec 9 d1 hd1 (by omega) (by omega)
    have g := (from_good hl).z
    have hlb : LSz labels := ⟨by omega, fun x hx => by have := h2 x hx; omega⟩
    have hraw : MSz raw ∧ PSz raw := ⟨⟨by omega, by omega⟩, by unfold PSz; omega⟩
    have hmz : ∀ m ∈ ms, MSz m ∧ PSz m := fun m h => ⟨(hm m h).z, (hm m h).p⟩
    have b1 : decide (0 + ms.length ≤ 4294967296) = true := decide_eq_true (by omega)
    have b2 : decide (ms.length + ([raw] : List MT).length ≤ 4294967296) = true := decide_eq_true (by simp; omega)
    have hX : ∀ m ∈ ms ++ [raw], MSz m ∧ PSz m := fun m h => by
      rcases List.mem_append.1 h with h | h
      · exact hmz m h
      · simp only [List.mem_singleton] at h; subst h; exact hraw
    have q1 := loop3a ms (ms ++ [raw]) raw l labels text value (by simp; omega) hX g hlb (by omega)
    have q2 := loop3b value text (by omega) (by omega) ms [raw] (ms ++ [raw]) (fun L hL => by
      simp only [List.mem_cons, List.not_mem_nil, or_false] at hL
      rcases hL with rfl | rfl | rfl
      · exact ⟨⟨by omega, fun m h => (hmz m h).2⟩, fun m h => (hmz m h).1⟩
      · exact ⟨⟨by simp, fun m h => by simp only [List.mem_singleton] at h; subst h; exact hraw.2⟩, fun m h => by simp only [List.mem_singleton] at h; subst h; exact hraw.1⟩
      · exact ⟨⟨by simp; omega, fun m h => (hX m h).2⟩, fun m h => (hX m h).1⟩) l g
    simp only [e1, e2, b1, b2, sumE, sS]
    refine bind_of _ q1 ?_
    simp only [sumE, b1, b2, sumE, sS]
    refine bind_of _ q2 ?_
    simp only [sumE, sane20, sumE, sS]
  · simp only [decide_eq_false ht, sumE, sS, sane20]

theorem law3 : ∀ x, Abs.InBs 1048576 [.row (.int .i64), .cons .str (.cons (.int .i64) (.cons .str .unit)), .row (.cons .str (.cons .str .unit)), .str, .str] x → m3 (x, ()) = some ((true, ()), ()) := by
  intro x h
  obtain ⟨_, h1, h2, h3, h4, _⟩ := h
  exact law3c x.1 x.2.1 x.2.2.1 x.2.2.2.1 x.2.2.2.2.1 ⟨h1.1, h1.2.2.1⟩ (fun y hy => (h2.2 y hy).2.1)

end Go.Proofs.YtcblbcpnfidndaaDoor
