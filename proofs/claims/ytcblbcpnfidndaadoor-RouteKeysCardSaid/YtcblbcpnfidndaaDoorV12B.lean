/- Lemmas for the statement of the last text of this claim. -/
import Derived.Test.YtcblbcpnfidndaaDoorChecked
import Derived.Shelf.Strings.OnBuilder
import Derived.Shelf.Strings.IndexAnyAll
import Derived.Shelf.Strings.Search1
import Derived.ProofKit
import Derived.Test.YtcblbcpnfidndaaDoorPxO
import Derived.WalkKit
import Derived.BigCall
import Derived.Test.YtcblbcpnfidndaaDoorPlD
import Derived.Deep.RegionLaw
import Derived.Deep.LoopGhost
import Derived.Lib.Walk
import Derived.Maps.Own
import Derived.Shelf.RegionOpenPlain
import Derived.Lib.LazyBuf
import Derived.Test.YtcblbcpnfidndaaDoorV12A
set_option linter.unusedSimpArgs false
set_option linter.unusedVariables false
namespace Go.Proofs.YtcblbcpnfidndaaDoor
open Go Go.Abs Go.Lab
def isOp (c : UInt8) : Bool := c == 61 || (c == 33 || c == 126)

theorem eqU (c : UInt8) (n : UInt8) : (u8 c == (n.toNat : Int)) = (c == n) := by
  by_cases h : c = n
  · subst h; simp [u8]
  · rw [beq_eq_false_iff_ne.2 h]
    exact beq_eq_false_iff_ne.2 fun e => h (UInt8.toNat_inj.1 (by unfold u8 at e; omega))

theorem upto_drop {p : UInt8 → Bool} : ∀ (s : List UInt8), s = upTo p s ++ s.drop (upTo p s).length
  | [] => rfl
  | c :: s => by
    unfold upTo
    by_cases h : p c = true
    · rw [if_pos h]; rfl
    · rw [if_neg h, List.length_cons, List.drop_succ_cons, List.cons_append, ← upto_drop s]

theorem upto_take {p : UInt8 → Bool} : ∀ (s : List UInt8), s.take (upTo p s).length = upTo p s
  | [] => rfl
  | c :: s => by
    unfold upTo
    by_cases h : p c = true
    · rw [if_pos h]; rfl
    · rw [if_neg h, List.length_cons, List.take_succ_cons, upto_take s]

theorem upto_len {p : UInt8 → Bool} (s : List UInt8) : (upTo p s).length ≤ s.length := by
  have := congrArg List.length (upto_drop (p := p) s)
  rw [List.length_append] at this
  omega

abbrev M0 : MT := (ByteArray.empty, 0, ByteArray.empty, ())

theorem loop137a (s : ByteArray) (hs : s.size ≤ 4194304) (m : MT) : ∀ (k i : Nat), i + k = s.size →
    loopT l137_0_2 (((i : Int), s, ()), ((m, ()), ())) = some ((((i + (upTo isOp ((bl s).drop i)).length : Nat) : Int), s, ()), ((m, ()), ())) := by
  intro k
  induction k with
  | zero =>
    intro i h
    rw [List.drop_eq_nil_of_le (by rw [len_bl]; omega)]
    refine loopT_inr ?_
    have : decide ((i : Int) < (s.size : Int)) = false := decide_eq_false (by omega)
    simp only [l137_0_2, this, sumE, sS]
    rfl
  | succ k ih =>
    intro i h
    obtain ⟨c, hc, hd⟩ := drop_at (l := bl s) (i := i) (by rw [len_bl]; omega)
    have hlt : decide ((i : Int) < (s.size : Int)) = true := decide_eq_true (by omega)
    have hbd : decide ((0 : Int) ≤ (i : Int) ∧ (i : Int) < (s.size : Int)) = true := decide_eq_true (by omega)
    have hw : w64 ((i : Int) + 1) = ((i + 1 : Nat) : Int) := w64_nat (by omega)
    have e1 : (u8 c == 61) = (c == 61) := eqU c 61
    have e2 : (u8 c == 33) = (c == 33) := eqU c 33
    have e3 : (u8 c == 126) = (c == 126) := eqU c 126
    have hstep : l137_0_2 (((i : Int), s, ()), ((m, ()), ())) = if isOp c then some (.inr (((i : Int), s, ()), ((m, ()), ()))) else some (.inl ((((i + 1 : Nat) : Int), s, ()), ((m, ()), ()))) := by
      unfold isOp
      simp only [l137_0_2, hlt, hbd, byte_at hc, bne, e1, e2, e3, sumE, sS]
      cases (c == 61) <;> cases (c == 33) <;> cases (c == 126) <;> simp only [sumE, sS, hw, Bool.or_true, Bool.true_or, Bool.or_false, Bool.false_or, Bool.false_eq_true, if_true, if_false]
    rw [hd]
    unfold upTo
    by_cases hop : isOp c = true
    · rw [if_pos hop] at hstep ⊢
      exact loopT_inr hstep
    · rw [if_neg hop] at hstep ⊢
      rw [loopT_inl hstep, ih (i + 1) (by omega), List.length_cons]
      rw [show i + 1 + (upTo isOp ((bl s).drop (i + 1))).length = i + ((upTo isOp ((bl s).drop (i + 1))).length + 1) by omega]

def opsB : List ByteArray := [(bs [61]), (bs [33, 61]), (bs [126]), (bs [33, 126])]

theorem step137b (t : ByteArray) (ht : t.size ≤ 4194304) (m0 m : MT) (i : Nat) (op : ByteArray) (ho : opsB[i]? = some op) (hsz : op.size ≤ 2) :
    l137_0_8 ((t, (i : Int), ()), ((m0, ()), ((m, ()), (opsB, ())))) = some (if preL (bl op ++ [34]) (bl t) then .inr ((mkB ((bl t).drop (op.size + 1)), ()), ((m0, ()), (((m.1, (i : Int), m.2.2), ()), ())))
      else .inl ((t, ((i + 1 : Nat) : Int), ()), ((m0, ()), ((m, ()), (opsB, ()))))) := by
  have hi : i < opsB.length := (List.getElem?_eq_some_iff.1 ho).1
  have hi4 : i < 4 := hi
  have hlt : decide ((i : Int) < ((opsB.length : Nat) : Int)) = true := decide_eq_true (by omega)
  have hbd : decide ((0 : Int) ≤ (i : Int) ∧ (i : Int) < ((opsB.length : Nat) : Int)) = true := decide_eq_true (by omega)
  have hw : w64 ((i : Int) + 1) = ((i + 1 : Nat) : Int) := w64_nat (by omega)
  by_cases h1 : (t.size : Int) > (op.size : Int)
  · have d0 : decide ((0 : Int) ≤ (op.size : Int)) = true := decide_eq_true (by omega)
    have d1 : decide (0 ≤ op.size ∧ op.size ≤ t.size) = true := decide_eq_true (by omega)
    obtain ⟨c, hc⟩ := getD_some (l := bl t) (i := op.size) (by rw [len_bl]; omega)
    have d2 : decide ((0 : Int) ≤ (op.size : Int) ∧ (op.size : Int) < (t.size : Int)) = true := decide_eq_true (by omega)
    have e34 : (u8 c == 34) = (c == 34) := eqU c 34
    have hpre : preL (bl op ++ [34]) (bl t) = ((bl t).take op.size == bl op && c == 34) := by
      unfold preL
      rw [List.length_append, len_bl, List.length_singleton, List.take_add_one, hc]
      by_cases ha : (bl t).take op.size = bl op
      · rw [ha]
        by_cases hb : c = 34
        · subst hb; simp
        · simp [hb]
      · rw [beq_eq_false_iff_ne.2 ha, Bool.false_and]
        refine beq_eq_false_iff_ne.2 fun e => ha ?_
        have := List.append_inj_left' e (by simp)
        exact this
    rw [hpre]
    simp only [l137_0_8, hlt, hbd, Int.toNat_natCast, ho, decide_eq_true h1, d0, d1, ext_take, toList_bl, bl_mk, sumE, sS]
    cases ha : ((bl t).take op.size == bl op)
    · simp only [sumE, sS, hw, Bool.false_and, Bool.false_eq_true, if_false]
    · simp only [sumE, sS, d2, byte_at hc, byte_n hc, e34, Bool.true_and]
      cases hb : (c == 34)
      · simp only [sumE, sS, hw, Bool.false_eq_true, if_false]
      · have hw2 : w64 ((op.size : Int) + 1) = ((op.size + 1 : Nat) : Int) := w64_nat (by omega)
        have d3 : decide ((0 : Int) ≤ ((op.size + 1 : Nat) : Int)) = true := decide_eq_true (by omega)
        have d4 : decide (op.size + 1 ≤ t.size ∧ t.size ≤ t.size) = true := decide_eq_true (by omega)
        simp only [sumE, sS, hw2, d3, Int.toNat_natCast, d4, ext_mk, if_true]
  · have : preL (bl op ++ [34]) (bl t) = false := by
      cases hp : preL (bl op ++ [34]) (bl t)
      · rfl
      · have := pre_len hp
        rw [List.length_append, len_bl, len_bl, List.length_singleton] at this
        omega
    rw [this]
    simp only [l137_0_8, hlt, hbd, Int.toNat_natCast, ho, decide_eq_false h1, hw, sumE, sS, Bool.false_eq_true, if_false]

/-- The operator ahead of a quoted value, and what is behind its 34. -/
def opR (t : List UInt8) : Option (Nat × List UInt8) :=
  if preL [61, 34] t then some (0, t.drop 2) else if preL [33, 61, 34] t then some (1, t.drop 3) else if preL [126, 34] t then some (2, t.drop 2) else if preL [33, 126, 34] t then some (3, t.drop 3) else none

theorem loop137b (t : ByteArray) (ht : t.size ≤ 4194304) (m0 m : MT) :
    loopT l137_0_8 ((t, 0, ()), ((m0, ()), ((m, ()), (opsB, ())))) = some (match opR (bl t) with
      | some (i, r) => ((mkB r, ()), ((m0, ()), (((m.1, (i : Int), m.2.2), ()), ())))
      | none => ((t, ()), ((m0, ()), ((m, ()), ())))) := by
  have s0 := step137b t ht m0 m 0 (bs [61]) rfl (by decide)
  have s1 := step137b t ht m0 m 1 (bs [33, 61]) rfl (by decide)
  have s2 := step137b t ht m0 m 2 (bs [126]) rfl (by decide)
  have s3 := step137b t ht m0 m 3 (bs [33, 126]) rfl (by decide)
  have s4 : l137_0_8 ((t, ((4 : Nat) : Int), ()), ((m0, ()), ((m, ()), (opsB, ())))) = some (.inr ((t, ()), ((m0, ()), ((m, ()), ())))) := rfl
  unfold opR
  by_cases h0 : preL [61, 34] (bl t) = true
  · rw [if_pos h0]
    rw [show bl (bs [61]) ++ [34] = [61, 34] from rfl, if_pos h0] at s0
    exact loopT_inr s0
  · rw [if_neg h0]
    rw [show bl (bs [61]) ++ [34] = [61, 34] from rfl, if_neg h0] at s0
    rw [show loopT l137_0_8 ((t, 0, ()), ((m0, ()), ((m, ()), (opsB, ())))) = _ from loopT_inl s0]
    by_cases h1 : preL [33, 61, 34] (bl t) = true
    · rw [if_pos h1]
      rw [show bl (bs [33, 61]) ++ [34] = [33, 61, 34] from rfl, if_pos h1] at s1
      exact loopT_inr s1
    · rw [if_neg h1]
      rw [show bl (bs [33, 61]) ++ [34] = [33, 61, 34] from rfl, if_neg h1] at s1
      rw [show loopT l137_0_8 ((t, ((0 + 1 : Nat) : Int), ()), ((m0, ()), ((m, ()), (opsB, ())))) = _ from loopT_inl s1]
      by_cases h2 : preL [126, 34] (bl t) = true
      · rw [if_pos h2]
        rw [show bl (bs [126]) ++ [34] = [126, 34] from rfl, if_pos h2] at s2
        exact loopT_inr s2
      · rw [if_neg h2]
        rw [show bl (bs [126]) ++ [34] = [126, 34] from rfl, if_neg h2] at s2
        rw [show loopT l137_0_8 ((t, ((1 + 1 : Nat) : Int), ()), ((m0, ()), ((m, ()), (opsB, ())))) = _ from loopT_inl s2]
        by_cases h3 : preL [33, 126, 34] (bl t) = true
        · rw [if_pos h3]
          rw [show bl (bs [33, 126]) ++ [34] = [33, 126, 34] from rfl, if_pos h3] at s3
          exact loopT_inr s3
        · rw [if_neg h3]
          rw [show bl (bs [33, 126]) ++ [34] = [33, 126, 34] from rfl, if_neg h3] at s3
          rw [show loopT l137_0_8 ((t, ((2 + 1 : Nat) : Int), ()), ((m0, ()), ((m, ()), (opsB, ())))) = _ from loopT_inl s3]
          exact loopT_inr s4

theorem ext_one {s : ByteArray} {i : Nat} {c : UInt8} (hc : (bl s)[i]? = some c) : s.extract i (i + 1) = mkB [c] := bl_inj (by
  have hcl : i < (bl s).length := (List.getElem?_eq_some_iff.1 hc).1
  rw [extract_bl, bl_mk, List.drop_eq_getElem_cons hcl, show i + 1 - i = 1 by omega, List.take_succ_cons, List.take_zero]
  rw [(List.getElem?_eq_some_iff.1 hc).2])

theorem loop137c (t : ByteArray) (ht : t.size ≤ 4194304) (m0 m : MT) : ∀ (k i : Nat) (v : List UInt8), t.size - i ≤ k → i ≤ t.size → v.length ≤ i →
    loopT l137_0_18 (((i : Int), t, mkB v, ()), ((m0, ()), ((m, ()), ()))) = some (match unq ((bl t).drop i) with
      | some (u, r) => .inl ((mkB r, true, ()), (((m.1, m.2.1, mkB (v ++ u), ()), ()), ()))
      | none => .inr ((), ((m0, ()), ((m, ()), ())))) := by
  intro k
  induction k with
  | zero =>
    intro i v h hi hv
    rw [List.drop_eq_nil_of_le (by rw [len_bl]; omega)]
    refine loopT_inr ?_
    have : decide ((i : Int) < (t.size : Int)) = false := decide_eq_false (by omega)
    simp only [l137_0_18, this, sumE, sS]
    rfl
  | succ k ih =>
    intro i v h hi hv
    by_cases hil : i = t.size
    · rw [List.drop_eq_nil_of_le (by rw [len_bl]; omega)]
      refine loopT_inr ?_
      have : decide ((i : Int) < (t.size : Int)) = false := decide_eq_false (by omega)
      simp only [l137_0_18, this, sumE, sS]
      rfl
    · obtain ⟨c, hc, hd⟩ := drop_at (l := bl t) (i := i) (by rw [len_bl]; omega)
      have hlt : decide ((i : Int) < (t.size : Int)) = true := decide_eq_true (by omega)
      have hbd : decide ((0 : Int) ≤ (i : Int) ∧ (i : Int) < (t.size : Int)) = true := decide_eq_true (by omega)
      have hw : w64 ((i : Int) + 1) = ((i + 1 : Nat) : Int) := w64_nat (by omega)
      have hw2 : w64 (((i + 1 : Nat) : Int) + 1) = ((i + 1 + 1 : Nat) : Int) := w64_nat (by omega)
      have e34 : (u8 c == 34) = (c == 34) := eqU c 34
      have e92 : (u8 c == 92) = (c == 92) := eqU c 92
      have d0 : ∀ n : Nat, decide ((0 : Int) ≤ (n : Int)) = true := fun n => decide_eq_true (by omega)
      have d1 : decide (i + 1 ≤ t.size ∧ t.size ≤ t.size) = true := decide_eq_true (by omega)
      have d2 : decide (i ≤ i + 1 ∧ i + 1 ≤ t.size) = true := decide_eq_true (by omega)
      have d3 : ∀ x : UInt8, decide ((mkB v).size + (mkB [x]).size ≤ 4294967296) = true := fun x => decide_eq_true (by rw [size_mk, size_mk]; simp; omega)
      rw [hd]
      by_cases h34 : c = 34
      · subst h34
        rw [unq_end]
        refine loopT_inr ?_
        simp only [l137_0_18, hlt, hbd, byte_at hc, byte_n hc, e34, hw, d0, Int.toNat_natCast, d1, ext_mk, sumE, sS, List.append_nil]
      · have b34 : (c == 34) = false := beq_eq_false_iff_ne.2 h34
        by_cases h92 : c = 92
        · subst h92
          by_cases hend : i + 1 < t.size
          · obtain ⟨d, hdc, hdd⟩ := drop_at (l := bl t) (i := i + 1) (by rw [len_bl]; exact hend)
            rw [hdd, unq_esc2]
            have x1 : decide (((i + 1 : Nat) : Int) < (t.size : Int)) = true := decide_eq_true (by omega)
            have d4 : decide (i + 1 ≤ i + 1 + 1 ∧ i + 1 + 1 ≤ t.size) = true := decide_eq_true (by omega)
            have q := ih (i + 1 + 1) (v ++ [d]) (by omega) (by omega) (by simp; omega)
            have hst : l137_0_18 (((i : Int), t, mkB v, ()), ((m0, ()), ((m, ()), ()))) = some (.inl ((((i + 1 + 1 : Nat) : Int), t, mkB (v ++ [d]), ()), ((m0, ()), ((m, ()), ())))) := by
              simp only [l137_0_18, hlt, hbd, byte_at hc, byte_n hc, e34, e92, b34, hw, x1, d0, Int.toNat_natCast, hw2, d4, ext_one hdc, d3, mk_app, sumE, sS]
            rw [loopT_inl hst, q]
            cases unq ((bl t).drop (i + 1 + 1)) with
            | none => rfl
            | some p => simp
          · have hd2 : (bl t).drop (i + 1) = [] := List.drop_eq_nil_of_le (by rw [len_bl]; omega)
            rw [hd2, unq_last]
            have x1 : decide (((i + 1 : Nat) : Int) < (t.size : Int)) = false := decide_eq_false (by omega)
            have hst : l137_0_18 (((i : Int), t, mkB v, ()), ((m0, ()), ((m, ()), ()))) = some (.inl ((((i + 1 : Nat) : Int), t, mkB (v ++ [92]), ()), ((m0, ()), ((m, ()), ())))) := by
              simp only [l137_0_18, hlt, hbd, byte_at hc, byte_n hc, e34, e92, b34, hw, x1, d0, Int.toNat_natCast, d2, ext_one hc, d3, mk_app, sumE, sS]
            have q := ih (i + 1) (v ++ [92]) (by omega) (by omega) (by simp; omega)
            rw [hd2] at q
            rw [loopT_inl hst, q]
            rfl
        · have b92 : (c == 92) = false := beq_eq_false_iff_ne.2 h92
          rw [unq_byte h34 h92]
          have q := ih (i + 1) (v ++ [c]) (by omega) (by omega) (by simp; omega)
          have hst : l137_0_18 (((i : Int), t, mkB v, ()), ((m0, ()), ((m, ()), ()))) = some (.inl ((((i + 1 : Nat) : Int), t, mkB (v ++ [c]), ()), ((m0, ()), ((m, ()), ())))) := by
            simp only [l137_0_18, hlt, hbd, byte_at hc, byte_n hc, e34, e92, b34, b92, hw, d0, Int.toNat_natCast, d2, ext_one hc, d3, mk_app, sumE, sS]
          rw [loopT_inl hst, q]
          cases unq ((bl t).drop (i + 1)) with
          | none => rfl
          | some p => simp

/-- A key, an operator, a value, what is left. -/
def readR (s : List UInt8) : Option (List UInt8 × Nat × List UInt8 × List UInt8) :=
  match opR (s.drop (upTo isOp s).length) with
  | none => none
  | some (i, t) => match unq t with
    | none => none
    | some (v, r) => some (upTo isOp s, i, v, r)

theorem m137_eq (s : ByteArray) (hs : s.size ≤ 4194304) : ∃ m : MT, m137 ((s, ()), ()) = some (match readR (bl s) with
    | some (k, i, v, r) => ((mkB r, true, ()), (((mkB k, (i : Int), mkB v, ()), ()), ()))
    | none => ((ByteArray.empty, false, ()), ((m, ()), ()))) := by
  have q1 := loop137a s hs M0 s.size 0 (by omega)
  rw [Nat.zero_add, List.drop_zero] at q1
  have hl := upto_len (p := isOp) (bl s)
  rw [len_bl] at hl
  have d0 : decide ((0 : Int) ≤ (((upTo isOp (bl s)).length : Nat) : Int)) = true := decide_eq_true (by omega)
  have d1 : decide (0 ≤ (upTo isOp (bl s)).length ∧ (upTo isOp (bl s)).length ≤ s.size) = true := decide_eq_true (by omega)
  have d2 : decide ((upTo isOp (bl s)).length ≤ s.size ∧ s.size ≤ s.size) = true := decide_eq_true (by omega)
  have htk : (bl s).take (upTo isOp (bl s)).length = upTo isOp (bl s) := upto_take (bl s)
  have q2 := loop137b (mkB ((bl s).drop (upTo isOp (bl s)).length)) (by rw [size_mk, List.length_drop, len_bl]; omega) M0 (mkB (upTo isOp (bl s)), -1, ByteArray.empty, ())
  rw [bl_mk] at q2
  have go : ∀ m : MT, m137 ((s, ()), ()) = some (match readR (bl s) with
    | some (k, i, v, r) => ((mkB r, true, ()), (((mkB k, (i : Int), mkB v, ()), ()), ()))
    | none => ((ByteArray.empty, false, ()), ((m, ()), ()))) → ∃ m : MT, m137 ((s, ()), ()) = some (match readR (bl s) with
    | some (k, i, v, r) => ((mkB r, true, ()), (((mkB k, (i : Int), mkB v, ()), ()), ()))
    | none => ((ByteArray.empty, false, ()), ((m, ()), ()))) := fun m h => ⟨m, h⟩
  unfold readR at go ⊢
  cases ho : opR ((bl s).drop (upTo isOp (bl s)).length) with
  | none =>
    rw [ho] at q2 go
    refine go (mkB (upTo isOp (bl s)), -1, ByteArray.empty, ()) ?_
    unfold m137
    refine bind_of _ (show loopT l137_0_2 ((0, s, ()), ((M0, ()), ())) = _ from q1) ?_
    simp only [d0, Int.toNat_natCast, d1, d2, ext_mk, ext_take, htk, m92, sumE, sS]
    refine bind_of _ (show loopT l137_0_8 ((mkB ((bl s).drop (upTo isOp (bl s)).length), 0, ()), ((M0, ()), (((mkB (upTo isOp (bl s)), -1, ByteArray.empty, ()), ()), (opsB, ())))) = _ from q2) ?_
    rfl
  | some p =>
    obtain ⟨i, t⟩ := p
    rw [ho] at q2 go
    have htl : t.length ≤ 4194304 := by
      have : t.length ≤ ((bl s).drop (upTo isOp (bl s)).length).length := by
        unfold opR at ho
        repeat' split at ho
        all_goals first | (cases ho; rw [List.length_drop]; omega) | cases ho
      rw [List.length_drop, len_bl] at this
      omega
    have q3 := loop137c (mkB t) (by rw [size_mk]; exact htl) M0 (mkB (upTo isOp (bl s)), (i : Int), ByteArray.empty, ()) t.length 0 [] (by rw [size_mk]; omega) (by omega) (by simp)
    rw [bl_mk, List.drop_zero, ← empty_mk] at q3
    have hneg : decide ((i : Int) < 0) = false := decide_eq_false (by omega)
    cases hu : unq t with
    | none =>
      simp only [hu] at q3 go ⊢
      refine go (mkB (upTo isOp (bl s)), (i : Int), ByteArray.empty, ()) ?_
      unfold m137
      refine bind_of _ (show loopT l137_0_2 ((0, s, ()), ((M0, ()), ())) = _ from q1) ?_
      simp only [d0, Int.toNat_natCast, d1, d2, ext_mk, ext_take, htk, m92, sumE, sS]
      refine bind_of _ (show loopT l137_0_8 ((mkB ((bl s).drop (upTo isOp (bl s)).length), 0, ()), ((M0, ()), (((mkB (upTo isOp (bl s)), -1, ByteArray.empty, ()), ()), (opsB, ())))) = _ from q2) ?_
      simp only [hneg, sumE, sS]
      exact bind_of _ (show loopT l137_0_18 ((0, mkB t, ByteArray.empty, ()), ((M0, ()), (((mkB (upTo isOp (bl s)), (i : Int), ByteArray.empty, ()), ()), ()))) = _ from q3) rfl
    | some p =>
      simp only [hu] at q3 go ⊢
      refine go M0 ?_
      unfold m137
      refine bind_of _ (show loopT l137_0_2 ((0, s, ()), ((M0, ()), ())) = _ from q1) ?_
      simp only [d0, Int.toNat_natCast, d1, d2, ext_mk, ext_take, htk, m92, sumE, sS]
      refine bind_of _ (show loopT l137_0_8 ((mkB ((bl s).drop (upTo isOp (bl s)).length), 0, ()), ((M0, ()), (((mkB (upTo isOp (bl s)), -1, ByteArray.empty, ()), ()), (opsB, ())))) = _ from q2) ?_
      simp only [hneg, sumE, sS]
      refine bind_of _ (show loopT l137_0_18 ((0, mkB t, ByteArray.empty, ()), ((M0, ()), (((mkB (upTo isOp (bl s)), (i : Int), ByteArray.empty, ()), ()), ()))) = _ from q3) ?_
      simp only [sumE, List.nil_append]

/-! ### Several -/
theorem step102 (s : ByteArray) (out : List MT) (hs : s.size ≤ 4194304) (ho : out.length ≤ 1000) :
    l102_0_2 ((s, ()), (out, ())) = some (match readR (bl s) with
      | none => .inr ((false, ()), ([], ()))
      | some (k, i, v, r) => if 20 < out.length then .inr ((false, ()), ([], ())) else match r with
        | [] => .inr ((true, ()), (out ++ [(mkB k, (i : Int), mkB v, ())], ()))
        | c :: r => if c = 44 then .inl ((mkB r, ()), (out ++ [(mkB k, (i : Int), mkB v, ())], ())) else .inr ((false, ()), ([], ()))) := by
  obtain ⟨m, q⟩ := m137_eq s hs
  cases hr : readR (bl s) with
  | none =>
    rw [hr] at q
    simp only [l102_0_2, q, sumE, sS]
  | some p =>
    obtain ⟨k, i, v, r⟩ := p
    rw [hr] at q
    by_cases h20 : 20 < out.length
    · have d : decide ((((out.length : Nat) : Int) : Int) > 20) = true := decide_eq_true (by omega)
      simp only [l102_0_2, q, d, sumE, sS]
      rw [if_pos h20]
    · have d : decide ((((out.length : Nat) : Int) : Int) > 20) = false := decide_eq_false (by omega)
      have hb : ∀ z : MT, decide (out.length + ([z] : List MT).length ≤ 4294967296) = true := fun z => decide_eq_true (by simp; omega)
      simp only [l102_0_2, q, d, hb, toList_bl, sumE, sS]
      rw [if_neg h20]
      cases r with
      | nil =>
        have : (bl (mkB ([] : List UInt8)) == bl ByteArray.empty) = true := rfl
        simp only [this, sumE, sS]
      | cons c r =>
        have e1 : (bl (mkB (c :: r)) == bl ByteArray.empty) = false := rfl
        have e2 : decide ((0 : Int) ≤ 0 ∧ (0 : Int) < ((mkB (c :: r)).size : Int)) = true := decide_eq_true (by rw [size_mk, List.length_cons]; omega)
        have e3 : ((((mkB (c :: r))[0]?.getD 0).toNat : Nat) : Int) = u8 c := byte_n (s := mkB (c :: r)) (i := 0) rfl
        have e4 : (u8 c == 44) = (c == 44) := eqU c 44
        have e5 : decide (1 ≤ (mkB (c :: r)).size ∧ (mkB (c :: r)).size ≤ (mkB (c :: r)).size) = true := decide_eq_true (by rw [size_mk, List.length_cons]; omega)
        have e6 : (mkB (c :: r)).extract 1 (mkB (c :: r)).size = mkB r := by rw [ext_mk, bl_mk]; rfl
        simp only [e1, e2, e3, bne, e4, sumE, sS]
        by_cases hc : c = 44
        · subst hc
          simp only [e5, e6, beq_self_eq_true, sumE, sS, if_true]
        · rw [beq_eq_false_iff_ne.2 hc, if_neg hc]
          simp only [sumE, sS]

theorem op_item {k v r : List UInt8} (hk : keyL k = true) : readR (item k [61] v ++ r) = some (k, 0, v, r) := by
  have hu : upTo isOp (item k [61] v ++ r) = k := by
    unfold item
    rw [show k ++ ([61] ++ 34 :: (esc v ++ [34])) ++ r = k ++ 61 :: (34 :: (esc v ++ [34]) ++ r) by simp]
    refine upTo_append (fun c hc => ?_) rfl
    have h := (key_all hk).2.2 c hc
    unfold isOp
    rw [beq_eq_false_iff_ne.2 (keyChar_ne h (by decide)), beq_eq_false_iff_ne.2 (keyChar_ne h (by decide)), beq_eq_false_iff_ne.2 (keyChar_ne h (by decide))]
    rfl
  have hd : (item k [61] v ++ r).drop k.length = 61 :: 34 :: (esc v ++ 34 :: r) := by
    unfold item
    rw [show k ++ ([61] ++ 34 :: (esc v ++ [34])) ++ r = k ++ (61 :: 34 :: (esc v ++ 34 :: r)) by simp]
    exact List.drop_left' rfl
  unfold readR
  rw [hu, hd]
  have ho : opR (61 :: 34 :: (esc v ++ 34 :: r)) = some (0, esc v ++ 34 :: r) := by
    unfold opR
    rw [if_pos (by unfold preL; rfl)]
    rfl
  rw [ho]
  simp only [unq_esc]

theorem read102 : ∀ (l : List LT) (x : LT) (out : List MT), (∀ y ∈ x :: l, keyS y.1 = true) → (commas ((x :: l).map partL)).length ≤ 4194304 → out.length + l.length ≤ 20 →
    loopT l102_0_2 ((mkB (commas ((x :: l).map partL)), ()), (out, ())) = some ((true, ()), (out ++ (x :: l).map (fun y => (y.1, 0, y.2.1, ())), ())) := by
  intro l
  induction l with
  | nil =>
    intro x out hk hlen ho
    have k1 := hk x (List.mem_cons_self ..)
    have hcm : commas ([x].map partL) = partL x := rfl
    rw [hcm] at hlen ⊢
    have h := step102 (mkB (partL x)) out (by rw [size_mk]; exact hlen) (by simp at ho; omega)
    have hr := op_item (k := bl x.1) (v := bl x.2.1) (r := []) k1
    rw [List.append_nil] at hr
    rw [bl_mk, show readR (partL x) = _ from hr] at h
    simp only [if_neg (show ¬ 20 < out.length by simp at ho; omega), mk_bl] at h
    exact loopT_inr h
  | cons y l ih =>
    intro x out hk hlen ho
    have k1 := hk x (List.mem_cons_self ..)
    have hcm : commas ((x :: y :: l).map partL) = partL x ++ 44 :: commas ((y :: l).map partL) := rfl
    rw [hcm] at hlen ⊢
    have h := step102 (mkB (partL x ++ 44 :: commas ((y :: l).map partL))) out (by rw [size_mk]; exact hlen) (by simp at ho; omega)
    have hr := op_item (k := bl x.1) (v := bl x.2.1) (r := 44 :: commas ((y :: l).map partL)) k1
    rw [bl_mk, show readR (partL x ++ 44 :: commas ((y :: l).map partL)) = _ from hr] at h
    simp only [if_neg (show ¬ 20 < out.length by simp at ho; omega), mk_bl, if_true] at h
    rw [loopT_inl h, show (((0 : Nat) : Nat) : Int) = 0 from rfl]
    rw [ih y (out ++ [(x.1, 0, x.2.1, ())]) (fun z hz => hk z (List.mem_cons_of_mem _ hz)) (by rw [List.length_append, List.length_cons] at hlen; omega) (by simp at ho ⊢; omega)]
    simp

/-! ### Parse -/
theorem conv47 (w : ByteArray) (ms : List MT) (hl : ms.length ≤ 1000) : loopT l47_0_9 ((0, w, ()), (ms, ([], ()))) = some ((w, ()), (ms.map (fun m => (m.1, m.2.2.1, ())), ())) := by
  refine drop_e (loop_ind (f := l47_0_9) (Q := fun b => b = ((w, ()), (ms.map (fun m : MT => ((m.1, m.2.2.1, ()) : LT)), ()))) (fun i st => st = (((i : Int), w, ()), (ms, ((ms.take i).map (fun m : MT => ((m.1, m.2.2.1, ()) : LT)), ())))) ms.length ?_ ?_ _ rfl)
  · rintro i _ hi rfl
    obtain ⟨e, he⟩ := getD_some (l := ms) (i := i) hi
    have hlt : decide ((i : Int) < ((ms.length : Nat) : Int)) = true := decide_eq_true (by omega)
    have hbd : decide ((0 : Int) ≤ (i : Int) ∧ (i : Int) < ((ms.length : Nat) : Int)) = true := decide_eq_true (by omega)
    have hw : w64 ((i : Int) + 1) = ((i + 1 : Nat) : Int) := w64_nat (by omega)
    have hb : ∀ z : LT, decide (((ms.take i).map (fun m : MT => ((m.1, m.2.2.1, ()) : LT))).length + [z].length ≤ 4294967296) = true := fun z => decide_eq_true (by simp; omega)
    refine ⟨_, ?_, rfl⟩
    rw [show ms.take (i + 1) = ms.take i ++ [e] by rw [List.take_add_one, he]; rfl, List.map_append]
    simp only [l47_0_9, hlt, hbd, Int.toNat_natCast, he, hb, hw, sumE, sS]
    rfl
  · rintro _ rfl
    refine ⟨_, ?_, rfl⟩
    have : decide ((ms.length : Int) < ((ms.length : Nat) : Int)) = false := decide_eq_false (by omega)
    simp only [l47_0_9, this, sumE, sS]
    rw [List.take_of_length_le (Nat.le_refl _)]

theorem last_byte {w : ByteArray} {q : List UInt8} {c : UInt8} (h : bl w = q ++ [c]) : (((w[q.length]?.getD 0).toNat : Nat) : Int) = u8 c := byte_n (by rw [h, List.getElem?_append_right (Nat.le_refl _), Nat.sub_self]; rfl)

theorem ref_back (l : List LT) (h : validL l = true) : m47 ((mkB (textL l), ()), ()) = some ((0, ()), (l, ())) := by
  obtain ⟨h1, h2⟩ := valid_mem h
  have hp := parts_len h l.length
  rw [List.take_of_length_le (by rw [List.length_map]; exact Nat.le_refl _)] at hp
  have hk : KSz l := ⟨by unfold big; omega, fun x hx => by
    obtain ⟨a, b, _⟩ := h2 x hx
    have := keyS_sz a
    have := valS_sz b
    unfold big; omega⟩
  have e3 := m41_eq l hk
  have e4 : textE l = mkB (textL l) := by unfold textE; rw [if_pos h]
  rw [e4] at e3
  unfold m47
  cases l with
  | nil =>
    have : (bl (mkB (textL [])) == bl (bs [123, 125])) = true := rfl
    simp only [this, sumE, e3, toList_bl, beq_self_eq_true, sumE, sS]
  | cons x l =>
    have hne : commas ((x :: l).map partL) ≠ [] := by
      rw [List.map_cons]
      exact commas_ne item_ne
    have e0 : (bl (mkB (textL (x :: l))) == bl (bs [123, 125])) = false := by
      rw [bl_mk]
      refine beq_eq_false_iff_ne.2 fun e => hne ?_
      have e : 123 :: (commas ((x :: l).map partL) ++ [125]) = [123, 125] := e
      cases hc : commas ((x :: l).map partL) with
      | nil => rfl
      | cons a b => rw [hc] at e; simp at e
    have hsz : (mkB (textL (x :: l))).size = (commas ((x :: l).map partL)).length + 2 := by rw [size_mk]; unfold textL; simp
    have f1 : decide ((((mkB (textL (x :: l))).size : Int) : Int) < 2) = false := decide_eq_false (by rw [hsz]; omega)
    have f2 : decide ((0 : Int) ≤ 0 ∧ (0 : Int) < ((mkB (textL (x :: l))).size : Int)) = true := decide_eq_true (by rw [hsz]; omega)
    have f3 : ((((mkB (textL (x :: l)))[0]?.getD 0).toNat : Nat) : Int) = u8 123 := byte_n (i := 0) rfl
    have f4 : w64 (((mkB (textL (x :: l))).size : Int) - 1) = (((commas ((x :: l).map partL)).length + 1 : Nat) : Int) := by rw [hsz, w64_id (by omega) (by omega)]; omega
    have f5 : decide ((0 : Int) ≤ (((commas ((x :: l).map partL)).length + 1 : Nat) : Int) ∧ (((commas ((x :: l).map partL)).length + 1 : Nat) : Int) < ((mkB (textL (x :: l))).size : Int)) = true := decide_eq_true (by rw [hsz]; omega)
    have f6 : ((((mkB (textL (x :: l)))[(commas ((x :: l).map partL)).length + 1]?.getD 0).toNat : Nat) : Int) = u8 125 := last_byte (q := 123 :: commas ((x :: l).map partL)) rfl
    have f7 : decide ((0 : Int) ≤ (((commas ((x :: l).map partL)).length + 1 : Nat) : Int)) = true := decide_eq_true (by omega)
    have f8 : decide (1 ≤ (commas ((x :: l).map partL)).length + 1 ∧ (commas ((x :: l).map partL)).length + 1 ≤ (mkB (textL (x :: l))).size) = true := decide_eq_true (by rw [hsz]; omega)
    have f9 : (mkB (textL (x :: l))).extract 1 ((commas ((x :: l).map partL)).length + 1) = mkB (commas ((x :: l).map partL)) := bl_inj (by
      rw [extract_bl, bl_mk, bl_mk, Nat.add_sub_cancel]
      show ((commas ((x :: l).map partL) ++ [125])).take _ = _
      exact List.take_left' rfl)
    have q1 := read102 l x [] (fun y hy => (h2 y hy).1) (by omega) (by simp at h1 ⊢; omega)
    rw [List.nil_append] at q1
    have q2 := conv47 (mkB (textL (x :: l))) ((x :: l).map (fun y => ((y.1, 0, y.2.1, ()) : MT))) (by rw [List.length_map]; omega)
    rw [List.map_map] at q2
    have e5 : (x :: l).map ((fun m : MT => ((m.1, m.2.2.1, ()) : LT)) ∘ fun y : LT => ((y.1, 0, y.2.1, ()) : MT)) = x :: l := by
      conv => rhs; rw [← List.map_id (x :: l)]
      exact List.map_congr_left fun y _ => rfl
    rw [e5] at q2
    have q3 : m102 ((mkB (commas ((x :: l).map partL)), ()), ()) = some ((true, ()), ((x :: l).map (fun y => ((y.1, 0, y.2.1, ()) : MT)), ())) := by
      unfold m102
      exact bind_of _ q1 rfl
    have g1 : ((u8 123 : Int) != 123) = false := rfl
    have g2 : ((u8 125 : Int) != 125) = false := rfl
    simp only [e0, f1, f2, f3, f4, f5, Int.toNat_natCast, f6, f7, f8, f9, g1, g2, q3, q2, sumE, e3, toList_bl, beq_self_eq_true, sumE, sS]

end Go.Proofs.YtcblbcpnfidndaaDoor

namespace Go.Proofs.YtcblbcpnfidndaaDoor
open Go Go.Abs Go.Lab
theorem fm_congr {A B : Type} {f g : A → Option B} : ∀ {l : List A}, (∀ x ∈ l, f x = g x) → l.filterMap f = l.filterMap g
  | [], _ => rfl
  | x :: l, h => by
    rw [List.filterMap_cons, List.filterMap_cons, h x (List.mem_cons_self ..), fm_congr fun y hy => h y (List.mem_cons_of_mem _ hy)]

def inK (ks : List ByteArray) (k : ByteArray) : Bool := ks.any fun y => decide (y = k)

theorem inK_iff {ks : List ByteArray} {k : ByteArray} : inK ks k = true ↔ k ∈ ks := by
  unfold inK
  rw [List.any_eq_true]
  constructor
  · rintro ⟨y, h1, h2⟩
    rw [← of_decide_eq_true h2]; exact h1
  · intro h
    exact ⟨k, h, decide_eq_true rfl⟩

theorem findL_no {k : ByteArray} : ∀ {l : List LT}, (∀ x ∈ l, x.1 ≠ k) → findL k l = none
  | [], _ => rfl
  | x :: l, h => by
    unfold findL
    rw [if_neg (h x (List.mem_cons_self ..))]
    exact findL_no fun y hy => h y (List.mem_cons_of_mem _ hy)

/-- Labels whose keys are among keys, in order, told by their values. -/
theorem by_keys : ∀ {ks : List ByteArray} {l : List LT}, ks.Nodup → (l.map (·.1)).Sublist ks → l = ks.filterMap fun k => (findL k l).map fun v => (k, v, ())
  | [], l, _, h => by
    have := List.eq_nil_of_sublist_nil h
    rw [List.map_eq_nil_iff] at this
    subst this; rfl
  | k :: ks, [], _, _ => by
    rw [List.filterMap_eq_nil_iff.2]
    intro k _
    rfl
  | k :: ks, x :: l, hn, h => by
    obtain ⟨hk, hn⟩ := List.nodup_cons.1 hn
    rw [List.map_cons] at h
    rcases List.sublist_cons_iff.1 h with h | ⟨r, he, h⟩
    · have hne : ∀ y ∈ x :: l, y.1 ≠ k := fun y hy e => hk (e ▸ h.subset (List.mem_map_of_mem (f := (·.1)) hy))
      have ih := by_keys (l := x :: l) hn h
      rw [List.filterMap_cons, findL_no hne]
      exact ih
    · obtain ⟨e1, e2⟩ := List.cons.inj he
      subst e2
      have ih := by_keys hn h
      have hx : x = (k, x.2.1, ()) := by rw [← e1]
      have hf : findL k (x :: l) = some x.2.1 := by unfold findL; rw [if_pos e1]
      rw [List.filterMap_cons, hf]
      simp only [Option.map_some]
      rw [← hx]
      congr 1
      conv => lhs; rw [ih]
      refine fm_congr fun y hy => ?_
      have : x.1 ≠ y := fun e => hk (e1 ▸ e ▸ hy)
      conv => rhs; unfold findL
      rw [if_neg this]

theorem find_pick {ks : List ByteArray} {k : ByteArray} (hk : k ∈ ks) : ∀ l : List LT, findL k (pickL ks l) = findL k l
  | [] => rfl
  | x :: l => by
    unfold pickL
    rw [List.filter_cons]
    have ih := find_pick hk l
    unfold pickL at ih
    by_cases h : x.1 = k
    · have : (ks.any fun k => decide (k = x.1)) = true := List.any_eq_true.2 ⟨k, hk, by simp [h]⟩
      rw [if_pos this]
      unfold findL
      rw [if_pos h, if_pos h]
    · split
      · unfold findL
        rw [if_neg h, if_neg h]
        exact ih
      · rw [ih]
        conv => rhs; unfold findL
        rw [if_neg h]

theorem find_not {ks : List ByteArray} {k : ByteArray} (hk : k ∉ ks) (l : List LT) : findL k (pickL ks l) = none := findL_no fun x hx e => by
  obtain ⟨_, h⟩ := List.mem_filter.1 hx
  obtain ⟨y, h1, h2⟩ := List.any_eq_true.1 h
  have h2 : y = x.1 := by simpa using h2
  exact hk (e ▸ h2 ▸ h1)

theorem pick_keys {l : List LT} (h : FromKeys keys4 l) (ks : List ByteArray) : FromKeys keys4 (pickL ks l) := ⟨((pick_sub ks l).map _).trans h.1, fun x hx => h.2 x ((pick_sub ks l).subset hx)⟩

theorem keys4_nodup : keys4.Nodup := by decide +kernel

theorem find_val {l : List LT} (h : FromKeys keys4 l) {k v : ByteArray} (hf : findL k l = some v) : v ≠ ByteArray.empty := by
  obtain ⟨x, hx, rfl⟩ := findL_mem hf
  exact (h.2 x hx).2

theorem get_find {a b : List LT} (ha : FromKeys keys4 a) (hb : FromKeys keys4 b) (k : ByteArray) : getL a k = getL b k ↔ findL k a = findL k b := by
  refine ⟨fun h => ?_, fun h => by unfold getL; rw [h]⟩
  unfold getL at h
  cases h1 : findL k a with
  | none =>
    cases h2 : findL k b with
    | none => rfl
    | some v => rw [h1, h2] at h; exact absurd h.symm (find_val hb h2)
  | some u =>
    cases h2 : findL k b with
    | none => rw [h1, h2] at h; exact absurd h (find_val ha h1)
    | some v => rw [h1, h2] at h; exact congrArg some h

theorem pick_eq {a b : List LT} (ha : FromKeys keys4 a) (hb : FromKeys keys4 b) (ks : List ByteArray) : pickL ks a = pickL ks b ↔ ∀ k ∈ ks, getL a k = getL b k := by
  constructor
  · intro h k hk
    refine (get_find ha hb k).2 ?_
    rw [← find_pick hk a, ← find_pick hk b, h]
  · intro h
    rw [by_keys keys4_nodup (pick_keys ha ks).1, by_keys keys4_nodup (pick_keys hb ks).1]
    refine fm_congr fun k _ => ?_
    by_cases hk : k ∈ ks
    · rw [find_pick hk, find_pick hk, (get_find ha hb k).1 (h k hk)]
    · rw [find_not hk, find_not hk]

theorem filter_self : ∀ {ks l : List ByteArray}, l.Nodup → ks.Sublist l → l.filter (inK ks) = ks
  | ks, [], _, h => by have := List.eq_nil_of_sublist_nil h; subst this; rfl
  | ks, a :: l, hn, h => by
    obtain ⟨ha, hn⟩ := List.nodup_cons.1 hn
    rw [List.filter_cons]
    rcases List.sublist_cons_iff.1 h with h | ⟨r, rfl, hr⟩
    · have : ¬ inK ks a = true := fun e => ha (h.subset (inK_iff.1 e))
      rw [if_neg this]
      exact filter_self hn h
    · rw [if_pos (inK_iff.2 (List.mem_cons_self ..))]
      have : l.filter (inK (a :: r)) = l.filter (inK r) := List.filter_congr fun k hk => by
        have : k ≠ a := fun e => ha (e ▸ hk)
        rw [Bool.eq_iff_iff, inK_iff, inK_iff, List.mem_cons]
        exact ⟨fun h => h.resolve_left this, .inr⟩
      rw [this, filter_self hn hr]

theorem pick_len {l : List LT} (h : FromKeys keys4 l) {ks : List ByteArray} (hk : ks.Sublist keys4) : (pickL ks l).length ≤ ks.length := by
  have h1 : ((pickL ks l).map (·.1)).filter (inK ks) = (pickL ks l).map (·.1) := List.filter_eq_self.2 fun k hk => by
    obtain ⟨x, hx, rfl⟩ := List.mem_map.1 hk
    obtain ⟨_, h⟩ := List.mem_filter.1 hx
    exact h
  have h2 := ((pick_keys h ks).1.filter (inK ks)).length_le
  rw [h1, filter_self keys4_nodup hk, List.length_map] at h2
  exact h2

def eqK (a b : List LT) (ks : List ByteArray) : Bool := ks.all fun k => decide (getL a k = getL b k)

theorem loop12 (a b : List LT) (ha : a.length ≤ big) (hb : b.length ≤ big) (ks : List ByteArray) (hk : ks.length ≤ 1000) (p : Int × Int × Int × Int × Int × Bool × Unit) :
    loopT l12_0_7 ((0, true, ((ks.length : Nat) : Int), ()), (b, a, ks, (p, ()), ())) = some ((eqK a b ks, ()), (b, (p, ()), a, ks, ())) := by
  have h := loop_list0 (f := l12_0_7) ks (fun i (e : Bool) => (((i : Int), e, ((ks.length : Nat) : Int), ()), (b, a, ks, (p, ()), ()))) (fun _ e k => .inl (e && decide (getL a k = getL b k))) (fun e => ((e, ()), (b, (p, ()), a, ks, ()))) ?_ ?_ true
  · rw [runL_fold] at h
    have fold : ∀ (r : List ByteArray) (e : Bool), r.foldl (fun e k => e && decide (getL a k = getL b k)) e = (e && r.all fun k => decide (getL a k = getL b k)) := by
      intro r
      induction r with
      | nil => intro e; rw [List.all_nil, Bool.and_true]; rfl
      | cons k r ih => intro e; rw [List.foldl_cons, ih, List.all_cons, Bool.and_assoc]
    rw [fold, Bool.true_and] at h
    exact h
  · intro i k e he hi
    have hw : w64 ((i : Int) + 1) = ((i + 1 : Nat) : Int) := w64_nat (by omega)
    have hbd : decide ((0 : Int) ≤ (i : Int) ∧ (i : Int) < ((ks.length : Nat) : Int)) = true := decide_eq_true (by omega)
    simp only [l12_0_7, lt_t hi, hbd, Int.toNat_natCast, he, m44_eq a k ha, m44_eq b k hb, toList_bl, beq_bl, sumE, sS]
    cases e <;> simp only [sumE, sS, hw, Bool.true_and, Bool.false_and]
  · intro e
    simp only [l12_0_7, lt_f, sumE, sS]

theorem law12c (t : List Int) : m12 ((t, ()), ()) = some ((true, ()), ()) := by
  unfold m12
  simp only [light, sumE, sS]
  by_cases ht : t.length ≤ 500
  · simp only [decide_eq_true ht, sumE, sS, roll]
    obtain ⟨p, w, i, r, c, ks, d1, e1, hd1, hr⟩ := route_spec _ (dok0 ht)
    obtain ⟨a, d2, e2, hd2, ha⟩ := labels_spec d1 hd1
    obtain ⟨b, d3, e3, hd3, hb⟩ := labels_spec d2 hd2
    have hk := (hr (-1) [] ⟨by simp, fun m hm => by cases hm⟩).2.1
    have hk : ks.Sublist keys4 := hk
    have hk4 := hk.length_le
    rw [show keys4.length = 4 from rfl] at hk4
    have hka := from_k ha
    have hkb := from_k hb
    have q1 := loop12 a b hka.1 hkb.1 ks (by omega) ((-1), p, w, i, r, c, ())
    have q2 := m57_eq ((-1), [], p, ks, w, i, r, c, ()) a hka (by show ks.length ≤ big; unfold big; omega)
    have q3 := m57_eq ((-1), [], p, ks, w, i, r, c, ()) b hkb (by show ks.length ≤ big; unfold big; omega)
    have k1 : ∀ {l : List LT}, FromKeys keys4 l → keyE ((-1), [], p, ks, w, i, r, c, ()) l = textE (pickL ks l) := fun {l} hl => by
      unfold keyE
      rw [from_valid hl]
      rfl
    rw [k1 ha] at q2
    rw [k1 hb] at q3
    have va := from_valid (pick_keys ha ks)
    have vb := from_valid (pick_keys hb ks)
    have q4 := ref_back _ va
    have ta : textE (pickL ks a) = mkB (textL (pickL ks a)) := by unfold textE; rw [if_pos va]
    rw [← ta] at q4
    have hlen := pick_len ha hk
    have d1 : decide ((((pickL ks a).length : Nat) : Int) ≤ ((ks.length : Nat) : Int)) = true := decide_eq_true (by omega)
    have fin : (decide (textE (pickL ks a) = textE (pickL ks b)) == eqK a b ks) = true := by
      have : decide (textE (pickL ks a) = textE (pickL ks b)) = eqK a b ks := by
        rw [decide_eq_decide.2 ((texts_eq va vb).trans (pick_eq ha hb ks))]
        unfold eqK
        rw [Bool.eq_iff_iff, decide_eq_true_eq, List.all_eq_true]
        simp only [decide_eq_true_eq]
      rw [this]; simp
    simp only [e1, e2, e3, sumE, sS]
    refine bind_of _ q1 ?_
    simp only [q2, q3, q4, d1, toList_bl, beq_bl, fin, sane21, sumE, sS, show ((0 : Int) == 0) = true from rfl]
  · simp only [decide_eq_false ht, sumE, sS, sane21]

theorem law12 : ∀ x, Abs.InRs [.row (.int .i64)] x → m12 (x, ()) = some ((true, ()), ()) := fun x _ => law12c x.1

end Go.Proofs.YtcblbcpnfidndaaDoor
