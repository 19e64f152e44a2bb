/- Lemmas for the statement of the last text of this claim. -/
import Derived.Test.YtcblbcpnfidndaaDoorChecked
import Derived.Shelf.Strings.OnBuilder
import Derived.Shelf.Strings.IndexAnyAll
import Derived.Shelf.Strings.Search1
import Derived.ProofKit
import Derived.Test.YtcblbcpnfidndaaDoorPxO
import Derived.WalkKit
import Derived.BigCall
import Derived.Test.YtcblbcpnfidndaaDoorPlD
import Derived.Deep.RegionLaw
import Derived.Deep.LoopGhost
import Derived.Lib.Walk
import Derived.Maps.Own
import Derived.Shelf.RegionOpenPlain
import Derived.Lib.LazyBuf
import Derived.Test.YtcblbcpnfidndaaDoorPxP
import Derived.Test.YtcblbcpnfidndaaDoorV7A
set_option linter.unusedSimpArgs false
set_option linter.unusedVariables false
namespace Go.Proofs.YtcblbcpnfidndaaDoor
open Go Go.Abs Go.Lab
def isOp (c : UInt8) : Bool := c == 61 || (c == 33 || c == 126)

theorem eqU (c : UInt8) (n : UInt8) : (u8 c == (n.toNat : Int)) = (c == n) := by
  by_cases h : c = n
  · subst h; simp [u8]
  · rw [beq_eq_false_iff_ne.2 h]
    exact beq_eq_false_iff_ne.2 fun e => h (UInt8.toNat_inj.1 (by unfold u8 at e; omega))

theorem upto_drop {p : UInt8 → Bool} : ∀ (s : List UInt8), s = upTo p s ++ s.drop (upTo p s).length
  | [] => rfl
  | c :: s => by
    unfold upTo
    by_cases h : p c = true
    · rw [if_pos h]; rfl
    · rw [if_neg h, List.length_cons, List.drop_succ_cons, List.cons_append, ← upto_drop s]

theorem upto_take {p : UInt8 → Bool} : ∀ (s : List UInt8), s.take (upTo p s).length = upTo p s
  | [] => rfl
  | c :: s => by
    unfold upTo
    by_cases h : p c = true
    · rw [if_pos h]; rfl
    · rw [if_neg h, List.length_cons, List.take_succ_cons, upto_take s]

theorem upto_len {p : UInt8 → Bool} (s : List UInt8) : (upTo p s).length ≤ s.length := by
  have := congrArg List.length (upto_drop (p := p) s)
  rw [List.length_append] at this
  omega

abbrev M0 : MT := (ByteArray.empty, 0, ByteArray.empty, ())

theorem loop137a (s : ByteArray) (hs : s.size ≤ 4194304) (m : MT) : ∀ (k i : Nat), i + k = s.size →
    loopT l137_0_2 (((i : Int), s, ()), ((m, ()), ())) = some ((((i + (upTo isOp ((bl s).drop i)).length : Nat) : Int), s, ()), ((m, ()), ())) := by
  intro k
  induction k with
  | zero =>
    intro i h
    rw [List.drop_eq_nil_of_le (by rw [len_bl]; omega)]
    refine loopT_inr ?_
    have : decide ((i : Int) < (s.size : Int)) = false := decide_eq_false (by omega)
    simp only [l137_0_2, this, sumE, sS]
    rfl
  | succ k ih =>
    intro i h
    obtain ⟨c, hc, hd⟩ := drop_at (l := bl s) (i := i) (by rw [len_bl]; omega)
    have hlt : decide ((i : Int) < (s.size : Int)) = true := decide_eq_true (by omega)
    have hbd : decide ((0 : Int) ≤ (i : Int) ∧ (i : Int) < (s.size : Int)) = true := decide_eq_true (by omega)
    have hw : w64 ((i : Int) + 1) = ((i + 1 : Nat) : Int) := w64_nat (by omega)
    have e1 : (u8 c == 61) = (c == 61) := eqU c 61
    have e2 : (u8 c == 33) = (c == 33) := eqU c 33
    have e3 : (u8 c == 126) = (c == 126) := eqU c 126
    have hstep : l137_0_2 (((i : Int), s, ()), ((m, ()), ())) = if isOp c then some (.inr (((i : Int), s, ()), ((m, ()), ()))) else some (.inl ((((i + 1 : Nat) : Int), s, ()), ((m, ()), ()))) := by
      unfold isOp
      simp only [l137_0_2, hlt, hbd, byte_at hc, bne, e1, e2, e3, sumE, sS]
      cases (c == 61) <;> cases (c == 33) <;> cases (c == 126) <;> simp only [sumE, sS, hw, Bool.or_true, Bool.true_or, Bool.or_false, Bool.false_or, Bool.false_eq_true, if_true, if_false]
    rw [hd]
    unfold upTo
    by_cases hop : isOp c = true
    · rw [if_pos hop] at hstep ⊢
      exact loopT_inr hstep
    · rw [if_neg hop] at hstep ⊢
      rw [loopT_inl hstep, ih (i + 1) (by omega), List.length_cons]
      rw [show i + 1 + (upTo isOp ((bl s).drop (i + 1))).length = i + ((upTo isOp ((bl s).drop (i + 1))).length + 1) by omega]

def opsB : List ByteArray := [(bs [61]), (bs [33, 61]), (bs [126]), (bs [33, 126])]

theorem step137b (t : ByteArray) (ht : t.size ≤ 4194304) (m0 m : MT) (i : Nat) (op : ByteArray) (ho : opsB[i]? = some op) (hsz : op.size ≤ 2) :
    l137_0_8 ((t, (i : Int), ()), ((m0, ()), ((m, ()), (opsB, ())))) = some (if preL (bl op ++ [34]) (bl t) then .inr ((mkB ((bl t).drop (op.size + 1)), ()), ((m0, ()), (((m.1, (i : Int), m.2.2), ()), ())))
      else .inl ((t, ((i + 1 : Nat) : Int), ()), ((m0, ()), ((m, ()), (opsB, ()))))) := by
  have hi : i < opsB.length := (List.getElem?_eq_some_iff.1 ho).1
  have hi4 : i < 4 := hi
  have hlt : decide ((i : Int) < ((opsB.length : Nat) : Int)) = true := decide_eq_true (by omega)
  have hbd : decide ((0 : Int) ≤ (i : Int) ∧ (i : Int) < ((opsB.length : Nat) : Int)) = true := decide_eq_true (by omega)
  have hw : w64 ((i : Int) + 1) = ((i + 1 : Nat) : Int) := w64_nat (by omega)
  by_cases h1 : (t.size : Int) > (op.size : Int)
  · have d0 : decide ((0 : Int) ≤ (op.size : Int)) = true := decide_eq_true (by omega)
    have d1 : decide (0 ≤ op.size ∧ op.size ≤ t.size) = true := decide_eq_true (by omega)
    obtain ⟨c, hc⟩ := getD_some (l := bl t) (i := op.size) (by rw [len_bl]; omega)
    have d2 : decide ((0 : Int) ≤ (op.size : Int) ∧ (op.size : Int) < (t.size : Int)) = true := decide_eq_true (by omega)
    have e34 : (u8 c == 34) = (c == 34) := eqU c 34
    have hpre : preL (bl op ++ [34]) (bl t) = ((bl t).take op.size == bl op && c == 34) := by
      unfold preL
      rw [List.length_append, len_bl, List.length_singleton, List.take_add_one, hc]
      by_cases ha : (bl t).take op.size = bl op
      · rw [ha]
        by_cases hb : c = 34
        · subst hb; simp
        · simp [hb]
      · rw [beq_eq_false_iff_ne.2 ha, Bool.false_and]
        refine beq_eq_false_iff_ne.2 fun e => ha ?_
        have := List.append_inj_left' e (by simp)
        exact this
    rw [hpre]
    simp only [l137_0_8, hlt, hbd, Int.toNat_natCast, ho, decide_eq_true h1, d0, d1, ext_take, toList_bl, bl_mk, sumE, sS]
    cases ha : ((bl t).take op.size == bl op)
    · simp only [sumE, sS, hw, Bool.false_and, Bool.false_eq_true, if_false]
    · simp only [sumE, sS, d2, byte_at hc, byte_n hc, e34, Bool.true_and]
      cases hb : (c == 34)
      · simp only [sumE, sS, hw, Bool.false_eq_true, if_false]
      · have hw2 : w64 ((op.size : Int) + 1) = ((op.size + 1 : Nat) : Int) := w64_nat (by omega)
        have d3 : decide ((0 : Int) ≤ ((op.size + 1 : Nat) : Int)) = true := decide_eq_true (by omega)
        have d4 : decide (op.size + 1 ≤ t.size ∧ t.size ≤ t.size) = true := decide_eq_true (by omega)
        simp only [sumE, sS, hw2, d3, Int.toNat_natCast, d4, ext_mk, if_true]
  · have : preL (bl op ++ [34]) (bl t) = false := by
      cases hp : preL (bl op ++ [34]) (bl t)
      · rfl
      · have := pre_len hp
        rw [List.length_append, len_bl, len_bl, List.length_singleton] at this
        omega
    rw [this]
    simp only [l137_0_8, hlt, hbd, Int.toNat_natCast, ho, decide_eq_false h1, hw, sumE, sS, Bool.false_eq_true, if_false]

/-- The operator ahead of a quoted value, and what is behind its 34. -/
def opR (t : List UInt8) : Option (Nat × List UInt8) :=
  if preL [61, 34] t then some (0, t.drop 2) else if preL [33, 61, 34] t then some (1, t.drop 3) else if preL [126, 34] t then some (2, t.drop 2) else if preL [33, 126, 34] t then some (3, t.drop 3) else none

theorem loop137b (t : ByteArray) (ht : t.size ≤ 4194304) (m0 m : MT) :
    loopT l137_0_8 ((t, 0, ()), ((m0, ()), ((m, ()), (opsB, ())))) = some (match opR (bl t) with
      | some (i, r) => ((mkB r, ()), ((m0, ()), (((m.1, (i : Int), m.2.2), ()), ())))
      | none => ((t, ()), ((m0, ()), ((m, ()), ())))) := by
  have s0 := step137b t ht m0 m 0 (bs [61]) rfl (by decide)
  have s1 := step137b t ht m0 m 1 (bs [33, 61]) rfl (by decide)
  have s2 := step137b t ht m0 m 2 (bs [126]) rfl (by decide)
  have s3 := step137b t ht m0 m 3 (bs [33, 126]) rfl (by decide)
  have s4 : l137_0_8 ((t, ((4 : Nat) : Int), ()), ((m0, ()), ((m, ()), (opsB, ())))) = some (.inr ((t, ()), ((m0, ()), ((m, ()), ())))) := rfl
  unfold opR
  by_cases h0 : preL [61, 34] (bl t) = true
  · rw [if_pos h0]
    rw [show bl (bs [61]) ++ [34] = [61, 34] from rfl, if_pos h0] at s0
    exact loopT_inr s0
  · rw [if_neg h0]
    rw [show bl (bs [61]) ++ [34] = [61, 34] from rfl, if_neg h0] at s0
    rw [show loopT l137_0_8 ((t, 0, ()), ((m0, ()), ((m, ()), (opsB, ())))) = _ from loopT_inl s0]
    by_cases h1 : preL [33, 61, 34] (bl t) = true
    · rw [if_pos h1]
      rw [show bl (bs [33, 61]) ++ [34] = [33, 61, 34] from rfl, if_pos h1] at s1
      exact loopT_inr s1
    · rw [if_neg h1]
      rw [show bl (bs [33, 61]) ++ [34] = [33, 61, 34] from rfl, if_neg h1] at s1
      rw [show loopT l137_0_8 ((t, ((0 + 1 : Nat) : Int), ()), ((m0, ()), ((m, ()), (opsB, ())))) = _ from loopT_inl s1]
      by_cases h2 : preL [126, 34] (bl t) = true
      · rw [if_pos h2]
        rw [show bl (bs [126]) ++ [34] = [126, 34] from rfl, if_pos h2] at s2
        exact loopT_inr s2
      · rw [if_neg h2]
        rw [show bl (bs [126]) ++ [34] = [126, 34] from rfl, if_neg h2] at s2
        rw [show loopT l137_0_8 ((t, ((1 + 1 : Nat) : Int), ()), ((m0, ()), ((m, ()), (opsB, ())))) = _ from loopT_inl s2]
        by_cases h3 : preL [33, 126, 34] (bl t) = true
        · rw [if_pos h3]
          rw [show bl (bs [33, 126]) ++ [34] = [33, 126, 34] from rfl, if_pos h3] at s3
          exact loopT_inr s3
        · rw [if_neg h3]
          rw [show bl (bs [33, 126]) ++ [34] = [33, 126, 34] from rfl, if_neg h3] at s3
          rw [show loopT l137_0_8 ((t, ((2 + 1 : Nat) : Int), ()), ((m0, ()), ((m, ()), (opsB, ())))) = _ from loopT_inl s3]
          exact loopT_inr s4

theorem ext_one {s : ByteArray} {i : Nat} {c : UInt8} (hc : (bl s)[i]? = some c) : s.extract i (i + 1) = mkB [c] := bl_inj (by
  have hcl : i < (bl s).length := (List.getElem?_eq_some_iff.1 hc).1
  rw [extract_bl, bl_mk, List.drop_eq_getElem_cons hcl, show i + 1 - i = 1 by omega, List.take_succ_cons, List.take_zero]
  rw [(List.getElem?_eq_some_iff.1 hc).2])

theorem loop137c (t : ByteArray) (ht : t.size ≤ 4194304) (m0 m : MT) : ∀ (k i : Nat) (v : List UInt8), t.size - i ≤ k → i ≤ t.size → v.length ≤ i →
    loopT l137_0_18 (((i : Int), t, mkB v, ()), ((m0, ()), ((m, ()), ()))) = some (match unq ((bl t).drop i) with
      | some (u, r) => .inl ((mkB r, true, ()), (((m.1, m.2.1, mkB (v ++ u), ()), ()), ()))
      | none => .inr ((), ((m0, ()), ((m, ()), ())))) := by
  intro k
  induction k with
  | zero =>
    intro i v h hi hv
    rw [List.drop_eq_nil_of_le (by rw [len_bl]; omega)]
    refine loopT_inr ?_
    have : decide ((i : Int) < (t.size : Int)) = false := decide_eq_false (by omega)
    simp only [l137_0_18, this, sumE, sS]
    rfl
  | succ k ih =>
    intro i v h hi hv
    by_cases hil : i = t.size
    · rw [List.drop_eq_nil_of_le (by rw [len_bl]; omega)]
      refine loopT_inr ?_
      have : decide ((i : Int) < (t.size : Int)) = false := decide_eq_false (by omega)
      simp only [l137_0_18, this, sumE, sS]
      rfl
    · obtain ⟨c, hc, hd⟩ := drop_at (l := bl t) (i := i) (by rw [len_bl]; omega)
      have hlt : decide ((i : Int) < (t.size : Int)) = true := decide_eq_true (by omega)
      have hbd : decide ((0 : Int) ≤ (i : Int) ∧ (i : Int) < (t.size : Int)) = true := decide_eq_true (by omega)
      have hw : w64 ((i : Int) + 1) = ((i + 1 : Nat) : Int) := w64_nat (by omega)
      have hw2 : w64 (((i + 1 : Nat) : Int) + 1) = ((i + 1 + 1 : Nat) : Int) := w64_nat (by omega)
      have e34 : (u8 c == 34) = (c == 34) := eqU c 34
      have e92 : (u8 c == 92) = (c == 92) := eqU c 92
      have d0 : ∀ n : Nat, decide ((0 : Int) ≤ (n : Int)) = true := fun n => decide_eq_true (by omega)
      have d1 : decide (i + 1 ≤ t.size ∧ t.size ≤ t.size) = true := decide_eq_true (by omega)
      have d2 : decide (i ≤ i + 1 ∧ i + 1 ≤ t.size) = true := decide_eq_true (by omega)
      have d3 : ∀ x : UInt8, decide ((mkB v).size + (mkB [x]).size ≤ 4294967296) = true := fun x => decide_eq_true (by rw [size_mk, size_mk]; simp; omega)
      rw [hd]
      by_cases h34 : c = 34
      · subst h34
        rw [unq_end]
        refine loopT_inr ?_
        simp only [l137_0_18, hlt, hbd, byte_at hc, byte_n hc, e34, hw, d0, Int.toNat_natCast, d1, ext_mk, sumE, sS, List.append_nil]
      · have b34 : (c == 34) = false := beq_eq_false_iff_ne.2 h34
        by_cases h92 : c = 92
        · subst h92
          by_cases hend : i + 1 < t.size
          · obtain ⟨d, hdc, hdd⟩ := drop_at (l := bl t) (i := i + 1) (by rw [len_bl]; exact hend)
            rw [hdd, unq_esc2]
            have x1 : decide (((i + 1 : Nat) : Int) < (t.size : Int)) = true := decide_eq_true (by omega)
            have d4 : decide (i + 1 ≤ i + 1 + 1 ∧ i + 1 + 1 ≤ t.size) = true := decide_eq_true (by omega)
            have q := ih (i + 1 + 1) (v ++ [d]) (by omega) (by omega) (by simp; omega)
            have hst : l137_0_18 (((i : Int), t, mkB v, ()), ((m0, ()), ((m, ()), ()))) = some (.inl ((((i + 1 + 1 : Nat) : Int), t, mkB (v ++ [d]), ()), ((m0, ()), ((m, ()), ())))) := by
              simp only [l137_0_18, hlt, hbd, byte_at hc, byte_n hc, e34, e92, b34, hw, x1, d0, Int.toNat_natCast, hw2, d4, ext_one hdc, d3, mk_app, sumE, sS]
            rw [loopT_inl hst, q]
            cases unq ((bl t).drop (i + 1 + 1)) with
            | none => rfl
            | some p => simp
          · have hd2 : (bl t).drop (i + 1) = [] := List.drop_eq_nil_of_le (by rw [len_bl]; omega)
            rw [hd2, unq_last]
            have x1 : decide (((i + 1 : Nat) : Int) < (t.size : Int)) = false := decide_eq_false (by omega)
            have hst : l137_0_18 (((i : Int), t, mkB v, ()), ((m0, ()), ((m, ()), ()))) = some (.inl ((((i + 1 : Nat) : Int), t, mkB (v ++ [92]), ()), ((m0, ()), ((m, ()), ())))) := by
              simp only [l137_0_18, hlt, hbd, byte_at hc, byte_n hc, e34, e92, b34, hw, x1, d0, Int.toNat_natCast, d2, ext_one hc, d3, mk_app, sumE, sS]
            have q := ih (i + 1) (v ++ [92]) (by omega) (by omega) (by simp; omega)
            rw [hd2] at q
            rw [loopT_inl hst, q]
            rfl
        · have b92 : (c == 92) = false := beq_eq_false_iff_ne.2 h92
          rw [unq_byte h34 h92]
          have q := ih (i + 1) (v ++ [c]) (by omega) (by omega) (by simp; omega)
          have hst : l137_0_18 (((i : Int), t, mkB v, ()), ((m0, ()), ((m, ()), ()))) = some (.inl ((((i + 1 : Nat) : Int), t, mkB (v ++ [c]), ()), ((m0, ()), ((m, ()), ())))) := by
            simp only [l137_0_18, hlt, hbd, byte_at hc, byte_n hc, e34, e92, b34, b92, hw, d0, Int.toNat_natCast, d2, ext_one hc, d3, mk_app, sumE, sS]
          rw [loopT_inl hst, q]
          cases unq ((bl t).drop (i + 1)) with
          | none => rfl
          | some p => simp

/-- A key, an operator, a value, what is left. -/
def readR (s : List UInt8) : Option (List UInt8 × Nat × List UInt8 × List UInt8) :=
  match opR (s.drop (upTo isOp s).length) with
  | none => none
  | some (i, t) => match unq t with
    | none => none
    | some (v, r) => some (upTo isOp s, i, v, r)

theorem m137_eq (s : ByteArray) (hs : s.size ≤ 4194304) : ∃ m : MT, m137 ((s, ()), ()) = some (match readR (bl s) with
    | some (k, i, v, r) => ((mkB r, true, ()), (((mkB k, (i : Int), mkB v, ()), ()), ()))
    | none => ((ByteArray.empty, false, ()), ((m, ()), ()))) := by
  have q1 := loop137a s hs M0 s.size 0 (by omega)
  rw [Nat.zero_add, List.drop_zero] at q1
  have hl := upto_len (p := isOp) (bl s)
  rw [len_bl] at hl
  have d0 : decide ((0 : Int) ≤ (((upTo isOp (bl s)).length : Nat) : Int)) = true := decide_eq_true (by omega)
  have d1 : decide (0 ≤ (upTo isOp (bl s)).length ∧ (upTo isOp (bl s)).length ≤ s.size) = true := decide_eq_true (by omega)
  have d2 : decide ((upTo isOp (bl s)).length ≤ s.size ∧ s.size ≤ s.size) = true := decide_eq_true (by omega)
  have htk : (bl s).take (upTo isOp (bl s)).length = upTo isOp (bl s) := upto_take (bl s)
  have q2 := loop137b (mkB ((bl s).drop (upTo isOp (bl s)).length)) (by rw [size_mk, List.length_drop, len_bl]; omega) M0 (mkB (upTo isOp (bl s)), -1, ByteArray.empty, ())
  rw [bl_mk] at q2
  have go : ∀ m : MT, m137 ((s, ()), ()) = some (match readR (bl s) with
    | some (k, i, v, r) => ((mkB r, true, ()), (((mkB k, (i : Int), mkB v, ()), ()), ()))
    | none => ((ByteArray.empty, false, ()), ((m, ()), ()))) → ∃ m : MT, m137 ((s, ()), ()) = some (match readR (bl s) with
    | some (k, i, v, r) => ((mkB r, true, ()), (((mkB k, (i : Int), mkB v, ()), ()), ()))
    | none => ((ByteArray.empty, false, ()), ((m, ()), ()))) := fun m h => ⟨m, h⟩
  unfold readR at go ⊢
  cases ho : opR ((bl s).drop (upTo isOp (bl s)).length) with
  | none =>
    rw [ho] at q2 go
    refine go (mkB (upTo isOp (bl s)), -1, ByteArray.empty, ()) ?_
    unfold m137
    refine bind_of _ (show loopT l137_0_2 ((0, s, ()), ((M0, ()), ())) = _ from q1) ?_
    simp only [d0, Int.toNat_natCast, d1, d2, ext_mk, ext_take, htk, m92, sumE, sS]
    refine bind_of _ (show loopT l137_0_8 ((mkB ((bl s).drop (upTo isOp (bl s)).length), 0, ()), ((M0, ()), (((mkB (upTo isOp (bl s)), -1, ByteArray.empty, ()), ()), (opsB, ())))) = _ from q2) ?_
    rfl
  | some p =>
    obtain ⟨i, t⟩ := p
    rw [ho] at q2 go
    have htl : t.length ≤ 4194304 := by
      have : t.length ≤ ((bl s).drop (upTo isOp (bl s)).length).length := by
        unfold opR at ho
        repeat' split at ho
        all_goals first | (cases ho; rw [List.length_drop]; omega) | cases ho
      rw [List.length_drop, len_bl] at this
      omega
    have q3 := loop137c (mkB t) (by rw [size_mk]; exact htl) M0 (mkB (upTo isOp (bl s)), (i : Int), ByteArray.empty, ()) t.length 0 [] (by rw [size_mk]; omega) (by omega) (by simp)
    rw [bl_mk, List.drop_zero, ← empty_mk] at q3
    have hneg : decide ((i : Int) < 0) = false := decide_eq_false (by omega)
    cases hu : unq t with
    | none =>
      simp only [hu] at q3 go ⊢
      refine go (mkB (upTo isOp (bl s)), (i : Int), ByteArray.empty, ()) ?_
      unfold m137
      refine bind_of _ (show loopT l137_0_2 ((0, s, ()), ((M0, ()), ())) = _ from q1) ?_
      simp only [d0, Int.toNat_natCast, d1, d2, ext_mk, ext_take, htk, m92, sumE, sS]
      refine bind_of _ (show loopT l137_0_8 ((mkB ((bl s).drop (upTo isOp (bl s)).length), 0, ()), ((M0, ()), (((mkB (upTo isOp (bl s)), -1, ByteArray.empty, ()), ()), (opsB, ())))) = _ from q2) ?_
      simp only [hneg, sumE, sS]
      exact bind_of _ (show loopT l137_0_18 ((0, mkB t, ByteArray.empty, ()), ((M0, ()), (((mkB (upTo isOp (bl s)), (i : Int), ByteArray.empty, ()), ()), ()))) = _ from q3) rfl
    | some p =>
      simp only [hu] at q3 go ⊢
      refine go M0 ?_
      unfold m137
      refine bind_of _ (show loopT l137_0_2 ((0, s, ()), ((M0, ()), ())) = _ from q1) ?_
      simp only [d0, Int.toNat_natCast, d1, d2, ext_mk, ext_take, htk, m92, sumE, sS]
      refine bind_of _ (show loopT l137_0_8 ((mkB ((bl s).drop (upTo isOp (bl s)).length), 0, ()), ((M0, ()), (((mkB (upTo isOp (bl s)), -1, ByteArray.empty, ()), ()), (opsB, ())))) = _ from q2) ?_
      simp only [hneg, sumE, sS]
      refine bind_of _ (show loopT l137_0_18 ((0, mkB t, ByteArray.empty, ()), ((M0, ()), (((mkB (upTo isOp (bl s)), (i : Int), ByteArray.empty, ()), ()), ()))) = _ from q3) ?_
      simp only [sumE, List.nil_append]

theorem readR_len {s k v r : List UInt8} {i : Nat} (h : readR s = some (k, i, v, r)) : r.length < s.length ∧ k.length ≤ s.length ∧ v.length ≤ s.length := by
  unfold readR at h
  split at h
  · cases h
  · rename_i i' t ho
    split at h
    · cases h
    · rename_i v' r' hu
      cases h
      obtain ⟨a, b⟩ := unq_le hu
      have : t.length ≤ (s.drop (upTo isOp s).length).length := by
        unfold opR at ho
        repeat' split at ho
        all_goals first | (cases ho; rw [List.length_drop]; omega) | cases ho
      rw [List.length_drop] at this
      have := upto_len (p := isOp) s
      exact ⟨by omega, this, by omega⟩

/-! ### Several -/
theorem step102 (s : ByteArray) (out : List MT) (hs : s.size ≤ 4194304) (ho : out.length ≤ 1000) :
    l102_0_2 ((s, ()), (out, ())) = some (match readR (bl s) with
      | none => .inr ((false, ()), ([], ()))
      | some (k, i, v, r) => if 20 < out.length then .inr ((false, ()), ([], ())) else match r with
        | [] => .inr ((true, ()), (out ++ [(mkB k, (i : Int), mkB v, ())], ()))
        | c :: r => if c = 44 then .inl ((mkB r, ()), (out ++ [(mkB k, (i : Int), mkB v, ())], ())) else .inr ((false, ()), ([], ()))) := by
  obtain ⟨m, q⟩ := m137_eq s hs
  cases hr : readR (bl s) with
  | none =>
    rw [hr] at q
    simp only [l102_0_2, q, sumE, sS]
  | some p =>
    obtain ⟨k, i, v, r⟩ := p
    rw [hr] at q
    by_cases h20 : 20 < out.length
    · have d : decide ((((out.length : Nat) : Int) : Int) > 20) = true := decide_eq_true (by omega)
      simp only [l102_0_2, q, d, sumE, sS]
      rw [if_pos h20]
    · have d : decide ((((out.length : Nat) : Int) : Int) > 20) = false := decide_eq_false (by omega)
      have hb : ∀ z : MT, decide (out.length + ([z] : List MT).length ≤ 4294967296) = true := fun z => decide_eq_true (by simp; omega)
      simp only [l102_0_2, q, d, hb, toList_bl, sumE, sS]
      rw [if_neg h20]
      cases r with
      | nil =>
        have : (bl (mkB ([] : List UInt8)) == bl ByteArray.empty) = true := rfl
        simp only [this, sumE, sS]
      | cons c r =>
        have e1 : (bl (mkB (c :: r)) == bl ByteArray.empty) = false := rfl
        have e2 : decide ((0 : Int) ≤ 0 ∧ (0 : Int) < ((mkB (c :: r)).size : Int)) = true := decide_eq_true (by rw [size_mk, List.length_cons]; omega)
        have e3 : ((((mkB (c :: r))[0]?.getD 0).toNat : Nat) : Int) = u8 c := byte_n (s := mkB (c :: r)) (i := 0) rfl
        have e4 : (u8 c == 44) = (c == 44) := eqU c 44
        have e5 : decide (1 ≤ (mkB (c :: r)).size ∧ (mkB (c :: r)).size ≤ (mkB (c :: r)).size) = true := decide_eq_true (by rw [size_mk, List.length_cons]; omega)
        have e6 : (mkB (c :: r)).extract 1 (mkB (c :: r)).size = mkB r := by rw [ext_mk, bl_mk]; rfl
        simp only [e1, e2, e3, bne, e4, sumE, sS]
        by_cases hc : c = 44
        · subst hc
          simp only [e5, e6, beq_self_eq_true, sumE, sS, if_true]
        · rw [beq_eq_false_iff_ne.2 hc, if_neg hc]
          simp only [sumE, sS]

/-- Reading several ends. -/
theorem end102 : ∀ (n : Nat) (s : ByteArray) (out : List MT), s.size ≤ n → s.size ≤ 4194304 → out.length ≤ 21 → (∀ m ∈ out, m.1.size ≤ 4194304 ∧ m.2.2.1.size ≤ 4194304) →
    ∃ (ok : Bool) (out' : List MT), loopT l102_0_2 ((s, ()), (out, ())) = some ((ok, ()), (out', ())) ∧ out'.length ≤ 1000 ∧ ∀ m ∈ out', m.1.size ≤ 4194304 ∧ m.2.2.1.size ≤ 4194304 := by
  intro n
  induction n using Nat.strongRecOn with
  | _ n ih =>
    intro s out hn hs ho hz
    have h := step102 s out hs (by omega)
    cases hr : readR (bl s) with
    | none =>
      rw [hr] at h
      exact ⟨false, [], loopT_inr h, by simp, fun m hm => by cases hm⟩
    | some p =>
      obtain ⟨k, i, v, r⟩ := p
      rw [hr] at h
      simp only at h
      obtain ⟨l1, l2, l3⟩ := readR_len hr
      rw [len_bl] at l1 l2 l3
      have hz2 : ∀ m ∈ out ++ [((mkB k, (i : Int), mkB v, ()) : MT)], m.1.size ≤ 4194304 ∧ m.2.2.1.size ≤ 4194304 := fun m hm => by
        rcases List.mem_append.1 hm with h | h
        · exact hz m h
        · simp only [List.mem_singleton] at h; subst h; exact ⟨by rw [size_mk]; omega, by rw [size_mk]; omega⟩
      by_cases h20 : 20 < out.length
      · rw [if_pos h20] at h
        exact ⟨false, [], loopT_inr h, by simp, fun m hm => by cases hm⟩
      · rw [if_neg h20] at h
        cases r with
        | nil => exact ⟨true, _, loopT_inr h, by simp; omega, hz2⟩
        | cons c r =>
          simp only at h
          by_cases hc : c = 44
          · rw [if_pos hc] at h
            rw [loopT_inl h]
            rw [List.length_cons] at l1
            exact ih r.length (by omega) (mkB r) _ (by rw [size_mk]; exact Nat.le_refl _) (by rw [size_mk]; omega) (by simp; omega) hz2
          · rw [if_neg hc] at h
            exact ⟨false, [], loopT_inr h, by simp, fun m hm => by cases hm⟩

theorem op_item {k v r : List UInt8} (hk : keyL k = true) : readR (item k [61] v ++ r) = some (k, 0, v, r) := by
  have hu : upTo isOp (item k [61] v ++ r) = k := by
    unfold item
    rw [show k ++ ([61] ++ 34 :: (esc v ++ [34])) ++ r = k ++ 61 :: (34 :: (esc v ++ [34]) ++ r) by simp]
    refine upTo_append (fun c hc => ?_) rfl
    have h := (key_all hk).2.2 c hc
    unfold isOp
    rw [beq_eq_false_iff_ne.2 (keyChar_ne h (by decide)), beq_eq_false_iff_ne.2 (keyChar_ne h (by decide)), beq_eq_false_iff_ne.2 (keyChar_ne h (by decide))]
    rfl
  have hd : (item k [61] v ++ r).drop k.length = 61 :: 34 :: (esc v ++ 34 :: r) := by
    unfold item
    rw [show k ++ ([61] ++ 34 :: (esc v ++ [34])) ++ r = k ++ (61 :: 34 :: (esc v ++ 34 :: r)) by simp]
    exact List.drop_left' rfl
  unfold readR
  rw [hu, hd]
  have ho : opR (61 :: 34 :: (esc v ++ 34 :: r)) = some (0, esc v ++ 34 :: r) := by
    unfold opR
    rw [if_pos (by unfold preL; rfl)]
    rfl
  rw [ho]
  simp only [unq_esc]

theorem read102 : ∀ (l : List LT) (x : LT) (out : List MT), (∀ y ∈ x :: l, keyS y.1 = true) → (commas ((x :: l).map partL)).length ≤ 4194304 → out.length + l.length ≤ 20 →
    loopT l102_0_2 ((mkB (commas ((x :: l).map partL)), ()), (out, ())) = some ((true, ()), (out ++ (x :: l).map (fun y => (y.1, 0, y.2.1, ())), ())) := by
  intro l
  induction l with
  | nil =>
    intro x out hk hlen ho
    have k1 := hk x (List.mem_cons_self ..)
    have hcm : commas ([x].map partL) = partL x := rfl
    rw [hcm] at hlen ⊢
    have h := step102 (mkB (partL x)) out (by rw [size_mk]; exact hlen) (by simp at ho; omega)
    have hr := op_item (k := bl x.1) (v := bl x.2.1) (r := []) k1
    rw [List.append_nil] at hr
    rw [bl_mk, show readR (partL x) = _ from hr] at h
    simp only [if_neg (show ¬ 20 < out.length by simp at ho; omega), mk_bl] at h
    exact loopT_inr h
  | cons y l ih =>
    intro x out hk hlen ho
    have k1 := hk x (List.mem_cons_self ..)
    have hcm : commas ((x :: y :: l).map partL) = partL x ++ 44 :: commas ((y :: l).map partL) := rfl
    rw [hcm] at hlen ⊢
    have h := step102 (mkB (partL x ++ 44 :: commas ((y :: l).map partL))) out (by rw [size_mk]; exact hlen) (by simp at ho; omega)
    have hr := op_item (k := bl x.1) (v := bl x.2.1) (r := 44 :: commas ((y :: l).map partL)) k1
    rw [bl_mk, show readR (partL x ++ 44 :: commas ((y :: l).map partL)) = _ from hr] at h
    simp only [if_neg (show ¬ 20 < out.length by simp at ho; omega), mk_bl, if_true] at h
    rw [loopT_inl h, show (((0 : Nat) : Nat) : Int) = 0 from rfl]
    rw [ih y (out ++ [(x.1, 0, x.2.1, ())]) (fun z hz => hk z (List.mem_cons_of_mem _ hz)) (by rw [List.length_append, List.length_cons] at hlen; omega) (by simp at ho ⊢; omega)]
    simp

/-! ### Parse -/
theorem conv47 (w : ByteArray) (ms : List MT) (hl : ms.length ≤ 1000) : loopT l47_0_9 ((0, w, ()), (ms, ([], ()))) = some ((w, ()), (ms.map (fun m => (m.1, m.2.2.1, ())), ())) := by
  refine drop_e (loop_ind (f := l47_0_9) (Q := fun b => b = ((w, ()), (ms.map (fun m : MT => ((m.1, m.2.2.1, ()) : LT)), ()))) (fun i st => st = (((i : Int), w, ()), (ms, ((ms.take i).map (fun m : MT => ((m.1, m.2.2.1, ()) : LT)), ())))) ms.length ?_ ?_ _ rfl)
  · rintro i _ hi rfl
    obtain ⟨e, he⟩ := getD_some (l := ms) (i := i) hi
    have hlt : decide ((i : Int) < ((ms.length : Nat) : Int)) = true := decide_eq_true (by omega)
    have hbd : decide ((0 : Int) ≤ (i : Int) ∧ (i : Int) < ((ms.length : Nat) : Int)) = true := decide_eq_true (by omega)
    have hw : w64 ((i : Int) + 1) = ((i + 1 : Nat) : Int) := w64_nat (by omega)
    have hb : ∀ z : LT, decide (((ms.take i).map (fun m : MT => ((m.1, m.2.2.1, ()) : LT))).length + [z].length ≤ 4294967296) = true := fun z => decide_eq_true (by simp; omega)
    refine ⟨_, ?_, rfl⟩
    rw [show ms.take (i + 1) = ms.take i ++ [e] by rw [List.take_add_one, he]; rfl, List.map_append]
    simp only [l47_0_9, hlt, hbd, Int.toNat_natCast, he, hb, hw, sumE, sS]
    rfl
  · rintro _ rfl
    refine ⟨_, ?_, rfl⟩
    have : decide ((ms.length : Int) < ((ms.length : Nat) : Int)) = false := decide_eq_false (by omega)
    simp only [l47_0_9, this, sumE, sS]
    rw [List.take_of_length_le (Nat.le_refl _)]

theorem last_byte {w : ByteArray} {q : List UInt8} {c : UInt8} (h : bl w = q ++ [c]) : (((w[q.length]?.getD 0).toNat : Nat) : Int) = u8 c := byte_n (by rw [h, List.getElem?_append_right (Nat.le_refl _), Nat.sub_self]; rfl)

theorem ref_back (l : List LT) (h : validL l = true) : m47 ((mkB (textL l), ()), ()) = some ((0, ()), (l, ())) := by
  obtain ⟨h1, h2⟩ := valid_mem h
  have hp := parts_len h l.length
  rw [List.take_of_length_le (by rw [List.length_map]; exact Nat.le_refl _)] at hp
  have hk : KSz l := ⟨by unfold big; omega, fun x hx => by
    obtain ⟨a, b, _⟩ := h2 x hx
    have := keyS_sz a
    have := valS_sz b
    unfold big; omega⟩
  have e3 := m41_eq l hk
  have e4 : textE l = mkB (textL l) := by unfold textE; rw [if_pos h]
  rw [e4] at e3
  unfold m47
  cases l with
  | nil =>
    have : (bl (mkB (textL [])) == bl (bs [123, 125])) = true := rfl
    simp only [this, sumE, e3, toList_bl, beq_self_eq_true, sumE, sS]
  | cons x l =>
    have hne : commas ((x :: l).map partL) ≠ [] := by
      rw [List.map_cons]
      exact commas_ne item_ne
    have e0 : (bl (mkB (textL (x :: l))) == bl (bs [123, 125])) = false := by
      rw [bl_mk]
      refine beq_eq_false_iff_ne.2 fun e => hne ?_
      have e : 123 :: (commas ((x :: l).map partL) ++ [125]) = [123, 125] := e
      cases hc : commas ((x :: l).map partL) with
      | nil => rfl
      | cons a b => rw [hc] at e; simp at e
    have hsz : (mkB (textL (x :: l))).size = (commas ((x :: l).map partL)).length + 2 := by rw [size_mk]; unfold textL; simp
    have f1 : decide ((((mkB (textL (x :: l))).size : Int) : Int) < 2) = false := decide_eq_false (by rw [hsz]; omega)
    have f2 : decide ((0 : Int) ≤ 0 ∧ (0 : Int) < ((mkB (textL (x :: l))).size : Int)) = true := decide_eq_true (by rw [hsz]; omega)
    have f3 : ((((mkB (textL (x :: l)))[0]?.getD 0).toNat : Nat) : Int) = u8 123 := byte_n (i := 0) rfl
    have f4 : w64 (((mkB (textL (x :: l))).size : Int) - 1) = (((commas ((x :: l).map partL)).length + 1 : Nat) : Int) := by rw [hsz, w64_id (by omega) (by omega)]; omega
    have f5 : decide ((0 : Int) ≤ (((commas ((x :: l).map partL)).length + 1 : Nat) : Int) ∧ (((commas ((x :: l).map partL)).length + 1 : Nat) : Int) < ((mkB (textL (x :: l))).size : Int)) = true := decide_eq_true (by rw [hsz]; omega)
    have f6 : ((((mkB (textL (x :: l)))[(commas ((x :: l).map partL)).length + 1]?.getD 0).toNat : Nat) : Int) = u8 125 := last_byte (q := 123 :: commas ((x :: l).map partL)) rfl
    have f7 : decide ((0 : Int) ≤ (((commas ((x :: l).map partL)).length + 1 : Nat) : Int)) = true := decide_eq_true (by omega)
    have f8 : decide (1 ≤ (commas ((x :: l).map partL)).length + 1 ∧ (commas ((x :: l).map partL)).length + 1 ≤ (mkB (textL (x :: l))).size) = true := decide_eq_true (by rw [hsz]; omega)
    have f9 : (mkB (textL (x :: l))).extract 1 ((commas ((x :: l).map partL)).length + 1) = mkB (commas ((x :: l).map partL)) := bl_inj (by
      rw [extract_bl, bl_mk, bl_mk, Nat.add_sub_cancel]
      show ((commas ((x :: l).map partL) ++ [125])).take _ = _
      exact List.take_left' rfl)
    have q1 := read102 l x [] (fun y hy => (h2 y hy).1) (by omega) (by simp at h1 ⊢; omega)
    rw [List.nil_append] at q1
    have q2 := conv47 (mkB (textL (x :: l))) ((x :: l).map (fun y => ((y.1, 0, y.2.1, ()) : MT))) (by rw [List.length_map]; omega)
    rw [List.map_map] at q2
    have e5 : (x :: l).map ((fun m : MT => ((m.1, m.2.2.1, ()) : LT)) ∘ fun y : LT => ((y.1, 0, y.2.1, ()) : MT)) = x :: l := by
      conv => rhs; rw [← List.map_id (x :: l)]
      exact List.map_congr_left fun y _ => rfl
    rw [e5] at q2
    have q3 : m102 ((mkB (commas ((x :: l).map partL)), ()), ()) = some ((true, ()), ((x :: l).map (fun y => ((y.1, 0, y.2.1, ()) : MT)), ())) := by
      unfold m102
      exact bind_of _ q1 rfl
    have g1 : ((u8 123 : Int) != 123) = false := rfl
    have g2 : ((u8 125 : Int) != 125) = false := rfl
    simp only [e0, f1, f2, f3, f4, f5, Int.toNat_natCast, f6, f7, f8, f9, g1, g2, q3, q2, sumE, e3, toList_bl, beq_self_eq_true, sumE, sS]

theorem parse47 (w : ByteArray) (hw : w.size ≤ 4194304) : (∃ l, IsText l w ∧ m47 ((w, ()), ()) = some ((0, ()), (l, ()))) ∨ ((∀ l, ¬ IsText l w) ∧ m47 ((w, ()), ()) = some ((2, ()), ([], ()))) := by
  by_cases hex : ∃ l, IsText l w
  · obtain ⟨l, h1, rfl⟩ := hex
    exact .inl ⟨l, ⟨h1, rfl⟩, ref_back l h1⟩
  · refine .inr ⟨fun l hl => hex ⟨l, hl⟩, ?_⟩
    have fin : ∀ out : List LT, KSz out → w ≠ ByteArray.empty → (textE out = w) = False := fun out _ hne => eq_false fun h => by
      cases hv : validL out
      · unfold textE at h
        rw [hv] at h
        exact hne h.symm
      · exact hex ⟨out, hv, by rw [← h]; unfold textE; rw [if_pos hv]⟩
    unfold m47
    have e0 : (w.toList == (bs [123, 125]).toList) = false := by
      rw [toList_bl, toList_bl, beq_bl]
      exact decide_eq_false fun h => hex ⟨[], rfl, h⟩
    simp only [e0, sumE, sS]
    by_cases f1 : ((w.size : Int) : Int) < 2
    · simp only [decide_eq_true f1, sumE, sumE, sS]
    · have f2 : decide ((0 : Int) ≤ 0 ∧ (0 : Int) < (w.size : Int)) = true := decide_eq_true (by omega)
      obtain ⟨c, hc⟩ := getD_some (l := bl w) (i := 0) (by rw [len_bl]; omega)
      obtain ⟨d, hd⟩ := getD_some (l := bl w) (i := w.size - 1) (by rw [len_bl]; omega)
      have f4 : w64 ((w.size : Int) - 1) = ((w.size - 1 : Nat) : Int) := by rw [w64_id (by omega) (by omega)]; omega
      have f5 : decide ((0 : Int) ≤ ((w.size - 1 : Nat) : Int) ∧ ((w.size - 1 : Nat) : Int) < (w.size : Int)) = true := decide_eq_true (by omega)
      have hne : w ≠ ByteArray.empty := fun h => by rw [h] at f1; exact f1 (by decide)
      simp only [decide_eq_false f1, f2, byte_n hc, sumE, sS]
      cases (u8 c != 123)
      · simp only [f4, f5, Int.toNat_natCast, byte_n hd, sumE, sS]
        cases (u8 d != 125)
        · have f7 : decide ((0 : Int) ≤ ((w.size - 1 : Nat) : Int)) = true := decide_eq_true (by omega)
          have f8 : decide (1 ≤ w.size - 1 ∧ w.size - 1 ≤ w.size) = true := decide_eq_true (by omega)
          have f9 : (w.extract 1 (w.size - 1)).size ≤ w.size := by rw [← len_bl, extract_bl, List.length_take, List.length_drop, len_bl]; omega
          obtain ⟨ok, ms, q1, q2, q3⟩ := end102 w.size (w.extract 1 (w.size - 1)) [] f9 (by omega) (by simp) (fun m hm => by cases hm)
          have q4 : m102 ((w.extract 1 (w.size - 1), ()), ()) = some ((ok, ()), (ms, ())) := by
            unfold m102
            exact bind_of _ q1 rfl
          simp only [f4, f7, Int.toNat_natCast, f8, q4, sumE, sS]
          cases ok
          · simp only [sumE, sumE, sS]
          · have hk : KSz (ms.map (fun m : MT => ((m.1, m.2.2.1, ()) : LT))) := ⟨by rw [List.length_map]; unfold big; omega, fun x hx => by
              obtain ⟨m, hm, rfl⟩ := List.mem_map.1 hx
              obtain ⟨a, b⟩ := q3 m hm
              have a' : m.1.size ≤ big := by unfold big; omega
              have b' : m.2.2.1.size ≤ big := by unfold big; omega
              exact ⟨a', b'⟩⟩
            simp only [conv47 w ms q2, sumE, m41_eq _ hk, toList_bl, beq_bl, fin _ hk hne, sumE, sS]
        · simp only [sumE, sumE, sS]
      · simp only [sumE, sumE, sS]

end Go.Proofs.YtcblbcpnfidndaaDoor

namespace Go.Proofs.YtcblbcpnfidndaaDoor
open Go Go.Abs Go.Lab
theorem parse_both (w : ByteArray) (hw : w.size ≤ 4194304) : ∃ (c : Int) (l : List LT), m35 ((w, ()), ()) = some ((c, ()), (l, ())) ∧ m47 ((w, ()), ()) = some ((c, ()), (l, ())) ∧ l.length ≤ 12 := by
  rcases parse35 w hw with ⟨l, h1, h2⟩ | ⟨h1, h2⟩
  · rcases parse47 w hw with ⟨l', h3, h4⟩ | ⟨h3, h4⟩
    · have : l = l' := by
        refine (texts_eq h1.1 h3.1).1 ?_
        unfold textE
        rw [if_pos h1.1, if_pos h3.1, ← h1.2, ← h3.2]
      subst this
      exact ⟨0, l, h2, h4, (valid_mem h1.1).1⟩
    · exact absurd h1 (h3 l)
  · rcases parse47 w hw with ⟨l', h3, h4⟩ | ⟨h3, h4⟩
    · exact absurd h3 (h1 l')
    · exact ⟨2, [], h2, h4, by simp⟩

theorem at3q {A : Type} (a b c : A) {i : Nat} (h : i < 3) : ∃ e, [a, b, c][i]? = some e ∧ e ∈ [a, b, c] := by
  obtain ⟨e, he⟩ := getD_some (l := [a, b, c]) (i := i) h
  exact ⟨e, he, List.mem_of_getElem? he⟩

theorem loop7a (w0 w1 w2 w3 w4 w5 key text : ByteArray) (hw : ∀ w ∈ [w0, w1, w2, w3, w4, w5], w.size ≤ 4194304) (lists : List LT × List LT × List LT × Unit) (o : Int) (d : Dice) :
    loopT l7_0_14 ((0, (w0, w1, w2, w3, w4, w5, ()), key, text, lists, o, ()), ((d, ()), ())) = some (.inr ((key, text, lists, o, ()), ((d, ()), ()))) := by
  refine loop_thru (f := l7_0_14) [w0, w1, w2, w3, w4, w5] (fun i => (((i : Int), (w0, w1, w2, w3, w4, w5, ()), key, text, lists, o, ()), ((d, ()), ()))) _ ?_ rfl
  intro i e he hi
  have hi6 : i < 6 := hi
  have hi2 : w64 ((i : Int) + 1) = ((i + 1 : Nat) : Int) := w64_nat (by omega)
  obtain ⟨c, l, h1, h2, h3⟩ := parse_both e (hw e (List.mem_of_getElem? he))
  have q := m37_eq l l (by unfold big; omega)
  rw [decide_eq_true rfl] at q
  simp only [l7_0_14, decide_eq_true (show (i : Int) < 6 by omega), rowAt_G, rowG_nat he, h1, h2, q, hi2, sumE, sS]

theorem textE_size (l : List LT) : (textE l).size ≤ 2002 := by
  unfold textE
  cases h : validL l
  · simp
  · rw [if_pos rfl]
    have hp := parts_len h l.length
    rw [List.take_of_length_le (by rw [List.length_map]; exact Nat.le_refl _)] at hp
    rw [size_mk]
    unfold textL
    simp
    omega

theorem loop7b (key text : ByteArray) (hkey : key.size ≤ 1048576) (htext : text.size ≤ 1048576) (a b c : List LT) (hl : ∀ l ∈ [a, b, c], KSz l ∧ l.length ≤ 1000) (d : Dice) (hd : DOK d) :
    loopT l7_0_7 ((0, key, text, (a, b, c, ()), ()), ((d, ()), ())) = some (.inr ((), ())) := by
  refine drop_e (loop_ind (f := l7_0_7) (Q := fun r => r = .inr ((), ())) (fun i st => ∃ d, DOK d ∧ st = (((i : Int), key, text, (a, b, c, ()), ()), ((d, ()), ()))) 3 ?_ ?_ _ ⟨d, hd, rfl⟩)
  · rintro i _ hi ⟨d, hd, rfl⟩
    obtain ⟨L, he, hm⟩ := at3q a b c hi
    obtain ⟨hL, hn⟩ := hl L hm
    obtain ⟨ks, d1, e1, hd1, hks⟩ := keysD_spec d hd
    have hk4 := hks.length_le
    rw [show keys4.length = 4 from rfl] at hk4
    have hkl : (ks ++ [key]).length ≤ big := by unfold big; simp; omega
    have hw : w64 ((i : Int) + 1) = ((i + 1 : Nat) : Int) := w64_nat (by omega)
    have b1 : decide (ks.length + [key].length ≤ 4294967296) = true := decide_eq_true (by simp; omega)
    have q0 := m37_eq (pickL (ks ++ [key]) L) (pickL (ks ++ [key]) L) (Nat.le_trans (pick_sub _ L).length_le hL.1)
    rw [decide_eq_true rfl] at q0
    have hs := textE_size L
    have b2 : decide (1 + text.size ≤ 4294967296) = true := decide_eq_true (by omega)
    have z1 : ((bs [123]) ++ text).size = 1 + text.size := sz_app _ _
    have b3 : decide (((bs [123]) ++ text).size + 1 ≤ 4294967296) = true := decide_eq_true (by rw [z1]; omega)
    have b4 : decide ((textE L).size + 1 ≤ 4294967296) = true := decide_eq_true (by omega)
    have b5 : decide (4 + key.size ≤ 4294967296) = true := decide_eq_true (by omega)
    have z2 : ((bs [123, 97, 61, 34]) ++ key).size = 4 + key.size := sz_app _ _
    have b6 : decide (((bs [123, 97, 61, 34]) ++ key).size + 2 ≤ 4294967296) = true := decide_eq_true (by rw [z2]; omega)
    refine ⟨_, ?_, d1, hd1, rfl⟩
    simp only [l7_0_7, decide_eq_true (show (i : Int) < 3 by omega), rowAt_G, rowG_nat he, e1, b1, m41_eq L hL, m42_eq L hL, m43_eq L hL, m36_eq L hL, m38_eq L _ hL.1, m44_eq L _ hL.1, m45_eq L _ (by omega) hkl, m46_eq L _ (by omega) hkl, q0, beq_self_eq_true, sumE, sS]
    rw [b2, b3, b4, b5, b6]
    simp only [sumE, sS]
    refine bind_of _ (loop7a _ _ _ _ _ _ key text (fun w hw => ?_) (a, b, c, ()) (i : Int) d1) ?_
    · simp only [List.mem_cons, List.not_mem_nil, or_false] at hw
      rcases hw with rfl | rfl | rfl | rfl | rfl | rfl
      · omega
      · omega
      · rw [sz_app, z1]; show 1 + text.size + 1 ≤ _; omega
      · rw [sz_app]; show _ + 1 ≤ _; omega
      · rw [sz_app, z2]; show 4 + key.size + 2 ≤ _; omega
      · decide
    · simp only [sumE, hw]
  · rintro _ ⟨d, hd, rfl⟩
    exact ⟨_, rfl, rfl⟩

theorem law7c (t : List Int) (raw : List LT) (key text : ByteArray) (h1 : ∀ x ∈ raw, x.1.size ≤ 1048576 ∧ x.2.1.size ≤ 1048576) (h2 : key.size ≤ 1048576) (h3 : text.size ≤ 1048576) : m7 ((t, raw, key, text, ()), ()) = some ((true, ()), ()) := by
  unfold m7
  simp only [light, sumE, sS]
  by_cases ht : t.length ≤ 500
  · simp only [decide_eq_true ht, sumE, sS]
    by_cases c1 : (raw.length : Int) > 20
    · simp only [decide_eq_true c1, sumE, sS, sane20]
    · by_cases c2 : (text.size : Int) > 1000
      · simp only [decide_eq_false c1, decide_eq_true c2, sumE, sS, sane20]
      · simp only [decide_eq_false c1, decide_eq_false c2, roll, sumE, sS]
        obtain ⟨l, d1, e1, hd1, hl⟩ := labels_spec _ (dok0 ht)
        obtain ⟨a, d2, e2, hd2, b2, _⟩ := next_spec 4 d1 hd1 (by omega)
        have b2 := b2 (by omega)
        obtain ⟨b, d3, e3, hd3, b3, _⟩ := next_spec 4 d2 hd2 (by omega)
        have b3 := b3 (by omega)
        obtain ⟨k, hk⟩ := getD_some (l := [(bs [122, 122]), (bs [97, 112, 112]), (bs [57]), (bs [90])]) (i := a.toNat) (by show a.toNat < 4; omega)
        obtain ⟨v, hv⟩ := getD_some (l := [(bs [97]), ByteArray.empty, (bs [195, 169]), (bs [9])]) (i := b.toNat) (by show b.toNat < 4; omega)
        have hkz : ∀ k ∈ [(bs [122, 122]), (bs [97, 112, 112]), (bs [57]), (bs [90])], k.size ≤ 3 := by decide +kernel
        have hvz : ∀ k ∈ [(bs [97]), ByteArray.empty, (bs [195, 169]), (bs [9])], k.size ≤ 3 := by decide +kernel
        have z1 := hkz k (List.mem_of_getElem? hk)
        have z2 := hvz v (List.mem_of_getElem? hv)
        have g := from_good hl
        have hl4 := g.1
        have hkl : KSz l := ⟨by unfold big; omega, fun x hx => by have := g.2 x hx; unfold big; omega⟩
        have c3 : decide (0 + l.length ≤ 4294967296) = true := decide_eq_true (by omega)
        have c4 : decide ((0 : Int) ≤ a ∧ a < (([(bs [122, 122]), (bs [97, 112, 112]), (bs [57]), (bs [90])].length : Nat) : Int)) = true := decide_eq_true (by show 0 ≤ a ∧ a < 4; omega)
        have c5 : decide ((0 : Int) ≤ b ∧ b < (([(bs [97]), ByteArray.empty, (bs [195, 169]), (bs [9])].length : Nat) : Int)) = true := decide_eq_true (by show 0 ≤ b ∧ b < 4; omega)
        have c6 : decide (l.length + ([(k, (v, ()))] : List LT).length ≤ 4294967296) = true := decide_eq_true (by simp; omega)
        have q := loop7b key text h2 h3 l (l ++ [(k, v, ())]) raw (fun y hy => by
          simp only [List.mem_cons, List.not_mem_nil, or_false] at hy
          rcases hy with rfl | rfl | rfl
          · exact ⟨hkl, by omega⟩
          · refine ⟨⟨by unfold big; simp; omega, fun x hx => ?_⟩, by simp; omega⟩
            rcases List.mem_append.1 hx with h | h
            · exact hkl.2 x h
            · simp only [List.mem_singleton] at h; subst h; exact ⟨by show k.size ≤ _; unfold big; omega, by show v.size ≤ _; unfold big; omega⟩
          · exact ⟨⟨by unfold big; omega, fun x hx => by have := h1 x hx; unfold big; omega⟩, by omega⟩) d3 hd3
        simp only [e1, c3, e2, c4, hk, e3, c5, hv, c6, sumE, sS]
        refine bind_of _ q ?_
        simp only [sumE, sane20, sumE, sS]
  · simp only [decide_eq_false ht, sumE, sS, sane20]

theorem law7 : ∀ x, Abs.InBs 1048576 [.row (.int .i64), .row (.cons .str (.cons .str .unit)), .str, .str] x → m7 (x, ()) = some ((true, ()), ()) := by
  intro x h
  obtain ⟨_, h1, h2, h3, _⟩ := h
  exact law7c x.1 x.2.1 x.2.2.1 x.2.2.2.1 (fun y hy => ⟨(h1.2 y hy).1, (h1.2 y hy).2.1⟩) h2 h3

end Go.Proofs.YtcblbcpnfidndaaDoor
