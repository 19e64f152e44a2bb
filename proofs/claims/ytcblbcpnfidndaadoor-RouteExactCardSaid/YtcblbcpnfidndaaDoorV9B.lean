/- Lemmas for the statement of the last text of this claim. -/
import Derived.Test.YtcblbcpnfidndaaDoorChecked
import Derived.Shelf.Strings.OnBuilder
import Derived.Shelf.Strings.IndexAnyAll
import Derived.Shelf.Strings.Search1
import Derived.ProofKit
import Derived.Test.YtcblbcpnfidndaaDoorPxO
import Derived.WalkKit
import Derived.BigCall
import Derived.Test.YtcblbcpnfidndaaDoorPlD
import Derived.Deep.RegionLaw
import Derived.Deep.LoopGhost
import Derived.Lib.Walk
import Derived.Maps.Own
import Derived.Shelf.RegionOpenPlain
import Derived.Lib.LazyBuf
import Derived.Test.YtcblbcpnfidndaaDoorV9A
set_option linter.unusedSimpArgs false
set_option linter.unusedVariables false
namespace Go.Proofs.YtcblbcpnfidndaaDoor
open Go Go.Abs Go.Lab
/-! ### A row whose elements are looked at with the one before -/
def okP {E : Type} (bad : Option E → E → Bool) : Option E → List E → Bool
  | _, [] => true
  | p, e :: r => !bad p e && okP bad (some e) r

theorem loop_prev {A B E : Type} {f : A → Option (A ⊕ B)} (l : List E) (st : Nat → A) (bad : Option E → E → Bool) (no yes : B)
    (h1 : ∀ i e, l[i]? = some e → i < l.length → f (st i) = some (bif bad (if i = 0 then none else l[i - 1]?) e then .inr no else .inl (st (i + 1)))) (h2 : f (st l.length) = some (.inr yes)) :
    loopT f (st 0) = some (bif okP bad none l then yes else no) := by
  have key : ∀ (k i : Nat), i + k = l.length → loopT f (st i) = some (bif okP bad (if i = 0 then none else l[i - 1]?) (l.drop i) then yes else no) := by
    intro k
    induction k with
    | zero =>
      intro i h
      obtain rfl : i = l.length := by omega
      rw [List.drop_length]
      exact loopT_inr h2
    | succ k ih =>
      intro i h
      obtain ⟨e, he, hd⟩ := drop_at (l := l) (i := i) (by omega)
      have q := h1 i e he (by omega)
      rw [hd]
      unfold okP
      cases hb : bad (if i = 0 then none else l[i - 1]?) e
      · rw [hb] at q
        have := ih (i + 1) (by omega)
        rw [if_neg (by omega), Nat.add_sub_cancel, he] at this
        rw [Bool.not_false, Bool.true_and, ← this]
        exact loopT_inl q
      · rw [hb] at q
        exact loopT_inr q
  have := key l.length 0 (by omega)
  rw [List.drop_zero] at this
  exact this

theorem prev_case {E : Type} {l : List E} {i : Nat} (hi : i < l.length) : i = 0 ∨ ∃ p, 0 < i ∧ l[i - 1]? = some p ∧ (i ≤ 9223372036854775807 → w64 ((i : Int) - 1) = ((i - 1 : Nat) : Int)) := by
  by_cases h : i = 0
  · exact .inl h
  · obtain ⟨p, hp⟩ := getD_some (l := l) (i := i - 1) (by omega)
    exact .inr ⟨p, by omega, hp, fun hb => by rw [w64_id (by omega) (by omega)]; omega⟩

/-- At most, in the order of bytes. -/
def leB (a b : ByteArray) : Bool := Op.bytesLess a.toList b.toList || a.toList == b.toList

def badK (p : Option ByteArray) (k : ByteArray) : Bool := !keyS k || (match p with | none => false | some q => leB k q)

/-- Keys, ascending. -/
def keysOK (l : List ByteArray) : Bool := okP badK none l

theorem m158_eq (s : ByteArray) (hs : s.size ≤ big) : m158 ((s, ()), ()) = some ((keyS s, ()), ()) := by
  unfold m158
  exact bind_of _ (m87_eq s hs) rfl

theorem m142_eq (l : List ByteArray) (hl : l.length ≤ big) (hs : ∀ k ∈ l, k.size ≤ big) : m142 ((l, ()), ()) = some ((keysOK l, ()), ()) := by
  have h := loop_prev (f := l142_0_2) l (fun i => (((i : Int), l, l, (l.length : Int), ()), ())) badK (.inl ((false, ()), ())) (.inr ((), ())) ?_ ?_
  · unfold m142
    refine bind_of _ h ?_
    unfold keysOK
    cases okP badK none l <;> rfl
  · intro i e he hi
    unfold big at hl
    have hw : w64 ((i : Int) + 1) = ((i + 1 : Nat) : Int) := w64_nat (by omega)
    have q := m158_eq e (hs e (List.mem_of_getElem? he))
    rcases prev_case hi with h0 | ⟨p, h0, hp, hp1⟩
    · rw [if_pos h0]
      have : decide ((i : Int) > 0) = false := decide_eq_false (by omega)
      unfold badK
      simp only [l142_0_2, rowAt_G, rowG_nat he, lt_t hi, q, this, sumE, sS]
      cases keyS e <;> simp only [sumE, sS, hw, Bool.or_false]
    · rw [if_neg (by omega), hp]
      have : decide ((i : Int) > 0) = true := decide_eq_true (by omega)
      unfold badK leB
      simp only [l142_0_2, rowAt_G, rowG_nat he, lt_t hi, q, this, hp1 (by omega), rowG_nat hp, sumE, sS]
      cases keyS e <;> cases Op.bytesLess e.toList p.toList || e.toList == p.toList <;> simp only [sumE, sS, hw, Bool.or_false, Bool.or_true]
  · simp only [l142_0_2, lt_f, sumE, sS]

theorem m120_eq (l : List ByteArray) (hl : l.length ≤ big) (hs : ∀ k ∈ l, k.size ≤ big) : m120 ((l, ()), ()) = some ((keysOK l, ()), ()) := by
  have h := loop_prev (f := l120_0_2) l (fun i => (((i : Int), l, ()), ())) badK (.inl ((false, ()), ())) (.inr ((), ())) ?_ ?_
  · unfold m120
    refine bind_of _ h ?_
    unfold keysOK
    cases okP badK none l <;> rfl
  · intro i e he hi
    unfold big at hl
    have hw : w64 ((i : Int) + 1) = ((i + 1 : Nat) : Int) := w64_nat (by omega)
    have q := m89_eq e (hs e (List.mem_of_getElem? he))
    rcases prev_case hi with h0 | ⟨p, h0, hp, hp1⟩
    · rw [if_pos h0]
      have : decide ((i : Int) > 0) = false := decide_eq_false (by omega)
      unfold badK
      simp only [l120_0_2, rowAt_G, rowG_nat he, lt_t hi, q, this, sumE, sS]
      cases keyS e <;> simp only [sumE, sS, hw, Bool.or_false]
    · rw [if_neg (by omega), hp]
      have : decide ((i : Int) > 0) = true := decide_eq_true (by omega)
      unfold badK leB
      simp only [l120_0_2, rowAt_G, rowG_nat he, lt_t hi, q, this, hp1 (by omega), rowG_nat hp, sumE, sS]
      cases keyS e <;> cases Op.bytesLess e.toList p.toList || e.toList == p.toList <;> simp only [sumE, sS, hw, Bool.or_false, Bool.or_true]
  · simp only [l120_0_2, lt_f, sumE, sS]

theorem add_zero {l : List SiT} {s : SiT} (h : (addE l s).1 = 0) : (addE l s).2 = l ++ [s] ∧ chkE (l ++ [s]) = 0 := by
  unfold addE at h ⊢
  cases hc : (chkE (l ++ [s]) != 0)
  · exact ⟨rfl, by simpa using hc⟩
  · rw [hc] at h
    rw [show chkE (l ++ [s]) = 0 from h] at hc
    cases hc

end Go.Proofs.YtcblbcpnfidndaaDoor

namespace Go.Proofs.YtcblbcpnfidndaaDoor
open Go Go.Abs Go.Lab
theorem bl_app (a b : ByteArray) : bl (a ++ b) = bl a ++ bl b := by
  show (a ++ b).data.toList = _
  rw [ByteArray.data_append, Array.toList_append]

theorem sz_app (a b : ByteArray) : (a ++ b).size = a.size + b.size := ByteArray.size_append

theorem mk_app (a b : List UInt8) : mkB a ++ mkB b = mkB (a ++ b) := bl_inj (by rw [bl_app, bl_mk, bl_mk, bl_mk])

theorem app_mk (s : ByteArray) (b : List UInt8) : s ++ mkB b = mkB (bl s ++ b) := bl_inj (by rw [bl_app, bl_mk, bl_mk])

theorem drop_e {A : Type} {o : Option A} {x : A} (h : ∃ r, o = some r ∧ r = x) : o = some x := by
  obtain ⟨r, h1, rfl⟩ := h
  exact h1

/-! ### Valid labels -/
def badL (p : Option LT) (x : LT) : Bool := !keyS x.1 || (!valS x.2.1 || (x.2.1.toList == ByteArray.empty.toList || (match p with | none => false | some q => leB x.1 q.1)))

def validL (l : List LT) : Bool := !decide ((l.length : Int) > 12) && okP badL none l

/-- Texts that are no longer than memory. -/
def KSz (l : List LT) : Prop := l.length ≤ big ∧ ∀ x ∈ l, x.1.size ≤ big ∧ x.2.1.size ≤ big

theorem m42_eq (l : List LT) (hl : KSz l) : m42 ((l, ()), ()) = some ((validL l, ()), ()) := by
  unfold m42 validL
  cases hc : decide ((l.length : Int) > 12)
  · simp only [sumE, sS]
    have h := loop_prev (f := l42_0_4) l (fun i => (((i : Int), l, l, (l.length : Int), ()), ())) badL (.inl ((false, ()), ())) (.inr ((), ())) ?_ ?_
    · refine bind_of _ h ?_
      cases okP badL none l <;> rfl
    · intro i e he hi
      have hl1 := hl.1
      unfold big at hl1
      have hw : w64 ((i : Int) + 1) = ((i + 1 : Nat) : Int) := w64_nat (by omega)
      obtain ⟨z1, z2⟩ := hl.2 e (List.mem_of_getElem? he)
      have q1 := m87_eq e.1 z1
      have q2 := m88_eq e.2.1 z2
      rcases prev_case hi with h0 | ⟨p, h0, hp, hp1⟩
      · rw [if_pos h0]
        have : decide ((i : Int) > 0) = false := decide_eq_false (by omega)
        unfold badL
        simp only [l42_0_4, rowAt_G, rowG_nat he, lt_t hi, q1, q2, this, sumE, sS]
        cases keyS e.1 <;> cases valS e.2.1 <;> cases (e.2.1.toList == ByteArray.empty.toList) <;> simp only [sumE, sS, hw, Bool.or_false, Bool.or_true, Bool.false_or, Bool.true_or]
      · rw [if_neg (by omega), hp]
        have : decide ((i : Int) > 0) = true := decide_eq_true (by omega)
        unfold badL leB
        simp only [l42_0_4, rowAt_G, rowG_nat he, lt_t hi, q1, q2, this, hp1 (by omega), rowG_nat hp, sumE, sS]
        cases keyS e.1 <;> cases valS e.2.1 <;> cases (e.2.1.toList == ByteArray.empty.toList) <;> cases Op.bytesLess e.1.toList p.1.toList || e.1.toList == p.1.toList <;> simp only [sumE, sS, hw, Bool.or_false, Bool.or_true, Bool.false_or, Bool.true_or]
    · simp only [l42_0_4, lt_f, sumE, sS]
  · simp only [sumE, sS]

theorem m43_eq (l : List LT) (hl : KSz l) : m43 ((l, ()), ()) = some ((validL l, ()), ()) := by
  unfold m43 validL
  cases hc : decide ((l.length : Int) > 12)
  · simp only [sumE, sS]
    have h := loop_prev (f := l43_0_4) l (fun i => (((i : Int), l, ()), ())) badL (.inl ((false, ()), ())) (.inr ((), ())) ?_ ?_
    · refine bind_of _ h ?_
      cases okP badL none l <;> rfl
    · intro i e he hi
      have hl1 := hl.1
      unfold big at hl1
      have hw : w64 ((i : Int) + 1) = ((i + 1 : Nat) : Int) := w64_nat (by omega)
      obtain ⟨z1, z2⟩ := hl.2 e (List.mem_of_getElem? he)
      have q1 := m89_eq e.1 z1
      have q2 := m90_eq e.2.1 z2
      rcases prev_case hi with h0 | ⟨p, h0, hp, hp1⟩
      · rw [if_pos h0]
        have : decide ((i : Int) > 0) = false := decide_eq_false (by omega)
        unfold badL
        simp only [l43_0_4, rowAt_G, rowG_nat he, lt_t hi, q1, q2, this, sumE, sS]
        cases keyS e.1 <;> cases valS e.2.1 <;> cases (e.2.1.toList == ByteArray.empty.toList) <;> simp only [sumE, sS, hw, Bool.or_false, Bool.or_true, Bool.false_or, Bool.true_or]
      · rw [if_neg (by omega), hp]
        have : decide ((i : Int) > 0) = true := decide_eq_true (by omega)
        unfold badL leB
        simp only [l43_0_4, rowAt_G, rowG_nat he, lt_t hi, q1, q2, this, hp1 (by omega), rowG_nat hp, sumE, sS]
        cases keyS e.1 <;> cases valS e.2.1 <;> cases (e.2.1.toList == ByteArray.empty.toList) <;> cases Op.bytesLess e.1.toList p.1.toList || e.1.toList == p.1.toList <;> simp only [sumE, sS, hw, Bool.or_false, Bool.or_true, Bool.false_or, Bool.true_or]
    · simp only [l43_0_4, lt_f, sumE, sS]
  · simp only [sumE, sS]

theorem okP_mem {E : Type} {bad : Option E → E → Bool} : ∀ {l : List E} {p : Option E}, okP bad p l = true → ∀ x ∈ l, ∃ q, bad q x = false
  | [], _, _, x, hx => by cases hx
  | e :: r, p, h, x, hx => by
    unfold okP at h
    rw [Bool.and_eq_true] at h
    rcases List.mem_cons.1 hx with rfl | hx
    · exact ⟨p, by simpa using h.1⟩
    · exact okP_mem h.2 x hx

theorem badL_no {q : Option LT} {x : LT} (h : badL q x = false) : keyS x.1 = true ∧ valS x.2.1 = true ∧ x.2.1 ≠ ByteArray.empty := by
  unfold badL at h
  simp only [Bool.or_eq_false_iff] at h
  refine ⟨by simpa using h.1, by simpa using h.2.1, fun e => ?_⟩
  rw [e] at h
  simp at h

theorem valid_mem {l : List LT} (h : validL l = true) : l.length ≤ 12 ∧ ∀ x ∈ l, keyS x.1 = true ∧ valS x.2.1 = true ∧ x.2.1 ≠ ByteArray.empty := by
  unfold validL at h
  rw [Bool.and_eq_true] at h
  refine ⟨?_, fun x hx => ?_⟩
  · have : decide ((l.length : Int) > 12) = false := by simpa using h.1
    have := of_decide_eq_false this
    omega
  · obtain ⟨q, hq⟩ := okP_mem h.2 x hx
    exact badL_no hq

theorem keyS_sz {s : ByteArray} (h : keyS s = true) : s.size ≤ 24 := by
  have := (key_all (s := bl s) h).2.1
  rwa [len_bl] at this

theorem valS_sz {s : ByteArray} (h : valS s = true) : s.size ≤ 64 := by
  have h : valL (bl s) = true := h
  unfold valL at h
  rw [Bool.and_eq_true] at h
  have := of_decide_eq_true h.2
  rwa [len_bl] at this

/-! ### Quoted values, parts, texts -/
theorem esc_app : ∀ (a b : List UInt8), esc (a ++ b) = esc a ++ esc b
  | [], b => rfl
  | c :: a, b => by
    rw [List.cons_append]
    simp only [esc]
    rw [esc_app a b]
    split <;> rfl

theorem quote_size (s : ByteArray) : (hQuote s).size ≤ 2 * s.size + 2 := by
  unfold hQuote
  rw [size_mk]
  have := esc_len s.data.toList
  have e : s.data.toList.length = s.size := len_bl s
  simp
  omega

theorem m93_eq (s : ByteArray) (hs : s.size ≤ 1048576) : m93 ((s, ()), ()) = some ((hQuote s, ()), ()) := by
  have h := loop_ind (f := l93_0_3) (Q := fun b => b = ((mkB (34 :: esc (bl s)), ()), ())) (fun i st => st = (((i : Int), s, mkB (34 :: esc ((bl s).take i)), ()), ())) s.size ?_ ?_ _ rfl
  · obtain ⟨b, h1, rfl⟩ := h
    unfold m93
    refine bind_of _ (show loopT l93_0_3 ((0, s, bs [34], ()), ()) = _ from h1) ?_
    have hl := esc_len (bl s)
    rw [len_bl] at hl
    have hb : decide ((mkB (34 :: esc (bl s))).size + 1 ≤ 4294967296) = true := decide_eq_true (by rw [size_mk, List.length_cons]; omega)
    simp only [hb, sumE, sS]
    unfold hQuote
    rw [show bs [34] = mkB [34] from rfl, mk_app]
    rfl
  · rintro i _ hi rfl
    obtain ⟨c, hc⟩ := getD_some (l := bl s) (i := i) (by rw [len_bl]; exact hi)
    have hlt : decide ((i : Int) < (s.size : Int)) = true := decide_eq_true (by omega)
    have hbd : decide ((0 : Int) ≤ (i : Int) ∧ (i : Int) < (s.size : Int)) = true := decide_eq_true (by omega)
    have hw : w64 ((i : Int) + 1) = ((i + 1 : Nat) : Int) := w64_nat (by omega)
    have h0 : decide ((0 : Int) ≤ (i : Int)) = true := decide_eq_true (by omega)
    have h1 : decide ((0 : Int) ≤ ((i + 1 : Nat) : Int)) = true := decide_eq_true (by omega)
    have h2 : decide (i ≤ i + 1 ∧ i + 1 ≤ s.size) = true := decide_eq_true (by omega)
    have hx : s.extract i (i + 1) = mkB [c] := bl_inj (by
      have hcl : i < (bl s).length := by rw [len_bl]; exact hi
      rw [extract_bl, bl_mk, List.drop_eq_getElem_cons hcl, show i + 1 - i = 1 by omega, List.take_succ_cons, List.take_zero]
      rw [(List.getElem?_eq_some_iff.1 hc).2])
    have htk : (bl s).take (i + 1) = (bl s).take i ++ [c] := by rw [List.take_add_one, hc]; rfl
    have hl := esc_len ((bl s).take i)
    rw [List.length_take] at hl
    have hsz : ∀ b : List UInt8, b.length ≤ 2 → decide ((mkB (34 :: (esc ((bl s).take i) ++ b))).size + 1 ≤ 4294967296) = true := fun b hb => decide_eq_true (by rw [size_mk]; simp; omega)
    have hs0 : decide ((mkB (34 :: esc ((bl s).take i))).size + 1 ≤ 4294967296) = true := by have := hsz [] (by simp); rwa [List.append_nil] at this
    have hs1 : (mkB [c]).size = 1 := rfl
    have hs92 : mkB (34 :: esc ((bl s).take i)) ++ bs [92] = mkB (34 :: (esc ((bl s).take i) ++ [92])) := by
      rw [show bs [92] = mkB [92] from rfl, mk_app]; rfl
    have e34 : (u8 c == 34) = decide (c = 34) := by
      by_cases h : c = 34
      · subst h; rfl
      · rw [decide_eq_false h]
        exact beq_eq_false_iff_ne.2 fun e => h (UInt8.toNat_inj.1 (by unfold u8 at e; show c.toNat = 34; omega))
    have e92 : (u8 c == 92) = decide (c = 92) := by
      by_cases h : c = 92
      · subst h; rfl
      · rw [decide_eq_false h]
        exact beq_eq_false_iff_ne.2 fun e => h (UInt8.toNat_inj.1 (by unfold u8 at e; show c.toNat = 92; omega))
    refine ⟨_, ?_, rfl⟩
    rw [htk, esc_app]
    simp only [l93_0_3, hlt, hbd, byte_at hc, e34, e92, sumE, sS]
    by_cases c34 : c = 34
    · have he : esc [c] = [92, c] := by simp [esc, c34]
      simp only [decide_eq_true c34, sumE, sS, hs0, hs92, h0, hw, h1, Int.toNat_natCast, h2, hx, hs1, hsz [92] (by simp), mk_app, he]
      simp
    · by_cases c92 : c = 92
      · have he : esc [c] = [92, c] := by simp [esc, c92]
        simp only [decide_eq_false c34, decide_eq_true c92, sumE, sS, hs0, hs92, h0, hw, h1, Int.toNat_natCast, h2, hx, hs1, hsz [92] (by simp), mk_app, he]
        simp
      · have he : esc [c] = [c] := by simp [esc, c34, c92]
        simp only [decide_eq_false c34, decide_eq_false c92, sumE, sS, hs0, h0, hw, h1, Int.toNat_natCast, h2, hx, hs1, mk_app, he]
        simp
  · rintro _ rfl
    refine ⟨_, ?_, rfl⟩
    have : decide ((s.size : Int) < (s.size : Int)) = false := decide_eq_false (by omega)
    simp only [l93_0_3, this, sumE, sS]
    rw [List.take_of_length_le (by rw [len_bl]; exact Nat.le_refl _)]

theorem join_commas : ∀ l : List (List UInt8), Lib.join l [44] = commas l
  | [] => rfl
  | [x] => Lib.join_one x [44]
  | x :: y :: l => by
    rw [Lib.join_cons, commas_cons x (by simp), ← join_commas (y :: l), Lib.join_cons]
    simp [Lib.joinTail]

/-- The text of a label. -/
def partL (x : LT) : List UInt8 := item (bl x.1) [61] (bl x.2.1)

def textL (l : List LT) : List UInt8 := 123 :: (commas (l.map partL) ++ [125])

/-- The text of labels. -/
def textE (l : List LT) : ByteArray := if validL l then mkB (textL l) else ByteArray.empty

theorem part_eq (x : LT) : (x.1 ++ bs [61]) ++ hQuote x.2.1 = mkB (partL x) := by
  rw [show bs [61] = mkB [61] from rfl, app_mk]
  unfold hQuote partL item
  rw [mk_app]
  simp [bl]

theorem part_len {x : LT} (h1 : keyS x.1 = true) (h2 : valS x.2.1 = true) : (partL x).length ≤ 160 := by
  have a := keyS_sz h1
  have b := valS_sz h2
  have := esc_len (bl x.2.1)
  rw [len_bl] at this
  unfold partL item
  simp [len_bl]
  omega

theorem parts_len {l : List LT} (h : validL l = true) (i : Nat) : (commas ((l.map partL).take i)).length ≤ 2000 := by
  obtain ⟨h1, h2⟩ := valid_mem h
  have := commas_len ((l.map partL).take i) 160 (fun x hx => by
    obtain ⟨y, hy, rfl⟩ := List.mem_map.1 (List.mem_of_mem_take hx)
    exact part_len (h2 y hy).1 (h2 y hy).2.1)
  have hl : ((l.map partL).take i).length ≤ 12 := by rw [List.length_take, List.length_map]; omega
  have := Nat.mul_le_mul_right 161 hl
  omega

theorem m36_eq (l : List LT) (hl : KSz l) : m36 ((l, ()), ()) = some ((textE l, ()), ()) := by
  unfold m36 textE
  simp only [m42_eq l hl, sumE, sS]
  cases hv : validL l
  · simp only [sumE, sS, Bool.false_eq_true, if_false]
  · obtain ⟨h1, h2⟩ := valid_mem hv
    simp only [sumE, sS, if_true]
    have h := loop_ind (f := l36_0_5) (Q := fun b => b = ((), (l.map fun x => mkB (partL x), ()))) (fun i st => st = (((i : Int), l, (l.length : Int), ()), ((l.take i).map fun x => mkB (partL x), ()))) l.length ?_ ?_ _ rfl
    · obtain ⟨b, h3, rfl⟩ := h
      refine bind_of _ (show loopT l36_0_5 ((0, l, (l.length : Int), ()), ([], ())) = _ from h3) ?_
      have hj : hJoin (l.map fun x => mkB (partL x)) (bs [44]) = mkB (commas (l.map partL)) := by
        unfold hJoin
        rw [List.map_map]
        exact congrArg mkB (join_commas _)
      have hp := parts_len hv l.length
      rw [List.take_of_length_le (by rw [List.length_map]; exact Nat.le_refl _)] at hp
      have b1 : decide (List.length (l.map fun x => mkB (partL x)) ≤ 4294967296 ∧ (mkB (commas (l.map partL))).size ≤ 140737488355328) = true := decide_eq_true (by rw [List.length_map, size_mk]; omega)
      have b2 : decide (1 + (mkB (commas (l.map partL))).size ≤ 4294967296) = true := decide_eq_true (by rw [size_mk]; omega)
      have b3 : decide ((mkB (123 :: commas (l.map partL))).size + 1 ≤ 4294967296) = true := decide_eq_true (by rw [size_mk, List.length_cons]; omega)
      simp only [hj, b1, b2, sumE, sS]
      rw [show bs [123] = mkB [123] from rfl, mk_app, show [123] ++ commas (l.map partL) = 123 :: commas (l.map partL) from rfl, b3, show bs [125] = mkB [125] from rfl, mk_app]
      rfl
    · rintro i _ hi rfl
      obtain ⟨e, he⟩ := getD_some (l := l) (i := i) hi
      obtain ⟨k1, k2, _⟩ := h2 e (List.mem_of_getElem? he)
      have z1 := keyS_sz k1
      have z2 := valS_sz k2
      have z3 := quote_size e.2.1
      have hw : w64 ((i : Int) + 1) = ((i + 1 : Nat) : Int) := w64_nat (by omega)
      have b1 : decide (e.1.size + 1 ≤ 4294967296) = true := decide_eq_true (by omega)
      have b2 : decide (e.2.1.size ≤ 4294967296) = true := decide_eq_true (by omega)
      have b3 : decide ((e.1 ++ (bs [61])).size + (hQuote e.2.1).size ≤ 4294967296) = true := decide_eq_true (by rw [sz_app]; show e.1.size + 1 + _ ≤ _; omega)
      have b4 : decide (((l.take i).map fun x => mkB (partL x)).length + [mkB (partL e)].length ≤ 4294967296) = true := decide_eq_true (by simp; omega)
      refine ⟨_, ?_, rfl⟩
      rw [show l.take (i + 1) = l.take i ++ [e] by rw [List.take_add_one, he]; rfl, List.map_append]
      simp only [l36_0_5, rowAt_G, rowG_nat he, lt_t hi, b1, b2, b3, part_eq, b4, hw, sumE, sS]
      rfl
    · rintro _ rfl
      refine ⟨_, ?_, rfl⟩
      simp only [l36_0_5, lt_f, sumE, sS]
      rw [List.take_of_length_le (Nat.le_refl _)]

theorem commas_snoc : ∀ (l : List (List UInt8)) (x : List UInt8), l ≠ [] → commas (l ++ [x]) = commas l ++ 44 :: x
  | [], _, h => absurd rfl h
  | [a], x, _ => rfl
  | a :: b :: l, x, _ => by
    rw [List.cons_append, commas_cons a (by simp), commas_snoc (b :: l) x (by simp), commas_cons a (by simp)]
    simp

theorem m41_eq (l : List LT) (hl : KSz l) : m41 ((l, ()), ()) = some ((textE l, ()), ()) := by
  unfold m41 textE
  simp only [m43_eq l hl, sumE, sS]
  cases hv : validL l
  · simp only [sumE, sS, Bool.false_eq_true, if_false]
  · obtain ⟨h1, h2⟩ := valid_mem hv
    simp only [sumE, sS, if_true]
    have h := loop_ind (f := l41_0_5) (Q := fun b => b = ((mkB (123 :: commas (l.map partL)), ()), ())) (fun i st => st = (((i : Int), l, mkB (123 :: commas ((l.map partL).take i)), ()), ())) l.length ?_ ?_ _ rfl
    · obtain ⟨b, h3, rfl⟩ := h
      refine bind_of _ (show loopT l41_0_5 ((0, l, bs [123], ()), ()) = _ from h3) ?_
      have hp := parts_len hv l.length
      rw [List.take_of_length_le (by rw [List.length_map]; exact Nat.le_refl _)] at hp
      have b3 : decide ((mkB (123 :: commas (l.map partL))).size + 1 ≤ 4294967296) = true := decide_eq_true (by rw [size_mk, List.length_cons]; omega)
      simp only [b3, sumE, sS]
      rw [show bs [125] = mkB [125] from rfl, mk_app]
      rfl
    · rintro i _ hi rfl
      obtain ⟨e, he⟩ := getD_some (l := l) (i := i) hi
      obtain ⟨k1, k2, _⟩ := h2 e (List.mem_of_getElem? he)
      have z1 := keyS_sz k1
      have z2 := valS_sz k2
      have z3 := quote_size e.2.1
      have q := m93_eq e.2.1 (by omega)
      have hp := parts_len hv i
      have hl2 := part_len k1 k2
      have hw : w64 ((i : Int) + 1) = ((i + 1 : Nat) : Int) := w64_nat (by omega)
      have b1 : decide (e.1.size + 1 ≤ 4294967296) = true := decide_eq_true (by omega)
      have b3 : decide ((e.1 ++ (bs [61])).size + (hQuote e.2.1).size ≤ 4294967296) = true := decide_eq_true (by rw [sz_app]; show e.1.size + 1 + _ ≤ _; omega)
      have hm : (l.map partL)[i]? = some (partL e) := by rw [List.getElem?_map, he]; rfl
      have htk : (l.map partL).take (i + 1) = (l.map partL).take i ++ [partL e] := by rw [List.take_add_one, hm]; rfl
      refine ⟨_, ?_, rfl⟩
      rw [htk]
      by_cases h0 : i = 0
      · subst h0
        have b5 : decide ((mkB (123 :: commas ((l.map partL).take 0))).size + (mkB (partL e)).size ≤ 4294967296) = true := decide_eq_true (by rw [size_mk, size_mk, List.length_cons]; omega)
        have d0 : decide (((0 : Nat) : Int) > 0) = false := rfl
        simp only [l41_0_5, rowAt_G, rowG_nat he, lt_t hi, d0, b1, q, b3, part_eq, b5, hw, mk_app, sumE, sS]
        rfl
      · have d0 : decide ((i : Int) > 0) = true := decide_eq_true (by omega)
        have b4 : decide ((mkB (123 :: commas ((l.map partL).take i))).size + 1 ≤ 4294967296) = true := decide_eq_true (by rw [size_mk, List.length_cons]; omega)
        have e44 : mkB (123 :: commas ((l.map partL).take i)) ++ bs [44] = mkB (123 :: (commas ((l.map partL).take i) ++ [44])) := by
          rw [show bs [44] = mkB [44] from rfl, mk_app]; rfl
        have b5 : decide ((mkB (123 :: (commas ((l.map partL).take i) ++ [44]))).size + (mkB (partL e)).size ≤ 4294967296) = true := decide_eq_true (by rw [size_mk, size_mk, List.length_cons, List.length_append]; simp; omega)
        have hne : (l.map partL).take i ≠ [] := by
          intro h
          have := congrArg List.length h
          rw [List.length_take, List.length_map, List.length_nil] at this
          omega
        simp only [l41_0_5, rowAt_G, rowG_nat he, lt_t hi, d0, b4, e44, b1, q, b3, part_eq, b5, hw, mk_app, sumE, sS]
        rw [commas_snoc _ _ hne]
        simp
    · rintro _ rfl
      refine ⟨_, ?_, rfl⟩
      simp only [l41_0_5, lt_f, sumE, sS]
      rw [List.take_of_length_le (by rw [List.length_map]; exact Nat.le_refl _)]

/-! ### Labels among keys -/
def pickL (ks : List ByteArray) (l : List LT) : List LT := l.filter fun x => ks.any fun k => decide (k = x.1)

theorem m140_eq (ks : List ByteArray) (s : ByteArray) (hk : ks.length ≤ big) : ∃ j : Nat, m140 ((ks, s, ()), ()) = some ((bif ks.any (fun k => decide (k = s)) then (j : Int) else -1, ()), ()) := by
  have h := loop_list0 (f := l140_0_2) ks (fun i (_ : Unit) => (((i : Int), ks, s, (ks.length : Int), ()), ())) (fun i _ e => bif decide (e = s) then .inr (.inl (((i : Int), ()), ())) else .inl ()) (fun _ => .inr ((), ())) ?_ ?_ ()
  · obtain ⟨j, _, hj⟩ := runL_any (fun e => decide (e = s)) (fun i : Nat => (Sum.inl (((i : Int), ()), ()) : ((Int × Unit) × Unit) ⊕ (Unit × Unit))) (.inr ((), ())) ks 0
    refine ⟨j, ?_⟩
    unfold m140
    refine bind_of _ (h.trans (congrArg some hj)) ?_
    cases ks.any fun k => decide (k = s) <;> rfl
  · intro i e _ he hi
    unfold big at hk
    have hw : w64 ((i : Int) + 1) = ((i + 1 : Nat) : Int) := w64_nat (by omega)
    have hc : (s.toList == e.toList) = decide (e = s) := by
      rw [toList_bl, toList_bl, beq_bl]
      exact decide_eq_decide.2 ⟨Eq.symm, Eq.symm⟩
    simp only [l140_0_2, rowAt_G, rowG_nat he, lt_t hi, hc, sumE, sS]
    cases decide (e = s) <;> simp only [sumE, sS, hw]
  · intro _
    simp only [l140_0_2, lt_f, sumE, sS]

theorem m107_eq (ks : List ByteArray) (s : ByteArray) (hk : ks.length ≤ big) : m107 ((ks, s, ()), ()) = some ((ks.any (fun k => decide (k = s)), ()), ()) := by
  obtain ⟨j, h⟩ := m140_eq ks s hk
  unfold m107
  refine bind_of _ h ?_
  cases ks.any fun k => decide (k = s)
  · rfl
  · simp only [cond_true, decide_eq_true (show (j : Int) ≥ 0 by omega)]

theorem m45_eq (l : List LT) (ks : List ByteArray) (hl : l.length ≤ 1048576) (hk : ks.length ≤ big) : m45 ((l, ks, ()), ()) = some ((), (pickL ks l, ())) := by
  have h := loop_ind (f := l45_0_3) (Q := fun b => b = ((), (pickL ks l, ()))) (fun i st => st = (((i : Int), ks, l, (l.length : Int), ()), (pickL ks (l.take i), ()))) l.length ?_ ?_ _ rfl
  · obtain ⟨b, h3, rfl⟩ := h
    unfold m45
    exact bind_of _ (show loopT l45_0_3 ((0, ks, l, (l.length : Int), ()), ([], ())) = _ from h3) rfl
  · rintro i _ hi rfl
    obtain ⟨e, he⟩ := getD_some (l := l) (i := i) hi
    have hw : w64 ((i : Int) + 1) = ((i + 1 : Nat) : Int) := w64_nat (by omega)
    have hlen : (pickL ks (l.take i)).length ≤ i := by
      have := List.length_filter_le (fun x : LT => ks.any fun k => decide (k = x.1)) (l.take i)
      rw [List.length_take] at this
      unfold pickL; omega
    have b1 : decide ((pickL ks (l.take i)).length + [e].length ≤ 4294967296) = true := decide_eq_true (by simp; omega)
    refine ⟨_, ?_, rfl⟩
    rw [show l.take (i + 1) = l.take i ++ [e] by rw [List.take_add_one, he]; rfl, show pickL ks (l.take i ++ [e]) = pickL ks (l.take i) ++ pickL ks [e] from List.filter_append ..]
    simp only [l45_0_3, rowAt_G, rowG_nat he, lt_t hi, m107_eq ks e.1 hk, sumE, sS]
    cases hc : ks.any fun k => decide (k = e.1)
    · simp only [sumE, sS, hw]
      rw [show pickL ks [e] = [] by unfold pickL; simp [List.filter_cons, hc], List.append_nil]
    · simp only [sumE, sS, b1, hw]
      rw [show pickL ks [e] = [e] by unfold pickL; simp [List.filter_cons, hc]]
  · rintro _ rfl
    refine ⟨_, ?_, rfl⟩
    simp only [l45_0_3, lt_f, sumE, sS]
    rw [List.take_of_length_le (Nat.le_refl _)]

theorem inner46 (l : List LT) (ks : List ByteArray) (hk : ks.length ≤ big) (n : Nat) (e : LT) (he : l[n]? = some e) (o : List LT) (ho : o.length ≤ 1048576) :
    loopT l46_0_6 ((l, ks, (n : Int), 0, ()), (o, ())) = some ((l, ks, (n : Int), ()), (o ++ pickL ks [e], ())) := by
  have h := loop_list0 (f := l46_0_6) ks (fun i (_ : Unit) => ((l, ks, (n : Int), (i : Int), ()), (o, ()))) (fun i _ k => bif decide (k = e.1) then .inr ((l, ks, (n : Int), ()), (o ++ [e], ())) else .inl ()) (fun _ => ((l, ks, (n : Int), ()), (o, ()))) ?_ ?_ ()
  · obtain ⟨j, _, hj⟩ := runL_any (fun k => decide (k = e.1)) (fun _ : Nat => ((l, ks, (n : Int), ()), (o ++ [e], ()))) ((l, ks, (n : Int), ()), (o, ())) ks 0
    refine h.trans (congrArg some (hj.trans ?_))
    unfold pickL
    cases hc : ks.any fun k => decide (k = e.1)
    · simp [List.filter_cons, hc]
    · simp [List.filter_cons, hc]
  · intro i k _ hki hi
    unfold big at hk
    have hw : w64 ((i : Int) + 1) = ((i + 1 : Nat) : Int) := w64_nat (by omega)
    have b1 : decide (o.length + [e].length ≤ 4294967296) = true := decide_eq_true (by simp; omega)
    simp only [l46_0_6, rowAt_G, rowG_nat hki, rowG_nat he, lt_t hi, toList_bl, beq_bl, sumE, sS]
    cases decide (k = e.1) <;> simp only [sumE, sS, b1, hw]
  · intro _
    simp only [l46_0_6, lt_f, sumE, sS]

theorem m46_eq (l : List LT) (ks : List ByteArray) (hl : l.length ≤ 1048576) (hk : ks.length ≤ big) : m46 ((l, ks, ()), ()) = some ((), (pickL ks l, ())) := by
  have h := loop_ind (f := l46_0_3) (Q := fun b => b = ((), (pickL ks l, ()))) (fun i st => st = (((i : Int), l, ks, ()), (pickL ks (l.take i), ()))) l.length ?_ ?_ _ rfl
  · obtain ⟨b, h3, rfl⟩ := h
    unfold m46
    exact bind_of _ (show loopT l46_0_3 ((0, l, ks, ()), ([], ())) = _ from h3) rfl
  · rintro i _ hi rfl
    obtain ⟨e, he⟩ := getD_some (l := l) (i := i) hi
    have hw : w64 ((i : Int) + 1) = ((i + 1 : Nat) : Int) := w64_nat (by omega)
    have hlen : (pickL ks (l.take i)).length ≤ i := by
      have := List.length_filter_le (fun x : LT => ks.any fun k => decide (k = x.1)) (l.take i)
      rw [List.length_take] at this
      unfold pickL; omega
    refine ⟨_, ?_, rfl⟩
    rw [show l.take (i + 1) = l.take i ++ [e] by rw [List.take_add_one, he]; rfl, show pickL ks (l.take i ++ [e]) = pickL ks (l.take i) ++ pickL ks [e] from List.filter_append ..]
    simp only [l46_0_3, lt_t hi, sumE, sS]
    refine bind_of _ (inner46 l ks hk i e he _ (by omega)) ?_
    simp only [hw]
  · rintro _ rfl
    refine ⟨_, ?_, rfl⟩
    simp only [l46_0_3, lt_f, sumE, sS]
    rw [List.take_of_length_le (Nat.le_refl _)]

end Go.Proofs.YtcblbcpnfidndaaDoor

namespace Go.Proofs.YtcblbcpnfidndaaDoor
open Go Go.Abs Go.Lab
abbrev RtT : Type := Int × List MT × Int × List ByteArray × Int × Int × Int × Bool × Unit

/-- The sizes of a route, of routes. -/
def TrSz (r : RtT) : Prop := (r.2.1.length ≤ big ∧ ∀ m ∈ r.2.1, MSz m) ∧ r.2.2.2.1.length ≤ big ∧ ∀ k ∈ r.2.2.2.1, k.size ≤ big

def chkRange (r : RtT) : Bool := decide (r.2.2.1 < 0) || (decide (r.2.2.2.2.1 < 0) || (decide (r.2.2.2.2.1 > r.2.2.2.2.2.1) || (decide (r.2.2.2.2.2.1 > r.2.2.2.2.2.2.1) || (decide (r.2.2.2.2.2.2.1 > 604800) || (r.2.2.2.2.2.2.1 == 0)))))

def chkOne (r : RtT) : Int :=
  bif decide ((r.2.1.length : Int) > 8) || decide ((r.2.2.2.1.length : Int) > 12) then 5
  else bif !r.2.1.all rightM || !keysOK r.2.2.2.1 then 8 else bif chkRange r then 1 else 0

def badPar (i : Nat) (r : RtT) : Bool := if i = 0 then r.1 != -1 else decide (r.1 < 0) || decide (r.1 ≥ (i : Int))

def chkI (i : Nat) (r : RtT) : Int := bif badPar i r then 3 else chkOne r

/-- The first error, with places. -/
def goI {E : Type} (chk : Nat → E → Int) : Nat → List E → Int
  | _, [] => 0
  | i, e :: r => bif chk i e != 0 then chk i e else goI chk (i + 1) r

theorem loop_firstI {A B E : Type} {f : A → Option (A ⊕ B)} (l : List E) (st : Nat → A) (chk : Nat → E → Int) (no : Int → B) (yes : B)
    (h1 : ∀ i e, l[i]? = some e → i < l.length → f (st i) = some (bif chk i e != 0 then .inr (no (chk i e)) else .inl (st (i + 1)))) (h2 : f (st l.length) = some (.inr yes)) :
    loopT f (st 0) = some (bif goI chk 0 l != 0 then no (goI chk 0 l) else yes) := by
  have key : ∀ (k i : Nat), i + k = l.length → loopT f (st i) = some (bif goI chk i (l.drop i) != 0 then no (goI chk i (l.drop i)) else yes) := by
    intro k
    induction k with
    | zero =>
      intro i h
      obtain rfl : i = l.length := by omega
      rw [List.drop_length]
      exact loopT_inr h2
    | succ k ih =>
      intro i h
      obtain ⟨e, he, hd⟩ := drop_at (l := l) (i := i) (by omega)
      have q := h1 i e he (by omega)
      rw [hd]
      unfold goI
      cases hb : (chk i e != 0)
      · rw [hb] at q
        rw [cond_false, ← ih (i + 1) (by omega)]
        exact loopT_inl q
      · rw [hb] at q
        rw [cond_true, hb]
        exact loopT_inr q
  have := key l.length 0 (by omega)
  rw [List.drop_zero] at this
  exact this

theorem goI_zero {E : Type} {chk : Nat → E → Int} : ∀ {l : List E} {i : Nat}, goI chk i l = 0 → ∀ (k : Nat) (e : E), l[k]? = some e → chk (i + k) e = 0
  | [], _, _, k, e, h => by simp at h
  | x :: r, i, h, k, e, he => by
    unfold goI at h
    cases hc : (chk i x != 0)
    · rw [hc] at h
      cases k with
      | zero => simp at he; subst he; simpa using hc
      | succ k =>
        have := goI_zero (i := i + 1) h k e (by simpa using he)
        rwa [show i + 1 + k = i + (k + 1) by omega] at this
    · rw [hc] at h
      simp only [cond_true] at h
      rw [h] at hc
      cases hc

def chkT (l : List RtT) : Int :=
  bif (l.length : Int) == 0 then 7 else bif decide ((l.length : Int) > 24) then 5 else bif goI chkI 0 l != 0 then goI chkI 0 l
  else match l[0]? with | some e => bif decide ((e.2.1.length : Int) > 0) then 8 else 0 | none => 0

theorem m141_eq (m : MT) (hm : MSz m) : m141 ((m, ()), ()) = some ((!rightM m, ()), ()) := by
  unfold m141
  exact bind_of _ (m22_eq m hm) rfl

theorem wrong109 (ms : List MT) (hs : ms.length ≤ big) (hm : ∀ m ∈ ms, MSz m) : ∃ j : Nat, loopT l109_2_2 ((0, ms, (ms.length : Int), ()), ()) = some (bif ms.all rightM then .inr ((), ()) else .inl (((j : Int), ()), ())) := by
  have h := loop_list0 (f := l109_2_2) ms (fun i (_ : Unit) => (((i : Int), ms, (ms.length : Int), ()), ())) (fun i _ e => bif !rightM e then .inr (.inl (((i : Int), ()), ())) else .inl ()) (fun _ => .inr ((), ())) ?_ ?_ ()
  · obtain ⟨j, _, hj⟩ := runL_any (fun e => !rightM e) (fun i : Nat => (Sum.inl (((i : Int), ()), ()) : ((Int × Unit) × Unit) ⊕ (Unit × Unit))) (.inr ((), ())) ms 0
    refine ⟨j, h.trans (congrArg some (hj.trans ?_))⟩
    rw [any_not]
    cases ms.all rightM <;> rfl
  · intro i e _ he hi
    unfold big at hs
    have hw : w64 ((i : Int) + 1) = ((i + 1 : Nat) : Int) := w64_nat (by omega)
    simp only [l109_2_2, rowAt_G, rowG_nat he, lt_t hi, m141_eq e (hm e (List.mem_of_getElem? he)), sumE, sS]
    cases rightM e <;> simp only [sumE, sS, hw, Bool.not_true, Bool.not_false]
  · intro _
    simp only [l109_2_2, lt_f, sumE, sS]

theorem par_case (i : Nat) (r : RtT) : (i = 0 ∧ badPar i r = (r.1 != -1)) ∨ (0 < i ∧ badPar i r = (decide (r.1 < 0) || decide (r.1 ≥ (i : Int)))) := by
  unfold badPar
  by_cases h : i = 0
  · exact .inl ⟨h, by rw [if_pos h]⟩
  · exact .inr ⟨by omega, by rw [if_neg h]⟩

theorem m109_eq (r : RtT) (hr : TrSz r) (i : Nat) : m109 ((r, (i : Int), ()), ()) = some ((chkI i r, ()), ()) := by
  obtain ⟨⟨a1, a2⟩, c1, c2⟩ := hr
  obtain ⟨j, hj⟩ := wrong109 r.2.1 a1 a2
  have q := m142_eq r.2.2.2.1 c1 c2
  have hj0 : decide ((j : Int) ≥ 0) = true := decide_eq_true (by omega)
  have key : ((bif ((i : Int) == 0) then (bif ((r.1 : Int) != (-1)) then (some ((true, ()), ((r, ()), ()))) else (bif (decide ((i : Int) > 0)) then (bif (decide ((r.1 : Int) < 0)) then (some ((true, ()), ((r, ()), ()))) else (some (((decide ((r.1 : Int) ≥ (i : Int))), ()), ((r, ()), ())))) else (some ((false, ()), ((r, ()), ())))))
      else (bif (decide ((i : Int) > 0)) then (bif (decide ((r.1 : Int) < 0)) then (some ((true, ()), ((r, ()), ()))) else (some (((decide ((r.1 : Int) ≥ (i : Int))), ()), ((r, ()), ())))) else (some ((false, ()), ((r, ()), ()))))) : Option ((Bool × Unit) × ((RtT × Unit) × Unit))) = some ((badPar i r, ()), ((r, ()), ())) := by
    rcases par_case i r with ⟨rfl, hb⟩ | ⟨h0, hb⟩
    · rw [hb, show (((0 : Nat) : Int) == 0) = true from rfl, show decide (((0 : Nat) : Int) > 0) = false from rfl]
      cases (r.1 != -1) <;> rfl
    · rw [hb, beq_eq_false_iff_ne.2 (show (i : Int) ≠ 0 by omega), decide_eq_true (show (i : Int) > 0 by omega)]
      cases decide (r.1 < 0) <;> cases decide (r.1 ≥ (i : Int)) <;> rfl
  unfold m109
  refine bind_of _ key ?_
  unfold chkI
  cases badPar i r <;> simp only [sumE, sS]
  unfold chkOne
  cases decide ((r.2.1.length : Int) > 8) <;> simp only [sumE, sS, Bool.or_true, Bool.true_or, Bool.or_false, Bool.false_or]
  cases decide ((r.2.2.2.1.length : Int) > 12) <;> simp only [sumE, sS, Bool.or_true, Bool.true_or, Bool.or_false, Bool.false_or]
  rw [hj]
  cases r.2.1.all rightM <;> simp only [sumE, sS, hj0, q, Bool.not_true, Bool.not_false, Bool.or_true, Bool.true_or, Bool.or_false, Bool.false_or]
  cases keysOK r.2.2.2.1 <;> simp only [sumE, sS, Bool.not_true, Bool.not_false]
  unfold chkRange
  cases decide (r.2.2.1 < 0) <;> simp only [sumE, sS, Bool.or_true, Bool.true_or, Bool.or_false, Bool.false_or]
  cases decide (r.2.2.2.2.1 < 0) <;> simp only [sumE, sS, Bool.or_true, Bool.true_or, Bool.or_false, Bool.false_or]
  cases decide (r.2.2.2.2.1 > r.2.2.2.2.2.1) <;> simp only [sumE, sS, Bool.or_true, Bool.true_or, Bool.or_false, Bool.false_or]
  cases decide (r.2.2.2.2.2.1 > r.2.2.2.2.2.2.1) <;> simp only [sumE, sS, Bool.or_true, Bool.true_or, Bool.or_false, Bool.false_or]
  cases decide (r.2.2.2.2.2.2.1 > 604800) <;> simp only [sumE, sS, Bool.or_true, Bool.true_or, Bool.or_false, Bool.false_or]
  cases (r.2.2.2.2.2.2.1 == 0) <;> simp only [sumE, sS]

theorem m111_eq (r : RtT) (hr : TrSz r) : m111 ((r, ()), ()) = some ((chkOne r, ()), ()) := by
  obtain ⟨⟨a1, a2⟩, c1, c2⟩ := hr
  have q := m120_eq r.2.2.2.1 c1 c2
  have hj : loopT l111_0_4 ((0, ()), ((r, ()), ())) = some (bif r.2.1.all rightM then .inr ((), ((r, ()), ())) else .inl ((8, ()), ())) := by
    have h := loop_list0 (f := l111_0_4) r.2.1 (fun i (_ : Unit) => (((i : Int), ()), ((r, ()), ()))) (fun i _ e => bif !rightM e then .inr (.inl ((8, ()), ())) else .inl ()) (fun _ => .inr ((), ((r, ()), ()))) ?_ ?_ ()
    · obtain ⟨j, _, hj⟩ := runL_any (fun e => !rightM e) (fun _ : Nat => (Sum.inl ((8, ()), ()) : ((Int × Unit) × Unit) ⊕ (Unit × (RtT × Unit) × Unit))) (.inr ((), ((r, ()), ()))) r.2.1 0
      refine h.trans (congrArg some (hj.trans ?_))
      rw [any_not]
      cases r.2.1.all rightM <;> rfl
    · intro i e _ he hi
      unfold big at a1
      have hw : w64 ((i : Int) + 1) = ((i + 1 : Nat) : Int) := w64_nat (by omega)
      simp only [l111_0_4, rowAt_G, rowG_nat he, lt_t hi, m23_eq e (a2 e (List.mem_of_getElem? he)), sumE, sS]
      cases rightM e <;> simp only [sumE, sS, hw, Bool.not_true, Bool.not_false]
    · intro _
      simp only [l111_0_4, lt_f, sumE, sS]
  unfold m111 chkOne
  cases decide ((r.2.1.length : Int) > 8) <;> simp only [sumE, sS, Bool.or_true, Bool.true_or, Bool.or_false, Bool.false_or]
  cases decide ((r.2.2.2.1.length : Int) > 12) <;> simp only [sumE, sS, Bool.or_true, Bool.true_or, Bool.or_false, Bool.false_or]
  rw [hj]
  cases r.2.1.all rightM <;> simp only [sumE, sS, q, Bool.not_true, Bool.not_false, Bool.or_true, Bool.true_or, Bool.or_false, Bool.false_or]
  cases keysOK r.2.2.2.1 <;> simp only [sumE, sS, Bool.not_true, Bool.not_false]
  unfold chkRange
  cases decide (r.2.2.1 < 0) <;> simp only [sumE, sS, Bool.or_true, Bool.true_or, Bool.or_false, Bool.false_or]
  cases decide (r.2.2.2.2.1 < 0) <;> simp only [sumE, sS, Bool.or_true, Bool.true_or, Bool.or_false, Bool.false_or]
  cases decide (r.2.2.2.2.1 > r.2.2.2.2.2.1) <;> simp only [sumE, sS, Bool.or_true, Bool.true_or, Bool.or_false, Bool.false_or]
  cases decide (r.2.2.2.2.2.1 > r.2.2.2.2.2.2.1) <;> simp only [sumE, sS, Bool.or_true, Bool.true_or, Bool.or_false, Bool.false_or]
  cases decide (r.2.2.2.2.2.2.1 > 604800) <;> simp only [sumE, sS, Bool.or_true, Bool.true_or, Bool.or_false, Bool.false_or]
  cases (r.2.2.2.2.2.2.1 == 0) <;> simp only [sumE, sS]

def TsSz (l : List RtT) : Prop := l.length ≤ 1048576 ∧ ∀ r ∈ l, TrSz r

theorem m49_eq (l : List RtT) (hl : TsSz l) : m49 ((l, ()), ()) = some ((chkT l, ()), ()) := by
  unfold m49 chkT
  cases hz : ((l.length : Int) == 0)
  · simp only [sumE, sS]
    cases decide ((l.length : Int) > 24)
    · simp only [sumE, sS]
      have h := loop_firstI (f := l49_0_6) l (fun i => (((i : Int), l, l, (l.length : Int), ()), ())) chkI (fun c => .inl ((c, ()), ())) (.inr ((l, ()), ())) ?_ ?_
      · refine bind_of _ h ?_
        cases hc : (goI chkI 0 l != 0)
        · obtain ⟨e, he⟩ := getD_some (l := l) (i := 0) (by have := (beq_eq_false_iff_ne.1 hz); omega)
          rw [he]
          simp only [cond_false, sumE, rowAt_G]
          rw [show rowG l 0 _ = rowG l ((0 : Nat) : Int) _ from rfl, rowG_nat he]
          cases decide ((e.2.1.length : Int) > 0) <;> rfl
        · rfl
      · intro i e he hi
        have hl1 := hl.1
        have hw : w64 ((i : Int) + 1) = ((i + 1 : Nat) : Int) := w64_nat (by omega)
        simp only [l49_0_6, rowAt_G, rowG_nat he, lt_t hi, m109_eq e (hl.2 e (List.mem_of_getElem? he)) i, sumE, sS]
        cases chkI i e != 0 <;> simp only [sumE, sS, hw]
      · simp only [l49_0_6, lt_f, sumE, sS]
    · simp only [sumE, sS]
  · simp only [sumE, sS]

theorem m55_eq (l : List RtT) (hl : TsSz l) : m55 ((l, ()), ()) = some ((chkT l, ()), ()) := by
  unfold m55 chkT
  cases hz : ((l.length : Int) == 0)
  · simp only [sumE, sS]
    cases decide ((l.length : Int) > 24)
    · simp only [sumE, sS]
      have h := loop_firstI (f := l55_0_6) l (fun i => (((i : Int), l, ()), ())) chkI (fun c => .inl ((c, ()), ())) (.inr ((l, ()), ())) ?_ ?_
      · refine bind_of _ h ?_
        cases hc : (goI chkI 0 l != 0)
        · obtain ⟨e, he⟩ := getD_some (l := l) (i := 0) (by have := (beq_eq_false_iff_ne.1 hz); omega)
          rw [he]
          simp only [cond_false, sumE, rowAt_G]
          rw [show rowG l 0 _ = rowG l ((0 : Nat) : Int) _ from rfl, rowG_nat he]
          cases decide ((e.2.1.length : Int) > 0) <;> rfl
        · rfl
      · intro i e he hi
        have hl1 := hl.1
        have hw : w64 ((i : Int) + 1) = ((i + 1 : Nat) : Int) := w64_nat (by omega)
        have q := m111_eq e (hl.2 e (List.mem_of_getElem? he))
        unfold chkI
        rcases par_case i e with ⟨rfl, hb⟩ | ⟨h0, hb⟩
        · rw [hb]
          simp only [l55_0_6, rowAt_G, rowG_nat he, lt_t hi, show (((0 : Nat) : Int) == 0) = true from rfl, show decide (((0 : Nat) : Int) > 0) = false from rfl, sumE, sS]
          cases (e.1 != -1)
          · simp only [sumE, sS, rowAt_G, rowG_nat he, q]
            cases chkOne e != 0 <;> simp only [sumE, sS, hw]
          · simp only [sumE, sS]
            rfl
        · rw [hb]
          simp only [l55_0_6, rowAt_G, rowG_nat he, lt_t hi, beq_eq_false_iff_ne.2 (show (i : Int) ≠ 0 by omega), decide_eq_true (show (i : Int) > 0 by omega), sumE, sS]
          cases decide (e.1 < 0) <;> simp only [sumE, sS, Bool.false_or, Bool.true_or]
          · cases decide (e.1 ≥ (i : Int)) <;> simp only [sumE, sS, rowAt_G, rowG_nat he, q]
            · cases chkOne e != 0 <;> simp only [sumE, sS, hw]
            · rfl
          · rfl
      · simp only [l55_0_6, lt_f, sumE, sS]
    · simp only [sumE, sS]
  · simp only [sumE, sS]

/-- What right routes are. -/
structure TOK (l : List RtT) : Prop where
  pos : 0 < l.length
  len : l.length ≤ 24
  root : ∀ r, l[0]? = some r → r.1 = -1 ∧ r.2.1 = []
  par : ∀ (k : Nat) (r : RtT), l[k]? = some r → 0 < k → 0 ≤ r.1 ∧ r.1 < (k : Int)
  one : ∀ r ∈ l, r.2.1.length ≤ 8 ∧ (∀ m ∈ r.2.1, rightM m = true) ∧ keysOK r.2.2.2.1 = true ∧ r.2.2.2.1.length ≤ 12

theorem one_ok {r : RtT} (h : chkOne r = 0) : r.2.1.length ≤ 8 ∧ (∀ m ∈ r.2.1, rightM m = true) ∧ keysOK r.2.2.2.1 = true ∧ r.2.2.2.1.length ≤ 12 := by
  unfold chkOne at h
  cases h1 : (decide ((r.2.1.length : Int) > 8) || decide ((r.2.2.2.1.length : Int) > 12))
  · rw [h1] at h
    simp only [Bool.or_eq_false_iff] at h1
    have a := of_decide_eq_false h1.1
    have b := of_decide_eq_false h1.2
    cases h2 : (!r.2.1.all rightM || !keysOK r.2.2.2.1)
    · simp only [Bool.or_eq_false_iff, Bool.not_eq_false'] at h2
      exact ⟨by omega, List.all_eq_true.1 h2.1, h2.2, by omega⟩
    · rw [h2] at h; cases h
  · rw [h1] at h; cases h

theorem tok_of {l : List RtT} (h : chkT l = 0) : TOK l := by
  unfold chkT at h
  cases h1 : ((l.length : Int) == 0)
  · rw [h1] at h
    cases h2 : decide ((l.length : Int) > 24)
    · rw [h2] at h
      simp only [cond_false] at h
      cases h3 : (goI chkI 0 l != 0)
      · rw [h3] at h
        simp only [cond_false] at h
        have hz : goI chkI 0 l = 0 := by simpa using h3
        have all := goI_zero hz
        simp only [Nat.zero_add] at all
        have hpos : 0 < l.length := by have := beq_eq_false_iff_ne.1 h1; omega
        have hone : ∀ (k : Nat) (e : RtT), l[k]? = some e → badPar k e = false ∧ chkOne e = 0 := by
          intro k e he
          have := all k e he
          unfold chkI at this
          cases hb : badPar k e
          · rw [hb] at this; exact ⟨rfl, this⟩
          · rw [hb] at this; cases this
        refine ⟨hpos, by have := of_decide_eq_false h2; omega, fun r hr => ?_, fun k r hr h0 => ?_, fun r hr => ?_⟩
        · have hb := (hone 0 r hr).1
          unfold badPar at hb
          rw [if_pos rfl] at hb
          rw [hr] at h
          simp only at h
          refine ⟨by simpa using hb, ?_⟩
          cases hl : decide ((r.2.1.length : Int) > 0)
          · have := of_decide_eq_false hl
            exact List.length_eq_zero_iff.1 (by omega)
          · rw [hl] at h; cases h
        · have hb := (hone k r hr).1
          unfold badPar at hb
          rw [if_neg (by omega)] at hb
          simp only [Bool.or_eq_false_iff] at hb
          have a := of_decide_eq_false hb.1
          have b := of_decide_eq_false hb.2
          omega
        · obtain ⟨k, hk, rfl⟩ := List.mem_iff_getElem.1 hr
          exact one_ok (hone k _ (List.getElem?_eq_getElem hk)).2
      · rw [h3] at h
        simp only [cond_true] at h
        rw [h] at h3; cases h3
    · rw [h2] at h; cases h
  · rw [h1] at h; cases h

theorem TOK.psz {l : List RtT} (h : TOK l) {r : RtT} (hr : r ∈ l) : PSs r.2.1 := by
  obtain ⟨h1, h2, _⟩ := h.one r hr
  refine ⟨by omega, fun m hm => ?_⟩
  have := h2 m hm
  unfold rightM at this
  simp only [Bool.and_eq_true] at this
  have := valS_sz this.2.2.2
  unfold PSz
  omega

/-! ### Children -/
def isCh (l : List RtT) (i : Int) (k : Nat) : Bool := match l[k]? with | some r => r.1 == i | none => false

def chN (l : List RtT) (i : Int) : List Nat := (List.range l.length).filter (isCh l i)

abbrev ints (l : List Nat) : List Int := l.map fun k : Nat => (k : Int)

theorem chN_mem {l : List RtT} {i : Int} {k : Nat} : k ∈ chN l i ↔ ∃ r, l[k]? = some r ∧ r.1 = i := by
  unfold chN isCh
  rw [List.mem_filter, List.mem_range]
  constructor
  · rintro ⟨h1, h2⟩
    obtain ⟨r, hr⟩ := getD_some h1
    rw [hr] at h2
    exact ⟨r, hr, by simpa using h2⟩
  · rintro ⟨r, hr, rfl⟩
    refine ⟨(List.getElem?_eq_some_iff.1 hr).1, ?_⟩
    rw [hr]; simp

theorem chN_sorted (l : List RtT) (i : Int) : (chN l i).Pairwise (· < ·) := List.Pairwise.filter _ (List.pairwise_lt_range)

theorem filt_snoc (p : Nat → Bool) (i : Nat) : (List.range (i + 1)).filter p = (List.range i).filter p ++ (if p i then [i] else []) := by
  rw [List.range_succ, List.filter_append]
  cases h : p i <;> simp [List.filter_cons, h]

theorem m60_eq (l : List RtT) (hl : l.length ≤ 1048576) (i : Int) : m60 ((l, i, ()), ()) = some ((), (ints (chN l i), ())) := by
  have h := loop_ind (f := l60_0_3) (Q := fun b => b = ((), (ints (chN l i), ()))) (fun k st => st = (((k : Int), i, l, (l.length : Int), ()), (ints ((List.range k).filter (isCh l i)), ()))) l.length ?_ ?_ _ rfl
  · obtain ⟨b, h3, rfl⟩ := h
    unfold m60
    exact bind_of _ (show loopT l60_0_3 ((0, i, l, (l.length : Int), ()), ([], ())) = _ from h3) rfl
  · rintro k _ hk rfl
    obtain ⟨e, he⟩ := getD_some (l := l) (i := k) hk
    have hw : w64 ((k : Int) + 1) = ((k + 1 : Nat) : Int) := w64_nat (by omega)
    have hlen : (ints ((List.range k).filter (isCh l i))).length ≤ k := by
      have := List.length_filter_le (isCh l i) (List.range k)
      rw [List.length_range] at this
      rw [List.length_map]; exact this
    have b1 : decide ((ints ((List.range k).filter (isCh l i))).length + [(k : Int)].length ≤ 4294967296) = true := decide_eq_true (by simp only [List.length_cons, List.length_nil]; omega)
    have hc : isCh l i k = (e.1 == i) := by unfold isCh; rw [he]
    refine ⟨_, ?_, rfl⟩
    rw [filt_snoc, hc]
    simp only [l60_0_3, rowAt_G, rowG_nat he, lt_t hk, sumE, sS]
    cases (e.1 == i)
    · simp only [sumE, sS, hw, Bool.false_eq_true, if_false, List.append_nil]
    · simp only [sumE, sS, b1, hw, if_true, List.map_append, List.map_cons, List.map_nil]
  · rintro _ rfl
    refine ⟨_, ?_, rfl⟩
    simp only [l60_0_3, lt_f, sumE, sS]
    rfl

theorem m61_eq (l : List RtT) (hl : l.length ≤ 1048576) (i : Int) : m61 ((l, i, ()), ()) = some ((), (ints (chN l i), ())) := by
  have h := loop_ind (f := l61_0_3) (Q := fun b => b = ((), (ints (chN l i), ()))) (fun k st => st = (((k : Int), i, l, ()), (ints ((List.range k).filter (isCh l i)), ()))) l.length ?_ ?_ _ rfl
  · obtain ⟨b, h3, rfl⟩ := h
    unfold m61
    exact bind_of _ (show loopT l61_0_3 ((0, i, l, ()), ([], ())) = _ from h3) rfl
  · rintro k _ hk rfl
    obtain ⟨e, he⟩ := getD_some (l := l) (i := k) hk
    have hw : w64 ((k : Int) + 1) = ((k + 1 : Nat) : Int) := w64_nat (by omega)
    have hlen : (ints ((List.range k).filter (isCh l i))).length ≤ k := by
      have := List.length_filter_le (isCh l i) (List.range k)
      rw [List.length_range] at this
      rw [List.length_map]; exact this
    have b1 : decide ((ints ((List.range k).filter (isCh l i))).length + [(k : Int)].length ≤ 4294967296) = true := decide_eq_true (by simp only [List.length_cons, List.length_nil]; omega)
    have hc : isCh l i k = (e.1 == i) := by unfold isCh; rw [he]
    refine ⟨_, ?_, rfl⟩
    rw [filt_snoc, hc]
    simp only [l61_0_3, rowAt_G, rowG_nat he, lt_t hk, sumE, sS]
    cases (e.1 == i)
    · simp only [sumE, sS, hw, Bool.false_eq_true, if_false, List.append_nil]
    · simp only [sumE, sS, b1, hw, if_true, List.map_append, List.map_cons, List.map_nil]
  · rintro _ rfl
    refine ⟨_, ?_, rfl⟩
    simp only [l61_0_3, lt_f, sumE, sS]
    rfl

/-! ### Finding -/
def goC (rec : Nat → List Nat) (l : List RtT) (x : List LT) : List Nat → List Nat
  | [] => []
  | k :: ks => match l[k]? with
    | none => []
    | some r => bif allM r.2.1 x then rec k ++ (bif r.2.2.2.2.2.2.2.1 then goC rec l x ks else []) else goC rec l x ks

/-- The routes of a route. -/
def findN (l : List RtT) (x : List LT) : Nat → Nat → List Nat
  | 0, _ => []
  | n + 1, i => if goC (findN l x n) l x (chN l (i : Int)) = [] then [i] else goC (findN l x n) l x (chN l (i : Int))

theorem pow_half {a : Nat} (h : 0 < a) : 2 ^ (a - 1) + 2 ^ (a - 1) = 2 ^ a := by
  obtain ⟨b, rfl⟩ : ∃ b, a = b + 1 := ⟨a - 1, by omega⟩
  rw [Nat.add_sub_cancel, Nat.pow_succ]; omega

theorem goC_len {rec : Nat → List Nat} {l : List RtT} {x : List LT} : ∀ {ks : List Nat} {j : Nat}, ks.Pairwise (· < ·) → (∀ k ∈ ks, j ≤ k ∧ k < l.length ∧ (rec k).length ≤ 2 ^ (l.length - k - 1)) → (goC rec l x ks).length + 1 ≤ 2 ^ (l.length - j)
  | [], j, _, _ => Nat.one_le_two_pow
  | k :: ks, j, hp, h => by
    obtain ⟨h1, h2, h3⟩ := h k (List.mem_cons_self ..)
    have ih := goC_len (x := x) (ks := ks) (j := k + 1) (List.pairwise_cons.1 hp).2 (fun y hy => by
      obtain ⟨_, a, b⟩ := h y (List.mem_cons_of_mem _ hy)
      exact ⟨(List.pairwise_cons.1 hp).1 y hy, a, b⟩)
    have e1 : l.length - (k + 1) = l.length - k - 1 := by omega
    rw [e1] at ih
    have e2 := pow_half (a := l.length - k) (by omega)
    have e3 : 2 ^ (l.length - k) ≤ 2 ^ (l.length - j) := Nat.pow_le_pow_right (by omega) (by omega)
    unfold goC
    obtain ⟨r, hr⟩ := getD_some h2
    rw [hr]
    simp only
    cases allM r.2.1 x
    · simp only [cond_false]; omega
    · simp only [cond_true, List.length_append]
      cases r.2.2.2.2.2.2.2.1
      · simp only [cond_false, List.length_nil]
        have : 1 ≤ 2 ^ (l.length - k - 1) := Nat.one_le_two_pow
        omega
      · simp only [cond_true]; omega

theorem ch_ok {l : List RtT} (h : TOK l) {i k : Nat} (hk : k ∈ chN l (i : Int)) : i < k ∧ k < l.length := by
  obtain ⟨r, hr, hi⟩ := chN_mem.1 hk
  have hlt := (List.getElem?_eq_some_iff.1 hr).1
  refine ⟨?_, hlt⟩
  by_cases h0 : k = 0
  · subst h0
    have := (h.root r hr).1
    omega
  · have := (h.par k r hr (by omega)).2
    omega

theorem findN_len {l : List RtT} (h : TOK l) (x : List LT) : ∀ (n i : Nat), i < l.length → (findN l x n i).length ≤ 2 ^ (l.length - i - 1)
  | 0, _, _ => Nat.zero_le _
  | n + 1, i, hi => by
    unfold findN
    have := goC_len (rec := findN l x n) (x := x) (j := i + 1) (chN_sorted l (i : Int)) (fun k hk => by
      obtain ⟨a, b⟩ := ch_ok h hk
      exact ⟨a, b, findN_len h x n k b⟩)
    rw [show l.length - (i + 1) = l.length - i - 1 by omega] at this
    split
    · exact Nat.one_le_two_pow
    · omega

theorem small {l : List RtT} (h : TOK l) {a : List Nat} (k : Nat) (ha : a.length ≤ 2 ^ (l.length - k)) : a.length ≤ 16777216 := by
  have := h.len
  have e : 2 ^ (l.length - k) ≤ 2 ^ 24 := Nat.pow_le_pow_right (by omega) (by omega)
  have : (2 : Nat) ^ 24 = 16777216 := rfl
  omega

theorem find_loop108 (l : List RtT) (hl : TOK l) (x : List LT) (hx : LSz x) (n : Nat) (rc : (((List RtT) × Int × List LT × Unit) × Unit) → Option (Unit × (List Int × Unit)))
    (hrc : ∀ k : Nat, k < l.length → l.length - k ≤ n → rc ((l, (k : Int), x, ()), ()) = some ((), (ints (findN l x n k), ()))) (o : Int) (ch : List Nat) (hs : ch.Pairwise (· < ·)) (hc : ∀ k ∈ ch, k < l.length ∧ l.length - k ≤ n) :
    ∀ (k i : Nat) (out : List Int), i + k = ch.length → out.length ≤ 16777216 * i → loopT (l108_0_3 rc) (((i : Int), o, l, x, ((ch.length : Nat) : Int), ()), (out, (ints ch, ()))) = some ((o, ()), (out ++ ints (goC (findN l x n) l x (ch.drop i)), ())) := by
  have hcl : ch.length ≤ 24 := by
    have := hl.len
    have : ch.length ≤ l.length := by
      have hsub : ch.Sublist (List.range l.length) := by
        have h1 : ch = (List.range l.length).filter (fun k => decide (k ∈ ch)) := by
          apply List.Perm.eq_of_pairwise (le := (· < ·)) (fun a b _ _ h1 h2 => absurd h1 (by omega)) hs (List.Pairwise.filter _ List.pairwise_lt_range)
          refine (List.perm_ext_iff_of_nodup (hs.imp (fun h => by omega)) ((List.nodup_range).filter _)).2 fun a => ?_
          rw [List.mem_filter, List.mem_range, decide_eq_true_eq]
          exact ⟨fun h => ⟨(hc a h).1, h⟩, fun h => h.2⟩
        rw [h1]
        exact List.filter_sublist
      have := hsub.length_le
      rwa [List.length_range] at this
    omega
  intro k
  induction k with
  | zero =>
    intro i out h ho
    obtain rfl : i = ch.length := by omega
    rw [List.drop_length]
    refine loopT_inr ?_
    simp only [l108_0_3, lt_f, sumE, sS]
    simp [goC]
  | succ k ih =>
    intro i out h ho
    obtain ⟨e, he, hd⟩ := drop_at (l := ch) (i := i) (by omega)
    obtain ⟨he1, he2⟩ := hc e (List.mem_of_getElem? he)
    obtain ⟨r, hr⟩ := getD_some he1
    have hp := hl.psz (List.mem_of_getElem? hr)
    have hei : (ints ch)[i]? = some (e : Int) := by rw [List.getElem?_map, he]; rfl
    have hb : decide ((0 : Int) ≤ (i : Int) ∧ (i : Int) < (((ints ch).length : Nat) : Int)) = true := decide_eq_true (by rw [List.length_map]; omega)
    have hlt : decide ((i : Int) < ((ch.length : Nat) : Int)) = true := decide_eq_true (by omega)
    have hw : w64 ((i : Int) + 1) = ((i + 1 : Nat) : Int) := w64_nat (by omega)
    have hfl : (findN l x n e).length ≤ 16777216 := small hl (e + 1) (by have := findN_len hl x n e he1; rwa [show l.length - (e + 1) = l.length - e - 1 by omega])
    have hmul : 16777216 * i ≤ 16777216 * 24 := Nat.mul_le_mul_left _ (by omega)
    have hb2 : decide (out.length + (ints (findN l x n e)).length ≤ 4294967296) = true := decide_eq_true (by rw [List.length_map]; omega)
    rw [hd]
    unfold goC
    rw [hr]
    simp only
    cases hq : allM r.2.1 x
    · simp only [cond_false]
      rw [← ih (i + 1) out (by omega) (by omega)]
      refine loopT_inl ?_
      simp only [l108_0_3, hlt, hb, Int.toNat_natCast, hei, rowAt_G, rowG_nat hr, m30_eq r.2.1 x hp hx, hq, hw, sumE, sumE, sS]
    · simp only [cond_true]
      cases hcont : r.2.2.2.2.2.2.2.1
      · simp only [cond_false, List.append_nil]
        refine loopT_inr ?_
        simp only [l108_0_3, hlt, hb, Int.toNat_natCast, hei, rowAt_G, rowG_nat hr, m30_eq r.2.1 x hp hx, hq, hrc e he1 he2, hb2, hcont, sumE, sumE, sS]
      · simp only [cond_true]
        rw [show ints (findN l x n e ++ goC (findN l x n) l x (ch.drop (i + 1))) = ints (findN l x n e) ++ ints (goC (findN l x n) l x (ch.drop (i + 1))) from List.map_append, ← List.append_assoc,
          ← ih (i + 1) (out ++ ints (findN l x n e)) (by omega) (by rw [List.length_append, List.length_map]; omega)]
        refine loopT_inl ?_
        simp only [l108_0_3, hlt, hb, Int.toNat_natCast, hei, rowAt_G, rowG_nat hr, m30_eq r.2.1 x hp hx, hq, hrc e he1 he2, hb2, hcont, hw, sumE, sumE, sS]

theorem find108 (l : List RtT) (hl : TOK l) (x : List LT) (hx : LSz x) : ∀ (n i : Nat), i < l.length → l.length - i ≤ n → mr108 n ((l, (i : Int), x, ()), ()) = some ((), (ints (findN l x n i), ())) := by
  intro n
  induction n with
  | zero => intro i h1 h2; omega
  | succ n ih =>
    intro i hi hn
    have hlen := hl.len
    have q := m60_eq l (by omega) (i : Int)
    have q2 := find_loop108 l hl x hx n (mr108 n) (fun k h1 h2 => ih k h1 h2) (i : Int) (chN l (i : Int)) (chN_sorted l _) (fun k hk => by
      obtain ⟨a, b⟩ := ch_ok hl hk
      exact ⟨b, by omega⟩) (chN l (i : Int)).length 0 [] (by omega) (by simp)
    rw [List.drop_zero, List.nil_append] at q2
    show mb108 (mr108 n) ((l, (i : Int), x, ()), ()) = _
    unfold mb108
    simp only [q, sumE, sS]
    rw [List.length_map]
    refine bind_of _ (show loopT (l108_0_3 (mr108 n)) ((0, (i : Int), l, x, (((chN l (i : Int)).length : Nat) : Int), ()), ([], (ints (chN l (i : Int)), ()))) = _ from q2) ?_
    unfold findN
    by_cases h : goC (findN l x n) l x (chN l (i : Int)) = []
    · rw [if_pos h, h]; rfl
    · rw [if_neg h]
      have : (((ints (goC (findN l x n) l x (chN l (i : Int)))).length : Int) == 0) = false := beq_eq_false_iff_ne.2 (by
        rw [List.length_map]
        intro e
        exact h (List.length_eq_zero_iff.1 (by omega)))
      simp only [this, sumE, sS]

end Go.Proofs.YtcblbcpnfidndaaDoor

namespace Go.Proofs.YtcblbcpnfidndaaDoor
open Go Go.Abs Go.Lab
theorem ch_len {l : List RtT} (hl : TOK l) (i : Int) : (chN l i).length ≤ 24 := by
  have := List.length_filter_le (isCh l i) (List.range l.length)
  rw [List.length_range] at this
  have := hl.len
  unfold chN
  omega

theorem find_loop112 (l : List RtT) (hl : TOK l) (x : List LT) (hx : LSz x) (n : Nat) (rc : (((List RtT) × Int × List LT × Unit) × Unit) → Option (Unit × (List Int × Unit)))
    (hrc : ∀ k : Nat, k < l.length → l.length - k ≤ n → rc ((l, (k : Int), x, ()), ()) = some ((), (ints (findN l x n k), ()))) (o : Int) (ch : List Nat) (hcl : ch.length ≤ 24) (hc : ∀ k ∈ ch, k < l.length ∧ l.length - k ≤ n) :
    ∀ (k i : Nat) (out : List Int), i + k = ch.length → out.length ≤ 16777216 * i → loopT (l112_0_4 rc) (((i : Int), o, l, x, ()), (ints ch, (out, ()))) = some ((o, ()), (out ++ ints (goC (findN l x n) l x (ch.drop i)), ())) := by
  intro k
  induction k with
  | zero =>
    intro i out h ho
    obtain rfl : i = ch.length := by omega
    rw [List.drop_length]
    refine loopT_inr ?_
    have : decide ((ch.length : Int) < (((ints ch).length : Nat) : Int)) = false := decide_eq_false (by rw [List.length_map]; omega)
    simp only [l112_0_4, this, sumE, sS]
    simp [goC]
  | succ k ih =>
    intro i out h ho
    obtain ⟨e, he, hd⟩ := drop_at (l := ch) (i := i) (by omega)
    obtain ⟨he1, he2⟩ := hc e (List.mem_of_getElem? he)
    obtain ⟨r, hr⟩ := getD_some he1
    have hp := hl.psz (List.mem_of_getElem? hr)
    have hei : (ints ch)[i]? = some (e : Int) := by rw [List.getElem?_map, he]; rfl
    have hb : decide ((0 : Int) ≤ (i : Int) ∧ (i : Int) < (((ints ch).length : Nat) : Int)) = true := decide_eq_true (by rw [List.length_map]; omega)
    have hlt : decide ((i : Int) < (((ints ch).length : Nat) : Int)) = true := decide_eq_true (by rw [List.length_map]; omega)
    have hw : w64 ((i : Int) + 1) = ((i + 1 : Nat) : Int) := w64_nat (by omega)
    have hfl : (findN l x n e).length ≤ 16777216 := small hl (e + 1) (by have := findN_len hl x n e he1; rwa [show l.length - (e + 1) = l.length - e - 1 by omega])
    have hmul : 16777216 * i ≤ 16777216 * 24 := Nat.mul_le_mul_left _ (by omega)
    have hb2 : decide (out.length + (ints (findN l x n e)).length ≤ 4294967296) = true := decide_eq_true (by rw [List.length_map]; omega)
    rw [hd]
    unfold goC
    rw [hr]
    simp only
    cases hq : allM r.2.1 x
    · simp only [cond_false]
      rw [← ih (i + 1) out (by omega) (by omega)]
      refine loopT_inl ?_
      simp only [l112_0_4, hlt, hb, Int.toNat_natCast, hei, rowAt_G, rowG_nat hr, m31_eq r.2.1 x hp hx, hq, hw, sumE, sumE, sS]
    · simp only [cond_true]
      cases hcont : r.2.2.2.2.2.2.2.1
      · simp only [cond_false, List.append_nil]
        refine loopT_inr ?_
        simp only [l112_0_4, hlt, hb, Int.toNat_natCast, hei, rowAt_G, rowG_nat hr, m31_eq r.2.1 x hp hx, hq, hrc e he1 he2, hb2, hcont, sumE, sumE, sS]
      · simp only [cond_true]
        rw [show ints (findN l x n e ++ goC (findN l x n) l x (ch.drop (i + 1))) = ints (findN l x n e) ++ ints (goC (findN l x n) l x (ch.drop (i + 1))) from List.map_append, ← List.append_assoc,
          ← ih (i + 1) (out ++ ints (findN l x n e)) (by omega) (by rw [List.length_append, List.length_map]; omega)]
        refine loopT_inl ?_
        simp only [l112_0_4, hlt, hb, Int.toNat_natCast, hei, rowAt_G, rowG_nat hr, m31_eq r.2.1 x hp hx, hq, hrc e he1 he2, hb2, hcont, hw, sumE, sumE, sS]

theorem find112 (l : List RtT) (hl : TOK l) (x : List LT) (hx : LSz x) : ∀ (n i : Nat), i < l.length → l.length - i ≤ n → mr112 n ((l, (i : Int), x, ()), ()) = some ((), (ints (findN l x n i), ())) := by
  intro n
  induction n with
  | zero => intro i h1 h2; omega
  | succ n ih =>
    intro i hi hn
    have hlen := hl.len
    have q := m61_eq l (by omega) (i : Int)
    have q2 := find_loop112 l hl x hx n (mr112 n) (fun k h1 h2 => ih k h1 h2) (i : Int) (chN l (i : Int)) (ch_len hl _) (fun k hk => by
      obtain ⟨a, b⟩ := ch_ok hl hk
      exact ⟨b, by omega⟩) (chN l (i : Int)).length 0 [] (by omega) (by simp)
    rw [List.drop_zero, List.nil_append] at q2
    show mb112 (mr112 n) ((l, (i : Int), x, ()), ()) = _
    unfold mb112
    simp only [q, sumE, sS]
    refine bind_of _ (show loopT (l112_0_4 (mr112 n)) ((0, (i : Int), l, x, ()), (ints (chN l (i : Int)), ([], ()))) = _ from q2) ?_
    unfold findN
    by_cases h : goC (findN l x n) l x (chN l (i : Int)) = []
    · rw [if_pos h, h]; rfl
    · rw [if_neg h]
      have : (((ints (goC (findN l x n) l x (chN l (i : Int)))).length : Int) == 0) = false := beq_eq_false_iff_ne.2 (by
        rw [List.length_map]
        intro e
        exact h (List.length_eq_zero_iff.1 (by omega)))
      simp only [this, sumE, sS]

/-- The routes to which labels belong. -/
def findE (l : List RtT) (x : List LT) : List Nat := if chkT l = 0 ∧ validL x = true then findN l x 400 0 else []

theorem valid_z {x : List LT} (h : validL x = true) : LSz x := by
  obtain ⟨h1, h2⟩ := valid_mem h
  exact ⟨by omega, fun y hy => by have := valS_sz (h2 y hy).2.1; omega⟩

theorem m48_eq (l : List RtT) (hl : TsSz l) (x : List LT) (hx : KSz x) : m48 ((l, x, ()), ()) = some ((), (ints (findE l x), ())) := by
  unfold m48 findE
  by_cases h : chkT l = 0
  · have hb : (chkT l != 0) = false := by rw [h]; rfl
    have hk := tok_of h
    simp only [m49_eq l hl, m42_eq x hx, hb, sumE, sS]
    cases hv : validL x
    · simp only [sumE, sS]
      rw [if_neg (by simp)]; rfl
    · have q := find108 l hk x (valid_z hv) 400 0 hk.pos (by have := hk.len; omega)
      simp only [sumE, sS]
      rw [if_pos ⟨h, trivial⟩]
      exact bind_of _ q rfl
  · have hb : (chkT l != 0) = true := bne_iff_ne.2 h
    simp only [m49_eq l hl, hb, sumE, sS]
    rw [if_neg (fun e => h e.1)]; rfl

theorem m56_eq (l : List RtT) (hl : TsSz l) (x : List LT) (hx : KSz x) : m56 ((l, x, ()), ()) = some ((), (ints (findE l x), ())) := by
  unfold m56 findE
  by_cases h : chkT l = 0
  · have hb : (chkT l != 0) = false := by rw [h]; rfl
    have hk := tok_of h
    simp only [m55_eq l hl, m43_eq x hx, hb, sumE, sS]
    cases hv : validL x
    · simp only [sumE, sS]
      rw [if_neg (by simp)]; rfl
    · have q := find112 l hk x (valid_z hv) 400 0 hk.pos (by have := hk.len; omega)
      simp only [sumE, sS]
      rw [if_pos ⟨h, trivial⟩]
      exact bind_of _ q rfl
  · have hb : (chkT l != 0) = true := bne_iff_ne.2 h
    simp only [m55_eq l hl, hb, sumE, sS]
    rw [if_neg (fun e => h e.1)]; rfl

/-! ### Paths -/
def pathN (l : List RtT) : Nat → Nat → List Nat
  | 0, _ => []
  | n + 1, i => if i = 0 then [0] else match l[i]? with | some r => pathN l n r.1.toNat ++ [i] | none => []

def pathE (l : List RtT) (i : Int) : List Nat := if chkT l = 0 ∧ 0 ≤ i ∧ i < (l.length : Int) then pathN l 400 i.toNat else []

theorem up_loop (l : List RtT) (hl : TOK l) : ∀ (n i : Nat) (out : List Int), i < n → i < l.length → out.length + i ≤ 1000 →
    loopT l51_0_4 (((i : Int), l, ()), (out, ())) = some ((), (out ++ (ints (pathN l n i)).reverse, ())) := by
  intro n
  induction n with
  | zero => intro i out h; omega
  | succ n ih =>
    intro i out hn hi ho
    obtain ⟨r, hr⟩ := getD_some hi
    have h0 : decide ((i : Int) ≥ 0) = true := decide_eq_true (by omega)
    have hb : decide (out.length + [(i : Int)].length ≤ 4294967296) = true := decide_eq_true (by simp; omega)
    unfold pathN
    by_cases hz : i = 0
    · subst hz
      rw [if_pos rfl]
      have hp := (hl.root r hr).1
      rw [loopT_inl (a' := ((r.1, l, ()), (out ++ [((0 : Nat) : Int)], ()))) (by simp only [l51_0_4, h0, hb, rowAt_G, rowG_nat hr, sumE, sS])]
      rw [hp]
      exact loopT_inr (by simp only [l51_0_4, show decide ((-1 : Int) ≥ 0) = false from rfl, sumE, sS]; rfl)
    · rw [if_neg hz, hr]
      obtain ⟨p1, p2⟩ := hl.par i r hr (by omega)
      have q := ih r.1.toNat (out ++ [(i : Int)]) (by omega) (by omega) (by simp; omega)
      rw [show ((r.1.toNat : Nat) : Int) = r.1 by omega] at q
      simp only
      rw [show (ints (pathN l n r.1.toNat ++ [i])).reverse = (i : Int) :: (ints (pathN l n r.1.toNat)).reverse by simp [ints], show out ++ (i : Int) :: (ints (pathN l n r.1.toNat)).reverse = (out ++ [(i : Int)]) ++ (ints (pathN l n r.1.toNat)).reverse by simp, ← q]
      exact loopT_inl (by simp only [l51_0_4, h0, hb, rowAt_G, rowG_nat hr, sumE, sS])

theorem rev_loop (o : List Int) (ho : o.length ≤ 1048576) : loopT l51_1_1 ((w64 ((o.length : Int) - 1), 0, ()), (o, ())) = some ((), (o.reverse, ())) := by
  have key : ∀ (m k : Nat) (c : List Int), o.length ≤ 2 * k + m → k ≤ o.length → c.length = o.length → (∀ p, p < o.length → c[p]? = if p < k ∨ o.length ≤ p + k then o[o.length - 1 - p]? else o[p]?) →
      loopT l51_1_1 (((o.length : Int) - 1 - (k : Int), (k : Int), ()), (c, ())) = some ((), (o.reverse, ())) := by
    intro m
    induction m using Nat.strongRecOn with
    | _ m ih =>
      intro k c hm hk hc hp
      by_cases hlt : (k : Int) < (o.length : Int) - 1 - (k : Int)
      · have h1 : decide ((k : Int) < ((o.length - 1 - k : Nat) : Int)) = true := decide_eq_true (by omega)
        have hj : ((o.length : Int) - 1 - (k : Int)) = ((o.length - 1 - k : Nat) : Int) := by omega
        have hkl : k < c.length := by omega
        have hjl : o.length - 1 - k < c.length := by omega
        obtain ⟨a, ha⟩ := getD_some hkl
        obtain ⟨b, hb⟩ := getD_some hjl
        have b1 : decide ((0 : Int) ≤ ((o.length - 1 - k : Nat) : Int) ∧ ((o.length - 1 - k : Nat) : Int) < (c.length : Int)) = true := decide_eq_true (by omega)
        have b2 : decide ((0 : Int) ≤ (k : Int) ∧ (k : Int) < (c.length : Int)) = true := decide_eq_true (by omega)
        have b3 : decide (k < c.length) = true := decide_eq_true hkl
        have b4 : decide ((0 : Int) ≤ ((o.length - 1 - k : Nat) : Int) ∧ ((o.length - 1 - k : Nat) : Int) < ((c.set k b).length : Int)) = true := decide_eq_true (by rw [List.length_set]; omega)
        have b5 : decide (o.length - 1 - k < (c.set k b).length) = true := decide_eq_true (by rw [List.length_set]; exact hjl)
        have w1 : w64 (((o.length - 1 - k : Nat) : Int) - 1) = (o.length : Int) - 1 - ((k + 1 : Nat) : Int) := by rw [w64_id (by omega) (by omega)]; omega
        have w2 : w64 ((k : Int) + 1) = ((k + 1 : Nat) : Int) := w64_nat (by omega)
        rw [← ih (m - 2) (by omega) (k + 1) ((c.set k b).set (o.length - 1 - k) a) (by omega) (by omega) (by simp [hc]) (fun p hpl => ?_)]
        · refine loopT_inl ?_
          simp only [l51_1_1, hj, h1, b1, Int.toNat_natCast, hb, b2, ha, b3, b4, b5, w1, w2, sumE, sS]
        · rw [List.getElem?_set, List.getElem?_set]
          have pa := hp k (by omega)
          have pb := hp (o.length - 1 - k) (by omega)
          rw [if_neg (by omega)] at pa pb
          by_cases e1 : o.length - 1 - k = p
          · rw [if_pos e1, if_pos (by rw [List.length_set]; exact hjl), if_pos (by omega), ← ha, pa]
            congr 1; omega
          · rw [if_neg e1]
            by_cases e2 : k = p
            · rw [if_pos e2, if_pos hkl, if_pos (by omega), ← hb, pb]
              congr 1; omega
            · rw [if_neg e2, hp p hpl]
              by_cases e3 : p < k ∨ o.length ≤ p + k
              · rw [if_pos e3, if_pos (by omega)]
              · rw [if_neg e3, if_neg (by omega)]
      · have h1 : decide ((k : Int) < (o.length : Int) - 1 - (k : Int)) = false := decide_eq_false hlt
        have : c = o.reverse := by
          apply List.ext_getElem?
          intro p
          by_cases hpl : p < o.length
          · rw [hp p hpl, List.getElem?_reverse hpl]
            by_cases e3 : p < k ∨ o.length ≤ p + k
            · rw [if_pos e3]
            · rw [if_neg e3]
              congr 1; omega
          · rw [List.getElem?_eq_none (by omega), List.getElem?_eq_none (by rw [List.length_reverse]; omega)]
        refine loopT_inr ?_
        simp only [l51_1_1, h1, this, sumE, sS]
  have := key o.length 0 o (by omega) (by omega) rfl (fun p hp => by rw [if_neg (by omega)])
  by_cases h0 : o.length = 0
  · rw [List.length_eq_zero_iff.1 h0]
    exact loopT_inr rfl
  · rw [w64_id (by omega) (by omega)]
    rw [show ((o.length : Int) - 1 - ((0 : Nat) : Int)) = (o.length : Int) - 1 by omega] at this
    exact this

theorem pathN_len (l : List RtT) : ∀ (n i : Nat), (pathN l n i).length ≤ n
  | 0, _ => Nat.le_refl _
  | n + 1, i => by
    unfold pathN
    split
    · simp
    · split
      · rw [List.length_append]; rename_i r _; have := pathN_len l n r.1.toNat; simp; omega
      · simp

theorem m51_eq (l : List RtT) (hl : TsSz l) (i : Int) : m51 ((l, i, ()), ()) = some ((), (ints (pathE l i), ())) := by
  unfold m51 pathE
  by_cases h1 : i < 0
  · simp only [decide_eq_true h1, sumE, sS]
    rw [if_neg (by omega)]; rfl
  · by_cases h2 : i ≥ (l.length : Int)
    · simp only [decide_eq_false h1, decide_eq_true h2, sumE, sS]
      rw [if_neg (by omega)]; rfl
    · by_cases h : chkT l = 0
      · have hb : (chkT l != 0) = false := by rw [h]; rfl
        have hk := tok_of h
        have hlen := hk.len
        simp only [decide_eq_false h1, decide_eq_false h2, m49_eq l hl, hb, sumE, sS]
        rw [if_pos ⟨h, by omega, by omega⟩]
        have q := up_loop l hk 400 i.toNat [] (by omega) (by omega) (by simp; omega)
        rw [show ((i.toNat : Nat) : Int) = i by omega, List.nil_append] at q
        refine bind_of _ q ?_
        have hpl := pathN_len l 400 i.toNat
        have q2 := rev_loop (ints (pathN l 400 i.toNat)).reverse (by simp; omega)
        refine bind_of _ q2 ?_
        rw [List.reverse_reverse, decide_eq_true (by rw [List.length_reverse])]
        rfl
      · have hb : (chkT l != 0) = true := bne_iff_ne.2 h
        simp only [decide_eq_false h1, decide_eq_false h2, m49_eq l hl, hb, sumE, sS]
        rw [if_neg (fun e => h e.1)]; rfl

theorem path59 (l : List RtT) (hl : TsSz l) (h : chkT l = 0) : ∀ (n i : Nat), i < n → i < l.length → n ≤ 400 → mr59 n ((l, (i : Int), ()), ()) = some ((), (ints (pathN l n i), ())) := by
  intro n
  induction n with
  | zero => intro i h; omega
  | succ n ih =>
    intro i hn hi h400
    have hb : (chkT l != 0) = false := by rw [h]; rfl
    have hk := tok_of h
    have d1 : decide ((i : Int) < 0) = false := decide_eq_false (by omega)
    have d2 : decide ((i : Int) ≥ (l.length : Int)) = false := decide_eq_false (by omega)
    show mb59 (mr59 n) ((l, (i : Int), ()), ()) = _
    unfold mb59 pathN
    simp only [m55_eq l hl, hb, d1, d2, sumE, sS]
    by_cases hz : i = 0
    · subst hz; rfl
    · obtain ⟨r, hr⟩ := getD_some hi
      obtain ⟨p1, p2⟩ := hk.par i r hr (by omega)
      have q := ih r.1.toNat (by omega) (by omega) (by omega)
      rw [show ((r.1.toNat : Nat) : Int) = r.1 by omega] at q
      have hpl := pathN_len l n r.1.toNat
      have d3 : decide ((ints (pathN l n r.1.toNat)).length + [(i : Int)].length ≤ 4294967296) = true := decide_eq_true (by simp; omega)
      rw [if_neg hz, hr]
      simp only [beq_eq_false_iff_ne.2 (show (i : Int) ≠ 0 by omega), rowAt_G, rowG_nat hr, q, d3, sumE, sS]
      simp [ints]

theorem m59_eq (l : List RtT) (hl : TsSz l) (i : Int) : m59 ((l, i, ()), ()) = some ((), (ints (pathE l i), ())) := by
  unfold pathE
  by_cases h : chkT l = 0
  · by_cases hi : 0 ≤ i ∧ i < (l.length : Int)
    · rw [if_pos ⟨h, hi⟩]
      have hlen := (tok_of h).len
      have := path59 l hl h 400 i.toNat (by omega) (by omega) (by omega)
      rw [show ((i.toNat : Nat) : Int) = i by omega] at this
      exact this
    · rw [if_neg (fun e => hi e.2)]
      have hb : (chkT l != 0) = false := by rw [h]; rfl
      show mb59 (mr59 399) ((l, i, ()), ()) = _
      unfold mb59
      by_cases h1 : i < 0
      · simp only [m55_eq l hl, hb, decide_eq_true h1, sumE, sS]; rfl
      · have h2 : i ≥ (l.length : Int) := by omega
        simp only [m55_eq l hl, hb, decide_eq_false h1, decide_eq_true h2, sumE, sS]; rfl
  · rw [if_neg (fun e => h e.1)]
    have hb : (chkT l != 0) = true := bne_iff_ne.2 h
    show mb59 (mr59 399) ((l, i, ()), ()) = _
    unfold mb59
    simp only [m55_eq l hl, hb, sumE, sS]; rfl

/-! ### Keys -/
def keyE (r : RtT) (x : List LT) : ByteArray := if validL x then textE (pickL r.2.2.2.1 x) else ByteArray.empty

theorem pick_sub (ks : List ByteArray) (x : List LT) : (pickL ks x).Sublist x := List.filter_sublist

theorem pick_k {ks : List ByteArray} {x : List LT} (h : KSz x) : KSz (pickL ks x) := ⟨Nat.le_trans (pick_sub ks x).length_le h.1, fun y hy => h.2 y ((pick_sub ks x).subset hy)⟩

theorem m57_eq (r : RtT) (x : List LT) (hx : KSz x) (hr : r.2.2.2.1.length ≤ big) : m57 ((r, x, ()), ()) = some ((keyE r x, ()), ()) := by
  unfold m57 keyE
  simp only [m42_eq x hx, sumE, sS]
  cases hv : validL x
  · rfl
  · have := (valid_mem hv).1
    simp only [m45_eq x r.2.2.2.1 (by omega) hr, m36_eq _ (pick_k hx), if_true, sumE, sS]

theorem m58_eq (r : RtT) (x : List LT) (hx : KSz x) (hr : r.2.2.2.1.length ≤ big) : m58 ((r, x, ()), ()) = some ((keyE r x, ()), ()) := by
  unfold m58 keyE
  simp only [m43_eq x hx, sumE, sS]
  cases hv : validL x
  · rfl
  · have := (valid_mem hv).1
    simp only [m46_eq x r.2.2.2.1 (by omega) hr, m41_eq _ (pick_k hx), if_true, sumE, sS]

/-! ### Rows that ascend -/
theorem asc_keys : ∀ {l : List ByteArray} {p : Option ByteArray}, (∀ k ∈ l, keyS k = true) → l.Pairwise (fun a b => leB b a = false) → (∀ q, p = some q → ∀ k ∈ l, leB k q = false) → okP badK p l = true
  | [], _, _, _, _ => rfl
  | k :: l, p, h1, h2, h3 => by
    unfold okP
    have h2 := List.pairwise_cons.1 h2
    rw [asc_keys (p := some k) (fun y hy => h1 y (List.mem_cons_of_mem _ hy)) h2.2 (fun q hq y hy => by cases hq; exact h2.1 y hy), Bool.and_true]
    unfold badK
    rw [h1 k (List.mem_cons_self ..)]
    cases p with
    | none => rfl
    | some q => simp only; rw [h3 q rfl k (List.mem_cons_self ..)]; rfl

theorem keys4_asc : keys4.Pairwise (fun a b => leB b a = false) := by decide +kernel

theorem sub_keys {l : List ByteArray} (h : l.Sublist keys4) : keysOK l = true := asc_keys (fun k hk => (keys4_ok k (h.subset hk)).1) (keys4_asc.sublist h) (fun q hq => by cases hq)

theorem from_k {l : List LT} (h : FromKeys keys4 l) : KSz l := by
  have g := from_good h
  exact ⟨by have := g.1; unfold big; omega, fun x hx => by have := g.2 x hx; unfold big; omega⟩

/-! ### The dice's routes -/
def GoodT (r : RtT) : Prop := (r.2.1.length ≤ 8 ∧ ∀ m ∈ r.2.1, GoodM m) ∧ r.2.2.2.1.Sublist keys4 ∧ chkRange r = false ∧ r.2.2.2.2.2.1 ≤ 1000 ∧ 0 ≤ r.2.2.2.2.2.1 ∧ 0 ≤ r.2.2.2.2.2.2.1 ∧ r.2.2.2.2.2.2.1 ≤ 10000

theorem GoodT.z {r : RtT} (h : GoodT r) : TrSz r := by
  obtain ⟨⟨h1, h2⟩, h3, _⟩ := h
  have h4 := h3.length_le
  rw [show keys4.length = 4 from rfl] at h4
  exact ⟨⟨by unfold big; omega, fun m hm => (h2 m hm).z⟩, by unfold big; omega, fun k hk => by have := (keys4_ok k (h3.subset hk)).2; unfold big; omega⟩

theorem GoodT.one {r : RtT} (h : GoodT r) : chkOne r = 0 := by
  obtain ⟨⟨h1, h2⟩, h3, h4, _⟩ := h
  have h5 := h3.length_le
  rw [show keys4.length = 4 from rfl] at h5
  unfold chkOne
  rw [decide_eq_false (show ¬ (r.2.1.length : Int) > 8 by omega), decide_eq_false (show ¬ (r.2.2.2.1.length : Int) > 12 by omega), List.all_eq_true.2 (fun m hm => (h2 m hm).1), sub_keys h3, h4]
  rfl

theorem goI_of {E : Type} {chk : Nat → E → Int} : ∀ {l : List E} {i : Nat}, (∀ (k : Nat) (e : E), l[k]? = some e → chk (i + k) e = 0) → goI chk i l = 0
  | [], _, _ => rfl
  | x :: r, i, h => by
    unfold goI
    have h0 := h 0 x rfl
    rw [Nat.add_zero] at h0
    rw [h0]
    exact goI_of (i := i + 1) fun k e he => by
      have := h (k + 1) e (by simpa using he)
      rwa [show i + (k + 1) = i + 1 + k by omega] at this

/-- Routes of the dice. -/
structure GoodTs (l : List RtT) : Prop where
  pos : 0 < l.length
  len : l.length ≤ 24
  root : ∀ r, l[0]? = some r → r.1 = -1 ∧ r.2.1 = []
  par : ∀ (k : Nat) (r : RtT), l[k]? = some r → 0 < k → 0 ≤ r.1 ∧ r.1 < (k : Int)
  good : ∀ r ∈ l, GoodT r

theorem chk_of {l : List RtT} (pos : 0 < l.length) (len : l.length ≤ 24) (root : ∀ r, l[0]? = some r → r.1 = -1 ∧ r.2.1 = []) (par : ∀ (k : Nat) (r : RtT), l[k]? = some r → 0 < k → 0 ≤ r.1 ∧ r.1 < (k : Int)) (one : ∀ r ∈ l, chkOne r = 0) : chkT l = 0 := by
  unfold chkT
  rw [beq_eq_false_iff_ne.2 (show (l.length : Int) ≠ 0 by omega), decide_eq_false (show ¬ (l.length : Int) > 24 by omega), goI_of (fun k e he => ?_)]
  · obtain ⟨r, hr⟩ := getD_some pos
    rw [hr]
    simp only [(root r hr).2]
    rfl
  · rw [Nat.zero_add]
    unfold chkI badPar
    have : (if k = 0 then e.1 != -1 else decide (e.1 < 0) || decide (e.1 ≥ (k : Int))) = false := by
      by_cases h0 : k = 0
      · subst h0; rw [if_pos rfl, (root e he).1]; rfl
      · rw [if_neg h0]
        obtain ⟨a, b⟩ := par k e he (by omega)
        rw [decide_eq_false (by omega), decide_eq_false (by omega)]; rfl
    rw [this]
    exact one e (List.mem_of_getElem? he)

theorem GoodTs.chk {l : List RtT} (h : GoodTs l) : chkT l = 0 := chk_of h.pos h.len h.root h.par (fun r hr => (h.good r hr).one)

theorem GoodTs.z {l : List RtT} (h : GoodTs l) : TsSz l := ⟨by have := h.len; omega, fun r hr => (h.good r hr).z⟩

theorem mem3 {x a b c : Int} (h : x ∈ [a, b, c]) : x = a ∨ x = b ∨ x = c := by simpa using h

theorem mem4 {x a b c d : Int} (h : x ∈ [a, b, c, d]) : x = a ∨ x = b ∨ x = c ∨ x = d := by simpa using h

theorem route_spec (d : Dice) (hd : DOK d) : ∃ (p w i r : Int) (c : Bool) (by_ : List ByteArray) (d' : Dice), m62 ((), ((d, ()), ())) = some ((), ((d', ()), (((-1), p, w, i, r, c, ()), ()), by_, ())) ∧ DOK d' ∧
    ∀ (q : Int) (ms : List MT), (ms.length ≤ 8 ∧ ∀ m ∈ ms, GoodM m) → GoodT (q, ms, p, by_, w, i, r, c, ()) := by
  obtain ⟨a1, d1, e1, hd1, b1⟩ := pick_spec [0, 30, 10, 60] d hd (by simp) (by simp)
  obtain ⟨a2, d2, e2, hd2, b2⟩ := pick_spec [20, 300, 40] d1 hd1 (by simp) (by simp)
  obtain ⟨a3, d3, e3, hd3, b3, _⟩ := next_spec 3 d2 hd2 (by omega)
  have b3 := b3 (by omega)
  obtain ⟨ks, d4, e4, hd4, hk⟩ := keysD_spec d3 hd3
  obtain ⟨a5, d5, e5, hd5, b5⟩ := pick_spec [0, 3600, 100] d4 hd4 (by simp) (by simp)
  obtain ⟨c, d6, e6, hd6⟩ := bool_spec 2 d5 hd5 (by omega) (by omega)
  have b1 := mem4 b1
  have b2 := mem3 b2
  have b5 := mem3 b5
  have w1 : w64 (a1 + a2) = a1 + a2 := w64_id (by omega) (by omega)
  have w2 : w64 (a1 + a2 + a5) = a1 + a2 + a5 := w64_id (by omega) (by omega)
  refine ⟨a3, a1, a1 + a2, a1 + a2 + a5, c, ks, d6, ?_, hd6, fun q ms hms => ⟨hms, hk, ?_, ?_, ?_, ?_, ?_⟩⟩
  · unfold m62
    simp only [e1, e2, e3, e4, e5, e6, w1, w2, sumE, sS]
  · unfold chkRange
    simp only [Bool.or_eq_false_iff]
    exact ⟨decide_eq_false (by omega), decide_eq_false (by omega), decide_eq_false (by omega), decide_eq_false (by omega), decide_eq_false (by omega), beq_eq_false_iff_ne.2 (by omega)⟩
  all_goals simp only; omega

theorem routes_loop : ∀ (n : Nat) (i : Int) (d : Dice) (l : List RtT), DOK d → i = n → l.length + n ≤ 20 → GoodTs l →
    ∃ (l' : List RtT) (d' : Dice), loopT l53_0_3 ((i, ()), ((d, ()), (l, ()))) = some ((), ((d', ()), (l', ()))) ∧ DOK d' ∧ GoodTs l' ∧ l'.length = l.length + n := by
  intro n
  induction n with
  | zero =>
    intro i d l hd hi hl hg
    refine ⟨l, d, loopT_inr ?_, hd, hg, rfl⟩
    have : decide (i > 0) = false := decide_eq_false (by omega)
    simp only [l53_0_3, this, sumE, sS]
  | succ n ih =>
    intro i d l hd hi hl hg
    have hpos := hg.pos
    obtain ⟨p, w, t, r, c, ks, d1, e1, hd1, hr⟩ := route_spec d hd
    obtain ⟨a, d2, e2, hd2, b2, _⟩ := next_spec ((l.length : Nat) : Int) d1 hd1 (by omega)
    have b2 := b2 (by omega)
    obtain ⟨ms, d3, e3, hd3, hn, hm⟩ := matchers_spec 2 d2 hd2 (by omega) (by omega)
    have hgood := hr a ms ⟨by omega, hm⟩
    obtain ⟨l', d', e4, hd', hl', hlen⟩ := ih (i - 1) d3 (l ++ [(a, ms, p, ks, w, t, r, c, ())]) hd3 (by omega) (by simp; omega) ⟨by simp, by simp; omega, fun y hr => hg.root y (by rwa [List.getElem?_append_left hpos] at hr), fun k y hr h0 => by
        by_cases hk : k < l.length
        · rw [List.getElem?_append_left hk] at hr
          exact hg.par k y hr h0
        · have : k < (l ++ [(a, ms, p, ks, w, t, r, c, ())]).length := (List.getElem?_eq_some_iff.1 hr).1
          simp at this
          obtain rfl : k = l.length := by omega
          rw [List.getElem?_append_right (Nat.le_refl _), Nat.sub_self] at hr
          simp at hr
          subst hr
          exact ⟨b2.1, b2.2⟩, fun x hx => by
        rcases List.mem_append.1 hx with h | h
        · exact hg.good x h
        · simp only [List.mem_singleton] at h; subst h; exact hgood⟩
    refine ⟨l', d', ?_, hd', hl', by rw [hlen]; simp; omega⟩
    rw [← e4]
    refine loopT_inl ?_
    have h0 : decide (i > 0) = true := decide_eq_true (by omega)
    have h1 : ∀ z : RtT, decide (l.length + ([z] : List RtT).length ≤ 4294967296) = true := fun z => decide_eq_true (by simp; omega)
    simp only [l53_0_3, h0, e1, e2, e3, h1, sumE, sS, w64_id (x := i - 1) (by omega) (by omega)]

theorem routes_spec (n : Int) (d : Dice) (hd : DOK d) (h0 : 0 ≤ n) (h1 : n ≤ 10) : ∃ (l : List RtT) (d' : Dice), m53 ((n, ()), ((d, ()), ())) = some ((), ((d', ()), (l, ()))) ∧ DOK d' ∧ GoodTs l := by
  obtain ⟨p, w, t, r, c, ks, d1, e1, hd1, hr⟩ := route_spec d hd
  obtain ⟨a, d2, e2, hd2, b2, _⟩ := next_spec (n + 1) d1 hd1 (by omega)
  have b2 := b2 (by omega)
  have hgood := hr (-1) [] ⟨by simp, fun m hm => by cases hm⟩
  obtain ⟨l', d', e3, hd', hl', hlen⟩ := routes_loop a.toNat a d2 [((-1), [], p, ks, w, t, r, c, ())] hd2 (by omega) (by simp; omega) ⟨by simp, by simp, fun r hr => by simp at hr; subst hr; exact ⟨rfl, rfl⟩, fun k r hr h0 => by
    have := (List.getElem?_eq_some_iff.1 hr).1
    simp at this; omega, fun x hx => by simp only [List.mem_singleton] at hx; subst hx; exact hgood⟩
  refine ⟨l', d', ?_, hd', hl'⟩
  unfold m53
  simp only [e1, w64_id (x := n + 1) (by omega) (by omega), e2, e3, sumE, sS]

end Go.Proofs.YtcblbcpnfidndaaDoor

namespace Go.Proofs.YtcblbcpnfidndaaDoor
open Go Go.Abs Go.Lab
theorem bind_P {A B : Type} {o : Option A} {f : A → Option B} {y : Option B} (P : A → Prop) (h : ∃ a, o = some a ∧ P a) (h2 : ∀ a, P a → f a = y) : o.bind f = y := by
  obtain ⟨a, rfl, ha⟩ := h
  exact h2 a ha

theorem bind_in {A B C : Type} {o : Option A} {g : A → Option B} {f : B → Option C} {y : Option C} (x : A) (h : o = some x) (h2 : (g x).bind f = y) : (o.bind g).bind f = y := by
  rw [h]
  exact h2

theorem at3' {A : Type} (a b c : A) {i : Nat} (h : i < 3) : ∃ e, [a, b, c][i]? = some e ∧ e ∈ [a, b, c] := by
  obtain ⟨e, he⟩ := getD_some (l := [a, b, c]) (i := i) h
  exact ⟨e, he, List.mem_of_getElem? he⟩

theorem same97 (a : List Int) (ha : a.length ≤ 1048576 * 1024) : loopT l9_7_4 ((0, ((a.length : Nat) : Int), ()), (a, a, ())) = some (.inr ((), (a, a, ()))) := by
  refine loop_thru (f := l9_7_4) a (fun i => (((i : Int), ((a.length : Nat) : Int), ()), (a, a, ()))) _ ?_ ?_
  · intro i e he hi
    have hw : w64 ((i : Int) + 1) = ((i + 1 : Nat) : Int) := w64_nat (by omega)
    have hb : decide ((0 : Int) ≤ (i : Int) ∧ (i : Int) < ((a.length : Nat) : Int)) = true := decide_eq_true (by omega)
    simp only [l9_7_4, lt_t hi, hb, Int.toNat_natCast, he, hw, sumE, sS]
  · simp only [l9_7_4, lt_f, sumE, sS]

theorem same98 (a : List Int) (ha : a.length ≤ 1048576 * 1024) : loopT l9_8_4 ((0, ((a.length : Nat) : Int), ()), (a, a, ())) = some (.inr ((), (a, a, ()))) := by
  refine loop_thru (f := l9_8_4) a (fun i => (((i : Int), ((a.length : Nat) : Int), ()), (a, a, ()))) _ ?_ ?_
  · intro i e he hi
    have hw : w64 ((i : Int) + 1) = ((i + 1 : Nat) : Int) := w64_nat (by omega)
    have hb : decide ((0 : Int) ≤ (i : Int) ∧ (i : Int) < ((a.length : Nat) : Int)) = true := decide_eq_true (by omega)
    simp only [l9_8_4, lt_t hi, hb, Int.toNat_natCast, he, hw, sumE, sS]
  · simp only [l9_8_4, lt_f, sumE, sS]

theorem same99 (a : List Int) (ha : a.length ≤ 1048576 * 1024) : loopT l9_9_4 ((0, ((a.length : Nat) : Int), ()), (a, a, ())) = some (.inr ((), (a, a, ()))) := by
  refine loop_thru (f := l9_9_4) a (fun i => (((i : Int), ((a.length : Nat) : Int), ()), (a, a, ()))) _ ?_ ?_
  · intro i e he hi
    have hw : w64 ((i : Int) + 1) = ((i + 1 : Nat) : Int) := w64_nat (by omega)
    have hb : decide ((0 : Int) ≤ (i : Int) ∧ (i : Int) < ((a.length : Nat) : Int)) = true := decide_eq_true (by omega)
    simp only [l9_9_4, lt_t hi, hb, Int.toNat_natCast, he, hw, sumE, sS]
  · simp only [l9_9_4, lt_f, sumE, sS]

theorem findE_len (l : List RtT) (x : List LT) : (ints (findE l x)).length ≤ 1048576 * 1024 := by
  rw [List.length_map]
  unfold findE
  split
  · rename_i h
    have tl := tok_of h.1
    have := small tl (a := findN l x 400 0) 1 (findN_len tl x 400 0 tl.pos)
    omega
  · simp

theorem pathE_len (l : List RtT) (i : Int) : (ints (pathE l i)).length ≤ 1048576 * 1024 := by
  rw [List.length_map]
  unfold pathE
  split
  · have := pathN_len l 400 i.toNat; omega
  · simp

theorem chE_len (l : List RtT) (hl : l.length ≤ 1048576) (i : Int) : (ints (chN l i)).length ≤ 1048576 * 1024 := by
  rw [List.length_map]
  have := List.length_filter_le (isCh l i) (List.range l.length)
  rw [List.length_range] at this
  unfold chN; omega

theorem loop9a (L : List RtT) (hL : TsSz L) (y0 y1 y2 labels : List LT) (hy : ∀ y ∈ [y0, y1, y2], KSz y) (ii : Int) (lists : List RtT × List RtT × List RtT × Unit) (o : Int) (d : Dice) :
    loopT l9_0_11 ((0, L, (y0, y1, y2, ()), ii, labels, lists, o, ()), ((d, ()), ())) = some (.inr ((L, ii, labels, lists, o, ()), ((d, ()), ()))) := by
  refine loop_thru (f := l9_0_11) [y0, y1, y2] (fun i => (((i : Int), L, (y0, y1, y2, ()), ii, labels, lists, o, ()), ((d, ()), ()))) _ ?_ rfl
  intro i e he hi
  have hi3 : i < 3 := hi
  have hw : w64 ((i : Int) + 1) = ((i + 1 : Nat) : Int) := w64_nat (by omega)
  have hz := hy e (List.mem_of_getElem? he)
  have hL1 := hL.1
  have q := same97 (ints (findE L e)) (findE_len L e)
  simp only [l9_0_11, decide_eq_true (show (i : Int) < 3 by omega), rowAt_G, rowG_nat he, m48_eq L hL e hz, m56_eq L hL e hz, sumE, sS]
  refine bind_in _ q ?_
  simp only [sumE, decide_true, Bool.and_self, cond_true, hw]
  by_cases h0 : (L.length : Int) > 0
  · obtain ⟨r, hr⟩ := getD_some (l := L) (i := L.length - 1) (by omega)
    have hw1 : w64 ((L.length : Int) - 1) = ((L.length - 1 : Nat) : Int) := by rw [w64_id (by omega) (by omega)]; omega
    have hb := (hL.2 r (List.mem_of_getElem? hr)).2.1
    simp only [decide_eq_true h0, hw1, rowG_nat hr, m57_eq r e hz hb, m58_eq r e hz hb, hw, sumE, sS]
  · simp only [decide_eq_false h0, hw, sumE, sS]

theorem loop9b (L : List RtT) (hL : TsSz L) (ii k : Int) (labels : List LT) (lists : List RtT × List RtT × List RtT × Unit) (o : Int) (d : Dice) :
    loopT l9_0_17 ((0, L, (ii, k, ()), ii, labels, lists, o, ()), ((d, ()), ())) = some (.inr ((ii, labels, lists, o, ()), ((d, ()), ()))) := by
  refine loop_thru (f := l9_0_17) [ii, k] (fun i => (((i : Int), L, (ii, k, ()), ii, labels, lists, o, ()), ((d, ()), ()))) _ ?_ rfl
  intro i e he hi
  have hi2 : i < 2 := hi
  have hw : w64 ((i : Int) + 1) = ((i + 1 : Nat) : Int) := w64_nat (by omega)
  have hL1 := hL.1
  have q := same98 (ints (pathE L e)) (pathE_len L e)
  have q2 := same99 (ints (chN L e)) (chE_len L hL1 e)
  simp only [l9_0_17, decide_eq_true (show (i : Int) < 2 by omega), rowAt_G, rowG_nat he, m51_eq L hL e, m59_eq L hL e, sumE, sS]
  refine bind_in _ q ?_
  simp only [sumE, decide_true, Bool.and_self, cond_true]
  simp only [m60_eq L hL1 e, m61_eq L hL1 e, sumE, sS]
  refine bind_in _ q2 ?_
  simp only [sumE, decide_true, Bool.and_self, cond_true, hw, sumE, sS]

theorem loop9c (ii : Int) (labels : List LT) (hl : KSz labels) (a b c : List RtT) (hr : ∀ l ∈ [a, b, c], TsSz l) (d : Dice) (hd : DOK d) :
    loopT l9_0_6 ((0, ii, labels, (a, b, c, ()), ()), ((d, ()), ())) = some (.inr ((), ())) := by
  refine drop_e (loop_ind (f := l9_0_6) (Q := fun r => r = .inr ((), ())) (fun i st => ∃ d, DOK d ∧ st = (((i : Int), ii, labels, (a, b, c, ()), ()), ((d, ()), ()))) 3 ?_ ?_ _ ⟨d, hd, rfl⟩)
  · rintro i _ hi ⟨d, hd, rfl⟩
    obtain ⟨L, he, hm⟩ := at3' a b c hi
    have hL := hr L hm
    obtain ⟨y1, d1, e1, hd1, hy1⟩ := labels_spec d hd
    obtain ⟨y2, d2, e2, hd2, hy2⟩ := labels_spec d1 hd1
    obtain ⟨k, d3, e3, hd3, _⟩ := next_spec 8 d2 hd2 (by omega)
    have hw : w64 ((i : Int) + 1) = ((i + 1 : Nat) : Int) := w64_nat (by omega)
    refine ⟨_, ?_, d3, hd3, rfl⟩
    simp only [l9_0_6, decide_eq_true (show (i : Int) < 3 by omega), rowAt_G, rowG_nat he, m49_eq L hL, m55_eq L hL, e1, e2, sumE, sS]
    refine bind_of _ (loop9a L hL y1 y2 labels labels (fun z hz => ?_) ii (a, b, c, ()) (i : Int) d2) ?_
    · simp only [List.mem_cons, List.not_mem_nil, or_false] at hz
      rcases hz with rfl | rfl | rfl
      · exact from_k hy1
      · exact from_k hy2
      · exact hl
    · simp only [sumE, e3, sumE, sS]
      refine bind_of _ (loop9b L hL ii (w64 (k - 1)) labels (a, b, c, ()) (i : Int) d3) ?_
      simp only [hw]
  · rintro _ ⟨d, hd, rfl⟩
    exact ⟨_, rfl, rfl⟩

theorem set_ts {l : List RtT} (hl : TsSz l) (k : Nat) {r : RtT} (hr : TrSz r) : TsSz (l.set k r) := by
  refine ⟨by rw [List.length_set]; exact hl.1, fun y hy => ?_⟩
  rcases List.mem_or_eq_of_mem_set hy with h | rfl
  · exact hl.2 y h
  · exact hr

theorem eq7 : ((0 : Int) == 0) = true ∧ ((1 : Int) == 0) = false ∧ ((1 : Int) == 1) = true ∧ ((2 : Int) == 0) = false ∧ ((2 : Int) == 1) = false ∧ ((2 : Int) == 2) = true ∧ ((3 : Int) == 0) = false ∧ ((3 : Int) == 1) = false ∧ ((3 : Int) == 2) = false ∧ ((3 : Int) == 3) = true ∧
    ((4 : Int) == 0) = false ∧ ((4 : Int) == 1) = false ∧ ((4 : Int) == 2) = false ∧ ((4 : Int) == 3) = false ∧ ((4 : Int) == 4) = true ∧ ((5 : Int) == 0) = false ∧ ((5 : Int) == 1) = false ∧ ((5 : Int) == 2) = false ∧ ((5 : Int) == 3) = false ∧ ((5 : Int) == 4) = false ∧ ((5 : Int) == 5) = true ∧
    ((6 : Int) == 0) = false ∧ ((6 : Int) == 1) = false ∧ ((6 : Int) == 2) = false ∧ ((6 : Int) == 3) = false ∧ ((6 : Int) == 4) = false ∧ ((6 : Int) == 5) = false := by decide

abbrev bys : List (List ByteArray) := [[(bs [98]), (bs [97])], [(bs [97]), (bs [97])], [(bs [65])], [(bs [97]), (bs [98])]]

theorem bys_ok : ∀ b ∈ bys, b.length ≤ 2 ∧ ∀ k ∈ b, k.size ≤ 1 := by decide +kernel

theorem law9c (t : List Int) (raw : List RtT) (labels : List LT) (ii : Int) (h1 : ∀ r ∈ raw, TrSz r) (h2 : ∀ x ∈ labels, x.1.size ≤ big ∧ x.2.1.size ≤ big) : m9 ((t, raw, labels, ii, ()), ()) = some ((true, ()), ()) := by
  unfold m9
  simp only [light, sumE, sS]
  by_cases ht : t.length ≤ 500
  · simp only [decide_eq_true ht, sumE, sS]
    by_cases c1 : (raw.length : Int) > 40
    · simp only [decide_eq_true c1, sumE, sS, sane21]
    · by_cases c2 : (labels.length : Int) > 20
      · simp only [decide_eq_false c1, decide_eq_true c2, sumE, sS, sane21]
      · simp only [decide_eq_false c1, decide_eq_false c2, roll, sumE, sS]
        obtain ⟨l, d1, e1, hd1, hl⟩ := routes_spec 6 _ (dok0 ht) (by omega) (by omega)
        have hpos := hl.pos
        have hlen := hl.len
        obtain ⟨k, d2, e2, hd2, b2, _⟩ := next_spec ((l.length : Nat) : Int) d1 hd1 (by omega)
        have b2 := b2 (by omega)
        obtain ⟨r, hr⟩ := getD_some (l := l) (i := k.toNat) (by omega)
        have hrg := (hl.good r (List.mem_of_getElem? hr)).z
        have hb1 : decide (0 + l.length ≤ 4294967296) = true := decide_eq_true (by omega)
        have hb2 : decide ((0 : Int) ≤ k ∧ k < ((l.length : Nat) : Int)) = true := decide_eq_true (by omega)
        obtain ⟨n7, d3, e3, hd3, b3, _⟩ := next_spec 7 d2 hd2 (by omega)
        have b3 := b3 (by omega)
        simp only [e1, hb1, e2, hb2, e3, sumE, sS]
        refine bind_P (fun a => ∃ (d : Dice) (l' : List RtT) (N : Nat), a = (((0, N), ()), ((d, ()), (l, l', ()))) ∧ DOK d ∧ TsSz l' ∧ N ≤ l'.length) ?_ ?_
        · have h7 : n7 = 0 ∨ n7 = 1 ∨ n7 = 2 ∨ n7 = 3 ∨ n7 = 4 ∨ n7 = 5 ∨ n7 = 6 := by omega
          rcases h7 with rfl | rfl | rfl | rfl | rfl | rfl | rfl
          · obtain ⟨p, d4, e4, hd4, _⟩ := pick_spec [(-1), 0, ((l.length : Nat) : Int), 1] d3 hd3 (by simp) (by simp)
            refine ⟨_, ?_, d4, l.set k.toNat (p, r.2), _, rfl, hd4, set_ts hl.z _ hrg, Nat.le_refl _⟩
            simp only [eq7, e4, hr, sumE, sS]
          · obtain ⟨p, d4, e4, hd4, _⟩ := next_spec 6 d3 hd3 (by omega)
            refine ⟨_, ?_, d4, l.set k.toNat (r.1, [((bs [97]), (w64 (p - 1), (ByteArray.empty, ())))], r.2.2), _, rfl, hd4, set_ts hl.z _ ⟨⟨by simp [big], fun m hm => ?_⟩, hrg.2⟩, Nat.le_refl _⟩
            · simp only [eq7, e4, hr, sumE, sS]
            · simp only [List.mem_singleton] at hm
              subst hm
              exact ⟨by show 1 ≤ _; omega, by show 0 ≤ _; omega⟩
          · obtain ⟨p, d4, e4, hd4, b4, _⟩ := next_spec 4 d3 hd3 (by omega)
            have b4 := b4 (by omega)
            obtain ⟨by_, hby⟩ := getD_some (l := bys) (i := p.toNat) (by show p.toNat < 4; omega)
            have hb4 : decide ((0 : Int) ≤ p ∧ p < ((bys.length : Nat) : Int)) = true := decide_eq_true (by show 0 ≤ p ∧ p < 4; omega)
            obtain ⟨z1, z2⟩ := bys_ok by_ (List.mem_of_getElem? hby)
            refine ⟨_, ?_, d4, l.set k.toNat (r.1, r.2.1, r.2.2.1, by_, r.2.2.2.2), _, rfl, hd4, set_ts hl.z _ ⟨hrg.1, by show by_.length ≤ _; unfold big; omega, fun q hq => by have := z2 q hq; unfold big; omega⟩, Nat.le_refl _⟩
            simp only [eq7, e4, hb4, hby, hr, sumE, sS]
          · obtain ⟨p, d4, e4, hd4, _⟩ := pick_spec [(-1), r.2.2.2.2.2.1, w64 (r.2.2.2.2.2.1 + 1)] d3 hd3 (by simp) (by simp)
            refine ⟨_, ?_, d4, l.set k.toNat (r.1, r.2.1, r.2.2.1, r.2.2.2.1, p, r.2.2.2.2.2), _, rfl, hd4, set_ts hl.z _ hrg, Nat.le_refl _⟩
            simp only [eq7, hr, e4, sumE, sS]
          · obtain ⟨p, d4, e4, hd4, _⟩ := pick_spec [0, r.2.2.2.2.2.1, w64 (r.2.2.2.2.2.1 - 1), 604800, 604801] d3 hd3 (by simp) (by simp)
            refine ⟨_, ?_, d4, l.set k.toNat (r.1, r.2.1, r.2.2.1, r.2.2.2.1, r.2.2.2.2.1, r.2.2.2.2.2.1, p, r.2.2.2.2.2.2.2), _, rfl, hd4, set_ts hl.z _ hrg, Nat.le_refl _⟩
            simp only [eq7, hr, e4, sumE, sS]
          · refine ⟨_, ?_, d3, l.set k.toNat (r.1, r.2.1, (-1), r.2.2.2), _, rfl, hd3, set_ts hl.z _ hrg, Nat.le_refl _⟩
            simp only [eq7, hr, sumE, sS]
          · refine ⟨_, ?_, d3, l, 0, rfl, hd3, hl.z, Nat.zero_le _⟩
            have h0 : decide (0 ≤ 0 ∧ 0 ≤ l.length) = true := decide_eq_true (by omega)
            simp only [eq7, h0, sumE, sS]
        · rintro _ ⟨d, l', N, rfl, hd, hl', hN⟩
          have hX : TsSz ((l'.drop 0).take N) := ⟨by rw [List.length_take, List.length_drop]; have := hl'.1; omega, fun r hr => hl'.2 r (List.mem_of_mem_drop (List.mem_of_mem_take hr))⟩
          have hN2 : decide (0 + N ≤ l'.length) = true := decide_eq_true (by omega)
          have q := loop9c ii labels ⟨by unfold big; omega, h2⟩ l ((l'.drop 0).take N) raw (fun y hy => by
            simp only [List.mem_cons, List.not_mem_nil, or_false] at hy
            rcases hy with rfl | rfl | rfl
            · exact hl.z
            · exact hX
            · exact ⟨by omega, h1⟩) d hd
          simp only [hN2, decide_true, Bool.and_self, sumE, sS]
          refine bind_of _ q ?_
          simp only [sumE, sane21, sumE, sS]
  · simp only [decide_eq_false ht, sumE, sS, sane21]

theorem law9 : ∀ x, Abs.InRs [.row (.int .i64), .row (.cons (.int .i64) (.cons (.row (.cons .str (.cons (.int .i64) (.cons .str .unit)))) (.cons (.int .i64) (.cons (.row .str) (.cons (.int .i64) (.cons (.int .i64) (.cons (.int .i64) (.cons .bool .unit)))))))), .row (.cons .str (.cons .str .unit)), .int .i64] x → m9 (x, ()) = some ((true, ()), ()) := by
  intro x h
  obtain ⟨_, h1, h2, _⟩ := h
  have u : ∀ {n : Nat}, n ≤ maxLen → n ≤ big := fun h => Nat.le_trans h (by decide)
  refine law9c x.1 x.2.1 x.2.2.1 x.2.2.2.1 (fun r hr => ?_) (fun y hy => ?_)
  · obtain ⟨_, a, _, b, _⟩ := h1.2 r hr
    exact ⟨⟨u a.1, fun m hm => ⟨u (a.2 m hm).1, u (a.2 m hm).2.2.1⟩⟩, u b.1, fun k hk => u (b.2 k hk)⟩
  · obtain ⟨a, b, _⟩ := h2.2 y hy
    exact ⟨u a, u b⟩

end Go.Proofs.YtcblbcpnfidndaaDoor
