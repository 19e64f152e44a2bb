/- Lemmas for the statement of the last text of this claim. -/
import Derived.Test.YtcblbcpnfidndaaChecked
import Derived.Test.YtcblbcpnfidndaaPxS
import Derived.WalkKit
import Derived.ProofKit
import Derived.Deep.RegionLaw
import Derived.Deep.LoopGhost
import Derived.Lib.Walk
import Derived.Maps.Own
import Derived.Shelf.RegionOpenPlain
import Derived.Shelf.Spec.SlicesInsert
import Derived.Shelf.Strings.OnBuilder
import Derived.Test.YtcblbcpnfidndaaPxO
import Derived.Test.YtcblbcpnfidndaaPlD
import Derived.BigCall
import Derived.Lib.LazyBuf
import Derived.Test.YtcblbcpnfidndaaPxQ
import Derived.Test.YtcblbcpnfidndaaV7A
set_option linter.unusedSimpArgs false
set_option linter.unusedVariables false
namespace Go.Proofs.Ytcblbcpnfidndaa
open Go Go.Abs Go.Lab
theorem bl_app (a b : ByteArray) : bl (a ++ b) = bl a ++ bl b := by
  show (a ++ b).data.toList = _
  rw [ByteArray.data_append, Array.toList_append]

theorem sz_app (a b : ByteArray) : (a ++ b).size = a.size + b.size := ByteArray.size_append

theorem mk_app (a b : List UInt8) : mkB a ++ mkB b = mkB (a ++ b) := bl_inj (by rw [bl_app, bl_mk, bl_mk, bl_mk])

theorem app_mk (s : ByteArray) (b : List UInt8) : s ++ mkB b = mkB (bl s ++ b) := bl_inj (by rw [bl_app, bl_mk, bl_mk])

/-! ### Valid labels -/
def badL (p : Option LT) (x : LT) : Bool := !keyS x.1 || (!valS x.2.1 || (x.2.1.toList == ByteArray.empty.toList || (match p with | none => false | some q => leB x.1 q.1)))

def validL (l : List LT) : Bool := !decide ((l.length : Int) > 12) && okP badL none l

/-- Texts that are no longer than memory. -/
def KSz (l : List LT) : Prop := l.length ≤ big ∧ ∀ x ∈ l, x.1.size ≤ big ∧ x.2.1.size ≤ big

theorem m37_eq (l : List LT) (hl : KSz l) : m37 ((l, ()), ()) = some ((validL l, ()), ()) := by
  unfold m37 validL
  cases hc : decide ((l.length : Int) > 12)
  · simp only [sumE, sS]
    have h := loop_prev (f := l37_0_4) l (fun i => (((i : Int), l, l, (l.length : Int), ()), ())) badL (.inl ((false, ()), ())) (.inr ((), ())) ?_ ?_
    · refine bind_of _ h ?_
      cases okP badL none l <;> rfl
    · intro i e he hi
      have hl1 := hl.1
      unfold big at hl1
      have hw : w64 ((i : Int) + 1) = ((i + 1 : Nat) : Int) := w64_nat (by omega)
      obtain ⟨z1, z2⟩ := hl.2 e (List.mem_of_getElem? he)
      have q1 := m68_eq e.1 z1
      have q2 := m69_eq e.2.1 z2
      rcases prev_case hi with h0 | ⟨p, h0, hp, hp1⟩
      · rw [if_pos h0]
        have : decide ((i : Int) > 0) = false := decide_eq_false (by omega)
        unfold badL
        simp only [l37_0_4, rowAt_G, rowG_nat he, lt_t hi, q1, q2, this, sumE, sS]
        cases keyS e.1 <;> cases valS e.2.1 <;> cases (e.2.1.toList == ByteArray.empty.toList) <;> simp only [sumE, sS, hw, Bool.or_false, Bool.or_true, Bool.false_or, Bool.true_or]
      · rw [if_neg (by omega), hp]
        have : decide ((i : Int) > 0) = true := decide_eq_true (by omega)
        unfold badL leB
        simp only [l37_0_4, rowAt_G, rowG_nat he, lt_t hi, q1, q2, this, hp1 (by omega), rowG_nat hp, sumE, sS]
        cases keyS e.1 <;> cases valS e.2.1 <;> cases (e.2.1.toList == ByteArray.empty.toList) <;> cases Op.bytesLess e.1.toList p.1.toList || e.1.toList == p.1.toList <;> simp only [sumE, sS, hw, Bool.or_false, Bool.or_true, Bool.false_or, Bool.true_or]
    · simp only [l37_0_4, lt_f, sumE, sS]
  · simp only [sumE, sS]

theorem m47_eq (l : List LT) (hl : KSz l) : m47 ((l, ()), ()) = some ((validL l, ()), ()) := by
  unfold m47 validL
  cases hc : decide ((l.length : Int) > 12)
  · simp only [sumE, sS]
    have h := loop_prev (f := l47_0_4) l (fun i => (((i : Int), l, ()), ())) badL (.inl ((false, ()), ())) (.inr ((), ())) ?_ ?_
    · refine bind_of _ h ?_
      cases okP badL none l <;> rfl
    · intro i e he hi
      have hl1 := hl.1
      unfold big at hl1
      have hw : w64 ((i : Int) + 1) = ((i + 1 : Nat) : Int) := w64_nat (by omega)
      obtain ⟨z1, z2⟩ := hl.2 e (List.mem_of_getElem? he)
      have q1 := m79_eq e.1 z1
      have q2 := m80_eq e.2.1 z2
      rcases prev_case hi with h0 | ⟨p, h0, hp, hp1⟩
      · rw [if_pos h0]
        have : decide ((i : Int) > 0) = false := decide_eq_false (by omega)
        unfold badL
        simp only [l47_0_4, rowAt_G, rowG_nat he, lt_t hi, q1, q2, this, sumE, sS]
        cases keyS e.1 <;> cases valS e.2.1 <;> cases (e.2.1.toList == ByteArray.empty.toList) <;> simp only [sumE, sS, hw, Bool.or_false, Bool.or_true, Bool.false_or, Bool.true_or]
      · rw [if_neg (by omega), hp]
        have : decide ((i : Int) > 0) = true := decide_eq_true (by omega)
        unfold badL leB
        simp only [l47_0_4, rowAt_G, rowG_nat he, lt_t hi, q1, q2, this, hp1 (by omega), rowG_nat hp, sumE, sS]
        cases keyS e.1 <;> cases valS e.2.1 <;> cases (e.2.1.toList == ByteArray.empty.toList) <;> cases Op.bytesLess e.1.toList p.1.toList || e.1.toList == p.1.toList <;> simp only [sumE, sS, hw, Bool.or_false, Bool.or_true, Bool.false_or, Bool.true_or]
    · simp only [l47_0_4, lt_f, sumE, sS]
  · simp only [sumE, sS]

theorem okP_mem {E : Type} {bad : Option E → E → Bool} : ∀ {l : List E} {p : Option E}, okP bad p l = true → ∀ x ∈ l, ∃ q, bad q x = false
  | [], _, _, x, hx => by cases hx
  | e :: r, p, h, x, hx => by
    unfold okP at h
    rw [Bool.and_eq_true] at h
    rcases List.mem_cons.1 hx with rfl | hx
    · exact ⟨p, by simpa using h.1⟩
    · exact okP_mem h.2 x hx

theorem badL_no {q : Option LT} {x : LT} (h : badL q x = false) : keyS x.1 = true ∧ valS x.2.1 = true ∧ x.2.1 ≠ ByteArray.empty := by
  unfold badL at h
  simp only [Bool.or_eq_false_iff] at h
  refine ⟨by simpa using h.1, by simpa using h.2.1, fun e => ?_⟩
  rw [e] at h
  simp at h

theorem valid_mem {l : List LT} (h : validL l = true) : l.length ≤ 12 ∧ ∀ x ∈ l, keyS x.1 = true ∧ valS x.2.1 = true ∧ x.2.1 ≠ ByteArray.empty := by
  unfold validL at h
  rw [Bool.and_eq_true] at h
  refine ⟨?_, fun x hx => ?_⟩
  · have : decide ((l.length : Int) > 12) = false := by simpa using h.1
    have := of_decide_eq_false this
    omega
  · obtain ⟨q, hq⟩ := okP_mem h.2 x hx
    exact badL_no hq

theorem keyS_sz {s : ByteArray} (h : keyS s = true) : s.size ≤ 24 := by
  have := (key_all (s := bl s) h).2.1
  rwa [len_bl] at this

theorem valS_sz {s : ByteArray} (h : valS s = true) : s.size ≤ 64 := by
  have h : valL (bl s) = true := h
  unfold valL at h
  rw [Bool.and_eq_true] at h
  have := of_decide_eq_true h.2
  rwa [len_bl] at this

/-! ### Quoted values, parts, texts -/
theorem esc_app : ∀ (a b : List UInt8), esc (a ++ b) = esc a ++ esc b
  | [], b => rfl
  | c :: a, b => by
    rw [List.cons_append]
    simp only [esc]
    rw [esc_app a b]
    split <;> rfl

theorem quote_size (s : ByteArray) : (hQuote s).size ≤ 2 * s.size + 2 := by
  unfold hQuote
  rw [size_mk]
  have := esc_len s.data.toList
  have e : s.data.toList.length = s.size := len_bl s
  simp
  omega

theorem m48_eq (s : ByteArray) (hs : s.size ≤ 1048576) : m48 ((s, ()), ()) = some ((hQuote s, ()), ()) := by
  have h := loop_ind (f := l48_0_3) (Q := fun b => b = ((mkB (34 :: esc (bl s)), ()), ())) (fun i st => st = (((i : Int), s, mkB (34 :: esc ((bl s).take i)), ()), ())) s.size ?_ ?_ _ rfl
  · obtain ⟨b, h1, rfl⟩ := h
    unfold m48
    refine bind_of _ (show loopT l48_0_3 ((0, s, bs [34], ()), ()) = _ from h1) ?_
    have hl := esc_len (bl s)
    rw [len_bl] at hl
    have hb : decide ((mkB (34 :: esc (bl s))).size + 1 ≤ 4294967296) = true := decide_eq_true (by rw [size_mk, List.length_cons]; omega)
    simp only [hb, sumE, sS]
    unfold hQuote
    rw [show bs [34] = mkB [34] from rfl, mk_app]
    rfl
  · rintro i _ hi rfl
    obtain ⟨c, hc⟩ := getD_some (l := bl s) (i := i) (by rw [len_bl]; exact hi)
    have hlt : decide ((i : Int) < (s.size : Int)) = true := decide_eq_true (by omega)
    have hbd : decide ((0 : Int) ≤ (i : Int) ∧ (i : Int) < (s.size : Int)) = true := decide_eq_true (by omega)
    have hw : w64 ((i : Int) + 1) = ((i + 1 : Nat) : Int) := w64_nat (by omega)
    have h0 : decide ((0 : Int) ≤ (i : Int)) = true := decide_eq_true (by omega)
    have h1 : decide ((0 : Int) ≤ ((i + 1 : Nat) : Int)) = true := decide_eq_true (by omega)
    have h2 : decide (i ≤ i + 1 ∧ i + 1 ≤ s.size) = true := decide_eq_true (by omega)
    have hx : s.extract i (i + 1) = mkB [c] := bl_inj (by
      have hcl : i < (bl s).length := by rw [len_bl]; exact hi
      rw [extract_bl, bl_mk, List.drop_eq_getElem_cons hcl, show i + 1 - i = 1 by omega, List.take_succ_cons, List.take_zero]
      rw [(List.getElem?_eq_some_iff.1 hc).2])
    have htk : (bl s).take (i + 1) = (bl s).take i ++ [c] := by rw [List.take_add_one, hc]; rfl
    have hl := esc_len ((bl s).take i)
    rw [List.length_take] at hl
    have hsz : ∀ b : List UInt8, b.length ≤ 2 → decide ((mkB (34 :: (esc ((bl s).take i) ++ b))).size + 1 ≤ 4294967296) = true := fun b hb => decide_eq_true (by rw [size_mk]; simp; omega)
    have hs0 : decide ((mkB (34 :: esc ((bl s).take i))).size + 1 ≤ 4294967296) = true := by have := hsz [] (by simp); rwa [List.append_nil] at this
    have hs1 : (mkB [c]).size = 1 := rfl
    have hs92 : mkB (34 :: esc ((bl s).take i)) ++ bs [92] = mkB (34 :: (esc ((bl s).take i) ++ [92])) := by
      rw [show bs [92] = mkB [92] from rfl, mk_app]; rfl
    have e34 : (u8 c == 34) = decide (c = 34) := by
      by_cases h : c = 34
      · subst h; rfl
      · rw [decide_eq_false h]
        exact beq_eq_false_iff_ne.2 fun e => h (UInt8.toNat_inj.1 (by unfold u8 at e; show c.toNat = 34; omega))
    have e92 : (u8 c == 92) = decide (c = 92) := by
      by_cases h : c = 92
      · subst h; rfl
      · rw [decide_eq_false h]
        exact beq_eq_false_iff_ne.2 fun e => h (UInt8.toNat_inj.1 (by unfold u8 at e; show c.toNat = 92; omega))
    refine ⟨_, ?_, rfl⟩
    rw [htk, esc_app]
    simp only [l48_0_3, hlt, hbd, byte_at hc, e34, e92, sumE, sS]
    by_cases c34 : c = 34
    · have he : esc [c] = [92, c] := by simp [esc, c34]
      simp only [decide_eq_true c34, sumE, sS, hs0, hs92, h0, hw, h1, Int.toNat_natCast, h2, hx, hs1, hsz [92] (by simp), mk_app, he]
      simp
    · by_cases c92 : c = 92
      · have he : esc [c] = [92, c] := by simp [esc, c92]
        simp only [decide_eq_false c34, decide_eq_true c92, sumE, sS, hs0, hs92, h0, hw, h1, Int.toNat_natCast, h2, hx, hs1, hsz [92] (by simp), mk_app, he]
        simp
      · have he : esc [c] = [c] := by simp [esc, c34, c92]
        simp only [decide_eq_false c34, decide_eq_false c92, sumE, sS, hs0, h0, hw, h1, Int.toNat_natCast, h2, hx, hs1, mk_app, he]
        simp
  · rintro _ rfl
    refine ⟨_, ?_, rfl⟩
    have : decide ((s.size : Int) < (s.size : Int)) = false := decide_eq_false (by omega)
    simp only [l48_0_3, this, sumE, sS]
    rw [List.take_of_length_le (by rw [len_bl]; exact Nat.le_refl _)]

theorem join_commas : ∀ l : List (List UInt8), Lib.join l [44] = commas l
  | [] => rfl
  | [x] => Lib.join_one x [44]
  | x :: y :: l => by
    rw [Lib.join_cons, commas_cons x (by simp), ← join_commas (y :: l), Lib.join_cons]
    simp [Lib.joinTail]

/-- The text of a label. -/
def partL (x : LT) : List UInt8 := item (bl x.1) [61] (bl x.2.1)

def textL (l : List LT) : List UInt8 := 123 :: (commas (l.map partL) ++ [125])

/-- The text of labels. -/
def textE (l : List LT) : ByteArray := if validL l then mkB (textL l) else ByteArray.empty

theorem part_eq (x : LT) : (x.1 ++ bs [61]) ++ hQuote x.2.1 = mkB (partL x) := by
  rw [show bs [61] = mkB [61] from rfl, app_mk]
  unfold hQuote partL item
  rw [mk_app]
  simp [bl]

theorem part_len {x : LT} (h1 : keyS x.1 = true) (h2 : valS x.2.1 = true) : (partL x).length ≤ 160 := by
  have a := keyS_sz h1
  have b := valS_sz h2
  have := esc_len (bl x.2.1)
  rw [len_bl] at this
  unfold partL item
  simp [len_bl]
  omega

theorem parts_len {l : List LT} (h : validL l = true) (i : Nat) : (commas ((l.map partL).take i)).length ≤ 2000 := by
  obtain ⟨h1, h2⟩ := valid_mem h
  have := commas_len ((l.map partL).take i) 160 (fun x hx => by
    obtain ⟨y, hy, rfl⟩ := List.mem_map.1 (List.mem_of_mem_take hx)
    exact part_len (h2 y hy).1 (h2 y hy).2.1)
  have hl : ((l.map partL).take i).length ≤ 12 := by rw [List.length_take, List.length_map]; omega
  have := Nat.mul_le_mul_right 161 hl
  omega

theorem m39_eq (l : List LT) (hl : KSz l) : m39 ((l, ()), ()) = some ((textE l, ()), ()) := by
  unfold m39 textE
  simp only [m37_eq l hl, sumE, sS]
  cases hv : validL l
  · simp only [sumE, sS, Bool.false_eq_true, if_false]
  · obtain ⟨h1, h2⟩ := valid_mem hv
    simp only [sumE, sS, if_true]
    have h := loop_ind (f := l39_0_5) (Q := fun b => b = ((), (l.map fun x => mkB (partL x), ()))) (fun i st => st = (((i : Int), l, (l.length : Int), ()), ((l.take i).map fun x => mkB (partL x), ()))) l.length ?_ ?_ _ rfl
    · obtain ⟨b, h3, rfl⟩ := h
      refine bind_of _ (show loopT l39_0_5 ((0, l, (l.length : Int), ()), ([], ())) = _ from h3) ?_
      have hj : hJoin (l.map fun x => mkB (partL x)) (bs [44]) = mkB (commas (l.map partL)) := by
        unfold hJoin
        rw [List.map_map]
        exact congrArg mkB (join_commas _)
      have hp := parts_len hv l.length
      rw [List.take_of_length_le (by rw [List.length_map]; exact Nat.le_refl _)] at hp
      have b1 : decide (List.length (l.map fun x => mkB (partL x)) ≤ 4294967296 ∧ (mkB (commas (l.map partL))).size ≤ 140737488355328) = true := decide_eq_true (by rw [List.length_map, size_mk]; omega)
      have b2 : decide (1 + (mkB (commas (l.map partL))).size ≤ 4294967296) = true := decide_eq_true (by rw [size_mk]; omega)
      have b3 : decide ((mkB (123 :: commas (l.map partL))).size + 1 ≤ 4294967296) = true := decide_eq_true (by rw [size_mk, List.length_cons]; omega)
      simp only [hj, b1, b2, sumE, sS]
      rw [show bs [123] = mkB [123] from rfl, mk_app, show [123] ++ commas (l.map partL) = 123 :: commas (l.map partL) from rfl, b3, show bs [125] = mkB [125] from rfl, mk_app]
      rfl
    · rintro i _ hi rfl
      obtain ⟨e, he⟩ := getD_some (l := l) (i := i) hi
      obtain ⟨k1, k2, _⟩ := h2 e (List.mem_of_getElem? he)
      have z1 := keyS_sz k1
      have z2 := valS_sz k2
      have z3 := quote_size e.2.1
      have hw : w64 ((i : Int) + 1) = ((i + 1 : Nat) : Int) := w64_nat (by omega)
      have b1 : decide (e.1.size + 1 ≤ 4294967296) = true := decide_eq_true (by omega)
      have b2 : decide (e.2.1.size ≤ 4294967296) = true := decide_eq_true (by omega)
      have b3 : decide ((e.1 ++ (bs [61])).size + (hQuote e.2.1).size ≤ 4294967296) = true := decide_eq_true (by rw [sz_app]; show e.1.size + 1 + _ ≤ _; omega)
      have b4 : decide (((l.take i).map fun x => mkB (partL x)).length + [mkB (partL e)].length ≤ 4294967296) = true := decide_eq_true (by simp; omega)
      refine ⟨_, ?_, rfl⟩
      rw [show l.take (i + 1) = l.take i ++ [e] by rw [List.take_add_one, he]; rfl, List.map_append]
      simp only [l39_0_5, rowAt_G, rowG_nat he, lt_t hi, b1, b2, b3, part_eq, b4, hw, sumE, sS]
      rfl
    · rintro _ rfl
      refine ⟨_, ?_, rfl⟩
      simp only [l39_0_5, lt_f, sumE, sS]
      rw [List.take_of_length_le (Nat.le_refl _)]

theorem commas_snoc : ∀ (l : List (List UInt8)) (x : List UInt8), l ≠ [] → commas (l ++ [x]) = commas l ++ 44 :: x
  | [], _, h => absurd rfl h
  | [a], x, _ => rfl
  | a :: b :: l, x, _ => by
    rw [List.cons_append, commas_cons a (by simp), commas_snoc (b :: l) x (by simp), commas_cons a (by simp)]
    simp

theorem m16_eq (l : List LT) (hl : KSz l) : m16 ((l, ()), ()) = some ((textE l, ()), ()) := by
  unfold m16 textE
  simp only [m47_eq l hl, sumE, sS]
  cases hv : validL l
  · simp only [sumE, sS, Bool.false_eq_true, if_false]
  · obtain ⟨h1, h2⟩ := valid_mem hv
    simp only [sumE, sS, if_true]
    have h := loop_ind (f := l16_0_5) (Q := fun b => b = ((mkB (123 :: commas (l.map partL)), ()), ())) (fun i st => st = (((i : Int), l, mkB (123 :: commas ((l.map partL).take i)), ()), ())) l.length ?_ ?_ _ rfl
    · obtain ⟨b, h3, rfl⟩ := h
      refine bind_of _ (show loopT l16_0_5 ((0, l, bs [123], ()), ()) = _ from h3) ?_
      have hp := parts_len hv l.length
      rw [List.take_of_length_le (by rw [List.length_map]; exact Nat.le_refl _)] at hp
      have b3 : decide ((mkB (123 :: commas (l.map partL))).size + 1 ≤ 4294967296) = true := decide_eq_true (by rw [size_mk, List.length_cons]; omega)
      simp only [b3, sumE, sS]
      rw [show bs [125] = mkB [125] from rfl, mk_app]
      rfl
    · rintro i _ hi rfl
      obtain ⟨e, he⟩ := getD_some (l := l) (i := i) hi
      obtain ⟨k1, k2, _⟩ := h2 e (List.mem_of_getElem? he)
      have z1 := keyS_sz k1
      have z2 := valS_sz k2
      have z3 := quote_size e.2.1
      have q := m48_eq e.2.1 (by omega)
      have hp := parts_len hv i
      have hl2 := part_len k1 k2
      have hw : w64 ((i : Int) + 1) = ((i + 1 : Nat) : Int) := w64_nat (by omega)
      have b1 : decide (e.1.size + 1 ≤ 4294967296) = true := decide_eq_true (by omega)
      have b3 : decide ((e.1 ++ (bs [61])).size + (hQuote e.2.1).size ≤ 4294967296) = true := decide_eq_true (by rw [sz_app]; show e.1.size + 1 + _ ≤ _; omega)
      have hm : (l.map partL)[i]? = some (partL e) := by rw [List.getElem?_map, he]; rfl
      have htk : (l.map partL).take (i + 1) = (l.map partL).take i ++ [partL e] := by rw [List.take_add_one, hm]; rfl
      refine ⟨_, ?_, rfl⟩
      rw [htk]
      by_cases h0 : i = 0
      · subst h0
        have b5 : decide ((mkB (123 :: commas ((l.map partL).take 0))).size + (mkB (partL e)).size ≤ 4294967296) = true := decide_eq_true (by rw [size_mk, size_mk, List.length_cons]; omega)
        have d0 : decide (((0 : Nat) : Int) > 0) = false := rfl
        simp only [l16_0_5, rowAt_G, rowG_nat he, lt_t hi, d0, b1, q, b3, part_eq, b5, hw, mk_app, sumE, sS]
        rfl
      · have d0 : decide ((i : Int) > 0) = true := decide_eq_true (by omega)
        have b4 : decide ((mkB (123 :: commas ((l.map partL).take i))).size + 1 ≤ 4294967296) = true := decide_eq_true (by rw [size_mk, List.length_cons]; omega)
        have e44 : mkB (123 :: commas ((l.map partL).take i)) ++ bs [44] = mkB (123 :: (commas ((l.map partL).take i) ++ [44])) := by
          rw [show bs [44] = mkB [44] from rfl, mk_app]; rfl
        have b5 : decide ((mkB (123 :: (commas ((l.map partL).take i) ++ [44]))).size + (mkB (partL e)).size ≤ 4294967296) = true := decide_eq_true (by rw [size_mk, size_mk, List.length_cons, List.length_append]; simp; omega)
        have hne : (l.map partL).take i ≠ [] := by
          intro h
          have := congrArg List.length h
          rw [List.length_take, List.length_map, List.length_nil] at this
          omega
        simp only [l16_0_5, rowAt_G, rowG_nat he, lt_t hi, d0, b4, e44, b1, q, b3, part_eq, b5, hw, mk_app, sumE, sS]
        rw [commas_snoc _ _ hne]
        simp
    · rintro _ rfl
      refine ⟨_, ?_, rfl⟩
      simp only [l16_0_5, lt_f, sumE, sS]
      rw [List.take_of_length_le (by rw [List.length_map]; exact Nat.le_refl _)]

theorem m82_eq (ks : List ByteArray) (s : ByteArray) (hk : ks.length ≤ big) : ∃ j : Nat, m82 ((ks, s, ()), ()) = some ((bif ks.any (fun k => decide (k = s)) then (j : Int) else -1, ()), ()) := by
  have h := loop_list0 (f := l82_0_2) ks (fun i (_ : Unit) => (((i : Int), ks, s, (ks.length : Int), ()), ())) (fun i _ e => bif decide (e = s) then .inr (.inl (((i : Int), ()), ())) else .inl ()) (fun _ => .inr ((), ())) ?_ ?_ ()
  · obtain ⟨j, _, hj⟩ := runL_any (fun e => decide (e = s)) (fun i : Nat => (Sum.inl (((i : Int), ()), ()) : ((Int × Unit) × Unit) ⊕ (Unit × Unit))) (.inr ((), ())) ks 0
    refine ⟨j, ?_⟩
    unfold m82
    refine bind_of _ (h.trans (congrArg some hj)) ?_
    cases ks.any fun k => decide (k = s) <;> rfl
  · intro i e _ he hi
    unfold big at hk
    have hw : w64 ((i : Int) + 1) = ((i + 1 : Nat) : Int) := w64_nat (by omega)
    have hc : (s.toList == e.toList) = decide (e = s) := by
      rw [toList_bl, toList_bl, beq_bl]
      exact decide_eq_decide.2 ⟨Eq.symm, Eq.symm⟩
    simp only [l82_0_2, rowAt_G, rowG_nat he, lt_t hi, hc, sumE, sS]
    cases decide (e = s) <;> simp only [sumE, sS, hw]
  · intro _
    simp only [l82_0_2, lt_f, sumE, sS]

theorem m52_eq (ks : List ByteArray) (s : ByteArray) (hk : ks.length ≤ big) : m52 ((ks, s, ()), ()) = some ((ks.any (fun k => decide (k = s)), ()), ()) := by
  obtain ⟨j, h⟩ := m82_eq ks s hk
  unfold m52
  refine bind_of _ h ?_
  cases ks.any fun k => decide (k = s)
  · rfl
  · simp only [cond_true, decide_eq_true (show (j : Int) ≥ 0 by omega)]

end Go.Proofs.Ytcblbcpnfidndaa

namespace Go.Proofs.Ytcblbcpnfidndaa
open Go Go.Abs Go.Lab
abbrev RtT : Type := Int × List MT × Int × List ByteArray × Int × Int × Int × Bool × Unit

/-- The sizes of a route, of routes. -/
def TrSz (r : RtT) : Prop := (r.2.1.length ≤ big ∧ ∀ m ∈ r.2.1, MSz m) ∧ r.2.2.2.1.length ≤ big ∧ ∀ k ∈ r.2.2.2.1, k.size ≤ big

def chkRange (r : RtT) : Bool := decide (r.2.2.1 < 0) || (decide (r.2.2.2.2.1 < 0) || (decide (r.2.2.2.2.1 > r.2.2.2.2.2.1) || (decide (r.2.2.2.2.2.1 > r.2.2.2.2.2.2.1) || (decide (r.2.2.2.2.2.2.1 > 604800) || (r.2.2.2.2.2.2.1 == 0)))))

def chkOne (r : RtT) : Int :=
  bif decide ((r.2.1.length : Int) > 8) || decide ((r.2.2.2.1.length : Int) > 12) then 5
  else bif !r.2.1.all rightM || !keysOK r.2.2.2.1 then 8 else bif chkRange r then 1 else 0

def badPar (i : Nat) (r : RtT) : Bool := if i = 0 then r.1 != -1 else decide (r.1 < 0) || decide (r.1 ≥ (i : Int))

def chkI (i : Nat) (r : RtT) : Int := bif badPar i r then 3 else chkOne r

/-- The first error, with places. -/
def goI {E : Type} (chk : Nat → E → Int) : Nat → List E → Int
  | _, [] => 0
  | i, e :: r => bif chk i e != 0 then chk i e else goI chk (i + 1) r

theorem loop_firstI {A B E : Type} {f : A → Option (A ⊕ B)} (l : List E) (st : Nat → A) (chk : Nat → E → Int) (no : Int → B) (yes : B)
    (h1 : ∀ i e, l[i]? = some e → i < l.length → f (st i) = some (bif chk i e != 0 then .inr (no (chk i e)) else .inl (st (i + 1)))) (h2 : f (st l.length) = some (.inr yes)) :
    loopT f (st 0) = some (bif goI chk 0 l != 0 then no (goI chk 0 l) else yes) := by
  have key : ∀ (k i : Nat), i + k = l.length → loopT f (st i) = some (bif goI chk i (l.drop i) != 0 then no (goI chk i (l.drop i)) else yes) := by
    intro k
    induction k with
    | zero =>
      intro i h
      obtain rfl : i = l.length := by omega
      rw [List.drop_length]
      exact loopT_inr h2
    | succ k ih =>
      intro i h
      obtain ⟨e, he, hd⟩ := drop_at (l := l) (i := i) (by omega)
      have q := h1 i e he (by omega)
      rw [hd]
      unfold goI
      cases hb : (chk i e != 0)
      · rw [hb] at q
        rw [cond_false, ← ih (i + 1) (by omega)]
        exact loopT_inl q
      · rw [hb] at q
        rw [cond_true, hb]
        exact loopT_inr q
  have := key l.length 0 (by omega)
  rw [List.drop_zero] at this
  exact this

def chkT (l : List RtT) : Int :=
  bif (l.length : Int) == 0 then 7 else bif decide ((l.length : Int) > 24) then 5 else bif goI chkI 0 l != 0 then goI chkI 0 l
  else match l[0]? with | some e => bif decide ((e.2.1.length : Int) > 0) then 8 else 0 | none => 0

theorem m93_eq (m : MT) (hm : MSz m) : m93 ((m, ()), ()) = some ((!rightM m, ()), ()) := by
  unfold m93
  exact bind_of _ (m101_eq m hm) rfl

theorem wrong109 (ms : List MT) (hs : ms.length ≤ big) (hm : ∀ m ∈ ms, MSz m) : ∃ j : Nat, loopT l84_2_2 ((0, ms, (ms.length : Int), ()), ()) = some (bif ms.all rightM then .inr ((), ()) else .inl (((j : Int), ()), ())) := by
  have h := loop_list0 (f := l84_2_2) ms (fun i (_ : Unit) => (((i : Int), ms, (ms.length : Int), ()), ())) (fun i _ e => bif !rightM e then .inr (.inl (((i : Int), ()), ())) else .inl ()) (fun _ => .inr ((), ())) ?_ ?_ ()
  · obtain ⟨j, _, hj⟩ := runL_any (fun e => !rightM e) (fun i : Nat => (Sum.inl (((i : Int), ()), ()) : ((Int × Unit) × Unit) ⊕ (Unit × Unit))) (.inr ((), ())) ms 0
    refine ⟨j, h.trans (congrArg some (hj.trans ?_))⟩
    rw [any_not]
    cases ms.all rightM <;> rfl
  · intro i e _ he hi
    unfold big at hs
    have hw : w64 ((i : Int) + 1) = ((i + 1 : Nat) : Int) := w64_nat (by omega)
    simp only [l84_2_2, rowAt_G, rowG_nat he, lt_t hi, m93_eq e (hm e (List.mem_of_getElem? he)), sumE, sS]
    cases rightM e <;> simp only [sumE, sS, hw, Bool.not_true, Bool.not_false]
  · intro _
    simp only [l84_2_2, lt_f, sumE, sS]

theorem par_case (i : Nat) (r : RtT) : (i = 0 ∧ badPar i r = (r.1 != -1)) ∨ (0 < i ∧ badPar i r = (decide (r.1 < 0) || decide (r.1 ≥ (i : Int)))) := by
  unfold badPar
  by_cases h : i = 0
  · exact .inl ⟨h, by rw [if_pos h]⟩
  · exact .inr ⟨by omega, by rw [if_neg h]⟩

theorem m84_eq (r : RtT) (hr : TrSz r) (i : Nat) : m84 ((r, (i : Int), ()), ()) = some ((chkI i r, ()), ()) := by
  obtain ⟨⟨a1, a2⟩, c1, c2⟩ := hr
  obtain ⟨j, hj⟩ := wrong109 r.2.1 a1 a2
  have q := m94_eq r.2.2.2.1 c1 c2
  have hj0 : decide ((j : Int) ≥ 0) = true := decide_eq_true (by omega)
  have key : ((bif ((i : Int) == 0) then (bif ((r.1 : Int) != (-1)) then (some ((true, ()), ((r, ()), ()))) else (bif (decide ((i : Int) > 0)) then (bif (decide ((r.1 : Int) < 0)) then (some ((true, ()), ((r, ()), ()))) else (some (((decide ((r.1 : Int) ≥ (i : Int))), ()), ((r, ()), ())))) else (some ((false, ()), ((r, ()), ())))))
      else (bif (decide ((i : Int) > 0)) then (bif (decide ((r.1 : Int) < 0)) then (some ((true, ()), ((r, ()), ()))) else (some (((decide ((r.1 : Int) ≥ (i : Int))), ()), ((r, ()), ())))) else (some ((false, ()), ((r, ()), ()))))) : Option ((Bool × Unit) × ((RtT × Unit) × Unit))) = some ((badPar i r, ()), ((r, ()), ())) := by
    rcases par_case i r with ⟨rfl, hb⟩ | ⟨h0, hb⟩
    · rw [hb, show (((0 : Nat) : Int) == 0) = true from rfl, show decide (((0 : Nat) : Int) > 0) = false from rfl]
      cases (r.1 != -1) <;> rfl
    · rw [hb, beq_eq_false_iff_ne.2 (show (i : Int) ≠ 0 by omega), decide_eq_true (show (i : Int) > 0 by omega)]
      cases decide (r.1 < 0) <;> cases decide (r.1 ≥ (i : Int)) <;> rfl
  unfold m84
  refine bind_of _ key ?_
  unfold chkI
  cases badPar i r <;> simp only [sumE, sS]
  unfold chkOne
  cases decide ((r.2.1.length : Int) > 8) <;> simp only [sumE, sS, Bool.or_true, Bool.true_or, Bool.or_false, Bool.false_or]
  cases decide ((r.2.2.2.1.length : Int) > 12) <;> simp only [sumE, sS, Bool.or_true, Bool.true_or, Bool.or_false, Bool.false_or]
  rw [hj]
  cases r.2.1.all rightM <;> simp only [sumE, sS, hj0, q, Bool.not_true, Bool.not_false, Bool.or_true, Bool.true_or, Bool.or_false, Bool.false_or]
  cases keysOK r.2.2.2.1 <;> simp only [sumE, sS, Bool.not_true, Bool.not_false]
  unfold chkRange
  cases decide (r.2.2.1 < 0) <;> simp only [sumE, sS, Bool.or_true, Bool.true_or, Bool.or_false, Bool.false_or]
  cases decide (r.2.2.2.2.1 < 0) <;> simp only [sumE, sS, Bool.or_true, Bool.true_or, Bool.or_false, Bool.false_or]
  cases decide (r.2.2.2.2.1 > r.2.2.2.2.2.1) <;> simp only [sumE, sS, Bool.or_true, Bool.true_or, Bool.or_false, Bool.false_or]
  cases decide (r.2.2.2.2.2.1 > r.2.2.2.2.2.2.1) <;> simp only [sumE, sS, Bool.or_true, Bool.true_or, Bool.or_false, Bool.false_or]
  cases decide (r.2.2.2.2.2.2.1 > 604800) <;> simp only [sumE, sS, Bool.or_true, Bool.true_or, Bool.or_false, Bool.false_or]
  cases (r.2.2.2.2.2.2.1 == 0) <;> simp only [sumE, sS]

def TsSz (l : List RtT) : Prop := l.length ≤ 1048576 ∧ ∀ r ∈ l, TrSz r

theorem m67_eq (l : List RtT) (hl : TsSz l) : m67 ((l, ()), ()) = some ((chkT l, ()), ()) := by
  unfold m67 chkT
  cases hz : ((l.length : Int) == 0)
  · simp only [sumE, sS]
    cases decide ((l.length : Int) > 24)
    · simp only [sumE, sS]
      have h := loop_firstI (f := l67_0_6) l (fun i => (((i : Int), l, l, (l.length : Int), ()), ())) chkI (fun c => .inl ((c, ()), ())) (.inr ((l, ()), ())) ?_ ?_
      · refine bind_of _ h ?_
        cases hc : (goI chkI 0 l != 0)
        · obtain ⟨e, he⟩ := getD_some (l := l) (i := 0) (by have := (beq_eq_false_iff_ne.1 hz); omega)
          rw [he]
          simp only [cond_false, sumE, rowAt_G]
          rw [show rowG l 0 _ = rowG l ((0 : Nat) : Int) _ from rfl, rowG_nat he]
          cases decide ((e.2.1.length : Int) > 0) <;> rfl
        · rfl
      · intro i e he hi
        have hl1 := hl.1
        have hw : w64 ((i : Int) + 1) = ((i + 1 : Nat) : Int) := w64_nat (by omega)
        simp only [l67_0_6, rowAt_G, rowG_nat he, lt_t hi, m84_eq e (hl.2 e (List.mem_of_getElem? he)) i, sumE, sS]
        cases chkI i e != 0 <;> simp only [sumE, sS, hw]
      · simp only [l67_0_6, lt_f, sumE, sS]
    · simp only [sumE, sS]
  · simp only [sumE, sS]

/-- What right routes are. -/
structure TOK (l : List RtT) : Prop where
  pos : 0 < l.length
  len : l.length ≤ 24
  root : ∀ r, l[0]? = some r → r.1 = -1 ∧ r.2.1 = []
  par : ∀ (k : Nat) (r : RtT), l[k]? = some r → 0 < k → 0 ≤ r.1 ∧ r.1 < (k : Int)
  one : ∀ r ∈ l, r.2.1.length ≤ 8 ∧ (∀ m ∈ r.2.1, rightM m = true) ∧ keysOK r.2.2.2.1 = true ∧ r.2.2.2.1.length ≤ 12

end Go.Proofs.Ytcblbcpnfidndaa

namespace Go.Proofs.Ytcblbcpnfidndaa
open Go Go.Abs Go.Lab
/-! ### Rows that ascend -/
theorem asc_keys : ∀ {l : List ByteArray} {p : Option ByteArray}, (∀ k ∈ l, keyS k = true) → l.Pairwise (fun a b => leB b a = false) → (∀ q, p = some q → ∀ k ∈ l, leB k q = false) → okP badK p l = true
  | [], _, _, _, _ => rfl
  | k :: l, p, h1, h2, h3 => by
    unfold okP
    have h2 := List.pairwise_cons.1 h2
    rw [asc_keys (p := some k) (fun y hy => h1 y (List.mem_cons_of_mem _ hy)) h2.2 (fun q hq y hy => by cases hq; exact h2.1 y hy), Bool.and_true]
    unfold badK
    rw [h1 k (List.mem_cons_self ..)]
    cases p with
    | none => rfl
    | some q => simp only; rw [h3 q rfl k (List.mem_cons_self ..)]; rfl

theorem keys4_asc : keys4.Pairwise (fun a b => leB b a = false) := by decide +kernel

theorem sub_keys {l : List ByteArray} (h : l.Sublist keys4) : keysOK l = true := asc_keys (fun k hk => (keys4_ok k (h.subset hk)).1) (keys4_asc.sublist h) (fun q hq => by cases hq)

theorem asc_labels : ∀ {l : List LT} {p : Option LT}, (∀ x ∈ l, keyS x.1 = true ∧ valS x.2.1 = true ∧ x.2.1 ≠ ByteArray.empty) → (l.map (·.1)).Pairwise (fun a b => leB b a = false) → (∀ q, p = some q → ∀ x ∈ l, leB x.1 q.1 = false) → okP badL p l = true
  | [], _, _, _, _ => rfl
  | x :: l, p, h1, h2, h3 => by
    unfold okP
    rw [List.map_cons] at h2
    have h2 := List.pairwise_cons.1 h2
    rw [asc_labels (p := some x) (fun y hy => h1 y (List.mem_cons_of_mem _ hy)) h2.2 (fun q hq y hy => by cases hq; exact h2.1 y.1 (List.mem_map_of_mem hy)), Bool.and_true]
    obtain ⟨a, b, c⟩ := h1 x (List.mem_cons_self ..)
    unfold badL
    rw [a, b]
    have c : (x.2.1.toList == ByteArray.empty.toList) = false := by rw [toList_bl, toList_bl, beq_bl]; exact decide_eq_false c
    rw [c]
    cases p with
    | none => rfl
    | some q => simp only; rw [h3 q rfl x (List.mem_cons_self ..)]; rfl

theorem from_valid {l : List LT} (h : FromKeys keys4 l) : validL l = true := by
  unfold validL
  have h4 := h.1.length_le
  rw [List.length_map, show keys4.length = 4 from rfl] at h4
  rw [decide_eq_false (by omega), asc_labels (fun x hx => ⟨(keys4_ok x.1 (h.1.subset (List.mem_map_of_mem hx))).1, (vals6_ok _ (h.2 x hx).1).1, (h.2 x hx).2⟩) (keys4_asc.sublist h.1) (fun q hq => by cases hq)]
  rfl

/-! ### The dice's routes -/
def GoodT (r : RtT) : Prop := (r.2.1.length ≤ 8 ∧ ∀ m ∈ r.2.1, GoodM m) ∧ r.2.2.2.1.Sublist keys4 ∧ chkRange r = false ∧ r.2.2.2.2.2.1 ≤ 1000 ∧ 0 ≤ r.2.2.2.2.2.1 ∧ 0 ≤ r.2.2.2.2.2.2.1 ∧ r.2.2.2.2.2.2.1 ≤ 10000

theorem GoodT.z {r : RtT} (h : GoodT r) : TrSz r := by
  obtain ⟨⟨h1, h2⟩, h3, _⟩ := h
  have h4 := h3.length_le
  rw [show keys4.length = 4 from rfl] at h4
  exact ⟨⟨by unfold big; omega, fun m hm => (h2 m hm).z⟩, by unfold big; omega, fun k hk => by have := (keys4_ok k (h3.subset hk)).2; unfold big; omega⟩

theorem GoodT.one {r : RtT} (h : GoodT r) : chkOne r = 0 := by
  obtain ⟨⟨h1, h2⟩, h3, h4, _⟩ := h
  have h5 := h3.length_le
  rw [show keys4.length = 4 from rfl] at h5
  unfold chkOne
  rw [decide_eq_false (show ¬ (r.2.1.length : Int) > 8 by omega), decide_eq_false (show ¬ (r.2.2.2.1.length : Int) > 12 by omega), List.all_eq_true.2 (fun m hm => (h2 m hm).1), sub_keys h3, h4]
  rfl

theorem goI_of {E : Type} {chk : Nat → E → Int} : ∀ {l : List E} {i : Nat}, (∀ (k : Nat) (e : E), l[k]? = some e → chk (i + k) e = 0) → goI chk i l = 0
  | [], _, _ => rfl
  | x :: r, i, h => by
    unfold goI
    have h0 := h 0 x rfl
    rw [Nat.add_zero] at h0
    rw [h0]
    exact goI_of (i := i + 1) fun k e he => by
      have := h (k + 1) e (by simpa using he)
      rwa [show i + (k + 1) = i + 1 + k by omega] at this

/-- Routes of the dice. -/
structure GoodTs (l : List RtT) : Prop where
  pos : 0 < l.length
  len : l.length ≤ 24
  root : ∀ r, l[0]? = some r → r.1 = -1 ∧ r.2.1 = []
  par : ∀ (k : Nat) (r : RtT), l[k]? = some r → 0 < k → 0 ≤ r.1 ∧ r.1 < (k : Int)
  good : ∀ r ∈ l, GoodT r

theorem chk_of {l : List RtT} (pos : 0 < l.length) (len : l.length ≤ 24) (root : ∀ r, l[0]? = some r → r.1 = -1 ∧ r.2.1 = []) (par : ∀ (k : Nat) (r : RtT), l[k]? = some r → 0 < k → 0 ≤ r.1 ∧ r.1 < (k : Int)) (one : ∀ r ∈ l, chkOne r = 0) : chkT l = 0 := by
  unfold chkT
  rw [beq_eq_false_iff_ne.2 (show (l.length : Int) ≠ 0 by omega), decide_eq_false (show ¬ (l.length : Int) > 24 by omega), goI_of (fun k e he => ?_)]
  · obtain ⟨r, hr⟩ := getD_some pos
    rw [hr]
    simp only [(root r hr).2]
    rfl
  · rw [Nat.zero_add]
    unfold chkI badPar
    have : (if k = 0 then e.1 != -1 else decide (e.1 < 0) || decide (e.1 ≥ (k : Int))) = false := by
      by_cases h0 : k = 0
      · subst h0; rw [if_pos rfl, (root e he).1]; rfl
      · rw [if_neg h0]
        obtain ⟨a, b⟩ := par k e he (by omega)
        rw [decide_eq_false (by omega), decide_eq_false (by omega)]; rfl
    rw [this]
    exact one e (List.mem_of_getElem? he)

theorem GoodTs.chk {l : List RtT} (h : GoodTs l) : chkT l = 0 := chk_of h.pos h.len h.root h.par (fun r hr => (h.good r hr).one)

theorem GoodTs.z {l : List RtT} (h : GoodTs l) : TsSz l := ⟨by have := h.len; omega, fun r hr => (h.good r hr).z⟩

theorem mem3 {x a b c : Int} (h : x ∈ [a, b, c]) : x = a ∨ x = b ∨ x = c := by simpa using h

theorem mem4 {x a b c d : Int} (h : x ∈ [a, b, c, d]) : x = a ∨ x = b ∨ x = c ∨ x = d := by simpa using h

end Go.Proofs.Ytcblbcpnfidndaa

namespace Go.Proofs.Ytcblbcpnfidndaa
open Go Go.Abs Go.Lab
abbrev MbT : Type := ByteArray × List LT × Int × Int × Bool × Bool × Unit

abbrev GpT : Type := Int × ByteArray × List MbT × Int × Int × Unit

abbrev mKey (m : MbT) : ByteArray := m.1

abbrev mLab (m : MbT) : List LT := m.2.1

abbrev mSince (m : MbT) : Int := m.2.2.1

abbrev mHeard (m : MbT) : Int := m.2.2.2.1

abbrev mFire (m : MbT) : Bool := m.2.2.2.2.1

abbrev mTold (m : MbT) : Bool := m.2.2.2.2.2.1

abbrev gMem (g : GpT) : List MbT := g.2.2.1

abbrev gDue (g : GpT) : Int := g.2.2.2.1

abbrev gSent (g : GpT) : Int := g.2.2.2.2.1

structure MbOK (m : MbT) : Prop where
  lab : validL (mLab m) = true
  key : mKey m = mkB (textL (mLab m))
  since : 0 ≤ mSince m ∧ mSince m ≤ 8589934592
  heard : 0 ≤ mHeard m ∧ mHeard m ≤ 8589934592
  told : mFire m = true ∨ mTold m = false

abbrev Less (a b : ByteArray) : Prop := leB b a = false

structure VG (g : GpT) : Prop where
  len : (gMem g).length ≤ 256
  rt : 0 ≤ g.1
  due : -1 ≤ gDue g ∧ gDue g ≤ 8589934592
  sent : -1 ≤ gSent g ∧ gSent g ≤ 8589934592
  mem : ∀ m ∈ gMem g, MbOK m
  up : ((gMem g).map mKey).Pairwise Less

theorem valid_ks {l : List LT} (h : validL l = true) : KSz l := by
  obtain ⟨h1, h2⟩ := valid_mem h
  refine ⟨by unfold big; omega, fun x hx => ?_⟩
  obtain ⟨a, b, _⟩ := h2 x hx
  have := keyS_sz a
  have := valS_sz b
  unfold big
  omega

theorem text_valid {l : List LT} (h : validL l = true) : textE l = mkB (textL l) := if_pos h

theorem m38_eq (a b c : Int) : m38 ((a, b, c, ()), ()) = some ((decide (b ≤ a ∧ a ≤ c), ()), ()) := by
  unfold m38
  by_cases h1 : a ≥ b <;> by_cases h2 : a ≤ c <;> simp [h1, h2]

theorem m57_eq {m : MbT} (h : MbOK m) : m57 ((m, ()), ()) = some ((true, ()), ()) := by
  have q1 := m37_eq (mLab m) (valid_ks h.lab)
  rw [h.lab] at q1
  have q2 := m39_eq (mLab m) (valid_ks h.lab)
  rw [text_valid h.lab, ← h.key] at q2
  have d1 : decide ((0 : Int) ≤ mSince m ∧ mSince m ≤ 8589934592) = true := decide_eq_true h.since
  have d2 : decide ((0 : Int) ≤ mHeard m ∧ mHeard m ≤ 8589934592) = true := decide_eq_true h.heard
  have ht := h.told
  obtain ⟨k, l, s, hh, f, t, ⟨⟩⟩ := m
  dsimp only [mKey, mLab, mSince, mHeard, mFire, mTold] at q1 q2 d1 d2 ht
  unfold m57
  simp only [q1, q2, m38_eq, d1, d2, sumE, sS]
  cases f
  · have : t = false := by simpa using ht
    subst this
    rfl
  · rfl

theorem pairs_prev {l : List ByteArray} (h : l.Pairwise Less) {i : Nat} {a b : ByteArray} (ha : l[i]? = some a) (hb : l[i + 1]? = some b) : Less a b := by
  obtain ⟨h1, rfl⟩ := List.getElem?_eq_some_iff.1 ha
  obtain ⟨h2, rfl⟩ := List.getElem?_eq_some_iff.1 hb
  exact List.pairwise_iff_getElem.1 h i (i + 1) h1 h2 (by omega)

theorem m23_eq {g : GpT} (h : VG g) : m23 ((g, ()), ()) = some ((true, ()), ()) := by
  have hlen := h.len
  have d0 : decide (((gMem g).length : Int) > 256) = false := decide_eq_false (by omega)
  have d1 : decide (g.1 < 0) = false := decide_eq_false (by have := h.rt; omega)
  have d2 : decide ((-1 : Int) ≤ gDue g ∧ gDue g ≤ 8589934592) = true := decide_eq_true h.due
  have d3 : decide ((-1 : Int) ≤ gSent g ∧ gSent g ≤ 8589934592) = true := decide_eq_true h.sent
  have hl : loopT l23_0_4 (((0 : Int), gMem g, ((gMem g).length : Int), ()), ((g, ()), ())) = some (.inr ((), ())) := loop_thru (gMem g) (fun i => (((i : Int), gMem g, ((gMem g).length : Int), ()), ((g, ()), ()))) _ (fun i e he hi => by
    have q := m57_eq (h.mem e (List.mem_of_getElem? he))
    have hw := w64_nat (i := i) (by omega)
    obtain ⟨rt, ky, ms, du, se, ⟨⟩⟩ := g
    rcases prev_case hi with h0 | ⟨p, h0, hp, hp1⟩
    · have : decide ((i : Int) > 0) = false := decide_eq_false (by omega)
      simp only [l23_0_4, lt_t hi, rowAt_G, rowG_nat he, q, this, hw, sumE, sS]
    · have : decide ((i : Int) > 0) = true := decide_eq_true (by omega)
      have hlt := pairs_prev h.up (i := i - 1) (a := mKey p) (b := mKey e) (by rw [List.getElem?_map, hp]; rfl) (by rw [show i - 1 + 1 = i by omega, List.getElem?_map, he]; rfl)
      have hlt : (Op.bytesLess e.1.toList p.1.toList || e.1.toList == p.1.toList) = false := hlt
      simp only [l23_0_4, lt_t hi, rowAt_G, rowG_nat he, q, this, hp1 (by omega), rowG_nat hp, hlt, hw, sumE, sS]) (by simp only [l23_0_4, lt_f, sumE, sS])
  obtain ⟨rt, ky, ms, du, se, ⟨⟩⟩ := g
  dsimp only [gMem, gDue, gSent] at d0 d1 d2 d3 hl
  unfold m23
  simp only [d0, d1, m38_eq, d2, d3, sumE, sS]
  refine bind_of _ hl ?_
  simp only [sumE, sS]

/-! ### Finding -/
theorem isNaN (s : ByteArray) : m89 ((s, ()), ()) = some ((false, ()), ()) := by
  unfold m89
  simp

def cmpB (a b : ByteArray) : Int := if Op.bytesLess a.toList b.toList = true then -1 else if leB a b = false then 1 else 0

theorem m74_eq (a b : ByteArray) : m74 ((a, b, ()), ()) = some ((cmpB a b, ()), ()) := by
  unfold m74 cmpB leB
  simp only [isNaN, sumE, sS]
  cases Op.bytesLess a.toList b.toList
  · cases (a.toList == b.toList) <;> rfl
  · rfl

theorem m73_eq (m : MbT) (k : ByteArray) : m73 ((m, k, ()), ()) = some ((cmpB (mKey m) k, ()), ()) := by
  unfold m73
  simp only [m74_eq, sumE, sS]

end Go.Proofs.Ytcblbcpnfidndaa

namespace Go.Proofs.Ytcblbcpnfidndaa
open Go Go.Abs Go.Lab
theorem bl_irr : ∀ x : List UInt8, Op.bytesLess x x = false
  | [] => rfl
  | a :: x => by
    have := bl_irr x
    simp [Op.bytesLess, this]

theorem bl_trans : ∀ {x y z : List UInt8}, Op.bytesLess x y = true → Op.bytesLess y z = true → Op.bytesLess x z = true
  | _, [], _, h, _ => by cases ‹List UInt8› <;> simp [Op.bytesLess] at h
  | _, _ :: _, [], _, h => by simp [Op.bytesLess] at h
  | [], _ :: _, _ :: _, _, _ => by simp [Op.bytesLess]
  | a :: x, b :: y, c :: z, h1, h2 => by
    simp only [Op.bytesLess, Bool.or_eq_true, decide_eq_true_eq, Bool.and_eq_true, beq_iff_eq] at h1 h2 ⊢
    rcases h1 with h1 | ⟨rfl, h1⟩
    · rcases h2 with h2 | ⟨rfl, h2⟩
      · exact .inl (UInt8.lt_trans h1 h2)
      · exact .inl h1
    · rcases h2 with h2 | ⟨rfl, h2⟩
      · exact .inl h2
      · exact .inr ⟨rfl, bl_trans h1 h2⟩

theorem bl_tri : ∀ (x y : List UInt8), Op.bytesLess x y = true ∨ x = y ∨ Op.bytesLess y x = true
  | [], [] => .inr (.inl rfl)
  | [], _ :: _ => .inl rfl
  | _ :: _, [] => .inr (.inr rfl)
  | a :: x, b :: y => by
    simp only [Op.bytesLess, Bool.or_eq_true, decide_eq_true_eq, Bool.and_eq_true, beq_iff_eq]
    rcases Nat.lt_trichotomy a.toNat b.toNat with h | h | h
    · exact .inl (.inl (UInt8.lt_iff_toNat_lt.2 h))
    · have h := UInt8.toNat_inj.1 h
      subst h
      rcases bl_tri x y with h | h | h
      · exact .inl (.inr ⟨rfl, h⟩)
      · exact .inr (.inl (by rw [h]))
      · exact .inr (.inr (.inr ⟨rfl, h⟩))
    · exact .inr (.inr (.inl (UInt8.lt_iff_toNat_lt.2 h)))

abbrev Lt (a b : ByteArray) : Prop := Op.bytesLess a.toList b.toList = true

theorem toL_inj {a b : ByteArray} (h : a.toList = b.toList) : a = b := bl_inj (by rw [← toList_bl, ← toList_bl, h])

theorem lt_irr (a : ByteArray) : ¬ Lt a a := fun h => by rw [Lt, bl_irr] at h; cases h

theorem lt_trans {a b c : ByteArray} (h : Lt a b) (k : Lt b c) : Lt a c := bl_trans h k

theorem lt_tri (a b : ByteArray) : Lt a b ∨ a = b ∨ Lt b a := by
  rcases bl_tri a.toList b.toList with h | h | h
  · exact .inl h
  · exact .inr (.inl (toL_inj h))
  · exact .inr (.inr h)

theorem less_lt {a b : ByteArray} : Less a b ↔ Lt a b := by
  unfold Less leB
  rw [Bool.or_eq_false_iff]
  constructor
  · rintro ⟨h1, h2⟩
    rcases lt_tri a b with h | h | h
    · exact h
    · subst h; simp at h2
    · rw [h] at h1; cases h1
  · intro h
    refine ⟨?_, ?_⟩
    · cases hc : Op.bytesLess b.toList a.toList
      · rfl
      · exact absurd (lt_trans h hc) (lt_irr a)
    · cases hc : (b.toList == a.toList)
      · rfl
      · have : b = a := toL_inj (by simpa using hc)
        subst this
        exact absurd h (lt_irr b)

theorem cmpB_neg {a b : ByteArray} : cmpB a b < 0 ↔ Lt a b := by
  unfold cmpB
  by_cases h : Lt a b
  · rw [if_pos h]; exact ⟨fun _ => h, fun _ => by omega⟩
  · rw [if_neg h]
    constructor
    · intro h2; split at h2 <;> omega
    · exact fun h2 => absurd h2 h

theorem cmpB_zero {a b : ByteArray} : cmpB a b = 0 ↔ a = b := by
  unfold cmpB
  by_cases h : Lt a b
  · rw [if_pos h]
    exact ⟨fun h2 => by omega, fun h2 => by subst h2; exact absurd h (lt_irr a)⟩
  · rw [if_neg h]
    by_cases h2 : leB a b = false
    · rw [if_pos h2]
      have h3 := less_lt.1 (show Less b a from h2)
      exact ⟨fun h => by omega, fun h => by subst h; exact absurd h3 (lt_irr a)⟩
    · rw [if_neg h2]
      refine ⟨fun _ => ?_, fun _ => rfl⟩
      rcases lt_tri a b with h3 | h3 | h3
      · exact absurd h3 h
      · exact h3
      · exact absurd (less_lt.2 h3) h2

theorem half (i j : Nat) (h : i + j ≤ 1000000) : w64 (shrI .u64 (IntKind.wrap .u64 (w64 ((i : Int) + (j : Int)))) 1) = (((i + j) / 2 : Nat) : Int) := by
  have h1 : w64 ((i : Int) + (j : Int)) = (i : Int) + (j : Int) := w64_id (by omega) (by omega)
  rw [h1]
  have h2 : IntKind.wrap .u64 ((i : Int) + (j : Int)) = (i : Int) + (j : Int) := by
    have hp : (2 : Int) ^ IntKind.u64.bits = 18446744073709551616 := rfl
    simp only [IntKind.wrap, hp, show IntKind.u64.signed = false from rfl, Bool.false_and, Bool.false_eq_true, if_false]
    omega
  rw [h2]
  have h3 : shrI .u64 ((i : Int) + (j : Int)) 1 = (((i + j) / 2 : Nat) : Int) := by
    unfold shrI
    rw [show (2 : Int) ^ (min (1 : Int).toNat IntKind.u64.bits) = 2 from rfl, Int.fdiv_eq_ediv_of_nonneg _ (by omega)]
    omega
  rw [h3]
  exact w64_id (by omega) (by omega)

theorem find40 {g : GpT} (hlen : (gMem g).length ≤ 256) (hup0 : ((gMem g).map mKey).Pairwise Less) (k : ByteArray) : ∃ (i : Nat) (o : Bool), m40 ((g, k, ()), ()) = some (((i : Int), o, ()), ()) ∧ i ≤ (gMem g).length ∧ (∀ m ∈ (gMem g).take i, Lt (mKey m) k) ∧
    (∀ m ∈ (gMem g).drop i, ¬ Lt (mKey m) k) ∧ (o = true → ∃ m, (gMem g)[i]? = some m ∧ mKey m = k) ∧ (o = false → ∀ m ∈ gMem g, mKey m ≠ k) := by
  have hup := List.pairwise_iff_getElem.1 hup0
  have mono : ∀ (a b : Nat) (x y : MbT), (gMem g)[a]? = some x → (gMem g)[b]? = some y → a ≤ b → ¬ Lt (mKey x) k → ¬ Lt (mKey y) k := by
    intro a b x y ha hb hab hx hy
    by_cases e : a = b
    · subst e; rw [ha] at hb; injection hb with hb; subst hb; exact hx hy
    · obtain ⟨h1, h1'⟩ := List.getElem?_eq_some_iff.1 ha
      obtain ⟨h2, h2'⟩ := List.getElem?_eq_some_iff.1 hb
      have := hup a b (by rw [List.length_map]; exact h1) (by rw [List.length_map]; exact h2) (by omega)
      rw [List.getElem_map, List.getElem_map, h1', h2'] at this
      exact hx (lt_trans (less_lt.1 this) hy)
  have key : ∃ i : Nat, loopT l40_1_3 ((k, gMem g, ((gMem g).length : Int), 0, ((gMem g).length : Int), ()), ()) = some ((k, (i : Int), gMem g, ((gMem g).length : Int), ()), ()) ∧ i ≤ (gMem g).length ∧
      (∀ j m, j < i → (gMem g)[j]? = some m → Lt (mKey m) k) ∧ (∀ j m, i ≤ j → (gMem g)[j]? = some m → ¬ Lt (mKey m) k) := by
    have go : ∀ (d lo hi : Nat), hi - lo ≤ d → lo ≤ hi → hi ≤ (gMem g).length → (∀ j m, j < lo → (gMem g)[j]? = some m → Lt (mKey m) k) → (∀ j m, hi ≤ j → (gMem g)[j]? = some m → ¬ Lt (mKey m) k) →
        ∃ i : Nat, loopT l40_1_3 ((k, gMem g, (hi : Int), (lo : Int), ((gMem g).length : Int), ()), ()) = some ((k, (i : Int), gMem g, ((gMem g).length : Int), ()), ()) ∧ i ≤ (gMem g).length ∧
          (∀ j m, j < i → (gMem g)[j]? = some m → Lt (mKey m) k) ∧ (∀ j m, i ≤ j → (gMem g)[j]? = some m → ¬ Lt (mKey m) k) := by
      intro d
      induction d with
      | zero =>
        intro lo hi h0 h1 h2 h3 h4
        have : lo = hi := by omega
        subst this
        refine ⟨lo, loopT_inr ?_, h2, h3, h4⟩
        simp only [l40_1_3, lt_f, sumE, sS]
      | succ d ih =>
        intro lo hi h0 h1 h2 h3 h4
        by_cases hlt : lo < hi
        · have hm := half lo hi (by omega)
          have hmid : (lo + hi) / 2 < (gMem g).length := by omega
          obtain ⟨e, he⟩ := getD_some hmid
          have dl : decide ((lo : Int) < (hi : Int)) = true := decide_eq_true (by omega)
          have d1 : decide ((0 : Int) ≤ 1) = true := rfl
          have hw : w64 ((((lo + hi) / 2 : Nat) : Int) + 1) = (((lo + hi) / 2 + 1 : Nat) : Int) := w64_nat (by omega)
          by_cases hc : Lt (mKey e) k
          · have dc : decide (cmpB (mKey e) k < 0) = true := decide_eq_true (cmpB_neg.2 hc)
            obtain ⟨i, q, r⟩ := ih ((lo + hi) / 2 + 1) hi (by omega) (by omega) h2 (fun j m hj hjm => by
              by_cases hx : Lt (mKey m) k
              · exact hx
              · exact absurd hc (mono j _ m e hjm he (by omega) hx)) h4
            refine ⟨i, (loopT_inl ?_).trans q, r⟩
            simp only [l40_1_3, dl, d1, hm, rowAt_G, rowG_nat he, m73_eq, dc, hw, sumE, sS]
          · have dc : decide (cmpB (mKey e) k < 0) = false := decide_eq_false (fun h => hc (cmpB_neg.1 h))
            obtain ⟨i, q, r⟩ := ih lo ((lo + hi) / 2) (by omega) (by omega) (by omega) h3 (fun j m hj hjm => mono _ j e m he hjm hj hc)
            refine ⟨i, (loopT_inl ?_).trans q, r⟩
            simp only [l40_1_3, dl, d1, hm, rowAt_G, rowG_nat he, m73_eq, dc, sumE, sS]
        · have : lo = hi := by omega
          subst this
          refine ⟨lo, loopT_inr ?_, h2, h3, h4⟩
          simp only [l40_1_3, lt_f, sumE, sS]
    exact go _ 0 _ (Nat.le_refl _) (Nat.zero_le _) (Nat.le_refl _) (fun j m hj => by omega) (fun j m hj hjm => by
      have := (List.getElem?_eq_some_iff.1 hjm).1; omega)
  obtain ⟨i, q, h1, h2, h3⟩ := key
  have ht : ∀ m ∈ (gMem g).take i, Lt (mKey m) k := fun m hm => by
    obtain ⟨j, hj, rfl⟩ := List.mem_take_iff_getElem.1 hm
    exact h2 j _ (by omega) (List.getElem?_eq_getElem _)
  have hd : ∀ m ∈ (gMem g).drop i, ¬ Lt (mKey m) k := fun m hm => by
    obtain ⟨j, hj, rfl⟩ := List.mem_drop_iff_getElem.1 hm
    exact h3 (i + j) _ (by omega) (List.getElem?_eq_getElem _)
  have hne : (∀ m, (gMem g)[i]? = some m → mKey m ≠ k) → ∀ m ∈ gMem g, mKey m ≠ k := by
    intro hi m hm e
    obtain ⟨j, hj, rfl⟩ := List.mem_iff_getElem.1 hm
    rcases Nat.lt_trichotomy j i with hji | hji | hji
    · have := h2 j _ hji (List.getElem?_eq_getElem hj)
      rw [e] at this
      exact lt_irr _ this
    · subst hji
      exact hi _ (List.getElem?_eq_getElem hj) e
    · have hil : i < (gMem g).length := by omega
      have a := hup i j (by rw [List.length_map]; exact hil) (by rw [List.length_map]; exact hj) hji
      rw [List.getElem_map, List.getElem_map] at a
      have b := h3 i _ (Nat.le_refl _) (List.getElem?_eq_getElem hil)
      have c := less_lt.1 a
      rw [e] at c
      exact b c
  by_cases hil : i < (gMem g).length
  · obtain ⟨e, he⟩ := getD_some hil
    have dl : decide ((i : Int) < ((gMem g).length : Int)) = true := decide_eq_true (by omega)
    refine ⟨i, cmpB (mKey e) k == 0, ?_, h1, ht, hd, fun ho => ⟨e, he, cmpB_zero.1 (by simpa using ho)⟩, fun ho => hne fun m hm hk => ?_⟩
    · unfold m40
      refine bind_of _ q ?_
      simp only [dl, rowAt_G, rowG_nat he, m73_eq, sumE, sS]
    · rw [he] at hm
      injection hm with hm
      subst hm
      have := cmpB_zero.2 hk
      rw [this] at ho
      cases ho
  · have dl : decide ((i : Int) < ((gMem g).length : Int)) = false := decide_eq_false (by omega)
    refine ⟨i, false, ?_, h1, ht, hd, fun ho => (by cases ho), fun _ => hne fun m hm => ?_⟩
    · unfold m40
      refine bind_of _ q ?_
      simp only [dl, sumE, sS]
    · have := (List.getElem?_eq_some_iff.1 hm).1; omega

/-! ### Copies -/
abbrev Cor := Int × ByteArray × Int × Int × Unit

def cor (g : GpT) : Cor := (g.1, g.2.1, gDue g, gSent g, ())

theorem copy41 {g : GpT} (h : VG g) : m41 ((g, ()), ()) = some ((), ((cor g, ()), (gMem g, ()))) := by
  have hlen := h.len
  obtain ⟨rt, ky, ms, du, se, ⟨⟩⟩ := g
  dsimp only [gMem] at hlen
  have d0 : decide (ms.length ≤ 4294967296) = true := decide_eq_true (by omega)
  have hl : loopT l41_0_3 (((0 : Int), (ms.length : Int), ()), (((rt, ky, du, se, ()), ()), (((0, ByteArray.empty, 0, 0, ()), ()), (ms, ())))) = some ((), (((((0, ByteArray.empty, 0, 0, ()) : Cor), ()), ((((rt, ky, du, se, ()) : Cor), ()), (ms, ()))))) := by
    refine loop_thru ms (fun i => (((i : Int), (ms.length : Int), ()), (((rt, ky, du, se, ()), ()), (((0, ByteArray.empty, 0, 0, ()), ()), (ms, ()))))) _ (fun i e he hi => ?_) (by simp only [l41_0_3, lt_f, sumE, sS])
    have hw := w64_nat (i := i) (by omega)
    have d2 : decide ((0 : Int) ≤ (i : Int) ∧ (i : Int) < (ms.length : Int)) = true := decide_eq_true (by omega)
    have hm := h.mem e (List.mem_of_getElem? he)
    have hv := (valid_mem hm.lab).1
    have d3 : decide (e.2.1.length ≤ 4294967296) = true := decide_eq_true (by dsimp only [mLab] at hv; omega)
    have hset : ms.set i (e.1, e.2.1, e.2.2) = ms := by
      have := (List.getElem?_eq_some_iff.1 he).2
      rw [← this]
      exact List.set_getElem_self _
    simp only [l41_0_3, lt_t hi, d2, Int.toNat_natCast, he, m43, d3, hset, hw, sumE, sS]
  unfold m41
  simp only [m75, d0, sumE, sS]
  refine bind_of _ hl ?_
  rfl

theorem m55_eq (t : Int) : m55 ((t, ()), ()) = some (((if t > 8589934592 then -1 else t), ()), ()) := by
  unfold m55
  by_cases h : t > 8589934592
  · simp only [h, if_true, sumE, sS]
  · simp only [h, if_false, sumE, sS]

end Go.Proofs.Ytcblbcpnfidndaa

namespace Go.Proofs.Ytcblbcpnfidndaa
open Go Go.Abs Go.Lab
abbrev inst (t : Int) : Bool := decide (0 ≤ t ∧ t ≤ 8589934592)

abbrev inD (t : Int) : Bool := decide (-1 ≤ t ∧ t ≤ 8589934592)

/-- Whether a member is right. -/
def okM (m : MbT) : Bool := validL (mLab m) && (decide (textE (mLab m) = mKey m) && (inst (mSince m) && (inst (mHeard m) && (mFire m || !mTold m))))

def badM (p : Option MbT) (m : MbT) : Bool := !okM m || (match p with | none => false | some q => leB (mKey m) (mKey q))

/-- Whether a group is valid. -/
def validG (g : GpT) : Bool := !decide (((gMem g).length : Int) > 256) && (!decide (g.1 < 0) && (inD (gDue g) && (inD (gSent g) && okP badM none (gMem g))))

/-- The sizes of a group. -/
def GSz (g : GpT) : Prop := (gMem g).length ≤ big ∧ ∀ m ∈ gMem g, KSz (mLab m)

theorem okM_iff {m : MbT} : okM m = true ↔ MbOK m := by
  unfold okM inst
  simp only [Bool.and_eq_true, decide_eq_true_eq, Bool.or_eq_true, Bool.not_eq_true']
  constructor
  · rintro ⟨h1, h2, h3, h4, h5⟩
    exact ⟨h1, by rw [← h2, text_valid h1], h3, h4, h5⟩
  · intro h
    exact ⟨h.lab, by rw [text_valid h.lab, h.key], h.since, h.heard, h.told⟩

theorem badM_no {p : Option MbT} {m : MbT} : badM p m = false ↔ MbOK m ∧ ∀ q, p = some q → Less (mKey q) (mKey m) := by
  unfold badM
  rw [Bool.or_eq_false_iff, Bool.not_eq_false', okM_iff]
  cases p with
  | none => exact ⟨fun h => ⟨h.1, fun q e => by cases e⟩, fun h => ⟨h.1, rfl⟩⟩
  | some q => exact ⟨fun h => ⟨h.1, fun q' e => by cases e; exact h.2⟩, fun h => ⟨h.1, h.2 q rfl⟩⟩

theorem okP_up : ∀ {l : List MbT} {p : Option MbT}, okP badM p l = true → (∀ m ∈ l, MbOK m) ∧ (∀ q, p = some q → ∀ m ∈ l, Less (mKey q) (mKey m)) ∧ (l.map mKey).Pairwise Less
  | [], _, _ => ⟨fun m hm => (by cases hm), fun _ _ m hm => (by cases hm), List.Pairwise.nil⟩
  | e :: r, p, h => by
    unfold okP at h
    rw [Bool.and_eq_true, Bool.not_eq_true'] at h
    obtain ⟨h1, h2⟩ := badM_no.1 h.1
    obtain ⟨k1, k2, k3⟩ := okP_up h.2
    refine ⟨fun m hm => ?_, fun q hq m hm => ?_, ?_⟩
    · rcases List.mem_cons.1 hm with rfl | hm
      · exact h1
      · exact k1 m hm
    · rcases List.mem_cons.1 hm with rfl | hm
      · exact h2 q hq
      · exact less_lt.2 (lt_trans (less_lt.1 (h2 q hq)) (less_lt.1 (k2 e rfl m hm)))
    · rw [List.map_cons]
      refine List.pairwise_cons.2 ⟨fun k hk => ?_, k3⟩
      obtain ⟨m, hm, rfl⟩ := List.mem_map.1 hk
      exact k2 e rfl m hm

theorem okP_of : ∀ {l : List MbT} {p : Option MbT}, (∀ m ∈ l, MbOK m) → (∀ q, p = some q → ∀ m ∈ l, Less (mKey q) (mKey m)) → (l.map mKey).Pairwise Less → okP badM p l = true
  | [], _, _, _, _ => rfl
  | e :: r, p, h1, h2, h3 => by
    rw [List.map_cons] at h3
    have h3 := List.pairwise_cons.1 h3
    unfold okP
    rw [badM_no.2 ⟨h1 e (List.mem_cons_self ..), fun q hq => h2 q hq e (List.mem_cons_self ..)⟩, Bool.not_false, Bool.true_and]
    exact okP_of (fun m hm => h1 m (List.mem_cons_of_mem _ hm)) (fun q hq m hm => by cases hq; exact h3.1 _ (List.mem_map_of_mem hm)) h3.2

theorem valid_iff {g : GpT} : validG g = true ↔ VG g := by
  unfold validG
  simp only [Bool.and_eq_true, Bool.not_eq_true', decide_eq_false_iff_not, decide_eq_true_eq]
  constructor
  · rintro ⟨h1, h2, h3, h4, h5⟩
    obtain ⟨k1, _, k3⟩ := okP_up h5
    exact ⟨by omega, by omega, h3, h4, k1, k3⟩
  · intro h
    have h1 := h.len
    have h2 := h.rt
    exact ⟨by omega, by omega, h.due, h.sent, okP_of h.mem (fun q hq => by cases hq) h.up⟩

theorem m58_eq (t : Int) : m58 ((t, ()), ()) = some ((inst t, ()), ()) := by
  unfold m58 inst
  by_cases h1 : t ≥ 0 <;> by_cases h2 : t ≤ 8589934592 <;> simp [h1, h2]

theorem inD_case (t : Int) : (t ≠ -1 ∧ inD t = inst t) ∨ (t = -1 ∧ inD t = true) := by
  by_cases h : t = -1
  · exact .inr ⟨h, decide_eq_true (by omega)⟩
  · exact .inl ⟨h, decide_eq_decide.2 (by omega)⟩

theorem m24_all (g : GpT) (hg : GSz g) : m24 ((g, ()), ()) = some ((validG g, ()), ()) := by
  obtain ⟨hl, hk⟩ := hg
  have h := loop_prev (f := l24_0_4) (gMem g) (fun i => (((i : Int), ()), ((g, ()), ()))) badM (.inl ((false, ()), ())) (.inr ((), ())) ?_ ?_
  · unfold validG
    obtain ⟨rt, ky, ms, du, se, ⟨⟩⟩ := g
    dsimp only [gMem, gDue, gSent, inD, inst] at h ⊢
    unfold m24
    simp only [m58_eq, mKey, mLab, mSince, mHeard, mFire, mTold, gMem, gDue, gSent, inst, inD, sumE, sS]
    cases decide ((ms.length : Int) > 256) <;> try simp only [sumE, sS]
    cases decide (rt < 0) <;> try simp only [sumE, sS]
    have key : (loopT l24_0_4 (((0 : Int), ()), (((rt, ky, ms, du, se, ()), ()), ()))).bind (fun d92 => sumE d92 (fun d93 => (some ((d93.1.1, ()), ()))) (fun d94 => (some ((true, ()), ())))) = some ((okP badM none ms, ()), ()) := by
      refine bind_of _ h ?_
      cases okP badM none ms <;> rfl
    have inD_case := inD_case
    dsimp only [inD, inst] at inD_case
    rcases inD_case du with ⟨h1, e1⟩ | ⟨h1, e1⟩ <;> rw [e1]
    · rw [bne_iff_ne.2 h1]
      simp only [sumE, sS]
      cases decide (0 ≤ du ∧ du ≤ 8589934592) <;> try simp only [sumE, sS]
      rcases inD_case se with ⟨h2, e2⟩ | ⟨h2, e2⟩ <;> rw [e2]
      · rw [bne_iff_ne.2 h2]
        simp only [sumE, sS]
        cases decide (0 ≤ se ∧ se ≤ 8589934592) <;> try simp only [sumE, sS]
        exact key
      · subst h2
        simp only [bne_self_eq_false, sumE, sS]
        exact key
    · subst h1
      simp only [bne_self_eq_false, sumE, sS]
      rcases inD_case se with ⟨h2, e2⟩ | ⟨h2, e2⟩ <;> rw [e2]
      · rw [bne_iff_ne.2 h2]
        simp only [sumE, sS]
        cases decide (0 ≤ se ∧ se ≤ 8589934592) <;> try simp only [sumE, sS]
        exact key
      · subst h2
        simp only [bne_self_eq_false, sumE, sS]
        exact key
  · intro i e he hi
    unfold big at hl
    have hke := hk e (List.mem_of_getElem? he)
    have q1 := m47_eq (mLab e) hke
    have q2 := m16_eq (mLab e) hke
    have hw := w64_nat (i := i) (by omega)
    obtain ⟨rt, ky, ms, du, se, ⟨⟩⟩ := g
    obtain ⟨k, l, s, hh, f, t, ⟨⟩⟩ := e
    dsimp only [gMem, mLab] at he hi hl q1 q2 ⊢
    rcases prev_case hi with h0 | ⟨p, h0, hp, hp1⟩
    · rw [if_pos h0]
      have : decide ((i : Int) > 0) = false := decide_eq_false (by omega)
      unfold badM okM
      simp only [l24_0_4, lt_t hi, rowAt_G, rowG_nat he, q1, q2, m58_eq, toList_bl, beq_bl, mKey, mLab, mSince, mHeard, mFire, mTold, gMem, gDue, gSent, inst, inD, this, hw, sumE, sS]
      cases validL l <;> try simp only [hw, mKey, mLab, mSince, mHeard, mFire, mTold, gMem, gDue, gSent, inst, inD, sumE, sS, Bool.or_false, Bool.or_true, Bool.false_or, Bool.true_or]
      cases decide (textE l = k) <;> try simp only [hw, mKey, mLab, mSince, mHeard, mFire, mTold, gMem, gDue, gSent, inst, inD, sumE, sS, Bool.or_false, Bool.or_true, Bool.false_or, Bool.true_or]
      cases decide (0 ≤ s ∧ s ≤ 8589934592) <;> try simp only [hw, mKey, mLab, mSince, mHeard, mFire, mTold, gMem, gDue, gSent, inst, inD, sumE, sS, Bool.or_false, Bool.or_true, Bool.false_or, Bool.true_or]
      cases decide (0 ≤ hh ∧ hh ≤ 8589934592) <;> try simp only [hw, mKey, mLab, mSince, mHeard, mFire, mTold, gMem, gDue, gSent, inst, inD, sumE, sS, Bool.or_false, Bool.or_true, Bool.false_or, Bool.true_or]
      cases f <;> cases t <;> try simp only [hw, mKey, mLab, mSince, mHeard, mFire, mTold, gMem, gDue, gSent, inst, inD, sumE, sS, Bool.or_false, Bool.or_true, Bool.false_or, Bool.true_or]
    · rw [if_neg (by omega), hp]
      have : decide ((i : Int) > 0) = true := decide_eq_true (by omega)
      unfold badM leB okM
      simp only [l24_0_4, lt_t hi, rowAt_G, rowG_nat he, q1, q2, m58_eq, toList_bl, beq_bl, mKey, mLab, mSince, mHeard, mFire, mTold, gMem, gDue, gSent, inst, inD, this, hp1 (by omega), rowG_nat hp, hw, sumE, sS]
      cases validL l <;> try simp only [hw, mKey, mLab, mSince, mHeard, mFire, mTold, gMem, gDue, gSent, inst, inD, sumE, sS, Bool.or_false, Bool.or_true, Bool.false_or, Bool.true_or]
      cases decide (textE l = k) <;> try simp only [hw, mKey, mLab, mSince, mHeard, mFire, mTold, gMem, gDue, gSent, inst, inD, sumE, sS, Bool.or_false, Bool.or_true, Bool.false_or, Bool.true_or]
      cases decide (0 ≤ s ∧ s ≤ 8589934592) <;> try simp only [hw, mKey, mLab, mSince, mHeard, mFire, mTold, gMem, gDue, gSent, inst, inD, sumE, sS, Bool.or_false, Bool.or_true, Bool.false_or, Bool.true_or]
      cases decide (0 ≤ hh ∧ hh ≤ 8589934592) <;> try simp only [hw, mKey, mLab, mSince, mHeard, mFire, mTold, gMem, gDue, gSent, inst, inD, sumE, sS, Bool.or_false, Bool.or_true, Bool.false_or, Bool.true_or]
      cases f <;> cases t <;> try simp only [hw, mKey, mLab, mSince, mHeard, mFire, mTold, gMem, gDue, gSent, inst, inD, sumE, sS, Bool.or_false, Bool.or_true, Bool.false_or, Bool.true_or] <;>
        cases (Op.bytesLess (bl k) (bl p.1) || decide (k = p.1)) <;> try simp only [hw, mKey, mLab, mSince, mHeard, mFire, mTold, gMem, gDue, gSent, inst, inD, sumE, sS]
  · simp only [l24_0_4, lt_f, sumE, sS]

/-! ### Routes -/
def strip (r : RtT) : RtT := (-1, [], r.2.2)

/-- Whether a route is right, as a root. -/
def rightR (r : RtT) : Bool := chkOne (strip r) == 0

theorem strip_z {r : RtT} (h : TrSz r) : TrSz (strip r) := ⟨⟨Nat.zero_le _, fun m hm => by cases hm⟩, h.2⟩

theorem chkT_strip (r : RtT) : chkT [strip r] = chkOne (strip r) := by
  have h1 : chkI 0 (strip r) = chkOne (strip r) := rfl
  have h2 : (([strip r] : List RtT)[0]?) = some (strip r) := rfl
  have h3 : decide (((strip r).2.1.length : Int) > 0) = false := rfl
  unfold chkT
  simp only [goI, h1, h2, h3, List.length_singleton]
  by_cases h : chkOne (strip r) = 0
  · rw [h]; rfl
  · rw [bne_iff_ne.2 h]
    simp only [cond_true]
    rw [bne_iff_ne.2 h]
    rfl

theorem m36_eq (r : RtT) (hr : TrSz r) : m36 ((r, ()), ()) = some ((rightR r, ()), ()) := by
  unfold m36
  refine bind_of _ (m67_eq [strip r] ⟨by simp, fun x hx => by simp at hx; subst hx; exact strip_z hr⟩) ?_
  rw [chkT_strip]
  rfl

end Go.Proofs.Ytcblbcpnfidndaa

namespace Go.Proofs.Ytcblbcpnfidndaa
open Go Go.Abs Go.Lab
abbrev rWait (r : RtT) : Int := r.2.2.2.2.1

abbrev rInt (r : RtT) : Int := r.2.2.2.2.2.1

abbrev rRep (r : RtT) : Int := r.2.2.2.2.2.2.1

structure RR (r : RtT) : Prop where
  z : TrSz r
  ok : rightR r = true
  pol : 0 ≤ r.2.2.1
  wait : 0 ≤ rWait r
  int : rWait r ≤ rInt r
  rep : rInt r ≤ rRep r
  max : rRep r ≤ 604800
  pos : rRep r ≠ 0

theorem rr_of {r : RtT} (z : TrSz r) (h : rightR r = true) : RR r := by
  have h0 : chkOne (strip r) = 0 := by unfold rightR at h; simpa using h
  unfold chkOne at h0
  cases h1 : (decide (((strip r).2.1.length : Int) > 8) || decide (((strip r).2.2.2.1.length : Int) > 12))
  · rw [h1] at h0
    cases h2 : (!(strip r).2.1.all rightM || !keysOK (strip r).2.2.2.1)
    · rw [h2] at h0
      cases h3 : chkRange (strip r)
      · unfold chkRange at h3
        simp only [Bool.or_eq_false_iff, decide_eq_false_iff_not, beq_eq_false_iff_ne] at h3
        obtain ⟨a, b, c, d, e, f⟩ := h3
        have a : ¬ r.2.2.1 < 0 := a
        have b : ¬ r.2.2.2.2.1 < 0 := b
        have c : ¬ r.2.2.2.2.1 > r.2.2.2.2.2.1 := c
        have d : ¬ r.2.2.2.2.2.1 > r.2.2.2.2.2.2.1 := d
        have e : ¬ r.2.2.2.2.2.2.1 > 604800 := e
        exact ⟨z, h, by omega, by unfold rWait; omega, by unfold rWait rInt; omega, by unfold rInt rRep; omega, by unfold rRep; omega, f⟩
      · rw [h3] at h0; cases h0
    · rw [h2] at h0; cases h0
  · rw [h1] at h0; cases h0

/-! ### Places of keys -/
def pos (k : ByteArray) : List MbT → Nat
  | [] => 0
  | m :: r => if Op.bytesLess (mKey m).toList k.toList = true then pos k r + 1 else 0

def hit (k : ByteArray) (l : List MbT) : Bool := match l[pos k l]? with | some m => decide (mKey m = k) | none => false

theorem pos_of {k : ByteArray} : ∀ {l : List MbT} {i : Nat}, i ≤ l.length → (∀ m ∈ l.take i, Lt (mKey m) k) → (∀ m ∈ l.drop i, ¬ Lt (mKey m) k) → pos k l = i
  | [], i, h, _, _ => by simp at h; subst h; rfl
  | m :: r, 0, _, _, h => by
    unfold pos
    rw [if_neg (h m (by simp))]
  | m :: r, i + 1, h0, h1, h2 => by
    unfold pos
    rw [if_pos (h1 m (by simp)), pos_of (by simpa using h0) (fun x hx => h1 x (by rw [List.take_succ_cons]; exact List.mem_cons_of_mem _ hx)) (fun x hx => h2 x (by simpa using hx))]

theorem pos_le (k : ByteArray) : ∀ l : List MbT, pos k l ≤ l.length
  | [] => Nat.le_refl _
  | m :: r => by
    unfold pos
    have := pos_le k r
    split <;> simp <;> omega

theorem pos_take {k : ByteArray} : ∀ {l : List MbT}, ∀ m ∈ l.take (pos k l), Lt (mKey m) k
  | [], m, h => by simp at h
  | x :: r, m, h => by
    unfold pos at h
    split at h
    · rename_i hx
      rw [List.take_succ_cons] at h
      rcases List.mem_cons.1 h with rfl | h
      · exact hx
      · exact pos_take m h
    · simp at h

theorem pos_at {k : ByteArray} : ∀ {l : List MbT} {m : MbT}, l[pos k l]? = some m → ¬ Lt (mKey m) k
  | [], m, h => by simp at h
  | x :: r, m, h => by
    unfold pos at h
    split at h
    · exact pos_at (by simpa using h)
    · rename_i hx
      simp at h
      subst h; exact hx

theorem up_drop {l : List MbT} (h : (l.map mKey).Pairwise Less) {i : Nat} {e m : MbT} (he : l[i]? = some e) (hm : m ∈ l.drop (i + 1)) : Less (mKey e) (mKey m) := by
  obtain ⟨j, hj, rfl⟩ := List.mem_drop_iff_getElem.1 hm
  obtain ⟨h1, rfl⟩ := List.getElem?_eq_some_iff.1 he
  have := List.pairwise_iff_getElem.1 h i (i + 1 + j) (by rw [List.length_map]; exact h1) (by rw [List.length_map]; omega) (by omega)
  rwa [List.getElem_map, List.getElem_map] at this

/-- Behind the place of a key there are greater keys only. -/
theorem pos_drop {k : ByteArray} {l : List MbT} (h : (l.map mKey).Pairwise Less) (hh : hit k l = false) : ∀ m ∈ l.drop (pos k l), Lt k (mKey m) := by
  intro m hm
  by_cases hl : pos k l < l.length
  · obtain ⟨e, he, hd⟩ := drop_at hl
    have h1 := pos_at he
    have h2 : mKey e ≠ k := by
      unfold hit at hh
      rw [he] at hh
      simpa using hh
    have h3 : Lt k (mKey e) := by
      rcases lt_tri (mKey e) k with h | h | h
      · exact absurd h h1
      · exact absurd h h2
      · exact h
    rw [hd] at hm
    rcases List.mem_cons.1 hm with rfl | hm
    · exact h3
    · exact lt_trans h3 (less_lt.1 (up_drop h he hm))
  · rw [List.drop_eq_nil_of_le (by omega)] at hm; cases hm

theorem hit_some {k : ByteArray} {l : List MbT} (h : hit k l = true) : ∃ m, l[pos k l]? = some m ∧ mKey m = k := by
  unfold hit at h
  split at h
  · rename_i m hm
    exact ⟨m, hm, by simpa using h⟩
  · cases h

theorem find_eq0 {g : GpT} (hlen : (gMem g).length ≤ 256) (hup : ((gMem g).map mKey).Pairwise Less) (k : ByteArray) : m40 ((g, k, ()), ()) = some (((pos k (gMem g) : Int), hit k (gMem g), ()), ()) := by
  obtain ⟨i, o, e, h1, h2, h3, h4, h5⟩ := find40 hlen hup k
  have hi := pos_of h1 h2 h3
  have ho : hit k (gMem g) = o := by
    unfold hit
    rw [hi]
    cases o
    · split
      · rename_i m hm
        exact decide_eq_false (h5 rfl m (List.mem_of_getElem? hm))
      · rfl
    · obtain ⟨m, hm, hk⟩ := h4 rfl
      rw [hm]
      exact decide_eq_true hk
  rw [e, hi, ho]

theorem find_eq {g : GpT} (h : VG g) (k : ByteArray) : m40 ((g, k, ()), ()) = some (((pos k (gMem g) : Int), hit k (gMem g), ()), ()) := find_eq0 h.len h.up k

/-! ### Waking -/
def limE (t : Int) : Int := if t > 8589934592 then -1 else t

def wakeN (se wait int t : Int) : Int := if se = -1 then t + wait else if se + int > t then se + int else t

def wakeV (du se wait int t : Int) : Int := limE (if du = -1 then wakeN se wait int t else if du < wakeN se wait int t then du else wakeN se wait int t)

theorem lim_p (t : Int) : m55 ((t, ()), ()) = some ((limE t, ()), ()) := m55_eq t

/-! ### Add -/
abbrev zeroC : Cor := (0, ByteArray.empty, 0, 0, ())

abbrev dueC (g : GpT) (d : Int) : Cor := (g.1, g.2.1, d, gSent g, ())

def heardM (m : MbT) (t : Int) : MbT := (m.1, m.2.1, m.2.2.1, t, m.2.2.2.2)

def stepM (m : MbT) (on : Bool) (t : Int) : MbT := (m.1, m.2.1, t, mHeard m, on, on, ())

abbrev wakeG (g : GpT) (r : RtT) (t : Int) : Int := wakeV (gDue g) (gSent g) (rWait r) (rInt r) t

def restD (g : GpT) (ms : List MbT) : Int := if ms.length = 0 then -1 else gDue g

/-- What is made of an alert. -/
def gAdd (g : GpT) (r : RtT) (l : List LT) (on : Bool) (t : Int) : Int × Cor × List MbT :=
  let k := mkB (textL l)
  let ms := gMem g
  let i := pos k ms
  if hit k ms = true then
    match ms[i]? with
    | none => (0, zeroC, [])
    | some m =>
      if mFire m = on then (0, dueC g (gDue g), ms.set i (heardM m t))
      else if on = true then (0, dueC g (gDue g), ms.set i (stepM (heardM m t) true t))
      else if mTold m = true then (0, dueC g (wakeG g r t), ms.set i (stepM (heardM m t) false t))
      else (0, dueC g (restD g (ms.take i ++ ms.drop (i + 1))), ms.take i ++ ms.drop (i + 1))
  else if on = true then
    if ms.length = 256 then (5, zeroC, []) else (0, dueC g (wakeG g r t), ms.take i ++ [(k, l, t, t, true, false, ())] ++ ms.drop i)
  else (0, dueC g (restD g ms), ms)

abbrev outA (x : Int × Cor × List MbT) : Option ((Int × Unit) × ((Cor × Unit) × (List MbT × Unit))) := some ((x.1, ()), ((x.2.1, ()), (x.2.2, ())))

theorem set_at {l : List MbT} {i : Nat} {e : MbT} (h : l[i]? = some e) (x : MbT) : (l.set i x)[i]? = some x := by
  rw [List.getElem?_set_self (List.getElem?_eq_some_iff.1 h).1]

theorem take_set_self (l : List MbT) (i : Nat) (x : MbT) : (l.set i x).take i = l.take i := by
  rw [List.take_set, List.set_eq_of_length_le (by rw [List.length_take]; omega)]

theorem drop_set_self (l : List MbT) (i : Nat) (x : MbT) : (l.set i x).drop (i + 1) = l.drop (i + 1) := by
  rw [List.drop_set, if_pos (by omega)]

theorem len0 (l : List MbT) : (((l.length : Nat) : Int) == 0) = decide (l.length = 0) := by
  rw [beq_decide]; exact decide_eq_decide.2 (by omega)

theorem add_p {g : GpT} (h : VG g) {r : RtT} (hr : RR r) {l : List LT} (hl : validL l = true) (on : Bool) {t : Int} (ht : 0 ≤ t ∧ t ≤ 8589934592) :
    m14 ((g, r, l, on, t, ()), ()) = outA (gAdd g r l on t) := by
  have q1 := m23_eq h
  have q2 := m36_eq r hr.z
  rw [hr.ok] at q2
  have q3 := m37_eq l (valid_ks hl)
  rw [hl] at q3
  have q4 := m39_eq l (valid_ks hl)
  rw [text_valid hl] at q4
  have q5 := find_eq h (mkB (textL l))
  have q6 := copy41 h
  have dt : decide ((0 : Int) ≤ t ∧ t ≤ 8589934592) = true := decide_eq_true ht
  have hlen := h.len
  have hsent := h.sent
  have hdue := h.due
  have hv := (valid_mem hl).1
  have hw := hr.wait
  have hi := hr.int
  have hp := hr.rep
  have hx := hr.max
  have w1 : w64 (gSent g + rInt r) = gSent g + rInt r := w64_id (by omega) (by omega)
  have w2 : w64 (t + rWait r) = t + rWait r := w64_id (by omega) (by omega)
  have hple := pos_le (mkB (textL l)) (gMem g)
  obtain ⟨rt, ky, ms, du, se, ⟨⟩⟩ := g
  obtain ⟨pa, mt, po, gb, wa, ir, rp, co, ⟨⟩⟩ := r
  dsimp only [gMem, gDue, gSent, rWait, rInt, rRep, cor] at *
  unfold m14
  simp only [q1, q2, q3, q4, q5, q6, m38_eq, dt, Int.toNat_natCast, List.length_set, sumE, sS]
  unfold gAdd
  dsimp only [gMem, gDue, gSent, rWait, rInt, rRep, dueC, wakeG]
  have hx0 : hit (mkB (textL l)) ms = match ms[pos (mkB (textL l)) ms]? with | some m => decide (mKey m = (mkB (textL l))) | none => false := rfl
  generalize pos (mkB (textL l)) ms = i at *
  cases hh : hit (mkB (textL l)) ms
  · simp only [Bool.false_eq_true, if_false, sumE, sS]
    cases on
    · have b0 : ((ms.length : Int) == 0) = decide (ms.length = 0) := by
        rw [beq_decide]; exact decide_eq_decide.2 (by omega)
      simp only [restD, gMem, gDue, b0, eq_self, Bool.false_eq_true, if_false, sumE, sS]
      by_cases h0 : ms.length = 0
      · simp only [h0, eq_self, if_true, sumE, sS]
      · simp only [h0, eq_self, if_false, sumE, sS]
    · by_cases h6 : ms.length = 256
      · have b6 : ((ms.length : Int) == 256) = true := by rw [beq_decide]; exact decide_eq_true (by omega)
        simp only [b6, eq_self, if_true, sumE, sS]
        rw [if_pos h6]
      · have b6 : ((ms.length : Int) == 256) = false := by rw [beq_decide]; exact decide_eq_false (by omega)
        have d1 : decide (l.length ≤ 4294967296) = true := decide_eq_true (by omega)
        have d2 : decide ((0 : Int) ≤ (i : Int) ∧ (i : Int) ≤ (ms.length : Int) ∧ ms.length ≤ 4294967295) = true := decide_eq_true (by omega)
        have b0 : ((((ms.take i ++ [(mkB (textL l), l, t, t, true, false, ())] ++ ms.drop i).length : Nat) : Int) == 0) = false := by
          rw [beq_decide]; exact decide_eq_false (by simp only [List.length_append, List.length_singleton]; omega)
        simp only [b6, h6, m43, d1, d2, List.length_singleton, Int.toNat_natCast, eq_self, and_true, if_true, if_false, sumE, sS]
        by_cases hs : se = -1 <;> by_cases hd : du = -1
        · subst hs; subst hd
          simp only [w1, w2, wakeV, wakeN, lim_p, b0, eq_self, if_true, if_false, sumE, sS]
        · subst hs
          have bd : (du != -1) = true := bne_iff_ne.2 hd
          simp only [w1, w2, bd, hd, wakeV, wakeN, lim_p, b0, eq_self, if_true, if_false, sumE, sS]
        · subst hd
          have bs : (se != -1) = true := bne_iff_ne.2 hs
          simp only [w1, w2, bs, hs, wakeV, wakeN, lim_p, b0, eq_self, if_true, if_false, sumE, sS]
        · have bd : (du != -1) = true := bne_iff_ne.2 hd
          have bs : (se != -1) = true := bne_iff_ne.2 hs
          simp only [w1, w2, bd, bs, hd, hs, wakeV, wakeN, lim_p, b0, eq_self, if_true, if_false, sumE, sS]
  · have hm : ∃ m, ms[i]? = some m := by
      by_cases hil : i < ms.length
      · exact getD_some hil
      · rw [List.getElem?_eq_none (by omega)] at hx0
        exact absurd hh (by rw [hx0]; simp)
    obtain ⟨m, hm⟩ := hm
    have hlt : i < ms.length := (List.getElem?_eq_some_iff.1 hm).1
    have db : decide ((0 : Int) ≤ (i : Int) ∧ (i : Int) < (ms.length : Int)) = true := decide_eq_true (by omega)
    have wi : w64 ((i : Int) + 1) = ((i + 1 : Nat) : Int) := w64_nat (by omega)
    have dd : decide ((0 : Int) ≤ (i : Int) ∧ (i : Int) < ((i + 1 : Nat) : Int) ∧ ((i + 1 : Nat) : Int) ≤ (ms.length : Int) ∧ ms.length ≤ 4294967296) = true := decide_eq_true (by omega)
    have sa := set_at hm
    have b0 : ((ms.length : Int) == 0) = false := by rw [beq_decide]; exact decide_eq_false (by omega)
    obtain ⟨mk, ml, mn, mh, mf, mt', ⟨⟩⟩ := m
    simp only [hm, sa, db, List.set_set, List.length_set, Int.toNat_natCast, heardM, stepM, mKey, mLab, mHeard, mFire, mTold, eq_self, if_true, sumE, sS]
    have ft : (false == true) = false := rfl
    have tf : (true == false) = false := rfl
    cases mf <;> cases on
    · simp only [b0, List.length_set, eq_self, if_true, sumE, sS]
    · simp only [ft, b0, List.length_set, eq_self, if_true, if_false, Bool.false_eq_true, sumE, sS]
    · cases mt'
      · simp only [tf, wi, dd, take_set_self, drop_set_self, restD, gMem, gDue, len0, List.length_set, Int.toNat_natCast, eq_self, if_true, if_false, Bool.true_eq_false, Bool.false_eq_true, sumE, sS]
        by_cases h0 : (ms.take i ++ ms.drop (i + 1)).length = 0
        · simp only [h0, eq_self, if_true, sumE, sS]
        · simp only [h0, eq_self, if_false, sumE, sS]
      · simp only [tf, if_true, if_false, Bool.true_eq_false, Bool.false_eq_true, sumE, sS]
        by_cases hs : se = -1 <;> by_cases hd : du = -1
        · subst hs; subst hd
          simp only [w1, w2, wakeV, wakeN, lim_p, b0, List.length_set, eq_self, if_true, if_false, sumE, sS]
        · subst hs
          have bd : (du != -1) = true := bne_iff_ne.2 hd
          simp only [w1, w2, bd, hd, wakeV, wakeN, lim_p, b0, List.length_set, eq_self, if_true, if_false, sumE, sS]
        · subst hd
          have bs : (se != -1) = true := bne_iff_ne.2 hs
          simp only [w1, w2, bs, hs, wakeV, wakeN, lim_p, b0, List.length_set, eq_self, if_true, if_false, sumE, sS]
        · have bd : (du != -1) = true := bne_iff_ne.2 hd
          have bs : (se != -1) = true := bne_iff_ne.2 hs
          simp only [w1, w2, bd, bs, hd, hs, wakeV, wakeN, lim_p, b0, List.length_set, eq_self, if_true, if_false, sumE, sS]
    · simp only [b0, List.length_set, eq_self, if_true, sumE, sS]

end Go.Proofs.Ytcblbcpnfidndaa

namespace Go.Proofs.Ytcblbcpnfidndaa
open Go Go.Abs Go.Lab
theorem m24_eq {g : GpT} (h : VG g) : m24 ((g, ()), ()) = some ((true, ()), ()) := by
  have := m24_all g ⟨by have := h.len; unfold big; omega, fun m hm => valid_ks (h.mem m hm).lab⟩
  rwa [valid_iff.2 h] at this

end Go.Proofs.Ytcblbcpnfidndaa

namespace Go.Proofs.Ytcblbcpnfidndaa
open Go Go.Abs Go.Lab
/-- Whether a member has not been heard of for long. -/
def oldM (m : MbT) (t a : Int) : Bool := mFire m && decide (mHeard m ≤ t - a)

/-- Members that were looked at, Due, members to come. -/
def expL (se wa ir t a : Int) : List MbT → Int → List MbT → List MbT × Int
  | kept, du, [] => (kept, du)
  | kept, du, m :: r =>
    if oldM m t a = true then
      if mTold m = true then expL se wa ir t a (kept ++ [stepM m false t]) (wakeV du se wa ir t) r
      else expL se wa ir t a kept (if (kept ++ r).length = 0 then -1 else du) r
    else expL se wa ir t a (kept ++ [m]) du r

def gExp (g : GpT) (r : RtT) (t a : Int) : Int × Cor × List MbT :=
  if a = 0 then (0, dueC g (gDue g), gMem g)
  else (0, dueC g (expL (gSent g) (rWait r) (rInt r) t a [] (gDue g) (gMem g)).2, (expL (gSent g) (rWait r) (rInt r) t a [] (gDue g) (gMem g)).1)

theorem pos_app {A B : List MbT} {m : MbT} (h : ((A ++ m :: B).map mKey).Pairwise Less) : pos (mKey m) (A ++ m :: B) = A.length ∧ hit (mKey m) (A ++ m :: B) = true := by
  rw [List.map_append, List.map_cons, List.pairwise_append] at h
  obtain ⟨h1, h2, h3⟩ := h
  have h2 := List.pairwise_cons.1 h2
  have hp : pos (mKey m) (A ++ m :: B) = A.length := by
    refine pos_of (by simp) (fun x hx => ?_) (fun x hx => ?_)
    · rw [List.take_left' rfl] at hx
      exact less_lt.1 (h3 (mKey x) (List.mem_map_of_mem hx) (mKey m) (by simp))
    · rw [List.drop_left' rfl] at hx
      rcases List.mem_cons.1 hx with rfl | hx
      · exact lt_irr _
      · exact fun hc => lt_irr _ (lt_trans (less_lt.1 (h2.1 (mKey x) (List.mem_map_of_mem hx))) hc)
  refine ⟨hp, ?_⟩
  unfold hit
  rw [hp, List.getElem?_append_right (Nat.le_refl _), Nat.sub_self]
  simp

theorem app_at (A : List MbT) (m : MbT) (B : List MbT) : (A ++ m :: B)[A.length]? = some m := by
  rw [List.getElem?_append_right (Nat.le_refl _), Nat.sub_self]; rfl

theorem app_set (A : List MbT) (m x : MbT) (B : List MbT) : (A ++ m :: B).set A.length x = A ++ x :: B := by
  rw [List.set_append_right _ _ (Nat.le_refl _), Nat.sub_self]; rfl

theorem app_take (A : List MbT) (m : MbT) (B : List MbT) : (A ++ m :: B).take A.length = A := List.take_left' rfl

theorem app_drop (A : List MbT) (m : MbT) (B : List MbT) : (A ++ m :: B).drop (A.length + 1) = B := by
  rw [List.drop_append, List.drop_eq_nil_of_le (by omega), List.nil_append]
  simp

theorem wake_b {du se wa ir t : Int} (h1 : 0 ≤ t ∧ t ≤ 8589934592) (h2 : 0 ≤ wa) (h3 : -1 ≤ du ∧ du ≤ 8589934592) (h4 : -1 ≤ se) (h5 : 0 ≤ ir) : -1 ≤ wakeV du se wa ir t ∧ wakeV du se wa ir t ≤ 8589934592 := by
  unfold wakeV wakeN limE
  split <;> split <;> (repeat' split) <;> omega

theorem exp_p_loop (rt : Int) (ky : ByteArray) (se t a : Int) {r : RtT} (hr : RR r) (gms : List MbT) (hse : -1 ≤ se ∧ se ≤ 8589934592) (ht : 0 ≤ t ∧ t ≤ 8589934592) (ha : 0 ≤ a ∧ a ≤ 604800) (hg : gms.length ≤ 256) : ∀ (rem : List MbT) (i : Nat) (kept : List MbT) (du : Int), gms.drop i = rem → i ≤ gms.length →
    ((kept ++ rem).map mKey).Pairwise Less → kept.length ≤ i → -1 ≤ du ∧ du ≤ 8589934592 →
    loopT l29_0_9 (((i : Int), t, a, gms, (gms.length : Int), ()), (((rt, ky, du, se, ()), ()), ((r, ()), ((zeroC, ()), (kept ++ rem, ()))))) =
      some ((), ((zeroC, ()), (((rt, ky, (expL se (rWait r) (rInt r) t a kept du rem).2, se, ()), ()), ((expL se (rWait r) (rInt r) t a kept du rem).1, ())))) := by
  intro rem
  induction rem with
  | nil =>
    intro i kept du hd hi hup hk hdu
    have : i = gms.length := by
      have := congrArg List.length hd
      rw [List.length_drop] at this
      simp at this; omega
    subst this
    refine loopT_inr ?_
    simp only [l29_0_9, lt_f, expL, List.append_nil, sumE, sS]
  | cons m rem ih =>
    intro i kept du hd hi hup hk hdu
    have hlt : i < gms.length := by
      have := congrArg List.length hd
      rw [List.length_drop] at this
      simp at this; omega
    obtain ⟨e, he, hd2⟩ := drop_at hlt
    rw [hd2] at hd
    injection hd with hd0 hd1
    subst hd0
    have hrl : rem.length + (i + 1) = gms.length := by
      rw [← hd1, List.length_drop]; omega
    have hw := w64_nat (i := i) (by omega)
    have hkl : (kept ++ e :: rem).length ≤ 256 := by simp; omega
    obtain ⟨hp, hh⟩ := pos_app hup
    have q := find_eq0 (g := (rt, ky, kept ++ e :: rem, du, se, ())) hkl hup (mKey e)
    dsimp only [gMem] at q
    rw [hp, hh] at q
    have hup1 : ((kept ++ [e] ++ rem).map mKey).Pairwise Less := by rw [List.append_assoc]; exact hup
    have next := fun x (hx : mKey x = mKey e) du' hdu' => ih (i + 1) (kept ++ [x]) du' hd1 (by omega) (by
      rw [List.append_assoc]
      rw [List.map_append, List.map_append, List.map_cons, List.map_nil, hx]
      rw [List.map_append, List.map_cons] at hup
      exact hup) (by simp; omega) hdu'
    have w3 : w64 (t - a) = t - a := w64_id (by omega) (by omega)
    obtain ⟨pa, mt, po, gb, wa, ir, rp, co, ⟨⟩⟩ := r
    have hwa := hr.wait
    have hir := hr.int
    have hrp := hr.rep
    have hmx := hr.max
    dsimp only [rWait, rInt, rRep] at *
    obtain ⟨mk, ml, mn, mh, mf, mt', ⟨⟩⟩ := e
    dsimp only [mKey] at *
    unfold expL
    by_cases ho : oldM (mk, ml, mn, mh, mf, mt', ()) t a = true
    · rw [if_pos ho]
      unfold oldM at ho
      dsimp only [mFire, mHeard] at ho
      rw [Bool.and_eq_true] at ho
      obtain ⟨rfl, ho⟩ := ho
      have hkl2 : kept.length + (rem.length + 1) ≤ 256 := by simpa using hkl
      have db : decide ((0 : Int) ≤ (kept.length : Int) ∧ (kept.length : Int) < ((kept.length + (rem.length + 1) : Nat) : Int)) = true := decide_eq_true (by omega)
      have wk : w64 ((kept.length : Int) + 1) = ((kept.length + 1 : Nat) : Int) := w64_nat (by omega)
      have dd : decide ((0 : Int) ≤ (kept.length : Int) ∧ (kept.length : Int) < ((kept.length + 1 : Nat) : Int) ∧ ((kept.length + 1 : Nat) : Int) ≤ ((kept.length + (rem.length + 1) : Nat) : Int) ∧ kept.length + (rem.length + 1) ≤ 4294967296) = true := decide_eq_true (by omega)
      have tf : (true == false) = false := rfl
      have sl : ∀ x : MbT, (kept ++ x :: rem).length = kept.length + (rem.length + 1) := fun x => by simp
      have sz : ((((kept.length + (rem.length + 1) : Nat) : Int)) == 0) = false := by rw [beq_decide]; exact decide_eq_false (by omega)
      cases mt'
      · have n0 : (if mTold ((mk, ml, mn, mh, true, false, ()) : MbT) = true then expL se wa ir t a (kept ++ [stepM (mk, ml, mn, mh, true, false, ()) false t]) (wakeV du se wa ir t) rem else expL se wa ir t a kept (if (kept ++ rem).length = 0 then -1 else du) rem) = expL se wa ir t a kept (if (kept ++ rem).length = 0 then -1 else du) rem := rfl
        rw [n0]
        have q2 := ih (i + 1) kept (if (kept ++ rem).length = 0 then -1 else du) hd1 (by omega) (by
          rw [List.map_append, List.map_cons] at hup
          rw [List.map_append]
          exact hup.sublist (List.Sublist.append (List.Sublist.refl _) (List.sublist_cons_self _ _))) (by omega) (by split <;> omega)
        rw [← q2]
        refine loopT_inl ?_
        simp only [l29_0_9, lt_t hlt, rowAt_G, rowG_nat he, q, w3, ho, sumE, sS]
        simp only [sl, db, Int.toNat_natCast, app_at, tf, wk, dd, app_take, app_drop, len0, eq_self, sumE, sS]
        by_cases h0 : (kept ++ rem).length = 0
        · simp only [h0, hw, eq_self, if_true, sumE, sS]
        · simp only [h0, hw, eq_self, if_false, sumE, sS]
      · have n0 : (if mTold ((mk, ml, mn, mh, true, true, ()) : MbT) = true then expL se wa ir t a (kept ++ [stepM (mk, ml, mn, mh, true, true, ()) false t]) (wakeV du se wa ir t) rem else expL se wa ir t a kept (if (kept ++ rem).length = 0 then -1 else du) rem) = expL se wa ir t a (kept ++ [stepM (mk, ml, mn, mh, true, true, ()) false t]) (wakeV du se wa ir t) rem := rfl
        rw [n0, ← next (stepM (mk, ml, mn, mh, true, true, ()) false t) rfl (wakeV du se wa ir t) (wake_b ht hwa hdu hse.1 (by omega)), List.append_assoc]
        refine loopT_inl ?_
        have w1 : w64 (se + ir) = se + ir := w64_id (by omega) (by omega)
        have w2 : w64 (t + wa) = t + wa := w64_id (by omega) (by omega)
        simp only [l29_0_9, lt_t hlt, rowAt_G, rowG_nat he, q, w3, ho, sumE, sS]
        simp only [sl, db, Int.toNat_natCast, app_at, app_set, tf, List.singleton_append, stepM, mHeard, eq_self, sumE, sS]
        by_cases hs : se = -1 <;> by_cases hd : du = -1
        · subst hs; subst hd
          simp only [w1, w2, wakeV, wakeN, lim_p, sl, sz, hw, eq_self, if_true, if_false, sumE, sS]
        · subst hs
          have bd : (du != -1) = true := bne_iff_ne.2 hd
          simp only [w1, w2, bd, hd, wakeV, wakeN, lim_p, sl, sz, hw, eq_self, if_true, if_false, sumE, sS]
        · subst hd
          have bs : (se != -1) = true := bne_iff_ne.2 hs
          simp only [w1, w2, bs, hs, wakeV, wakeN, lim_p, sl, sz, hw, eq_self, if_true, if_false, sumE, sS]
        · have bd : (du != -1) = true := bne_iff_ne.2 hd
          have bs : (se != -1) = true := bne_iff_ne.2 hs
          simp only [w1, w2, bd, bs, hd, hs, wakeV, wakeN, lim_p, sl, sz, hw, eq_self, if_true, if_false, sumE, sS]
    · rw [if_neg ho]
      rw [← next _ rfl du hdu, List.append_assoc]
      refine loopT_inl ?_
      unfold oldM at ho
      dsimp only [mFire, mHeard] at ho
      simp only [l29_0_9, lt_t hlt, rowAt_G, rowG_nat he, q, w3, sumE, sS]
      cases mf
      · simp only [hw, List.singleton_append, sumE, sS]
      · have : decide (mh ≤ t - a) = false := by simpa using ho
        simp only [this, hw, List.singleton_append, sumE, sS]

theorem exp_p {g : GpT} (h : VG g) {r : RtT} (hr : RR r) {t a : Int} (ht : 0 ≤ t ∧ t ≤ 8589934592) (ha : 0 ≤ a ∧ a ≤ 604800) : m29 ((g, r, t, a, ()), ()) = outA (gExp g r t a) := by
  have q1 := m23_eq h
  have q2 := m36_eq r hr.z
  rw [hr.ok] at q2
  have q6 := copy41 h
  have dt : decide ((0 : Int) ≤ t ∧ t ≤ 8589934592) = true := decide_eq_true ht
  have da : decide ((0 : Int) ≤ a ∧ a ≤ 604800) = true := decide_eq_true ha
  have hl := exp_p_loop g.1 g.2.1 (gSent g) t a hr (gMem g) h.sent ht ha h.len (gMem g) 0 [] (gDue g) rfl (Nat.zero_le _) h.up (Nat.zero_le _) h.due
  obtain ⟨rt, ky, ms, du, se, ⟨⟩⟩ := g
  dsimp only [gMem, gDue, gSent, cor] at *
  unfold m29 gExp
  simp only [q1, q2, q6, m38_eq, dt, da, sumE, sS]
  by_cases h0 : a = 0
  · subst h0
    simp only [eq_self, if_true, beq_self_eq_true, sumE, sS]
  · have b0 : (a == 0) = false := beq_eq_false_iff_ne.2 h0
    rw [if_neg h0, b0]
    simp only [sumE, sS]
    exact bind_of _ hl rfl

end Go.Proofs.Ytcblbcpnfidndaa

namespace Go.Proofs.Ytcblbcpnfidndaa
open Go Go.Abs Go.Lab
abbrev NtC := Int × Int × Int × ByteArray × Unit

abbrev zeroN : NtC := (0, 0, 0, ByteArray.empty, ())

/-- Whether a list has a key. -/
def muB (mu : List ByteArray) (k : ByteArray) : Bool := mu.any fun x => decide (x = k)

def firL (mu : List ByteArray) (ms : List MbT) : List ByteArray := (ms.filter fun m => !muB mu (mKey m) && mFire m).map mKey

def resL (mu : List ByteArray) (ms : List MbT) : List ByteArray := (ms.filter fun m => !muB mu (mKey m) && !mFire m).map mKey

def freB (mu : List ByteArray) (ms : List MbT) : Bool := ms.any fun m => !muB mu (mKey m) && (mFire m && !mTold m)

def tellM (F : List ByteArray) (m : MbT) : MbT := (m.1, m.2.1, m.2.2.1, m.2.2.2.1, m.2.2.2.2.1, mTold m || muB F (mKey m), ())

def aftL (F R : List ByteArray) (ms : List MbT) : List MbT := (ms.filter fun m => !muB R (mKey m)).map (tellM F)

def opnB (ms : List MbT) : Bool := ms.any fun m => !mTold m

def againB (se rep t : Int) (F : List ByteArray) : Bool := decide (0 < F.length) && (se != -1) && decide (se + rep ≤ t)

def newsB (se rep t : Int) (mu : List ByteArray) (ms : List MbT) : Bool := freB mu ms || againB se rep t (firL mu ms) || decide (0 < (resL mu ms).length)

def nextD (se int rep t : Int) (o : Bool) : Int := limE (max (if o = true ∨ se + rep ≤ t then t + int else se + rep) (t + 1))

abbrev LkT := Bool × Cor × NtC × List MbT × List ByteArray × List ByteArray

/-- What a look makes. -/
def gLook (g : GpT) (r : RtT) (t : Int) (mu : List ByteArray) : LkT :=
  if gDue g = -1 ∨ gDue g > t then (false, dueC g (gDue g), zeroN, gMem g, [], [])
  else
    let F := firL mu (gMem g)
    let R := resL mu (gMem g)
    if newsB (gSent g) (rRep r) t mu (gMem g) = true then
      (true, (g.1, g.2.1, (if (aftL F R (gMem g)).length = 0 then -1 else nextD t (rInt r) (rRep r) t (opnB (aftL F R (gMem g)))), t, ()), (t, g.1, r.2.2.1, g.2.1, ()), aftL F R (gMem g), F, R)
    else (false, dueC g (if (gMem g).length = 0 then -1 else nextD (gSent g) (rInt r) (rRep r) t (opnB (gMem g))), zeroN, gMem g, [], [])

theorem takeSnoc {A : Type} {l : List A} {i : Nat} {e : A} (he : l[i]? = some e) : l.take (i + 1) = l.take i ++ [e] := by
  rw [List.take_add_one, he]; rfl

theorem firL_snoc (mu : List ByteArray) (l : List MbT) (e : MbT) : firL mu (l ++ [e]) = firL mu l ++ (if !muB mu (mKey e) && mFire e then [mKey e] else []) := by
  unfold firL
  rw [List.filter_append, List.map_append]
  cases h : (!muB mu (mKey e) && mFire e) <;> simp [h]

theorem resL_snoc (mu : List ByteArray) (l : List MbT) (e : MbT) : resL mu (l ++ [e]) = resL mu l ++ (if !muB mu (mKey e) && !mFire e then [mKey e] else []) := by
  unfold resL
  rw [List.filter_append, List.map_append]
  cases h : (!muB mu (mKey e) && !mFire e) <;> simp [h]

theorem freB_snoc (mu : List ByteArray) (l : List MbT) (e : MbT) : freB mu (l ++ [e]) = (freB mu l || (!muB mu (mKey e) && (mFire e && !mTold e))) := by
  unfold freB
  rw [List.any_append]
  simp

theorem firL_len (mu : List ByteArray) (l : List MbT) : (firL mu l).length ≤ l.length := by
  unfold firL; rw [List.length_map]; exact List.length_filter_le _ _

theorem resL_len (mu : List ByteArray) (l : List MbT) : (resL mu l).length ≤ l.length := by
  unfold resL; rw [List.length_map]; exact List.length_filter_le _ _

theorem has_p (mu : List ByteArray) (k : ByteArray) (h : mu.length ≤ big) : m52 ((mu, k, ()), ()) = some ((muB mu k, ()), ()) := m52_eq mu k h

theorem notice_p (ms : List MbT) (mu : List ByteArray) (t : Int) (nc : NtC) (r : RtT) (c : Cor) (hl : ms.length ≤ 256) (hm : mu.length ≤ big) :
    loopT l17_1_4 (((0 : Int), false, mu, t, ((ms.length : Nat) : Int), ()), (ms, (nc, ()), (zeroN, ()), (r, ()), (c, ()), [], [], ())) =
      some ((freB mu ms, t, ()), (ms, (zeroN, ()), (nc, ()), (r, ()), (c, ()), firL mu ms, resL mu ms, ())) := by
  have := loop_thru (f := l17_1_4) ms (fun i => (((i : Int), freB mu (ms.take i), mu, t, ((ms.length : Nat) : Int), ()), (ms, (nc, ()), (zeroN, ()), (r, ()), (c, ()), firL mu (ms.take i), resL mu (ms.take i), ())))
    ((freB mu ms, t, ()), (ms, (zeroN, ()), (nc, ()), (r, ()), (c, ()), firL mu ms, resL mu ms, ())) ?_ ?_
  · exact this
  · intro i e he hi
    have hw : w64 ((i : Int) + 1) = ((i + 1 : Nat) : Int) := w64_nat (by omega)
    have hb : decide ((0 : Int) ≤ (i : Int) ∧ (i : Int) < (ms.length : Int)) = true := decide_eq_true (by omega)
    have f1 := firL_len mu (ms.take i)
    have f2 := resL_len mu (ms.take i)
    rw [List.length_take] at f1 f2
    have c1 : decide ((firL mu (ms.take i)).length + [mKey e].length ≤ 4294967296) = true := decide_eq_true (by simp; omega)
    have c2 : decide ((resL mu (ms.take i)).length + [mKey e].length ≤ 4294967296) = true := decide_eq_true (by simp; omega)
    have q := has_p mu (mKey e) hm
    obtain ⟨mk, ml, mn, mh, mf, mt', ⟨⟩⟩ := e
    dsimp only [mKey] at q c1 c2
    rw [takeSnoc he, firL_snoc, resL_snoc, freB_snoc]
    simp only [l17_1_4, lt_t hi, hb, Int.toNat_natCast, he, q, mKey, mFire, mTold, sumE, sS]
    cases muB mu mk
    · cases mf
      · simp only [c2, hw, List.append_nil, Bool.or_false, if_true, if_false, Bool.false_eq_true, sumE, sS]
      · simp only [c1, hw, List.append_nil, Bool.or_false, if_true, if_false, Bool.false_eq_true, sumE, sS]
        cases freB mu (ms.take i) <;> simp only [hw, Bool.true_or, Bool.false_or, sumE, sS]
    · simp only [hw, List.append_nil, Bool.or_false, if_true, if_false, Bool.false_eq_true, sumE, sS]
  · rw [List.take_length]
    simp only [l17_1_4, lt_f, sumE, sS]

abbrev keepM (R : List ByteArray) (m : MbT) : Bool := !muB R (mKey m)

theorem index_p (ms : List MbT) (nc : NtC) (F R : List ByteArray) (hl : ms.length ≤ 256) (hR : R.length ≤ big) :
    (loopT l17_3_2 (((0 : Int), ((ms.length : Nat) : Int), ()), (ms, (nc, ()), F, R, ())) = some (.inr ((), (ms, (nc, ()), F, R, ()))) ∧ ms.filter (keepM R) = ms) ∨
    ∃ j, j < ms.length ∧ loopT l17_3_2 (((0 : Int), ((ms.length : Nat) : Int), ()), (ms, (nc, ()), F, R, ())) = some (.inl (((j : Int), ()), (ms, (nc, ()), F, R, ()))) ∧ (ms.take (j + 1)).filter (keepM R) = ms.take j := by
  have key : ∀ (d i : Nat), i + d = ms.length → (ms.take i).filter (keepM R) = ms.take i →
      (loopT l17_3_2 (((i : Int), ((ms.length : Nat) : Int), ()), (ms, (nc, ()), F, R, ())) = some (.inr ((), (ms, (nc, ()), F, R, ()))) ∧ ms.filter (keepM R) = ms) ∨
      ∃ j, j < ms.length ∧ loopT l17_3_2 (((i : Int), ((ms.length : Nat) : Int), ()), (ms, (nc, ()), F, R, ())) = some (.inl (((j : Int), ()), (ms, (nc, ()), F, R, ()))) ∧ (ms.take (j + 1)).filter (keepM R) = ms.take j := by
    intro d
    induction d with
    | zero =>
      intro i h h2
      obtain rfl : i = ms.length := by omega
      rw [List.take_length] at h2
      refine .inl ⟨loopT_inr ?_, h2⟩
      simp only [l17_3_2, lt_f, sumE, sS]
    | succ d ih =>
      intro i h h2
      obtain ⟨e, he⟩ := getD_some (l := ms) (i := i) (by omega)
      have hi : i < ms.length := by omega
      have hw : w64 ((i : Int) + 1) = ((i + 1 : Nat) : Int) := w64_nat (by omega)
      have hb : decide ((0 : Int) ≤ (i : Int) ∧ (i : Int) < (ms.length : Int)) = true := decide_eq_true (by omega)
      have q := has_p R (mKey e) hR
      dsimp only [mKey] at q
      cases hr : muB R (mKey e)
      · dsimp only [mKey] at hr
        have h3 : (ms.take (i + 1)).filter (keepM R) = ms.take (i + 1) := by
          rw [takeSnoc he, List.filter_append, h2]
          simp [keepM, hr]
        have hs : l17_3_2 (((i : Int), ((ms.length : Nat) : Int), ()), (ms, (nc, ()), F, R, ())) = some (.inl ((((i + 1 : Nat) : Int), ((ms.length : Nat) : Int), ()), (ms, (nc, ()), F, R, ()))) := by
          simp only [l17_3_2, lt_t hi, hb, Int.toNat_natCast, he, q, hr, hw, eq_self, sumE, sS]
        rw [loopT_inl hs]
        exact ih (i + 1) (by omega) h3
      · dsimp only [mKey] at hr
        refine .inr ⟨i, hi, loopT_inr ?_, ?_⟩
        · simp only [l17_3_2, lt_t hi, hb, Int.toNat_natCast, he, q, hr, hw, eq_self, sumE, sS]
        · rw [takeSnoc he, List.filter_append, h2]
          simp [keepM, hr]
  exact key ms.length 0 (by omega) rfl

theorem strike_p (ms : List MbT) (nc : NtC) (F R : List ByteArray) (hl : ms.length ≤ 256) (hR : R.length ≤ big) : ∀ (d src dst : Nat) (blk : List MbT), src + d = ms.length → dst < src → blk.length = ms.length →
    blk.take dst = (ms.take src).filter (keepM R) → blk.drop src = ms.drop src →
    ∃ (dst' : Nat) (blk' : List MbT), loopT l17_2_5 (((src : Int), (dst : Int), ()), (blk, (nc, ()), F, R, ())) = some (((dst' : Int), ()), (blk', (nc, ()), F, R, ())) ∧ dst' ≤ ms.length ∧ blk'.length = ms.length ∧ blk'.take dst' = ms.filter (keepM R) := by
  intro d
  induction d with
  | zero =>
    intro src dst blk h1 h2 h3 h4 h5
    obtain rfl : src = ms.length := by omega
    rw [List.take_length] at h4
    refine ⟨dst, blk, loopT_inr ?_, by omega, h3, h4⟩
    have : decide ((ms.length : Int) < ((blk.length : Nat) : Int)) = false := decide_eq_false (by omega)
    simp only [l17_2_5, this, sumE, sS]
  | succ d ih =>
    intro src dst blk h1 h2 h3 h4 h5
    obtain ⟨e, he⟩ := getD_some (l := ms) (i := src) (by omega)
    have he' : blk[src]? = some e := by
      have := congrArg (fun l => l[0]?) h5
      simp only [List.getElem?_drop, Nat.add_zero] at this
      rw [this, he]
    have c1 : decide ((src : Int) < ((blk.length : Nat) : Int)) = true := decide_eq_true (by omega)
    have c2 : decide ((0 : Int) ≤ (src : Int) ∧ (src : Int) < (blk.length : Int)) = true := decide_eq_true (by omega)
    have c3 : decide ((0 : Int) ≤ (dst : Int) ∧ (dst : Int) < (blk.length : Int)) = true := decide_eq_true (by omega)
    have c4 : decide (dst < blk.length) = true := decide_eq_true (by omega)
    have w1 : w64 ((src : Int) + 1) = ((src + 1 : Nat) : Int) := w64_nat (by omega)
    have w2 : w64 ((dst : Int) + 1) = ((dst + 1 : Nat) : Int) := w64_nat (by omega)
    have q := has_p R (mKey e) hR
    dsimp only [mKey] at q
    cases hr : muB R (mKey e)
    · dsimp only [mKey] at hr
      have hs : l17_2_5 (((src : Int), (dst : Int), ()), (blk, (nc, ()), F, R, ())) = some (.inl ((((src + 1 : Nat) : Int), ((dst + 1 : Nat) : Int), ()), (blk.set dst e, (nc, ()), F, R, ()))) := by
        simp only [l17_2_5, c1, c2, Int.toNat_natCast, he', q, hr, c3, c4, w1, w2, eq_self, sumE, sS]
      rw [loopT_inl hs]
      refine ih (src + 1) (dst + 1) (blk.set dst e) (by omega) (by omega) (by rw [List.length_set, h3]) ?_ ?_
      · rw [takeSnoc he, List.filter_append, ← h4]
        rw [takeSnoc (e := e) (by rw [List.getElem?_set_self (by omega)]), take_set_self]
        simp [keepM, hr]
      · rw [List.drop_set, if_pos (by omega)]
        rw [← List.drop_drop, ← List.drop_drop, h5]
    · dsimp only [mKey] at hr
      have hs : l17_2_5 (((src : Int), (dst : Int), ()), (blk, (nc, ()), F, R, ())) = some (.inl ((((src + 1 : Nat) : Int), (dst : Int), ()), (blk, (nc, ()), F, R, ()))) := by
        simp only [l17_2_5, c1, c2, Int.toNat_natCast, he', q, hr, w1, eq_self, sumE, sS]
      rw [loopT_inl hs]
      refine ih (src + 1) dst blk (by omega) (by omega) h3 ?_ ?_
      · rw [takeSnoc he, List.filter_append, ← h4]
        simp [keepM, hr]
      · rw [← List.drop_drop, ← List.drop_drop, h5]

end Go.Proofs.Ytcblbcpnfidndaa

namespace Go.Proofs.Ytcblbcpnfidndaa
open Go Go.Abs Go.Lab
abbrev PgT := Int × ByteArray × (Nat × Nat) × Int × Int × Unit

theorem tell_p (M T : List MbT) (nc : NtC) (g : PgT) (c0 : Cor) (n0 : NtC) (r : RtT) (F R : List ByteArray) (ok : Bool) (t : Int) (hl : M.length ≤ 256) (hF : F.length ≤ big) (hg : g.2.2.1 = (0, M.length)) :
    loopT l17_0_13 (((0 : Int), (0, M.length), ok, t, ((M.length : Nat) : Int), ()), ((nc, ()), (g, ()), M ++ T, (c0, ()), (n0, ()), (r, ()), F, R, ())) =
      some ((ok, t, ()), ((c0, ()), (n0, ()), (nc, ()), (g, ()), (r, ()), F, R, M.map (tellM F) ++ T, ())) := by
  obtain ⟨rt, ky, pt, du, se, ⟨⟩⟩ := g
  dsimp only at hg
  subst hg
  have := loop_thru (f := l17_0_13) M (fun i => (((i : Int), (0, M.length), ok, t, ((M.length : Nat) : Int), ()), ((nc, ()), ((rt, ky, (0, M.length), du, se, ()), ()), (M.take i).map (tellM F) ++ (M.drop i ++ T), (c0, ()), (n0, ()), (r, ()), F, R, ())))
    ((ok, t, ()), ((c0, ()), (n0, ()), (nc, ()), ((rt, ky, (0, M.length), du, se, ()), ()), (r, ()), F, R, M.map (tellM F) ++ T, ())) ?_ ?_
  · exact this
  · intro i e he hi
    obtain ⟨e', he', hd⟩ := drop_at hi
    rw [he] at he'
    injection he' with he'
    subst he'
    have hw : w64 ((i : Int) + 1) = ((i + 1 : Nat) : Int) := w64_nat (by omega)
    have hb : decide ((0 : Int) ≤ (i : Int) ∧ (i : Int) < (M.length : Int)) = true := decide_eq_true (by omega)
    have hA : ((M.take i).map (tellM F)).length = i := by simp; omega
    rw [hd, List.cons_append]
    have at1 : ∀ B : List MbT, ((M.take i).map (tellM F) ++ e :: B)[i]? = some e := fun B => by
      have := app_at ((M.take i).map (tellM F)) e B
      rwa [hA] at this
    have st1 : ∀ (x : MbT) (B : List MbT), ((M.take i).map (tellM F) ++ e :: B).set i x = (M.take i).map (tellM F) ++ x :: B := fun x B => by
      have := app_set ((M.take i).map (tellM F)) e x B
      rwa [hA] at this
    have q := has_p F (mKey e) hF
    dsimp only [mKey] at q
    have hx : (M.take (i + 1)).map (tellM F) ++ (M.drop (i + 1) ++ T) = (M.take i).map (tellM F) ++ tellM F e :: (M.drop (i + 1) ++ T) := by
      rw [takeSnoc he, List.map_append, List.append_assoc]; rfl
    rw [hx]
    obtain ⟨mk, ml, mn, mh, mf, mt', ⟨⟩⟩ := e
    dsimp only at q
    simp only [l17_0_13, lt_t hi, hb, Int.toNat_natCast, Nat.zero_add, at1, st1, q, hw, sumE, sS]
    cases mt' <;> simp only [st1, hw, tellM, mTold, mKey, Bool.true_or, Bool.false_or, sumE, sS]
  · rw [List.take_length, List.drop_length, List.nil_append]
    simp only [l17_0_13, lt_f, sumE, sS]

theorem open_p (l : List MbT) (hl : l.length ≤ 256) : ∃ j : Nat, loopT l17_7_2 (((0 : Int), l, (l.length : Int), ()), ()) = some (bif opnB l then .inl (((j : Int), ()), ()) else .inr ((), ())) := by
  have h := loop_list0 (f := l17_7_2) l (fun i (_ : Unit) => (((i : Int), l, (l.length : Int), ()), ())) (fun i _ e => bif !mTold e then .inr (.inl (((i : Int), ()), ())) else .inl ()) (fun _ => .inr ((), ())) ?_ ?_ ()
  · obtain ⟨j, _, hj⟩ := runL_any (fun e : MbT => !mTold e) (fun i : Nat => (Sum.inl (((i : Int), ()), ()) : ((Int × Unit) × Unit) ⊕ (Unit × Unit))) (.inr ((), ())) l 0
    exact ⟨j, h.trans (congrArg some hj)⟩
  · intro i e _ he hi
    have hw : w64 ((i : Int) + 1) = ((i + 1 : Nat) : Int) := w64_nat (by omega)
    have q : m54 ((e, ()), ()) = some ((!mTold e, ()), ()) := rfl
    simp only [l17_7_2, rowAt_G, rowG_nat he, lt_t hi, q, sumE, sS]
    cases mTold e <;> simp only [sumE, sS, hw]
  · intro _
    simp only [l17_7_2, lt_f, sumE, sS]

/-- The form of the program's result. -/
def LookOK (x : LkT) (o : Option ((Bool × Int × Unit) × ((PgT × Unit) × (NtC × Unit) × List MbT × List ByteArray × List ByteArray × Unit))) : Prop :=
  ∃ (n : Nat) (blk : List MbT), o = some ((x.1, 0, ()), (((x.2.1.1, x.2.1.2.1, (0, n), x.2.1.2.2.1, x.2.1.2.2.2.1, ()), ()), (x.2.2.1, ()), blk, x.2.2.2.2.1, x.2.2.2.2.2, ())) ∧ n ≤ blk.length ∧ blk.take n = x.2.2.2.1

theorem look_bind {A : Type} {y : LkT} {o : Option A} {f : A → Option ((Bool × Int × Unit) × ((PgT × Unit) × (NtC × Unit) × List MbT × List ByteArray × List ByteArray × Unit))} (x : A) (h : o = some x) (h2 : LookOK y (f x)) : LookOK y (o.bind f) := by
  rw [h]; exact h2

theorem look_ex {A : Type} {y : LkT} {o : Option A} {f : A → Option ((Bool × Int × Unit) × ((PgT × Unit) × (NtC × Unit) × List MbT × List ByteArray × List ByteArray × Unit))} (P : A → Prop) (h : ∃ x, o = some x ∧ P x) (h2 : ∀ x, P x → LookOK y (f x)) : LookOK y (o.bind f) := by
  obtain ⟨x, rfl, hp⟩ := h
  exact h2 x hp

theorem exb {A B : Type} {o : Option A} {f : A → Option B} {Q : B → Prop} (x : A) (h : o = some x) (h2 : ∃ b, f x = some b ∧ Q b) : ∃ b, o.bind f = some b ∧ Q b := by
  rw [h]; exact h2

theorem exP {A B : Type} {o : Option A} {f : A → Option B} {Q : B → Prop} (P : A → Prop) (h : ∃ x, o = some x ∧ P x) (h2 : ∀ x, P x → ∃ b, f x = some b ∧ Q b) : ∃ b, o.bind f = some b ∧ Q b := by
  obtain ⟨x, rfl, hp⟩ := h
  exact h2 x hp

theorem len0n (n : Nat) : (((n : Nat) : Int) == 0) = decide (n = 0) := by
  rw [beq_decide]; exact decide_eq_decide.2 (by omega)

theorem look_p {g : GpT} (h : VG g) {r : RtT} (hr : RR r) {t : Int} (ht : 0 ≤ t ∧ t ≤ 8589934592) {mu : List ByteArray} (hm : mu.length ≤ big) : LookOK (gLook g r t mu) (m17 ((g, r, t, mu, ()), ())) := by
  have q1 := m23_eq h
  have q2 := m36_eq r hr.z
  rw [hr.ok] at q2
  have q6 := copy41 h
  have dt : decide ((0 : Int) ≤ t ∧ t ≤ 8589934592) = true := decide_eq_true ht
  have hlen := h.len
  have hsent := h.sent
  have hdue := h.due
  have hir := hr.int
  have hwa := hr.wait
  have hrp := hr.rep
  have hmx := hr.max
  obtain ⟨rt, ky, ms, du, se, ⟨⟩⟩ := g
  obtain ⟨pa, mt, po, gb, wa, ir, rp, co, ⟨⟩⟩ := r
  dsimp only [gMem, gDue, gSent, rWait, rInt, rRep, cor] at *
  have qn := fun nc c => notice_p ms mu t nc (pa, mt, po, gb, wa, ir, rp, co, ()) c hlen hm
  unfold m17 gLook
  dsimp only [gMem, gDue, gSent, rInt, rRep, dueC]
  simp only [q1, q2, q6, m38_eq, dt, sumE, sS]
  have w1 : w64 (se + rp) = se + rp := w64_id (by omega) (by omega)
  have w2 : w64 (t + 1) = t + 1 := w64_id (by omega) (by omega)
  have w3 : w64 (t + ir) = t + ir := w64_id (by omega) (by omega)
  have w4 : w64 (t + rp) = t + rp := w64_id (by omega) (by omega)
  by_cases h1 : du = -1
  · subst h1
    rw [if_pos (.inl rfl)]
    simp only [beq_self_eq_true, sumE, sS]
    exact ⟨ms.length, ms, rfl, Nat.le_refl _, List.take_length⟩
  have b1 : (du == -1) = false := beq_eq_false_iff_ne.2 h1
  rw [b1]
  by_cases h2 : du > t
  · rw [if_pos (.inr h2)]
    simp only [decide_eq_true h2, sumE, sS]
    exact ⟨ms.length, ms, rfl, Nat.le_refl _, List.take_length⟩
  rw [if_neg (by rintro (h | h) <;> contradiction)]
  simp only [decide_eq_false h2, qn, sumE, sS]
  have fl := firL_len mu ms
  have rl := resL_len mu ms
  refine look_bind ((againB se rp t (firL mu ms), freB mu ms, ()), ms, (zeroN, ()), ((t, rt, po, ky, ()), ()), firL mu ms, resL mu ms, ()) ?_ ?_
  · unfold againB
    rw [show decide (((firL mu ms).length : Int) > 0) = decide (0 < (firL mu ms).length) from decide_eq_decide.2 (by omega), w1]
    cases decide (0 < (firL mu ms).length) <;> cases (se != -1) <;> simp only [sumE, sS]
  dsimp only
  refine look_bind ((newsB se rp t mu ms, ()), ms, ((t, rt, po, ky, ()), ()), firL mu ms, resL mu ms, ()) ?_ ?_
  · unfold newsB
    rw [show decide (((resL mu ms).length : Int) > 0) = decide (0 < (resL mu ms).length) from decide_eq_decide.2 (by omega)]
    cases freB mu ms <;> cases againB se rp t (firL mu ms) <;> simp only [Bool.true_or, Bool.false_or, sumE, sS]
  dsimp only
  rw [show decide (ms.length = ms.length) = true from decide_eq_true rfl, cond_true]
  refine look_ex (fun x => ∃ (ok : Bool) (se' : Int) (n : Nat) (blk : List MbT) (F' R' : List ByteArray) (nc : NtC) (c0 : Cor) (n0 : NtC), x = ((ok, t, ()), (c0, ()), (n0, ()), (nc, ()), ((rt, ky, (0, n), du, se', ()), ()), ((pa, mt, po, gb, wa, ir, rp, co, ()), ()), F', R', blk, ()) ∧
    n ≤ blk.length ∧ blk.length ≤ 256 ∧ (-1 ≤ se' ∧ se' ≤ 8589934592) ∧ (if newsB se rp t mu ms = true then
      ((true, (rt, ky, (if (aftL (firL mu ms) (resL mu ms) ms).length = 0 then -1 else nextD t ir rp t (opnB (aftL (firL mu ms) (resL mu ms) ms))), t, ()), (t, rt, po, ky, ()), aftL (firL mu ms) (resL mu ms) ms, firL mu ms, resL mu ms) : LkT)
      else (false, (rt, ky, (if ms.length = 0 then -1 else nextD se ir rp t (opnB ms)), se, ()), zeroN, ms, [], [])) = (ok, (rt, ky, (if (blk.take n).length = 0 then -1 else nextD se' ir rp t (opnB (blk.take n))), se', ()), nc, blk.take n, F', R')) ?_ ?_
  · cases newsB se rp t mu ms
    · refine ⟨_, rfl, false, se, ms.length, ms, [], [], zeroN, zeroC, zeroN, rfl, Nat.le_refl _, hlen, hsent, ?_⟩
      rw [List.take_length]
      rfl
    · rw [cond_true]
      refine exP (fun x => ∃ (n : Nat) (blk : List MbT), x = ((true, t, ()), ((t, rt, po, ky, ()), ()), ((rt, ky, (0, n), du, t, ()), ()), (zeroC, ()), (zeroN, ()), ((pa, mt, po, gb, wa, ir, rp, co, ()), ()), firL mu ms, resL mu ms, blk, ()) ∧ n ≤ blk.length ∧ blk.length = ms.length ∧ blk.take n = ms.filter (keepM (resL mu ms))) ?_ ?_
      · rcases index_p ms (t, rt, po, ky, ()) (firL mu ms) (resL mu ms) hlen (by unfold big; omega) with ⟨e, hf⟩ | ⟨j, hj, e, hf⟩
        · rw [e]
          simp only [eq_self, beq_self_eq_true, sumE, sS]
          exact ⟨_, rfl, ms.length, ms, rfl, Nat.le_refl _, rfl, by rw [List.take_length, hf]⟩
        · have bj : ((j : Int) == -1) = false := beq_eq_false_iff_ne.2 (by omega)
          have wj : w64 ((j : Int) + 1) = ((j + 1 : Nat) : Int) := w64_nat (by omega)
          rw [e]
          simp only [eq_self, bj, wj, sumE, sS]
          obtain ⟨dst, blk, e2, h3, h4, h5⟩ := strike_p ms (t, rt, po, ky, ()) (firL mu ms) (resL mu ms) hlen (by unfold big; omega) (ms.length - (j + 1)) (j + 1) j ms (by omega) (by omega) rfl hf.symm rfl
          refine exb _ e2 ?_
          have d1 : decide ((0 : Int) ≤ (dst : Int)) = true := decide_eq_true (by omega)
          have d2 : decide (dst ≤ blk.length ∧ True) = true := decide_eq_true ⟨by omega, trivial⟩
          have d3 : decide (dst + (blk.length - dst) ≤ blk.length) = true := decide_eq_true (by omega)
          have d0 : decide (dst ≤ blk.length ∧ blk.length ≤ blk.length) = true := decide_eq_true (by omega)
          have sl : (spliceL blk dst (List.replicate (blk.length - dst) ((ByteArray.empty, [], 0, 0, false, false, ()) : MbT))).length = blk.length := by
            unfold spliceL
            simp; omega
          have st : (spliceL blk dst (List.replicate (blk.length - dst) ((ByteArray.empty, [], 0, 0, false, false, ()) : MbT))).take dst = blk.take dst := by
            unfold spliceL
            rw [List.append_assoc, List.take_append_of_le_length (by rw [List.length_take]; omega), List.take_of_length_le (by rw [List.length_take]; omega)]
          have d4 : decide (0 ≤ dst ∧ dst ≤ blk.length) = true := decide_eq_true (by omega)
          have d5 : decide (blk.length = ms.length) = true := decide_eq_true h4
          simp only [d1, d0, d3, d4, d5, sl, Int.toNat_natCast, eq_self, sumE, sS]
          exact ⟨_, rfl, dst, _, rfl, by rw [sl]; omega, by rw [sl, h4], by rw [st, h5]⟩
      · rintro _ ⟨n, blk, rfl, h1, h2, h3⟩
        dsimp only
        have hMl : (blk.take n).length = n := by rw [List.length_take]; omega
        have q := tell_p (blk.take n) (blk.drop n) (t, rt, po, ky, ()) (rt, ky, (0, n), du, t, ()) zeroC zeroN (pa, mt, po, gb, wa, ir, rp, co, ()) (firL mu ms) (resL mu ms) true t (by rw [hMl]; omega) (by unfold big; omega) (by rw [hMl])
        rw [List.take_append_drop, hMl] at q
        refine exb _ q ?_
        have ht2 : (List.map (tellM (firL mu ms)) (List.take n blk) ++ List.drop n blk).take n = aftL (firL mu ms) (resL mu ms) ms := by
          rw [List.take_append_of_le_length (by rw [List.length_map, hMl]; exact Nat.le_refl _), List.take_of_length_le (by rw [List.length_map, hMl]; exact Nat.le_refl _), h3]
          rfl
        refine ⟨_, rfl, true, t, n, _, firL mu ms, resL mu ms, (t, rt, po, ky, ()), zeroC, zeroN, rfl, by simp; omega, by simp; omega, by omega, ?_⟩
        rw [ht2]
        rfl
  · rintro _ ⟨ok, se', n, blk, F', R', nc, c0, n0, rfl, h3, h4, h5, h6⟩
    rw [h6]
    dsimp only
    have w5 : w64 (se' + rp) = se' + rp := w64_id (by omega) (by omega)
    have d1 : decide (0 + n ≤ blk.length) = true := decide_eq_true (by omega)
    obtain ⟨j, ho⟩ := open_p (blk.take n) (by rw [List.length_take]; omega)
    have hl : (blk.take n).length = n := by rw [List.length_take]; omega
    rw [hl] at ho
    simp only [d1, List.drop_zero, hl, w2, w3, w5, sumE, sS]
    refine look_bind ((opnB (blk.take n), ()), ()) ?_ ?_
    · refine bind_of _ ho ?_
      have dj : decide ((j : Int) ≥ 0) = true := decide_eq_true (by omega)
      cases opnB (blk.take n) <;> simp only [dj, sumE, sS]
    dsimp only
    have mx : ∀ d : Int, (if t + 1 > d then t + 1 else d) = max d (t + 1) := fun d => by split <;> omega
    unfold nextD
    cases opnB (blk.take n)
    · by_cases hp : se' + rp ≤ t
      · simp only [decide_eq_true hp, w3, w2, mx, lim_p, len0n, hp, or_true, if_true, eq_self, sumE, sS]
        by_cases hn : n = 0
        · simp only [hn, eq_self, if_true, sumE, sS]
          exact ⟨0, blk, rfl, Nat.zero_le _, rfl⟩
        · simp only [hn, if_false, sumE, sS]
          exact ⟨n, blk, rfl, h3, rfl⟩
      · simp only [decide_eq_false hp, w3, w2, mx, lim_p, len0n, hp, or_self, Bool.false_eq_true, if_false, eq_self, sumE, sS]
        by_cases hn : n = 0
        · simp only [hn, eq_self, if_true, sumE, sS]
          exact ⟨0, blk, rfl, Nat.zero_le _, rfl⟩
        · simp only [hn, if_false, sumE, sS]
          exact ⟨n, blk, rfl, h3, rfl⟩
    · simp only [w3, w2, mx, lim_p, len0n, true_or, if_true, eq_self, sumE, sS]
      by_cases hn : n = 0
      · simp only [hn, eq_self, if_true, sumE, sS]
        exact ⟨0, blk, rfl, Nat.zero_le _, rfl⟩
      · simp only [hn, if_false, sumE, sS]
        exact ⟨n, blk, rfl, h3, rfl⟩

end Go.Proofs.Ytcblbcpnfidndaa

namespace Go.Proofs.Ytcblbcpnfidndaa
open Go Go.Abs Go.Lab
theorem aftL_len (F R : List ByteArray) (l : List MbT) : (aftL F R l).length ≤ l.length := by
  unfold aftL; rw [List.length_map]; exact List.length_filter_le _ _

end Go.Proofs.Ytcblbcpnfidndaa

namespace Go.Proofs.Ytcblbcpnfidndaa
open Go Go.Abs Go.Lab
def grp (c : Cor) (ms : List MbT) : GpT := (c.1, c.2.1, ms, c.2.2.1, c.2.2.2.1, ())

theorem vg_zero : VG (grp zeroC []) := ⟨by decide, by decide, by decide, by decide, fun m hm => (by cases hm), List.Pairwise.nil⟩

theorem key_inj {ms : List MbT} (h : (ms.map mKey).Pairwise Less) {a b : MbT} (ha : a ∈ ms) (hb : b ∈ ms) (e : mKey a = mKey b) : a = b := by
  obtain ⟨i, hi, rfl⟩ := List.mem_iff_getElem.1 ha
  obtain ⟨j, hj, rfl⟩ := List.mem_iff_getElem.1 hb
  have hp := List.pairwise_iff_getElem.1 h
  rcases Nat.lt_trichotomy i j with hij | hij | hij
  · have := hp i j (by rwa [List.length_map]) (by rwa [List.length_map]) hij
    rw [List.getElem_map, List.getElem_map, e] at this
    exact absurd (less_lt.1 this) (lt_irr _)
  · subst hij; rfl
  · have := hp j i (by rwa [List.length_map]) (by rwa [List.length_map]) hij
    rw [List.getElem_map, List.getElem_map, e] at this
    exact absurd (less_lt.1 this) (lt_irr _)

theorem set_keys {ms : List MbT} {i : Nat} {m x : MbT} (h : ms[i]? = some m) (e : mKey x = mKey m) : (ms.set i x).map mKey = ms.map mKey := by
  rw [List.map_set, e]
  obtain ⟨hi, rfl⟩ := List.getElem?_eq_some_iff.1 h
  have : mKey ms[i] = (ms.map mKey)[i]'(by rwa [List.length_map]) := by rw [List.getElem_map]
  rw [this, List.set_getElem_self]

theorem mem_set {A : Type} {l : List A} {i : Nat} {x y : A} (h : y ∈ l.set i x) : y ∈ l ∨ y = x := List.mem_or_eq_of_mem_set h

theorem wake_range {du se wa ir t : Int} (h1 : 0 ≤ t ∧ t ≤ 8589934592) (h2 : 0 ≤ wa) (h3 : -1 ≤ du ∧ du ≤ 8589934592) (h4 : -1 ≤ se) (h5 : 0 ≤ ir) : -1 ≤ wakeV du se wa ir t ∧ wakeV du se wa ir t ≤ 8589934592 := wake_b h1 h2 h3 h4 h5

theorem lim_range {t : Int} (h : -1 ≤ t) : -1 ≤ limE t ∧ limE t ≤ 8589934592 := by unfold limE; split <;> omega

theorem next_range {se ir rp t : Int} {o : Bool} (h : 0 ≤ t) : -1 ≤ nextD se ir rp t o ∧ nextD se ir rp t o ≤ 8589934592 := by
  unfold nextD
  exact lim_range (by omega)

theorem heard_ok {m : MbT} (h : MbOK m) {t : Int} (ht : 0 ≤ t ∧ t ≤ 8589934592) : MbOK (heardM m t) := ⟨h.lab, h.key, h.since, ht, h.told⟩

theorem step_ok {m : MbT} (h : MbOK m) {t : Int} (ht : 0 ≤ t ∧ t ≤ 8589934592) (on : Bool) : MbOK (stepM m on t) :=
  ⟨h.lab, h.key, ht, h.heard, by show on = true ∨ on = false; cases on <;> simp⟩

theorem new_ok {l : List LT} (hl : validL l = true) {t : Int} (ht : 0 ≤ t ∧ t ≤ 8589934592) : MbOK (mkB (textL l), l, t, t, true, false, ()) := ⟨hl, rfl, ht, ht, .inl rfl⟩

theorem add_vg {g : GpT} (h : VG g) {r : RtT} (hr : RR r) {l : List LT} (hl : validL l = true) (on : Bool) {t : Int} (ht : 0 ≤ t ∧ t ≤ 8589934592) : VG (grp (gAdd g r l on t).2.1 (gAdd g r l on t).2.2) := by
  have hw := wake_range ht hr.wait h.due h.sent.1 (by have := hr.wait; have := hr.int; omega : (0 : Int) ≤ rInt r)
  have hrest : ∀ ms, -1 ≤ restD g ms ∧ restD g ms ≤ 8589934592 := fun ms => by
    have := h.due
    unfold restD; split <;> omega
  have hlen := h.len
  unfold gAdd
  dsimp only
  by_cases hh : hit (mkB (textL l)) (gMem g) = true
  · rw [if_pos hh]
    obtain ⟨m, hm, hk⟩ := hit_some hh
    have hmo := h.mem m (List.mem_of_getElem? hm)
    rw [hm]
    dsimp only
    have hset : ∀ (x : MbT) (d : Int), mKey x = mKey m → MbOK x → (-1 ≤ d ∧ d ≤ 8589934592) → VG (grp (dueC g d) ((gMem g).set (pos (mkB (textL l)) (gMem g)) x)) := fun x d hx ho hd =>
      ⟨by show ((gMem g).set _ x).length ≤ 256; rw [List.length_set]; exact hlen, h.rt, hd, h.sent, fun y hy => by
        rcases mem_set hy with hy | rfl
        · exact h.mem y hy
        · exact ho, by show (((gMem g).set _ x).map mKey).Pairwise Less; rw [set_keys hm hx]; exact h.up⟩
    split
    · exact hset _ _ rfl (heard_ok hmo ht) h.due
    · split
      · exact hset _ _ rfl (step_ok (heard_ok hmo ht) ht true) h.due
      · split
        · exact hset _ _ rfl (step_ok (heard_ok hmo ht) ht false) hw
        · have hsub : ((gMem g).take (pos (mkB (textL l)) (gMem g)) ++ (gMem g).drop (pos (mkB (textL l)) (gMem g) + 1)).Sublist (gMem g) := by
            conv => rhs; rw [← List.take_append_drop (pos (mkB (textL l)) (gMem g)) (gMem g)]
            exact (List.Sublist.refl _).append (List.drop_sublist_drop_left _ (by omega))
          exact ⟨Nat.le_trans hsub.length_le hlen, h.rt, hrest _, h.sent, fun y hy => h.mem y (hsub.subset hy), h.up.sublist (hsub.map mKey)⟩
  · rw [if_neg hh]
    split
    · split
      · exact vg_zero
      · have hp := pos_le (mkB (textL l)) (gMem g)
        refine ⟨?_, h.rt, hw, h.sent, fun y hy => ?_, ?_⟩
        · show (List.take _ _ ++ _ ++ List.drop _ _).length ≤ 256
          simp; omega
        · have hy : y ∈ List.take _ _ ++ [_] ++ List.drop _ _ := hy
          simp only [List.mem_append, List.mem_singleton] at hy
          rcases hy with (hy | rfl) | hy
          · exact h.mem y (List.mem_of_mem_take hy)
          · exact new_ok hl ht
          · exact h.mem y (List.mem_of_mem_drop hy)
        · show ((List.take (pos (mkB (textL l)) (gMem g)) (gMem g) ++ [(mkB (textL l), l, t, t, true, false, ())] ++ List.drop (pos (mkB (textL l)) (gMem g)) (gMem g)).map mKey).Pairwise Less
          rw [List.append_assoc, List.map_append, List.map_append, List.pairwise_append]
          have hup := h.up
          rw [← List.take_append_drop (pos (mkB (textL l)) (gMem g)) (gMem g), List.map_append, List.pairwise_append] at hup
          have ha : ∀ m ∈ (gMem g).take (pos (mkB (textL l)) (gMem g)), Lt (mKey m) (mkB (textL l)) := pos_take
          have hb := pos_drop h.up (by simpa using hh : hit (mkB (textL l)) (gMem g) = false)
          refine ⟨hup.1, ?_, fun a ha' b hb' => ?_⟩
          · rw [List.map_cons, List.map_nil, List.singleton_append]
            refine List.pairwise_cons.2 ⟨fun k hk => ?_, hup.2.1⟩
            obtain ⟨m, hm, rfl⟩ := List.mem_map.1 hk
            exact less_lt.2 (hb m hm)
          · obtain ⟨m, hm, rfl⟩ := List.mem_map.1 ha'
            rw [List.map_cons, List.map_nil, List.singleton_append] at hb'
            rcases List.mem_cons.1 hb' with rfl | hb'
            · exact less_lt.2 (ha m hm)
            · obtain ⟨m', hm', rfl⟩ := List.mem_map.1 hb'
              exact less_lt.2 (lt_trans (ha m hm) (hb m' hm'))
    · exact ⟨hlen, h.rt, hrest _, h.sent, h.mem, h.up⟩

theorem expL_vg {se wa ir t a : Int} (ht : 0 ≤ t ∧ t ≤ 8589934592) (hwa : 0 ≤ wa) (hir : 0 ≤ ir) (hse : -1 ≤ se) : ∀ (rem kept : List MbT) (du : Int), (∀ m ∈ kept ++ rem, MbOK m) → ((kept ++ rem).map mKey).Pairwise Less → (-1 ≤ du ∧ du ≤ 8589934592) →
    (∀ m ∈ (expL se wa ir t a kept du rem).1, MbOK m) ∧ (((expL se wa ir t a kept du rem).1).map mKey).Pairwise Less ∧ (-1 ≤ (expL se wa ir t a kept du rem).2 ∧ (expL se wa ir t a kept du rem).2 ≤ 8589934592) ∧ (expL se wa ir t a kept du rem).1.length ≤ kept.length + rem.length
  | [], kept, du, h1, h2, h3 => by rw [List.append_nil] at h1 h2; exact ⟨h1, h2, h3, Nat.le_refl _⟩
  | m :: rem, kept, du, h1, h2, h3 => by
    have e : ∀ x : MbT, kept ++ [x] ++ rem = kept ++ x :: rem := fun x => by rw [List.append_assoc]; rfl
    have hm : MbOK m := h1 m (by simp)
    have put : ∀ x : MbT, mKey x = mKey m → MbOK x → (∀ y ∈ kept ++ [x] ++ rem, MbOK y) ∧ ((kept ++ [x] ++ rem).map mKey).Pairwise Less := fun x hx ho => by
      rw [e]
      refine ⟨fun y hy => ?_, ?_⟩
      · rcases List.mem_append.1 hy with hy | hy
        · exact h1 y (List.mem_append_left _ hy)
        · rcases List.mem_cons.1 hy with rfl | hy
          · exact ho
          · exact h1 y (List.mem_append_right _ (List.mem_cons_of_mem _ hy))
      · rw [List.map_append, List.map_cons, hx]
        rw [List.map_append, List.map_cons] at h2
        exact h2
    unfold expL
    split
    · split
      · obtain ⟨p1, p2⟩ := put (stepM m false t) rfl (step_ok hm ht false)
        obtain ⟨a1, a2, a3, a4⟩ := expL_vg ht hwa hir hse rem (kept ++ [stepM m false t]) (wakeV du se wa ir t) p1 p2 (wake_range ht hwa h3 hse hir)
        exact ⟨a1, a2, a3, by simp at a4 ⊢; omega⟩
      · have hs : (kept ++ rem).Sublist (kept ++ m :: rem) := (List.Sublist.refl _).append (List.sublist_cons_self _ _)
        obtain ⟨a1, a2, a3, a4⟩ := expL_vg (a := a) ht hwa hir hse rem kept (if (kept ++ rem).length = 0 then -1 else du) (fun y hy => h1 y (hs.subset hy)) (h2.sublist (hs.map mKey)) (by split <;> omega)
        exact ⟨a1, a2, a3, by have : (m :: rem).length = rem.length + 1 := rfl; omega⟩
    · obtain ⟨p1, p2⟩ := put m rfl hm
      obtain ⟨a1, a2, a3, a4⟩ := expL_vg (a := a) ht hwa hir hse rem (kept ++ [m]) du p1 p2 h3
      exact ⟨a1, a2, a3, by simp at a4 ⊢; omega⟩

theorem exp_vg {g : GpT} (h : VG g) {r : RtT} (hr : RR r) {t : Int} (a : Int) (ht : 0 ≤ t ∧ t ≤ 8589934592) : VG (grp (gExp g r t a).2.1 (gExp g r t a).2.2) := by
  have hlen := h.len
  unfold gExp
  split
  · exact ⟨hlen, h.rt, h.due, h.sent, h.mem, h.up⟩
  · obtain ⟨a1, a2, a3, a4⟩ := expL_vg (a := a) ht hr.wait (by have := hr.wait; have := hr.int; omega : (0 : Int) ≤ rInt r) h.sent.1 (gMem g) [] (gDue g) h.mem h.up h.due
    exact ⟨by simp only [List.length_nil, Nat.zero_add] at a4; exact Nat.le_trans a4 hlen, h.rt, a3, h.sent, a1, a2⟩

theorem muB_mem {mu : List ByteArray} {k : ByteArray} : muB mu k = true ↔ k ∈ mu := by
  unfold muB
  rw [List.any_eq_true]
  constructor
  · rintro ⟨x, hx, e⟩
    have : x = k := by simpa using e
    exact this ▸ hx
  · exact fun h => ⟨k, h, by simp⟩

theorem muB_not {mu : List ByteArray} {k : ByteArray} (h : k ∉ mu) : muB mu k = false := by
  cases hc : muB mu k
  · rfl
  · exact absurd (muB_mem.1 hc) h

theorem fir_mem {mu : List ByteArray} {ms : List MbT} {k : ByteArray} : k ∈ firL mu ms ↔ ∃ m ∈ ms, mKey m = k ∧ k ∉ mu ∧ mFire m = true := by
  unfold firL
  rw [List.mem_map]
  constructor
  · rintro ⟨m, hm, rfl⟩
    rw [List.mem_filter, Bool.and_eq_true, Bool.not_eq_true'] at hm
    exact ⟨m, hm.1, rfl, fun hc => by rw [muB_mem.2 hc] at hm; exact absurd hm.2.1 (by simp), hm.2.2⟩
  · rintro ⟨m, hm, rfl, h1, h2⟩
    refine ⟨m, List.mem_filter.2 ⟨hm, ?_⟩, rfl⟩
    rw [Bool.and_eq_true, Bool.not_eq_true']
    exact ⟨muB_not h1, h2⟩

theorem aft_keys (F R : List ByteArray) (ms : List MbT) : (aftL F R ms).map mKey = (ms.filter fun m => !muB R (mKey m)).map mKey := by
  unfold aftL
  rw [List.map_map]
  rfl

theorem aft_mem {F R : List ByteArray} {ms : List MbT} {x : MbT} : x ∈ aftL F R ms ↔ ∃ m ∈ ms, mKey m ∉ R ∧ x = tellM F m := by
  unfold aftL
  rw [List.mem_map]
  constructor
  · rintro ⟨m, hm, rfl⟩
    rw [List.mem_filter, Bool.not_eq_true'] at hm
    exact ⟨m, hm.1, fun hc => by rw [muB_mem.2 hc] at hm; exact absurd hm.2 (by simp), rfl⟩
  · rintro ⟨m, hm, h1, rfl⟩
    refine ⟨m, List.mem_filter.2 ⟨hm, ?_⟩, rfl⟩
    cases hc : muB R (mKey m)
    · rfl
    · exact absurd (muB_mem.1 hc) h1

theorem aft_vg {g : GpT} (h : VG g) (mu : List ByteArray) (R : List ByteArray) (du se : Int) (hd : -1 ≤ du ∧ du ≤ 8589934592) (hs : -1 ≤ se ∧ se ≤ 8589934592) : VG (grp (g.1, g.2.1, du, se, ()) (aftL (firL mu (gMem g)) R (gMem g))) := by
  refine ⟨Nat.le_trans (aftL_len _ _ _) h.len, h.rt, hd, hs, fun x hx => ?_, ?_⟩
  · obtain ⟨m, hm, _, rfl⟩ := aft_mem.1 hx
    have ho := h.mem m hm
    refine ⟨ho.lab, ho.key, ho.since, ho.heard, ?_⟩
    show mFire m = true ∨ (mTold m || muB (firL mu (gMem g)) (mKey m)) = false
    rcases ho.told with hf | hf
    · exact .inl hf
    · cases hc : muB (firL mu (gMem g)) (mKey m)
      · exact .inr (by rw [hf]; rfl)
      · obtain ⟨m', hm', e, _, hf'⟩ := fir_mem.1 (muB_mem.1 hc)
        rw [key_inj h.up hm' hm e] at hf'
        exact .inl hf'
  · show ((aftL _ _ _).map mKey).Pairwise Less
    rw [aft_keys]
    exact h.up.sublist ((List.filter_sublist).map mKey)

theorem look_vg {g : GpT} (h : VG g) (r : RtT) {t : Int} (mu : List ByteArray) (ht : 0 ≤ t ∧ t ≤ 8589934592) : VG (grp (gLook g r t mu).2.1 (gLook g r t mu).2.2.2.1) := by
  have hn : ∀ (ms : List MbT) se o, -1 ≤ (if ms.length = 0 then -1 else nextD se (rInt r) (rRep r) t o) ∧ (if ms.length = 0 then -1 else nextD se (rInt r) (rRep r) t o) ≤ 8589934592 := fun ms se o => by
    have := next_range (se := se) (ir := rInt r) (rp := rRep r) (o := o) ht.1
    split <;> omega
  unfold gLook
  split
  · exact ⟨h.len, h.rt, h.due, h.sent, h.mem, h.up⟩
  · dsimp only
    split
    · exact aft_vg h mu _ _ _ (hn _ _ _) (by omega)
    · exact ⟨h.len, h.rt, hn _ _ _, h.sent, h.mem, h.up⟩

end Go.Proofs.Ytcblbcpnfidndaa

namespace Go.Proofs.Ytcblbcpnfidndaa
open Go Go.Abs Go.Lab
def Ens {A : Type} (o : Option A) (Q : A → Prop) : Prop := ∃ x, o = some x ∧ Q x

theorem ens_some {A : Type} {x : A} {Q : A → Prop} (h : Q x) : Ens (some x) Q := ⟨x, rfl, h⟩

theorem ens_bind {A B : Type} {o : Option A} {f : A → Option B} {Q : B → Prop} (h : Ens o fun x => Ens (f x) Q) : Ens (o.bind f) Q := by
  obtain ⟨x, rfl, y, h1, h2⟩ := h
  exact ⟨y, h1, h2⟩

theorem ens_call {A B : Type} {o : Option A} {R : A → Prop} {f : A → Option B} {Q : B → Prop} (h : Ens o R) (h2 : ∀ x, R x → Ens (f x) Q) : Ens (o.bind f) Q := by
  obtain ⟨x, rfl, hx⟩ := h
  exact h2 x hx

theorem ens_ite {A : Type} {P : Prop} [Decidable P] {x y : Option A} {Q : A → Prop} (h1 : P → Ens x Q) (h2 : ¬ P → Ens y Q) : Ens (bif decide P then x else y) Q := by
  by_cases h : P
  · rw [decide_eq_true h]; exact h1 h
  · rw [decide_eq_false h]; exact h2 h

theorem ens_need {A : Type} {P : Prop} [Decidable P] {x : Option A} {Q : A → Prop} (h : P) (h1 : Ens x Q) : Ens (bif decide P then x else none) Q := by
  rw [decide_eq_true h]; exact h1

/-- A loop: what holds at every round, a number that falls. -/
theorem ens_loop {A B : Type} {f : A → Option (A ⊕ B)} (I : A → Prop) (μ : A → Nat) {Q : B → Prop}
    (h : ∀ a, I a → Ens (f a) fun r => match r with | .inl a' => I a' ∧ μ a' < μ a | .inr b => Q b) : ∀ a, I a → Ens (loopT f a) Q := by
  have key : ∀ (n : Nat) a, μ a ≤ n → I a → Ens (loopT f a) Q := by
    intro n
    induction n with
    | zero =>
      intro a hn hi
      obtain ⟨r, h1, h2⟩ := h a hi
      cases r with
      | inl a' => exact absurd h2.2 (by omega)
      | inr b => exact ⟨b, loopT_inr h1, h2⟩
    | succ n ih =>
      intro a hn hi
      obtain ⟨r, h1, h2⟩ := h a hi
      cases r with
      | inl a' =>
        obtain ⟨b, h3, h4⟩ := ih a' (by omega) h2.1
        exact ⟨b, by rw [← h3]; exact loopT_inl h1, h4⟩
      | inr b => exact ⟨b, loopT_inr h1, h2⟩
  exact fun a hi => key (μ a) a (Nat.le_refl _) hi

/-! ### The dice -/
theorem c20 (n : Int) (d : Dice) (hd : DOK d) (hn : n ≤ 9223372036854775807) : Ens (m20 ((n, ()), ((d, ()), ()))) (fun r => DOK r.2.1.1 ∧ 0 ≤ r.1.1 ∧ (1 ≤ n → r.1.1 < n)) := by
  obtain ⟨r, d', e, h1, h2, h3⟩ := next_spec n d hd hn
  refine ⟨_, e, h1, ?_, fun h => (h2 h).2⟩
  by_cases h : 1 ≤ n
  · exact (h2 h).1
  · show 0 ≤ r; rw [h3 (by omega)]; exact Int.le_refl _

theorem c19 (l : List Int) (d : Dice) (hd : DOK d) (h0 : 0 < l.length) (h1 : l.length ≤ 1000) : Ens (m19 ((l, ()), ((d, ()), ()))) (fun r => DOK r.2.1.1 ∧ r.1.1 ∈ l) := by
  obtain ⟨r, d', e, h1, h2⟩ := pick_spec l d hd h0 (by omega)
  exact ⟨_, e, h1, h2⟩

theorem c13 (d : Dice) (hd : DOK d) : Ens (m13 ((), ((d, ()), ()))) (fun r => DOK r.2.1.1 ∧ validL r.2.2.1 = true) := by
  obtain ⟨l, d', e, h1, h2⟩ := labels_spec d hd
  exact ⟨_, e, h1, from_valid h2⟩

/-- A route of the dice: its numbers, its keys. -/
abbrev RcT := Int × Int × Int × Int × Int × Bool × Unit

def rtOf (c : RcT) (ks : List ByteArray) : RtT := (c.1, [], c.2.1, ks, c.2.2.1, c.2.2.2.1, c.2.2.2.2.1, c.2.2.2.2.2.1, ())

theorem c11 (d : Dice) (hd : DOK d) : Ens (m11 ((), ((d, ()), ()))) (fun r => DOK r.2.1.1 ∧ RR (rtOf r.2.2.1.1 r.2.2.2.1) ∧ r.2.2.1.1.1 = -1 ∧ r.2.2.1.1.2.2.1 ≤ 60 ∧ r.2.2.1.1.2.2.2.1 ≤ 360 ∧ r.2.2.1.1.2.2.2.2.1 ≤ 3960) := by
  obtain ⟨a1, d1, e1, hd1, b1⟩ := pick_spec [0, 30, 10, 60] d hd (by simp) (by simp)
  obtain ⟨a2, d2, e2, hd2, b2⟩ := pick_spec [20, 300, 40] d1 hd1 (by simp) (by simp)
  obtain ⟨a3, d3, e3, hd3, b3, _⟩ := next_spec 3 d2 hd2 (by omega)
  have b3 := b3 (by omega)
  obtain ⟨ks, d4, e4, hd4, hk⟩ := keysD_spec d3 hd3
  obtain ⟨a5, d5, e5, hd5, b5⟩ := pick_spec [0, 3600, 100] d4 hd4 (by simp) (by simp)
  obtain ⟨c, d6, e6, hd6⟩ := bool_spec 2 d5 hd5 (by omega) (by omega)
  have b1 := mem4 b1
  have b2 := mem3 b2
  have b5 := mem3 b5
  have w1 : w64 (a1 + a2) = a1 + a2 := w64_id (by omega) (by omega)
  have w2 : w64 (a1 + a2 + a5) = a1 + a2 + a5 := w64_id (by omega) (by omega)
  have hg : GoodT (rtOf (-1, a3, a1, a1 + a2, a1 + a2 + a5, c, ()) ks) := ⟨⟨Nat.zero_le _, fun m hm => by cases hm⟩, hk, by
    show chkRange (-1, [], a3, ks, a1, a1 + a2, a1 + a2 + a5, c, ()) = false
    unfold chkRange
    simp only [Bool.or_eq_false_iff]
    exact ⟨decide_eq_false (by omega), decide_eq_false (by omega), decide_eq_false (by omega), decide_eq_false (by omega), decide_eq_false (by omega), beq_eq_false_iff_ne.2 (by omega)⟩, by show a1 + a2 ≤ 1000; omega, by show 0 ≤ a1 + a2; omega, by show 0 ≤ a1 + a2 + a5; omega, by show a1 + a2 + a5 ≤ 10000; omega⟩
  refine ⟨((), ((d6, ()), (((-1), a3, a1, a1 + a2, a1 + a2 + a5, c, ()), ()), ks, ())), ?_, hd6, rr_of hg.z ?_, rfl, ?_, ?_, ?_⟩
  · unfold m11
    simp only [e1, e2, e3, e4, e5, e6, w1, w2, sumE, sS]
  · unfold rightR
    have : strip (rtOf (-1, a3, a1, a1 + a2, a1 + a2 + a5, c, ()) ks) = rtOf (-1, a3, a1, a1 + a2, a1 + a2 + a5, c, ()) ks := rfl
    rw [this, hg.one]
    rfl
  · show a1 ≤ 60; omega
  · show a1 + a2 ≤ 360; omega
  · show a1 + a2 + a5 ≤ 3960; omega

theorem zero_vg (rt : Int) (ky : ByteArray) (h : 0 ≤ rt) : VG (rt, ky, [], -1, -1, ()) := ⟨Nat.zero_le _, h, by show (-1 : Int) ≤ -1 ∧ (-1 : Int) ≤ 8589934592; omega, by show (-1 : Int) ≤ -1 ∧ (-1 : Int) ≤ 8589934592; omega, fun m hm => (by cases hm), List.Pairwise.nil⟩

end Go.Proofs.Ytcblbcpnfidndaa

namespace Go.Proofs.Ytcblbcpnfidndaa
open Go Go.Abs Go.Lab
theorem sane23 : m9 ((), ()) = some ((true, ()), ()) := by kernel_rfl

abbrev YT : (Bool × Unit) × Unit := ((true, ()), ())

theorem ens_tt {o : Option ((Bool × Unit) × Unit)} (h : Ens o (fun r => r = YT)) : o = some YT := by
  obtain ⟨_, rfl, rfl⟩ := h
  rfl

end Go.Proofs.Ytcblbcpnfidndaa

namespace Go.Proofs.Ytcblbcpnfidndaa
open Go Go.Abs Go.Lab
abbrev thereB (ms : List MbT) (k : ByteArray) : Bool := ms.any fun n => decide (mKey n = k)

theorem there_iff {ms : List MbT} {k : ByteArray} : thereB ms k = true ↔ ∃ n ∈ ms, mKey n = k := by
  unfold thereB
  rw [List.any_eq_true]
  constructor
  · rintro ⟨n, h, e⟩; exact ⟨n, h, by simpa using e⟩
  · rintro ⟨n, h, e⟩; exact ⟨n, h, by simpa using e⟩

/-- What may become of a member. -/
def keepB (kind : Int) (m : MbT) (there told : Bool) : Bool := !(told && there) && !(!told && (!there && (kind == 2 || (mTold m || !mFire m))))

theorem add_len (g : GpT) (r : RtT) (l : List LT) (on : Bool) (t : Int) (h : (gMem g).length < 256) : (gAdd g r l on t).1 = 0 ∧ (gAdd g r l on t).2.2.length ≤ (gMem g).length + 1 := by
  have hp := pos_le (mkB (textL l)) (gMem g)
  unfold gAdd
  dsimp only
  split
  · split
    · exact ⟨rfl, Nat.zero_le _⟩
    · split
      · exact ⟨rfl, by rw [List.length_set]; omega⟩
      · split
        · exact ⟨rfl, by rw [List.length_set]; omega⟩
        · split
          · exact ⟨rfl, by rw [List.length_set]; omega⟩
          · exact ⟨rfl, by simp; omega⟩
  · split
    · split
      · omega
      · exact ⟨rfl, by simp; omega⟩
    · exact ⟨rfl, Nat.le_succ _⟩

theorem set_key_mem {ms : List MbT} {i : Nat} {x m e : MbT} (he : ms[i]? = some e) (hx : mKey x = mKey e) (hm : m ∈ ms) : ∃ n ∈ ms.set i x, mKey n = mKey m := by
  have h1 : mKey m ∈ ms.map mKey := List.mem_map_of_mem hm
  rw [← set_keys he hx] at h1
  obtain ⟨n, hn, e⟩ := List.mem_map.1 h1
  exact ⟨n, hn, e⟩

theorem add_keep {g : GpT} {r : RtT} {l : List LT} {on : Bool} {t : Int} (h : (gMem g).length < 256) {m : MbT} (hm : m ∈ gMem g) : (∃ n ∈ (gAdd g r l on t).2.2, mKey n = mKey m) ∨ (mTold m = false ∧ mFire m = true) := by
  have hp := pos_le (mkB (textL l)) (gMem g)
  unfold gAdd
  dsimp only
  by_cases hh : hit (mkB (textL l)) (gMem g) = true
  · rw [if_pos hh]
    obtain ⟨e, he, hk⟩ := hit_some hh
    rw [he]
    dsimp only
    split
    · exact .inl (set_key_mem he rfl hm)
    · rename_i hf
      split
      · exact .inl (set_key_mem he rfl hm)
      · rename_i hon
        split
        · exact .inl (set_key_mem he rfl hm)
        · rename_i htold
          have hsplit : gMem g = (gMem g).take (pos (mkB (textL l)) (gMem g)) ++ e :: (gMem g).drop (pos (mkB (textL l)) (gMem g) + 1) := by
            obtain ⟨e', he', hd⟩ := drop_at (List.getElem?_eq_some_iff.1 he).1
            rw [he] at he'
            injection he' with he'
            subst he'
            rw [← hd, List.take_append_drop]
          have hm2 := hm
          rw [hsplit] at hm2
          rcases List.mem_append.1 hm2 with h1 | h1
          · exact .inl ⟨m, List.mem_append_left _ h1, rfl⟩
          · rcases List.mem_cons.1 h1 with rfl | h1
            · refine .inr ⟨by simpa using htold, ?_⟩
              have : on = false := by simpa using hon
              subst this
              cases hq : mFire m
              · exact absurd hq hf
              · rfl
            · exact .inl ⟨m, List.mem_append_right _ h1, rfl⟩
  · rw [if_neg hh]
    split
    · split
      · omega
      · refine .inl ⟨m, ?_, rfl⟩
        have hm2 := hm
        rw [← List.take_append_drop (pos (mkB (textL l)) (gMem g)) (gMem g)] at hm2
        simp only [List.mem_append, List.mem_singleton] at hm2 ⊢
        rcases hm2 with h | h
        · exact .inl (.inl h)
        · exact .inr h
    · exact .inl ⟨m, hm, rfl⟩

theorem expL_keep {se wa ir t a : Int} : ∀ (rem kept : List MbT) (du : Int), (∀ m ∈ kept, ∃ n ∈ (expL se wa ir t a kept du rem).1, mKey n = mKey m) ∧
    ∀ m ∈ rem, (∃ n ∈ (expL se wa ir t a kept du rem).1, mKey n = mKey m) ∨ (mTold m = false ∧ mFire m = true)
  | [], kept, du => ⟨fun m hm => ⟨m, hm, rfl⟩, fun m hm => by cases hm⟩
  | e :: rem, kept, du => by
    unfold expL
    split
    · rename_i ho
      split
      · obtain ⟨a1, a2⟩ := expL_keep (se := se) (wa := wa) (ir := ir) (t := t) (a := a) rem (kept ++ [stepM e false t]) (wakeV du se wa ir t)
        refine ⟨fun m hm => a1 m (List.mem_append_left _ hm), fun m hm => ?_⟩
        rcases List.mem_cons.1 hm with rfl | hm
        · exact .inl (a1 (stepM m false t) (by simp))
        · exact a2 m hm
      · rename_i ht
        obtain ⟨a1, a2⟩ := expL_keep (se := se) (wa := wa) (ir := ir) (t := t) (a := a) rem kept (if (kept ++ rem).length = 0 then -1 else du)
        refine ⟨a1, fun m hm => ?_⟩
        rcases List.mem_cons.1 hm with rfl | hm
        · unfold oldM at ho
          rw [Bool.and_eq_true] at ho
          exact .inr ⟨by simpa using ht, ho.1⟩
        · exact a2 m hm
    · obtain ⟨a1, a2⟩ := expL_keep (se := se) (wa := wa) (ir := ir) (t := t) (a := a) rem (kept ++ [e]) du
      refine ⟨fun m hm => a1 m (List.mem_append_left _ hm), fun m hm => ?_⟩
      rcases List.mem_cons.1 hm with rfl | hm
      · exact .inl (a1 m (by simp))
      · exact a2 m hm

theorem exp_keep {g : GpT} {r : RtT} {t a : Int} {m : MbT} (hm : m ∈ gMem g) : (∃ n ∈ (gExp g r t a).2.2, mKey n = mKey m) ∨ (mTold m = false ∧ mFire m = true) := by
  unfold gExp
  split
  · exact .inl ⟨m, hm, rfl⟩
  · exact (expL_keep (gMem g) [] (gDue g)).2 m hm

theorem exp_len (g : GpT) (r : RtT) (t a : Int) : (gExp g r t a).1 = 0 ∧ (gExp g r t a).2.2.length ≤ (gMem g).length := by
  unfold gExp
  split
  · exact ⟨rfl, Nat.le_refl _⟩
  · refine ⟨rfl, ?_⟩
    have : ∀ (rem kept : List MbT) (du : Int), (expL (gSent g) (rWait r) (rInt r) t a kept du rem).1.length ≤ kept.length + rem.length := by
      intro rem
      induction rem with
      | nil => intro kept du; exact Nat.le_refl _
      | cons e rem ih =>
        intro kept du
        unfold expL
        simp only [List.length_cons]
        split
        · split
          · have := ih (kept ++ [stepM e false t]) (wakeV du (gSent g) (rWait r) (rInt r) t); simp at this; omega
          · have := ih kept (if (kept ++ rem).length = 0 then -1 else du); omega
        · have := ih (kept ++ [e]) du; simp at this; omega
    have := this (gMem g) [] (gDue g)
    simpa using this

theorem look_keep {g : GpT} (h : VG g) {r : RtT} {t : Int} {mu : List ByteArray} {m : MbT} (hm : m ∈ gMem g) :
    (mKey m ∈ (gLook g r t mu).2.2.2.2.2 → ¬ ∃ n ∈ (gLook g r t mu).2.2.2.1, mKey n = mKey m) ∧ (mKey m ∉ (gLook g r t mu).2.2.2.2.2 → ∃ n ∈ (gLook g r t mu).2.2.2.1, mKey n = mKey m) := by
  unfold gLook
  split
  · exact ⟨fun h => (by cases h), fun _ => ⟨m, hm, rfl⟩⟩
  · dsimp only
    split
    · refine ⟨fun hk => ?_, fun hk => ⟨tellM _ m, aft_mem.2 ⟨m, hm, hk, rfl⟩, rfl⟩⟩
      rintro ⟨n, hn, e⟩
      obtain ⟨n', _, h2, rfl⟩ := aft_mem.1 hn
      have e : mKey n' = mKey m := e
      rw [e] at h2
      exact h2 hk
    · exact ⟨fun h => (by cases h), fun _ => ⟨m, hm, rfl⟩⟩

theorem look_len (g : GpT) (r : RtT) (t : Int) (mu : List ByteArray) : (gLook g r t mu).2.2.2.1.length ≤ (gMem g).length ∧ (gLook g r t mu).2.2.2.2.1.length ≤ (gMem g).length ∧ (gLook g r t mu).2.2.2.2.2.length ≤ (gMem g).length := by
  have a := firL_len mu (gMem g)
  have b := resL_len mu (gMem g)
  unfold gLook
  split
  · exact ⟨Nat.le_refl _, Nat.zero_le _, Nat.zero_le _⟩
  · dsimp only
    split
    · exact ⟨aftL_len _ _ _, a, b⟩
    · exact ⟨Nat.le_refl _, Nat.zero_le _, Nat.zero_le _⟩

theorem look_okB (g : GpT) (r : RtT) (t : Int) (mu : List ByteArray) : (gLook g r t mu).1 = decide (0 < (gLook g r t mu).2.2.2.2.1.length + (gLook g r t mu).2.2.2.2.2.length) := by
  unfold gLook
  split
  · rfl
  · dsimp only
    split
    · rename_i hn
      symm
      refine decide_eq_true ?_
      dsimp only
      unfold newsB at hn
      simp only [Bool.or_eq_true] at hn
      rcases hn with (hn | hn) | hn
      · unfold freB at hn
        rw [List.any_eq_true] at hn
        obtain ⟨m, hm, hq⟩ := hn
        rw [Bool.and_eq_true, Bool.and_eq_true, Bool.not_eq_true'] at hq
        have : mKey m ∈ firL mu (gMem g) := fir_mem.2 ⟨m, hm, rfl, fun hc => by rw [muB_mem.2 hc] at hq; exact absurd hq.1 (by simp), hq.2.1⟩
        have := List.length_pos_of_mem this
        omega
      · unfold againB at hn
        simp only [Bool.and_eq_true, decide_eq_true_eq] at hn
        omega
      · have := of_decide_eq_true hn
        omega
    · rfl

theorem keep_old {m : MbT} {kind : Int} {ms : List MbT} (hk : kind ≠ 2) (h : (∃ n ∈ ms, mKey n = mKey m) ∨ (mTold m = false ∧ mFire m = true)) : keepB kind m (thereB ms (mKey m)) (muB [] (mKey m)) = true := by
  have hf : muB [] (mKey m) = false := rfl
  have b2 : (kind == 2) = false := beq_eq_false_iff_ne.2 hk
  unfold keepB
  rw [hf, b2]
  rcases h with h | ⟨h1, h2⟩
  · rw [there_iff.2 h]; rfl
  · rw [h1, h2]
    cases thereB ms (mKey m) <;> rfl

theorem keep_look {m : MbT} {kind : Int} {ms : List MbT} {R : List ByteArray} (h1 : mKey m ∈ R → ¬ ∃ n ∈ ms, mKey n = mKey m) (h2 : mKey m ∉ R → ∃ n ∈ ms, mKey n = mKey m) : keepB kind m (thereB ms (mKey m)) (muB R (mKey m)) = true := by
  unfold keepB
  by_cases h : mKey m ∈ R
  · rw [muB_mem.2 h]
    have : thereB ms (mKey m) = false := by
      cases hc : thereB ms (mKey m)
      · rfl
      · exact absurd (there_iff.1 hc) (h1 h)
    rw [this]; rfl
  · rw [muB_not h, there_iff.2 (h2 h)]; rfl

abbrev NcT := Int × Int × Int × ByteArray × Unit

theorem loop31 (m : MbT) (nc : NcT) (g : GpT) (d : Dice) (rc : RcT) (F R ks : List ByteArray) (kind : Int) (old : List MbT) (now i len idx : Int) (hl : (gMem g).length ≤ 256) :
    loopT l7_0_31 (((0 : Int), false, gMem g, kind, old, now, i, len, idx, ((gMem g).length : Int), ()), ((m, ()), (nc, ()), (g, ()), (d, ()), (rc, ()), F, R, ks, ())) =
      some ((kind, old, now, i, len, idx, thereB (gMem g) (mKey m), ()), ((m, ()), (nc, ()), (g, ()), (d, ()), (rc, ()), F, R, ks, ())) := by
  have := loop_thru (f := l7_0_31) (gMem g) (fun j => (((j : Int), thereB ((gMem g).take j) (mKey m), gMem g, kind, old, now, i, len, idx, ((gMem g).length : Int), ()), ((m, ()), (nc, ()), (g, ()), (d, ()), (rc, ()), F, R, ks, ())))
    ((kind, old, now, i, len, idx, thereB (gMem g) (mKey m), ()), ((m, ()), (nc, ()), (g, ()), (d, ()), (rc, ()), F, R, ks, ())) ?_ ?_
  · exact this
  · intro j e he hj
    have hw : w64 ((j : Int) + 1) = ((j + 1 : Nat) : Int) := w64_nat (by omega)
    have h1 : decide ((j : Int) < ((gMem g).length : Int)) = true := lt_t hj
    have hs : thereB ((gMem g).take (j + 1)) (mKey m) = (thereB ((gMem g).take j) (mKey m) || decide (mKey e = mKey m)) := by
      unfold thereB; rw [takeSnoc he, List.any_append]; simp
    rw [hs]
    obtain ⟨rt, ky, ms, du, se, ⟨⟩⟩ := g
    dsimp only [gMem, mKey] at *
    simp only [l7_0_31, h1, rowAt_G, rowG_nat he, toList_bl, beq_bl, sumE, sS]
    cases thereB (ms.take j) m.1 <;> simp only [hw, Bool.true_or, Bool.false_or, sumE, sS]
  · rw [List.take_length]
    have h1 : decide (((gMem g).length : Int) < ((gMem g).length : Int)) = false := lt_f _
    obtain ⟨rt, ky, ms, du, se, ⟨⟩⟩ := g
    dsimp only [gMem] at *
    simp only [l7_0_31, h1, sumE, sS]

theorem loop37 (m : MbT) (nc : NcT) (g : GpT) (d : Dice) (rc : RcT) (F R ks : List ByteArray) (kind : Int) (old : List MbT) (now i len idx : Int) (there : Bool) (hl : R.length ≤ 256) :
    loopT l7_0_37 (((0 : Int), false, kind, old, now, i, len, idx, there, ((R.length : Nat) : Int), ()), ((m, ()), R, (nc, ()), (g, ()), (d, ()), (rc, ()), F, ks, ())) =
      some ((kind, old, now, i, len, idx, there, muB R (mKey m), ()), ((nc, ()), (g, ()), (d, ()), (rc, ()), (m, ()), F, R, ks, ())) := by
  have := loop_thru (f := l7_0_37) R (fun j => (((j : Int), muB (R.take j) (mKey m), kind, old, now, i, len, idx, there, ((R.length : Nat) : Int), ()), ((m, ()), R, (nc, ()), (g, ()), (d, ()), (rc, ()), F, ks, ())))
    ((kind, old, now, i, len, idx, there, muB R (mKey m), ()), ((nc, ()), (g, ()), (d, ()), (rc, ()), (m, ()), F, R, ks, ())) ?_ ?_
  · exact this
  · intro j e he hj
    have hw : w64 ((j : Int) + 1) = ((j + 1 : Nat) : Int) := w64_nat (by omega)
    have h2 : decide ((0 : Int) ≤ (j : Int) ∧ (j : Int) < (R.length : Int)) = true := decide_eq_true (by omega)
    have hs : muB (R.take (j + 1)) (mKey m) = (muB (R.take j) (mKey m) || decide (e = mKey m)) := by
      unfold muB; rw [takeSnoc he, List.any_append]; simp
    rw [hs]
    dsimp only [mKey]
    simp only [l7_0_37, lt_t hj, h2, Int.toNat_natCast, he, toList_bl, beq_bl, sumE, sS]
    cases muB (R.take j) m.1 <;> simp only [hw, Bool.true_or, Bool.false_or, sumE, sS]
  · rw [List.take_length]
    simp only [l7_0_37, lt_f, sumE, sS]

theorem loop27 (nc : NcT) (g : GpT) (d : Dice) (rc : RcT) (F R ks : List ByteArray) (kind : Int) (old : List MbT) (now i : Int) (hl : (gMem g).length ≤ 256) (hR : R.length ≤ 256) (ho : old.length ≤ 256) (hk : ∀ m ∈ old, keepB kind m (thereB (gMem g) (mKey m)) (muB R (mKey m)) = true) :
    loopT l7_0_27 (((0 : Int), kind, old, now, i, (old.length : Int), ()), ((nc, ()), (g, ()), (d, ()), (rc, ()), F, R, ks, ())) = some (.inr ((now, i, ()), ((g, ()), (d, ()), (rc, ()), ks, ()))) := by
  have := loop_thru (f := l7_0_27) old (fun j => (((j : Int), kind, old, now, i, (old.length : Int), ()), ((nc, ()), (g, ()), (d, ()), (rc, ()), F, R, ks, ()))) (.inr ((now, i, ()), ((g, ()), (d, ()), (rc, ()), ks, ()))) ?_ ?_
  · exact this
  · intro j m he hj
    have hw : w64 ((j : Int) + 1) = ((j + 1 : Nat) : Int) := w64_nat (by omega)
    have q1 := loop31 m nc g d rc F R ks kind old now i (old.length : Int) (j : Int) hl
    have q2 := loop37 m nc g d rc F R ks kind old now i (old.length : Int) (j : Int) (thereB (gMem g) (mKey m)) hR
    have hkm := hk m (List.mem_of_getElem? he)
    generalize thereB (gMem g) (mKey m) = th at *
    generalize muB R (mKey m) = to at *
    obtain ⟨rt, ky, ms, du, se, ⟨⟩⟩ := g
    dsimp only [gMem] at *
    have h1 : decide ((j : Int) < (old.length : Int)) = true := lt_t hj
    simp only [l7_0_27, h1, rowAt_G, rowG_nat he, q1, q2, sumE, sS]
    unfold keepB at hkm
    dsimp only [mTold, mFire] at hkm
    cases to <;> cases th <;> cases hb : (kind == 2) <;> cases ht : m.2.2.2.2.2.1 <;> cases hf : m.2.2.2.2.1 <;> first | (rw [hb, ht, hf] at hkm; exact absurd hkm (by decide)) | (exact absurd hkm (by decide)) | simp only [hw, sumE, sS]
  · simp only [l7_0_27, lt_f, sumE, sS]

theorem law7c (x : List Int) : m7 ((x, ()), ()) = some ((true, ()), ()) := by
  unfold m7
  simp only [light, roll, sane23, sumE, sS]
  cases hx : decide (x.length ≤ 500)
  · simp only [sumE, sS]
  have hx := of_decide_eq_true hx
  simp only [sumE, sS]
  refine ens_tt ?_
  refine ens_call (c11 _ (dok0 hx)) ?_
  rintro ⟨⟨⟩, ⟨⟨d1, ⟨⟩⟩, ⟨rc, ⟨⟩⟩, ks, ⟨⟩⟩⟩ ⟨hd1, hr, _, hw, hi, hp⟩
  dsimp only at hd1 hr hw hi hp ⊢
  refine ens_bind ⟨((), (((0, bs [123, 125], -1, -1, ()), ()), ())), rfl, ?_⟩
  dsimp only
  refine ens_call (R := fun b => ∃ u, b = .inr u) ?_ ?_
  · refine ens_loop (fun v => DOK v.2.2.1.1 ∧ VG v.2.1.1 ∧ v.2.2.2.1.1 = rc ∧ v.2.2.2.2.1 = ks ∧ 0 ≤ v.1.1 ∧ v.1.1 ≤ 16 ∧ 0 ≤ v.1.2.1 ∧ v.1.2.1 ≤ 400 * v.1.1 ∧ ((gMem v.2.1.1).length : Int) ≤ v.1.1) (fun v => (16 - v.1.1).toNat) ?_ _ ?_
    rotate_left
    · exact ⟨hd1, zero_vg 0 _ (by omega), rfl, rfl, by dsimp only; omega, by dsimp only; omega, by dsimp only; omega, by dsimp only; omega, by show ((List.length ([] : List MbT) : Nat) : Int) ≤ 0; simp⟩
    rintro ⟨⟨i, now, ⟨⟩⟩, ⟨g, ⟨⟩⟩, ⟨d, ⟨⟩⟩, ⟨rc0, ⟨⟩⟩, ks0, ⟨⟩⟩ ⟨hd, hg, hrc, hks, hi0, hi1, hn0, hn1, hgl⟩
    dsimp only at hd hg hrc hks hi0 hi1 hn0 hn1 hgl ⊢
    subst hrc; subst hks
    unfold l7_0_8
    dsimp only
    refine ens_ite (fun hlt => ?_) (fun _ => ens_some ⟨_, rfl⟩)
    refine ens_call (c19 [0, 1, 10, 30, 400] d hd (by decide) (by decide)) ?_
    rintro ⟨⟨p, ⟨⟩⟩, ⟨⟨d2, ⟨⟩⟩, ⟨⟩⟩⟩ ⟨hd2, hp⟩
    dsimp only at hd2 hp ⊢
    simp only [List.mem_cons, List.not_mem_nil, or_false] at hp
    have w1 : w64 (now + p) = now + p := w64_id (by omega) (by omega)
    refine ens_call (c13 d2 hd2) ?_
    rintro ⟨⟨⟩, ⟨⟨d3, ⟨⟩⟩, l, ⟨⟩⟩⟩ ⟨hd3, hl⟩
    dsimp only at hd3 hl ⊢
    refine ens_call (c20 4 d3 hd3 (by omega)) ?_
    rintro ⟨⟨q, ⟨⟩⟩, ⟨⟨d4, ⟨⟩⟩, ⟨⟩⟩⟩ ⟨hd4, hq0, hq1⟩
    dsimp only at hd4 hq0 hq1 ⊢
    have hq1 := hq1 (by omega)
    rw [w1]
    have ht : 0 ≤ now + p ∧ now + p ≤ 8589934592 := by omega
    have hgl2 : (gMem g).length < 256 := by omega
    refine ens_call (R := fun z => ∃ (kind : Int) (ok : Bool) (nc : NcT) (g' : GpT) (d' : Dice) (F R : List ByteArray), z = ((kind, now + p, i, ok, 0, ()), ((nc, ()), (g', ()), (d', ()), (rc0, ()), (g, ()), F, R, ks0, ())) ∧ DOK d' ∧ VG g' ∧ (gMem g').length ≤ (gMem g).length + 1 ∧ F.length ≤ 256 ∧ R.length ≤ 256 ∧ ok = decide (0 < F.length + R.length) ∧ ∀ m ∈ gMem g, keepB kind m (thereB (gMem g') (mKey m)) (muB R (mKey m)) = true) ?_ ?_
    · obtain ⟨pa, po, wa, ir, rp, co, ⟨⟩⟩ := rc0
      dsimp only [rtOf] at hr ⊢
      have hcase : q = 0 ∨ q = 1 ∨ q = 2 ∨ q = 3 := by omega
      have hadd : ∀ kind : Int, kind ≠ 2 → Ens ((m20 ((3, ()), ((d4, ()), ()))).bind fun u391 => (m14 ((g, (pa, [], po, ks0, wa, ir, rp, co, ()), l, decide (u391.1.1 > 0), now + p, ()), ())).bind fun u392 =>
          some ((kind, now + p, i, false, u392.1.1, ()), (((0, 0, 0, ByteArray.empty, ()) : NcT), ()), (((u392.2.1.1.1, u392.2.1.1.2.1, u392.2.2.1, u392.2.1.1.2.2.1, u392.2.1.1.2.2.2.1, ()) : GpT), ()), (u391.2.1.1, ()), (((pa, po, wa, ir, rp, co, ()) : RcT), ()), (g, ()), ([] : List ByteArray), ([] : List ByteArray), ks0, ()))
          (fun z => ∃ (kind : Int) (ok : Bool) (nc : NcT) (g' : GpT) (d' : Dice) (F R : List ByteArray), z = ((kind, now + p, i, ok, 0, ()), ((nc, ()), (g', ()), (d', ()), ((pa, po, wa, ir, rp, co, ()), ()), (g, ()), F, R, ks0, ())) ∧ DOK d' ∧ VG g' ∧ (gMem g').length ≤ (gMem g).length + 1 ∧ F.length ≤ 256 ∧ R.length ≤ 256 ∧ ok = decide (0 < F.length + R.length) ∧ ∀ m ∈ gMem g, keepB kind m (thereB (gMem g') (mKey m)) (muB R (mKey m)) = true) := by
        intro kind hkind
        refine ens_call (c20 3 d4 hd4 (by omega)) ?_
        rintro ⟨⟨o, ⟨⟩⟩, ⟨⟨d5, ⟨⟩⟩, ⟨⟩⟩⟩ ⟨hd5, _, _⟩
        dsimp only at hd5 ⊢
        obtain ⟨a1, a2⟩ := add_len g (pa, [], po, ks0, wa, ir, rp, co, ()) l (decide (o > 0)) (now + p) hgl2
        refine ens_call ⟨_, add_p hg hr hl _ ht, rfl⟩ ?_
        rintro _ rfl
        dsimp only
        rw [a1]
        exact ens_some ⟨kind, false, _, _, _, _, _, rfl, hd5, add_vg hg hr hl _ ht, a2, Nat.zero_le _, Nat.zero_le _, rfl, fun m hm => keep_old hkind (add_keep hgl2 hm)⟩
      rcases hcase with rfl | rfl | rfl | rfl
      · exact hadd 0 (by decide)
      · exact hadd 1 (by decide)
      · simp only [show ((2 : Int) == 0) = false from rfl, show ((2 : Int) == 1) = false from rfl, show ((2 : Int) == 2) = true from rfl, sumE, sS]
        obtain ⟨n, blk, e, hn, hb⟩ := look_p hg hr ht (mu := []) (Nat.zero_le _)
        have b1 := look_vg hg (pa, [], po, ks0, wa, ir, rp, co, ()) [] ht
        have b2 := look_len g (pa, [], po, ks0, wa, ir, rp, co, ()) (now + p) []
        have b3 := look_okB g (pa, [], po, ks0, wa, ir, rp, co, ()) (now + p) []
        have b4 := fun m hm => look_keep (mu := []) hg (r := (pa, [], po, ks0, wa, ir, rp, co, ())) (t := now + p) (m := m) hm
        generalize gLook g (pa, [], po, ks0, wa, ir, rp, co, ()) (now + p) [] = z at *
        obtain ⟨ok, ⟨rt2, ky2, du2, se2, ⟨⟩⟩, nc, MS, F, R⟩ := z
        dsimp only [grp] at b1 b2 b3 b4 hb e
        subst hb
        refine ens_call ⟨_, e, rfl⟩ ?_
        rintro _ rfl
        dsimp only
        refine ens_need (by omega) ?_
        rw [List.drop_zero]
        exact ens_some ⟨2, ok, nc, _, _, F, R, rfl, hd4, b1, by have := b2.1; show (blk.take n).length ≤ _; omega, by omega, by omega, b3, fun m hm => keep_look (b4 m hm).1 (b4 m hm).2⟩
      · simp only [show ((3 : Int) == 0) = false from rfl, show ((3 : Int) == 1) = false from rfl, show ((3 : Int) == 2) = false from rfl, show ((3 : Int) == 3) = true from rfl, sumE, sS]
        obtain ⟨a1, a2⟩ := exp_len g (pa, [], po, ks0, wa, ir, rp, co, ()) (now + p) 300
        refine ens_call ⟨_, exp_p hg hr ht (by omega), rfl⟩ ?_
        rintro _ rfl
        dsimp only
        rw [a1]
        exact ens_some ⟨3, false, _, _, _, [], [], rfl, hd4, exp_vg hg hr _ ht, Nat.le_succ_of_le a2, Nat.zero_le _, Nat.zero_le _, rfl, fun m hm => keep_old (by decide) (exp_keep hm)⟩
    · rintro _ ⟨kind, ok, nc, g', d', F, R, rfl, hd', hg', hl', hF, hR, hok, hkeep⟩
      dsimp only
      have w2 : w64 (((F.length : Nat) : Int) + ((R.length : Nat) : Int)) = ((F.length + R.length : Nat) : Int) := by rw [w64_id (by omega) (by omega)]; omega
      have w3 : w64 (i + 1) = i + 1 := w64_id (by omega) (by omega)
      have bo : (!(ok == decide (((F.length + R.length : Nat) : Int) > 0))) = false := by
        rw [hok, show decide (((F.length + R.length : Nat) : Int) > 0) = decide (0 < F.length + R.length) from decide_eq_decide.2 (by omega)]
        simp
      have q := m24_eq hg'
      have ql := loop27 nc g' d' rc0 F R ks0 kind (gMem g) (now + p) i hg'.len hR hg.len hkeep
      obtain ⟨rt2, ky2, ms2, du2, se2, ⟨⟩⟩ := g'
      dsimp only [gMem] at *
      simp only [q, w2, bo, sumE, sS]
      refine ens_call ⟨_, ql, rfl⟩ ?_
      rintro _ rfl
      simp only [w3, sumE, sS]
      exact ens_some ⟨⟨hd', hg', rfl, rfl, by dsimp only; omega, by dsimp only; omega, by dsimp only; omega, by dsimp only; omega, by show ((ms2.length : Nat) : Int) ≤ i + 1; omega⟩, by dsimp only; omega⟩
  · rintro _ ⟨u, rfl⟩
    exact ens_some rfl

theorem law7 : ∀ x, Abs.InRs [.row (.int .i64)] x → m7 (x, ()) = some ((true, ()), ()) := fun x _ => law7c x.1

end Go.Proofs.Ytcblbcpnfidndaa
