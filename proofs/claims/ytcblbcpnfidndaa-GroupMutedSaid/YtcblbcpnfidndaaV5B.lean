/- Lemmas for the statement of the last text of this claim. -/
import Derived.Test.YtcblbcpnfidndaaChecked
import Derived.Test.YtcblbcpnfidndaaPxS
import Derived.WalkKit
import Derived.ProofKit
import Derived.Deep.RegionLaw
import Derived.Deep.LoopGhost
import Derived.Lib.Walk
import Derived.Maps.Own
import Derived.Shelf.RegionOpenPlain
import Derived.Shelf.Spec.SlicesInsert
import Derived.Shelf.Strings.OnBuilder
import Derived.Test.YtcblbcpnfidndaaPxO
import Derived.Test.YtcblbcpnfidndaaPlD
import Derived.BigCall
import Derived.Lib.LazyBuf
import Derived.Test.YtcblbcpnfidndaaPxQ
import Derived.Test.YtcblbcpnfidndaaV5A
set_option linter.unusedSimpArgs false
set_option linter.unusedVariables false
namespace Go.Proofs.Ytcblbcpnfidndaa
open Go Go.Abs Go.Lab
/-- What joins and conditions need. -/
theorem sS : (∀ h : Decidable True, @decide True h = true) ∧ (∀ h : Decidable False, @decide False h = false) ∧ (∀ {α : Type} (a b : α), cond true a b = a) ∧ (∀ {α : Type} (a b : α), cond false a b = b) ∧ (∀ {α β : Type} (a : α) (f : α → Option β), (some a).bind f = f a) ∧ (!true) = false ∧ (!false) = true ∧ (∀ b : Bool, (true && b) = b) ∧ (∀ b : Bool, (b && true) = b) ∧ (∀ b : Bool, (false && b) = false) ∧ (∀ b : Bool, (b && false) = false) ∧ (∀ {α : Type} [BEq α] [LawfulBEq α] (a : α), (a == a) = true) ∧ (∀ {α : Type} [BEq α] [LawfulBEq α] (a : α), (a != a) = false) :=
  ⟨fun _ => decide_true _, fun _ => decide_false _, fun _ _ => rfl, fun _ _ => rfl, fun _ _ => rfl, rfl, rfl, Bool.true_and, Bool.and_true, Bool.false_and, Bool.and_false, fun _ => beq_self_eq_true _, fun _ => bne_self_eq_false _⟩

/-- An element of a row, without the proof that it is one. -/
def rowG {A B : Type} (l : List A) (n : Int) (F : A → Option B) : Option B := bif decide (0 ≤ n) then (l[n.toNat]?).bind F else none

theorem rowAt_G {A B : Type} {l : List A} {n : Int} (F : A → Option B) : Abs.rowAt l n (fun e _ => F e) = rowG l n F := by
  unfold Abs.rowAt rowG
  cases l[n.toNat]? <;> rfl

theorem rowG_nat {A B : Type} {l : List A} {i : Nat} {e : A} (h : l[i]? = some e) (F : A → Option B) : rowG l (i : Int) F = F e := by
  unfold rowG
  rw [show decide (0 ≤ (i : Int)) = true from decide_eq_true (by omega), Int.toNat_natCast, h]; rfl

theorem rowG_int {A B : Type} {l : List A} {n : Int} {e : A} (h0 : 0 ≤ n) (h : l[n.toNat]? = some e) (F : A → Option B) : rowG l n F = F e := by
  unfold rowG
  rw [show decide (0 ≤ n) = true from decide_eq_true h0, h]; rfl

theorem w64_nat {i : Nat} (h : i < 9223372036854775807) : w64 ((i : Int) + 1) = ((i + 1 : Nat) : Int) := by rw [w64_id (by omega) (by omega)]; omega

theorem drop_at {A : Type} {l : List A} {i : Nat} (h : i < l.length) : ∃ e, l[i]? = some e ∧ l.drop i = e :: l.drop (i + 1) :=
  ⟨l[i], List.getElem?_eq_getElem h, List.drop_eq_getElem_cons h⟩

theorem getD_some {A : Type} {l : List A} {i : Nat} (h : i < l.length) : ∃ e, l[i]? = some e := ⟨_, List.getElem?_eq_getElem h⟩

theorem bind_of {A B : Type} {o : Option A} {f : A → Option B} {y : Option B} (x : A) (h : o = some x) (h2 : f x = y) : o.bind f = y := by rw [h]; exact h2

theorem beq_decide (a b : Int) : (a == b) = decide (a = b) := by
  by_cases h : a = b <;> simp [h]

/-! ### Bytes -/
abbrev bl (s : ByteArray) : List UInt8 := s.data.toList

theorem len_bl (s : ByteArray) : (bl s).length = s.size := Array.length_toList

theorem at_bl (s : ByteArray) (i : Nat) : (s[i]? : Option UInt8) = (bl s)[i]? := by
  rw [Array.getElem?_toList]
  by_cases h : i < s.size
  · rw [getElem?_pos s i h, getElem?_pos s.data i h]; rfl
  · rw [getElem?_neg s i h, getElem?_neg s.data i h]

theorem toList_bl (s : ByteArray) : s.toList = bl s := ByteArray.toList_eq s

theorem bl_inj {s t : ByteArray} (h : bl s = bl t) : s = t := ByteArray.ext (Array.toList_inj.1 h)

theorem bl_mk (l : List UInt8) : bl (mkB l) = l := rfl

theorem bl_empty : bl ByteArray.empty = [] := rfl

theorem beq_bl (s t : ByteArray) : (bl s == bl t) = decide (s = t) := by
  by_cases h : s = t
  · subst h; simp
  · have : bl s ≠ bl t := fun e => h (bl_inj e)
    rw [decide_eq_false h]; exact beq_eq_false_iff_ne.2 this

theorem size_mk (l : List UInt8) : (mkB l).size = l.length := rfl

theorem extract_bl (s : ByteArray) (a b : Nat) : bl (s.extract a b) = ((bl s).drop a).take (b - a) := by
  exact Lib.extract_data s a b

abbrev LT : Type := ByteArray × ByteArray × Unit

abbrev MT : Type := ByteArray × Int × ByteArray × Unit

def u8 (c : UInt8) : Int := ((c.toNat : Nat) : Int)

theorem keyChar_u8 (c : UInt8) : keyChar c = ((decide (97 ≤ u8 c) && decide (u8 c ≤ 122)) || (decide (48 ≤ u8 c) && decide (u8 c ≤ 57)) || u8 c == 95) := by
  have e : (c == 95) = (u8 c == 95) := by
    by_cases h : c = 95
    · subst h; rfl
    · have : u8 c ≠ 95 := fun e => h (UInt8.toNat_inj.1 (by unfold u8 at e; show c.toNat = 95; omega))
      rw [beq_eq_false_iff_ne.2 h, beq_eq_false_iff_ne.2 this]
  unfold keyChar
  rw [e]
  have le : ∀ (n : UInt8), decide (n ≤ c) = decide ((n.toNat : Int) ≤ u8 c) := fun n => decide_eq_decide.2 (by rw [UInt8.le_iff_toNat_le]; unfold u8; omega)
  have ge : ∀ (n : UInt8), decide (c ≤ n) = decide (u8 c ≤ (n.toNat : Int)) := fun n => decide_eq_decide.2 (by rw [UInt8.le_iff_toNat_le]; unfold u8; omega)
  rw [le, ge, le, ge]
  rfl

theorem valChar_u8 (c : UInt8) : (decide (32 ≤ c) && decide (c ≤ 126)) = (decide (32 ≤ u8 c) && decide (u8 c ≤ 126)) := by
  have le : ∀ (n : UInt8), decide (n ≤ c) = decide ((n.toNat : Int) ≤ u8 c) := fun n => decide_eq_decide.2 (by rw [UInt8.le_iff_toNat_le]; unfold u8; omega)
  have ge : ∀ (n : UInt8), decide (c ≤ n) = decide (u8 c ≤ (n.toNat : Int)) := fun n => decide_eq_decide.2 (by rw [UInt8.le_iff_toNat_le]; unfold u8; omega)
  rw [le, ge]
  rfl

theorem byte_at {s : ByteArray} {i : Nat} {c : UInt8} (h : (bl s)[i]? = some c) : (((s[(i : Int).toNat]?.getD 0).toNat : Nat) : Int) = u8 c := by
  rw [Int.toNat_natCast, at_bl, h]; rfl

theorem lt_ge (a b : Int) : decide (a < b) = !decide (b ≤ a) := by
  by_cases h : a < b
  · rw [decide_eq_true h, decide_eq_false (by omega)]; rfl
  · rw [decide_eq_false h, decide_eq_true (by omega)]; rfl

theorem gt_le (a b : Int) : decide (a > b) = !decide (a ≤ b) := by
  by_cases h : a > b
  · rw [decide_eq_true h, decide_eq_false (by omega)]; rfl
  · rw [decide_eq_false h, decide_eq_true (by omega)]; rfl

theorem loop87 (s : ByteArray) (hs : s.size ≤ 9223372036854775807) : ∀ (k i : Nat), i + k = s.size →
    loopT l68_0_4 (((i : Int), s, (s.size : Int), ()), ()) = some (if ((bl s).drop i).all keyChar then .inr ((), ()) else .inl ((false, ()), ())) := by
  intro k
  induction k with
  | zero =>
    intro i h
    rw [List.drop_eq_nil_of_le (by rw [len_bl]; omega)]
    refine loopT_inr ?_
    have : ¬ (i : Int) < (s.size : Int) := by omega
    simp only [l68_0_4, decide_eq_false this, sumE, sS, List.all_nil, if_true]
  | succ k ih =>
    intro i h
    obtain ⟨c, hc, hd⟩ := drop_at (l := bl s) (i := i) (by rw [len_bl]; omega)
    have hlt : decide ((i : Int) < (s.size : Int)) = true := decide_eq_true (by omega)
    have hbd : decide ((0 : Int) ≤ (i : Int) ∧ (i : Int) < (s.size : Int)) = true := decide_eq_true (by omega)
    rw [hd, List.all_cons]
    have hstep : l68_0_4 (((i : Int), s, (s.size : Int), ()), ()) = if keyChar c then some (.inl ((w64 ((i : Int) + 1), s, (s.size : Int), ()), ())) else some (.inr (.inl ((false, ()), ()))) := by
      rw [keyChar_u8]
      simp only [l68_0_4, hlt, hbd, byte_at hc, sumE, sS, lt_ge, gt_le, bne]
      cases decide (97 ≤ u8 c) <;> cases decide (u8 c ≤ 122) <;> cases decide (48 ≤ u8 c) <;> cases decide (u8 c ≤ 57) <;> cases (u8 c == 95) <;> rfl
    cases hk : keyChar c
    · rw [hk] at hstep
      exact loopT_inr hstep
    · rw [hk, w64_nat (by omega)] at hstep
      rw [loopT_inl hstep, ih (i + 1) (by omega)]
      rfl

def valChar (c : UInt8) : Bool := decide (32 ≤ c) && decide (c ≤ 126)

theorem valChar_eq (c : UInt8) : valChar c = (decide (32 ≤ u8 c) && decide (u8 c ≤ 126)) := valChar_u8 c

theorem loop89 (s : ByteArray) (hs : s.size ≤ 9223372036854775807) : ∀ (k i : Nat), i + k = s.size →
    loopT l79_0_4 (((i : Int), s, ()), ()) = some (if ((bl s).drop i).all keyChar then .inr ((), ()) else .inl ((false, ()), ())) := by
  intro k
  induction k with
  | zero =>
    intro i h
    rw [List.drop_eq_nil_of_le (by rw [len_bl]; omega)]
    refine loopT_inr ?_
    have : ¬ (i : Int) < (s.size : Int) := by omega
    simp only [l79_0_4, decide_eq_false this, sumE, sS, List.all_nil, if_true]
  | succ k ih =>
    intro i h
    obtain ⟨c, hc, hd⟩ := drop_at (l := bl s) (i := i) (by rw [len_bl]; omega)
    have hlt : decide ((i : Int) < (s.size : Int)) = true := decide_eq_true (by omega)
    have hbd : decide ((0 : Int) ≤ (i : Int) ∧ (i : Int) < (s.size : Int)) = true := decide_eq_true (by omega)
    rw [hd, List.all_cons]
    have hstep : l79_0_4 (((i : Int), s, ()), ()) = if keyChar c then some (.inl ((w64 ((i : Int) + 1), s, ()), ())) else some (.inr (.inl ((false, ()), ()))) := by
      rw [keyChar_u8]
      simp only [l79_0_4, hlt, hbd, byte_at hc, sumE, sS, lt_ge, gt_le, bne]
      cases decide (97 ≤ u8 c) <;> cases decide (u8 c ≤ 122) <;> cases decide (48 ≤ u8 c) <;> cases decide (u8 c ≤ 57) <;> cases (u8 c == 95) <;> rfl
    cases hk : keyChar c
    · rw [hk] at hstep
      exact loopT_inr hstep
    · rw [hk, w64_nat (by omega)] at hstep
      rw [loopT_inl hstep, ih (i + 1) (by omega)]
      rfl

theorem loop88 (s : ByteArray) (hs : s.size ≤ 9223372036854775807) : ∀ (k i : Nat), i + k = s.size →
    loopT l69_0_2 (((i : Int), s, (s.size : Int), ()), ()) = some (if ((bl s).drop i).all valChar then .inr ((s, ()), ()) else .inl ((false, ()), ())) := by
  intro k
  induction k with
  | zero =>
    intro i h
    rw [List.drop_eq_nil_of_le (by rw [len_bl]; omega)]
    refine loopT_inr ?_
    have : ¬ (i : Int) < (s.size : Int) := by omega
    simp only [l69_0_2, decide_eq_false this, sumE, sS, List.all_nil, if_true]
  | succ k ih =>
    intro i h
    obtain ⟨c, hc, hd⟩ := drop_at (l := bl s) (i := i) (by rw [len_bl]; omega)
    have hlt : decide ((i : Int) < (s.size : Int)) = true := decide_eq_true (by omega)
    have hbd : decide ((0 : Int) ≤ (i : Int) ∧ (i : Int) < (s.size : Int)) = true := decide_eq_true (by omega)
    rw [hd, List.all_cons]
    have hstep : l69_0_2 (((i : Int), s, (s.size : Int), ()), ()) = if valChar c then some (.inl ((w64 ((i : Int) + 1), s, (s.size : Int), ()), ())) else some (.inr (.inl ((false, ()), ()))) := by
      rw [valChar_eq]
      simp only [l69_0_2, hlt, hbd, byte_at hc, sumE, sS, lt_ge, gt_le, bne]
      cases decide (32 ≤ u8 c) <;> cases decide (u8 c ≤ 126) <;> rfl
    cases hk : valChar c
    · rw [hk] at hstep
      exact loopT_inr hstep
    · rw [hk, w64_nat (by omega)] at hstep
      rw [loopT_inl hstep, ih (i + 1) (by omega)]
      rfl

theorem loop90 (s : ByteArray) (hs : s.size ≤ 9223372036854775807) : ∀ (k i : Nat), i + k = s.size →
    loopT l80_0_4 (((i : Int), s, ()), ()) = some (if ((bl s).drop i).all valChar then .inr ((), ()) else .inl ((false, ()), ())) := by
  intro k
  induction k with
  | zero =>
    intro i h
    rw [List.drop_eq_nil_of_le (by rw [len_bl]; omega)]
    refine loopT_inr ?_
    have : ¬ (i : Int) < (s.size : Int) := by omega
    simp only [l80_0_4, decide_eq_false this, sumE, sS, List.all_nil, if_true]
  | succ k ih =>
    intro i h
    obtain ⟨c, hc, hd⟩ := drop_at (l := bl s) (i := i) (by rw [len_bl]; omega)
    have hlt : decide ((i : Int) < (s.size : Int)) = true := decide_eq_true (by omega)
    have hbd : decide ((0 : Int) ≤ (i : Int) ∧ (i : Int) < (s.size : Int)) = true := decide_eq_true (by omega)
    rw [hd, List.all_cons]
    have hstep : l80_0_4 (((i : Int), s, ()), ()) = if valChar c then some (.inl ((w64 ((i : Int) + 1), s, ()), ())) else some (.inr (.inl ((false, ()), ()))) := by
      rw [valChar_eq]
      simp only [l80_0_4, hlt, hbd, byte_at hc, sumE, sS, lt_ge, gt_le, bne]
      cases decide (32 ≤ u8 c) <;> cases decide (u8 c ≤ 126) <;> rfl
    cases hk : valChar c
    · rw [hk] at hstep
      exact loopT_inr hstep
    · rw [hk, w64_nat (by omega)] at hstep
      rw [loopT_inl hstep, ih (i + 1) (by omega)]
      rfl

abbrev keyS (s : ByteArray) : Bool := keyL (bl s)

abbrev valS (s : ByteArray) : Bool := valL (bl s)

theorem key_head (s : ByteArray) : keyS s = match bl s with
    | [] => false
    | c :: _ => (!decide ((s.size : Int) > 24)) && (decide (97 ≤ u8 c) && decide (u8 c ≤ 122)) && (bl s).all keyChar := by
  have hl := len_bl s
  unfold keyS keyL
  cases h : bl s with
  | nil => rfl
  | cons c r =>
    rw [h] at hl
    have le : ∀ (n : UInt8), decide (n ≤ c) = decide ((n.toNat : Int) ≤ u8 c) := fun n => decide_eq_decide.2 (by rw [UInt8.le_iff_toNat_le]; unfold u8; omega)
    have ge : ∀ (n : UInt8), decide (c ≤ n) = decide (u8 c ≤ (n.toNat : Int)) := fun n => decide_eq_decide.2 (by rw [UInt8.le_iff_toNat_le]; unfold u8; omega)
    simp only [gt_le, Bool.not_not]
    rw [show decide ((c :: r).length ≤ 24) = decide ((s.size : Int) ≤ 24) from decide_eq_decide.2 (by rw [hl]; omega), le, ge]
    rfl

theorem m68_eq (s : ByteArray) (hs : s.size ≤ 9223372036854775807) : m68 ((s, ()), ()) = some ((keyS s, ()), ()) := by
  rw [key_head]
  have hl := len_bl s
  have hlp := loop87 s hs s.size 0 (by omega)
  unfold m68
  cases h : bl s with
  | nil =>
    simp only [toList_bl, h, bl_empty, sumE, sS]
  | cons c r =>
    have hne : (bl s == bl ByteArray.empty) = false := by rw [h]; rfl
    have h0 : (((s[0]?.getD 0).toNat : Nat) : Int) = u8 c := by rw [at_bl, h]; rfl
    have hpos : decide ((0 : Int) ≤ 0 ∧ (0 : Int) < s.size) = true := decide_eq_true (by rw [h] at hl; simp at hl; omega)
    simp only [toList_bl, hne, hpos, h0, sumE, sS]
    cases decide ((s.size : Int) > 24)
    · simp only [lt_ge, gt_le, sumE, sS]
      cases decide (97 ≤ u8 c)
      · rfl
      · cases decide (u8 c ≤ 122)
        · rfl
        · simp only [sumE, sS]
          rw [List.drop_zero] at hlp
          refine bind_of _ hlp ?_
          cases ha : (bl s).all keyChar <;> rw [← h] <;> simp only [ha, sumE, sS] <;> rfl
    · rfl

theorem m79_eq (s : ByteArray) (hs : s.size ≤ 9223372036854775807) : m79 ((s, ()), ()) = some ((keyS s, ()), ()) := by
  rw [key_head]
  have hl := len_bl s
  have hlp := loop89 s hs s.size 0 (by omega)
  unfold m79
  cases h : bl s with
  | nil =>
    have : decide ((s.size : Int) < 1) = true := decide_eq_true (by rw [h] at hl; simp at hl; omega)
    simp only [this, sumE, sS]
  | cons c r =>
    have hne : decide ((s.size : Int) < 1) = false := decide_eq_false (by rw [h] at hl; simp at hl; omega)
    have h0 : (((s[0]?.getD 0).toNat : Nat) : Int) = u8 c := by rw [at_bl, h]; rfl
    have hpos : decide ((0 : Int) ≤ 0 ∧ (0 : Int) < s.size) = true := decide_eq_true (by rw [h] at hl; simp at hl; omega)
    simp only [hne, hpos, h0, sumE, sS]
    cases decide ((s.size : Int) > 24)
    · simp only [lt_ge, gt_le, sumE, sS]
      cases decide (97 ≤ u8 c)
      · rfl
      · cases decide (u8 c ≤ 122)
        · rfl
        · simp only [sumE, sS]
          rw [List.drop_zero] at hlp
          refine bind_of _ hlp ?_
          cases ha : (bl s).all keyChar <;> rw [← h] <;> simp only [ha, sumE, sS] <;> rfl
    · rfl

theorem val_def (s : ByteArray) : valS s = ((bl s).all valChar && decide ((s.size : Int) ≤ 64)) := by
  unfold valS valL
  rw [len_bl, show decide (s.size ≤ 64) = decide ((s.size : Int) ≤ 64) from decide_eq_decide.2 (by omega)]
  rfl

theorem m69_eq (s : ByteArray) (hs : s.size ≤ 9223372036854775807) : m69 ((s, ()), ()) = some ((valS s, ()), ()) := by
  rw [val_def]
  have hlp := loop88 s hs s.size 0 (by omega)
  rw [List.drop_zero] at hlp
  unfold m69
  refine bind_of _ hlp ?_
  cases ha : (bl s).all valChar <;> simp only [sumE, sS] <;> rfl

theorem m80_eq (s : ByteArray) (hs : s.size ≤ 9223372036854775807) : m80 ((s, ()), ()) = some ((valS s, ()), ()) := by
  rw [val_def]
  have hlp := loop90 s hs s.size 0 (by omega)
  rw [List.drop_zero] at hlp
  unfold m80
  simp only [gt_le]
  cases decide ((s.size : Int) ≤ 64)
  · simp only [sumE, sS]
  · simp only [sumE, sS]
    refine bind_of _ hlp ?_
    cases ha : (bl s).all valChar <;> rfl

/-- Whether a matcher is right. -/
def rightM (m : MT) : Bool := keyS m.1 && (decide (m.2.1 ≥ 0) && (decide (m.2.1 ≤ 3) && valS m.2.2.1))

def MSz (m : MT) : Prop := m.1.size ≤ 9223372036854775807 ∧ m.2.2.1.size ≤ 9223372036854775807

theorem m101_eq (m : MT) (hm : MSz m) : m101 ((m, ()), ()) = some ((rightM m, ()), ()) := by
  unfold m101 rightM
  simp only [m68_eq _ hm.1, m69_eq _ hm.2, sumE, sS]
  cases keyS m.1 <;> cases decide (m.2.1 ≥ 0) <;> cases decide (m.2.1 ≤ 3) <;> simp only [sumE, sS]

theorem m98_eq (m : MT) (hm : MSz m) : m98 ((m, ()), ()) = some ((rightM m, ()), ()) := by
  unfold m98 rightM
  simp only [m79_eq _ hm.1, m80_eq _ hm.2, sumE, sS]
  cases keyS m.1 <;> cases decide (m.2.1 ≥ 0) <;> cases decide (m.2.1 ≤ 3) <;> simp only [sumE, sS]

end Go.Proofs.Ytcblbcpnfidndaa

namespace Go.Proofs.Ytcblbcpnfidndaa
open Go Go.Abs Go.Lab
end Go.Proofs.Ytcblbcpnfidndaa

namespace Go.Proofs.Ytcblbcpnfidndaa
open Go Go.Abs Go.Lab
def starOK : Option (Nat × Nat) → Int → Int → Prop
  | none, s, _ => s = -1
  | some q, s, f => s = ((q.1 : Nat) : Int) ∧ f = ((q.2 : Nat) : Int)

/-- The state of the program's loop. -/
structure LS (P V : ByteArray) (p v : Nat) (star : Option (Nat × Nat)) (a : (Int × Int × Int × Int × ByteArray × ByteArray × Unit) × Unit) : Prop where
  inv : LInv (bl P) (bl V) p v star
  st : ∃ (s f : Int), a = (((p : Int), (v : Int), s, f, V, P, ()), ()) ∧ starOK star s f

/-- No value is long. -/
def LSz (l : List LT) : Prop := l.length ≤ 9223372036854775807 ∧ ∀ x ∈ l, x.2.1.size ≤ 4294967294

def PSz (m : MT) : Prop := m.2.2.1.size ≤ 4294967295

def PSs (ms : List MT) : Prop := ms.length ≤ 9223372036854775807 ∧ ∀ m ∈ ms, PSz m

end Go.Proofs.Ytcblbcpnfidndaa

namespace Go.Proofs.Ytcblbcpnfidndaa
open Go Go.Abs Go.Lab
end Go.Proofs.Ytcblbcpnfidndaa

namespace Go.Proofs.Ytcblbcpnfidndaa
open Go Go.Abs Go.Lab
abbrev Dice := List Int × Int × Unit

def DOK (d : Dice) : Prop := 0 ≤ d.2.1 ∧ d.2.1 ≤ d.1.length ∧ d.1.length ≤ 500

theorem dok0 {l : List Int} (h : l.length ≤ 500) : DOK (l, 0, ()) := ⟨Int.le_refl _, Int.natCast_nonneg _, h⟩

theorem next_spec (n : Int) (d : Dice) (hd : DOK d) (hn : n ≤ 9223372036854775807) :
    ∃ (r : Int) (d' : Dice), m20 ((n, ()), ((d, ()), ())) = some ((r, ()), ((d', ()), ())) ∧ DOK d' ∧ (1 ≤ n → 0 ≤ r ∧ r < n) ∧ (n < 1 → r = 0) := by
  obtain ⟨l, at_, u⟩ := d
  obtain ⟨h1, h2, h3⟩ := hd
  simp only at h1 h2 h3
  unfold m20
  simp only [rowAt_G]
  by_cases c1 : at_ ≥ (l.length : Int)
  · refine ⟨0, (l, at_, ()), ?_, ⟨h1, h2, h3⟩, fun h => ⟨by omega, by omega⟩, fun _ => rfl⟩
    simp only [decide_eq_true c1, sumE, sS]
  · by_cases c2 : n < 1
    · refine ⟨0, (l, at_, ()), ?_, ⟨h1, h2, h3⟩, fun h => ⟨by omega, by omega⟩, fun _ => rfl⟩
      simp only [decide_eq_false c1, decide_eq_true c2, sumE, sS]
    · have hat : w64 (at_ + 1) = at_ + 1 := w64_id (by omega) (by omega)
      have hne : n ≠ 0 := by omega
      obtain ⟨e, he⟩ := getD_some (l := l) (i := at_.toNat) (by omega)
      have hb := Int.tmod_lt_of_pos e (show (0 : Int) < n by omega)
      have hb2 : -n < e.tmod n := by
        have := Int.lt_tmod_of_pos e (show (0 : Int) < n by omega)
        omega
      by_cases c3 : e.tmod n < 0
      · refine ⟨e.tmod n + n, (l, at_ + 1, ()), ?_, ⟨by simp only; omega, by simp only; omega, h3⟩, fun h => ⟨by omega, by omega⟩, fun h => by omega⟩
        simp only [decide_eq_false c1, decide_eq_false c2, sumE, sS, rowG_int h1 he, decide_eq_true hne, decide_eq_true c3, hat, w64_id (x := e.tmod n + n) (by omega) (by omega)]
      · refine ⟨e.tmod n, (l, at_ + 1, ()), ?_, ⟨by simp only; omega, by simp only; omega, h3⟩, fun h => ⟨by omega, by omega⟩, fun h => by omega⟩
        simp only [decide_eq_false c1, decide_eq_false c2, sumE, sS, rowG_int h1 he, decide_eq_true hne, decide_eq_false c3, hat]

theorem pick_spec (l : List Int) (d : Dice) (hd : DOK d) (h0 : 0 < l.length) (h1 : l.length ≤ 4294967296) :
    ∃ (r : Int) (d' : Dice), m19 ((l, ()), ((d, ()), ())) = some ((r, ()), ((d', ()), ())) ∧ DOK d' ∧ r ∈ l := by
  obtain ⟨n, d', e1, e2, e3, _⟩ := next_spec l.length d hd (by omega)
  obtain ⟨hn0, hn1⟩ := e3 (by omega)
  obtain ⟨r, hr⟩ := getD_some (l := l) (i := n.toNat) (by omega)
  refine ⟨r, d', ?_, e2, List.mem_of_getElem? hr⟩
  unfold m19
  simp only [e1, Option.bind_some, rowAt_G, rowG_int hn0 hr]

theorem bool_spec (n : Int) (d : Dice) (hd : DOK d) (hn : 1 ≤ n) (hn2 : n ≤ 9223372036854775807) : ∃ (b : Bool) (d' : Dice), m18 ((n, ()), ((d, ()), ())) = some ((b, ()), ((d', ()), ())) ∧ DOK d' := by
  obtain ⟨r, d', e1, e2, _⟩ := next_spec n d hd hn2
  refine ⟨(r == w64 (n - 1)), d', ?_, e2⟩
  unfold m18
  simp only [e1, Option.bind_some]

/-- A matcher that is right, and short. -/
def GoodM (m : MT) : Prop := rightM m = true ∧ m.1.size ≤ 64 ∧ m.2.2.1.size ≤ 64 ∧ 0 ≤ m.2.1 ∧ m.2.1 ≤ 3

theorem GoodM.p {m : MT} (h : GoodM m) : PSz m := by have := h.2.2.1; unfold PSz; omega

theorem GoodM.z {m : MT} (h : GoodM m) : MSz m := by have := h.2.1; have := h.2.2.1; unfold MSz; omega

/-- Labels that are short. -/
def GoodL (l : List LT) : Prop := l.length ≤ 4 ∧ ∀ x ∈ l, x.1.size ≤ 64 ∧ x.2.1.size ≤ 64

theorem GoodL.z {l : List LT} (h : GoodL l) : LSz l := ⟨by have := h.1; omega, fun x hx => by have := (h.2 x hx).2; omega⟩

abbrev keys4 : List ByteArray := [(bs [97, 112, 112]), (bs [104, 111, 115, 116]), (bs [115, 101, 118]), (bs [116, 101, 97, 109])]

abbrev vals6 : List ByteArray := [ByteArray.empty, (bs [97]), (bs [98]), (bs [99, 114, 105, 116]), (bs [97, 34, 98, 92]), (bs [119, 101, 98, 45, 49])]

abbrev arr4 : ByteArray × ByteArray × ByteArray × ByteArray × Unit := ((bs [97, 112, 112]), ((bs [104, 111, 115, 116]), ((bs [115, 101, 118]), ((bs [116, 101, 97, 109]), ()))))

theorem vals6_ok : ∀ v ∈ vals6, valS v = true ∧ v.size ≤ 64 := by decide +kernel

theorem keys4_ok : ∀ k ∈ keys4, keyS k = true ∧ k.size ≤ 64 := by decide +kernel

/-- What the dice's labels are made of: keys in order, values of a few. -/
def FromKeys (ks : List ByteArray) (l : List LT) : Prop := (l.map (·.1)).Sublist ks ∧ ∀ x ∈ l, x.2.1 ∈ vals6 ∧ x.2.1 ≠ ByteArray.empty

theorem labels_loop : ∀ (n i : Nat) (d : Dice) (l : List LT), i + n = 4 → DOK d → FromKeys (keys4.take i) l →
    ∃ (l' : List LT) (d' : Dice), loopT l13_0_3 (((i : Int), arr4, ()), ((d, ()), (l, ()))) = some ((), ((d', ()), (l', ()))) ∧ DOK d' ∧ FromKeys keys4 l' := by
  intro n
  induction n with
  | zero =>
    intro i d l hi hd hl
    refine ⟨l, d, loopT_inr ?_, hd, by rw [show i = 4 by omega] at hl; exact hl⟩
    have : decide ((i : Int) < 4) = false := decide_eq_false (by omega)
    simp only [l13_0_3, this, sumE, sS]
  | succ n ih =>
    intro i d l hi hd hl
    obtain ⟨k, hk⟩ := getD_some (l := keys4) (i := i) (by show i < 4; omega)
    obtain ⟨a, d1, e1, hd1, b1, _⟩ := next_spec 6 d hd (by omega)
    have b1 := b1 (by omega)
    obtain ⟨v, hv⟩ := getD_some (l := vals6) (i := a.toNat) (by show a.toNat < 6; omega)
    have h0 : decide ((i : Int) < 4) = true := decide_eq_true (by omega)
    have hb : decide ((0 : Int) ≤ a ∧ (a : Int) < vals6.length) = true := decide_eq_true ⟨b1.1, b1.2⟩
    have htk : keys4.take (i + 1) = keys4.take i ++ [k] := by rw [List.take_add_one, hk]; rfl
    have hw : w64 ((i : Int) + 1) = ((i + 1 : Nat) : Int) := w64_nat (by omega)
    have hlen : l.length ≤ 4 := by
      have := hl.1.length_le
      rw [List.length_map, List.length_take] at this
      omega
    by_cases he : v = ByteArray.empty
    · obtain ⟨l', d', e2, hd', hl'⟩ := ih (i + 1) d1 l (by omega) hd1 ⟨by rw [htk]; exact hl.1.trans (List.sublist_append_left _ _), hl.2⟩
      refine ⟨l', d', ?_, hd', hl'⟩
      rw [← e2]
      refine loopT_inl ?_
      simp only [l13_0_3, h0, rowAt_G, rowG_nat hk, e1, hb, hv, toList_bl, beq_bl, decide_eq_true he, sumE, sS, hw]
    · obtain ⟨l', d', e2, hd', hl'⟩ := ih (i + 1) d1 (l ++ [(k, v, ())]) (by omega) hd1 ⟨by rw [htk, List.map_append]; exact hl.1.append (List.Sublist.refl _), fun x hx => by
        rcases List.mem_append.1 hx with h | h
        · exact hl.2 x h
        · simp only [List.mem_singleton] at h; subst h; exact ⟨List.mem_of_getElem? hv, he⟩⟩
      refine ⟨l', d', ?_, hd', hl'⟩
      rw [← e2]
      refine loopT_inl ?_
      have h1 : decide (l.length + ([(k, (v, ()))] : List LT).length ≤ 4294967296) = true := decide_eq_true (by simp; omega)
      simp only [l13_0_3, h0, rowAt_G, rowG_nat hk, e1, hb, hv, toList_bl, beq_bl, decide_eq_false he, sumE, sS, h1, hw]

theorem labels_spec (d : Dice) (hd : DOK d) : ∃ (l : List LT) (d' : Dice), m13 ((), ((d, ()), ())) = some ((), ((d', ()), (l, ()))) ∧ DOK d' ∧ FromKeys keys4 l := by
  obtain ⟨l, d', h1, h2, h3⟩ := labels_loop 4 0 d [] (by omega) hd ⟨List.nil_sublist _, fun x hx => by cases hx⟩
  refine ⟨l, d', ?_, h2, h3⟩
  unfold m13
  refine bind_of _ h1 rfl

theorem keysD_loop : ∀ (n i : Nat) (d : Dice) (l : List ByteArray), i + n = 4 → DOK d → l.Sublist (keys4.take i) →
    ∃ (l' : List ByteArray) (d' : Dice), loopT l35_0_3 (((i : Int), arr4, ()), ((d, ()), (l, ()))) = some ((), ((d', ()), (l', ()))) ∧ DOK d' ∧ l'.Sublist keys4 := by
  intro n
  induction n with
  | zero =>
    intro i d l hi hd hl
    refine ⟨l, d, loopT_inr ?_, hd, by rw [show i = 4 by omega] at hl; exact hl⟩
    have : decide ((i : Int) < 4) = false := decide_eq_false (by omega)
    simp only [l35_0_3, this, sumE, sS]
  | succ n ih =>
    intro i d l hi hd hl
    obtain ⟨k, hk⟩ := getD_some (l := keys4) (i := i) (by show i < 4; omega)
    obtain ⟨b, d1, e1, hd1⟩ := bool_spec 3 d hd (by omega) (by omega)
    have h0 : decide ((i : Int) < 4) = true := decide_eq_true (by omega)
    have htk : keys4.take (i + 1) = keys4.take i ++ [k] := by rw [List.take_add_one, hk]; rfl
    have hw : w64 ((i : Int) + 1) = ((i + 1 : Nat) : Int) := w64_nat (by omega)
    have hlen : l.length ≤ 4 := by
      have := hl.length_le
      rw [List.length_take] at this
      omega
    cases b with
    | false =>
      obtain ⟨l', d', e2, hd', hl'⟩ := ih (i + 1) d1 l (by omega) hd1 (by rw [htk]; exact hl.trans (List.sublist_append_left _ _))
      refine ⟨l', d', ?_, hd', hl'⟩
      rw [← e2]
      refine loopT_inl ?_
      simp only [l35_0_3, h0, rowAt_G, rowG_nat hk, e1, sumE, sS, hw]
    | true =>
      obtain ⟨l', d', e2, hd', hl'⟩ := ih (i + 1) d1 (l ++ [k]) (by omega) hd1 (by rw [htk]; exact hl.append (List.Sublist.refl _))
      refine ⟨l', d', ?_, hd', hl'⟩
      rw [← e2]
      refine loopT_inl ?_
      have h1 : decide (l.length + [k].length ≤ 4294967296) = true := decide_eq_true (by simp; omega)
      simp only [l35_0_3, h0, rowAt_G, rowG_nat hk, e1, sumE, sS, h1, hw]

theorem keysD_spec (d : Dice) (hd : DOK d) : ∃ (l : List ByteArray) (d' : Dice), m35 ((), ((d, ()), ())) = some ((), ((d', ()), (l, ()))) ∧ DOK d' ∧ l.Sublist keys4 := by
  obtain ⟨l, d', h1, h2, h3⟩ := keysD_loop 4 0 d [] (by omega) hd (List.nil_sublist _)
  refine ⟨l, d', ?_, h2, h3⟩
  unfold m35
  refine bind_of _ h1 rfl

theorem light (l : List Int) : m8 ((l, ()), ()) = some ((decide (l.length ≤ 500), ()), ()) := by
  unfold m8
  rw [show decide ((l.length : Int) ≤ 500) = decide (l.length ≤ 500) from decide_eq_decide.2 (by omega)]

theorem roll (l : List Int) : m10 ((l, ()), ()) = some ((), (((l, 0, ()), ()), ())) := rfl

end Go.Proofs.Ytcblbcpnfidndaa

namespace Go.Proofs.Ytcblbcpnfidndaa
open Go Go.Abs Go.Lab
abbrev RuT : Type := List MT × List MT × List ByteArray × Unit

abbrev big : Nat := 9223372036854775807

/-- The sizes of a rule, of alerts. -/
def RSz (r : RuT) : Prop := PSs r.1 ∧ PSs r.2.1 ∧ r.2.2.1.length ≤ big

/-! ### The dice's rules -/
def GoodR (r : RuT) : Prop := r.1.length ≤ 8 ∧ r.2.1.length ≤ 8 ∧ (∀ m ∈ r.1, GoodM m) ∧ (∀ m ∈ r.2.1, GoodM m) ∧ r.2.2.1.Sublist keys4 ∧ r.1 ≠ [] ∧ r.2.1 ≠ []

theorem GoodR.z {r : RuT} (h : GoodR r) : RSz r := by
  obtain ⟨h1, h2, h3, h4, h5, _⟩ := h
  refine ⟨⟨by omega, fun m hm => (h3 m hm).p⟩, ⟨by omega, fun m hm => (h4 m hm).p⟩, ?_⟩
  have := h5.length_le
  rw [show keys4.length = 4 from rfl] at this
  unfold big; omega

end Go.Proofs.Ytcblbcpnfidndaa

namespace Go.Proofs.Ytcblbcpnfidndaa
open Go Go.Abs Go.Lab
/-! ### Loops over a row -/
def runL {S E B : Type} (step : Nat → S → E → S ⊕ B) (fin : S → B) : Nat → List E → S → B
  | _, [], s => fin s
  | i, e :: r, s => match step i s e with
    | .inl s' => runL step fin (i + 1) r s'
    | .inr b => b

theorem loop_list {A B S E : Type} {f : A → Option (A ⊕ B)} (l : List E) (st : Nat → S → A) (step : Nat → S → E → S ⊕ B) (fin : S → B) (I : Nat → S → Prop)
    (h1 : ∀ i e s, l[i]? = some e → i < l.length → I i s → f (st i s) = some (match step i s e with | .inl s' => .inl (st (i + 1) s') | .inr b => .inr b))
    (hI : ∀ i e s s', l[i]? = some e → I i s → step i s e = .inl s' → I (i + 1) s')
    (h2 : ∀ s, I l.length s → f (st l.length s) = some (.inr (fin s))) :
    ∀ (k i : Nat) (s : S), i + k = l.length → I i s → loopT f (st i s) = some (runL step fin i (l.drop i) s) := by
  intro k
  induction k with
  | zero =>
    intro i s h hi
    obtain rfl : i = l.length := by omega
    rw [List.drop_length]
    exact loopT_inr (h2 s hi)
  | succ k ih =>
    intro i s h hi
    obtain ⟨e, he, hd⟩ := drop_at (l := l) (i := i) (by omega)
    have q := h1 i e s he (by omega) hi
    rw [hd]
    unfold runL
    cases hs : step i s e with
    | inl s' =>
      rw [hs] at q
      simp only
      rw [← ih (i + 1) s' (by omega) (hI i e s s' he hi hs)]
      exact loopT_inl q
    | inr b =>
      rw [hs] at q
      exact loopT_inr q

theorem loop_list0 {A B S E : Type} {f : A → Option (A ⊕ B)} (l : List E) (st : Nat → S → A) (step : Nat → S → E → S ⊕ B) (fin : S → B)
    (h1 : ∀ i e s, l[i]? = some e → i < l.length → f (st i s) = some (match step i s e with | .inl s' => .inl (st (i + 1) s') | .inr b => .inr b))
    (h2 : ∀ s, f (st l.length s) = some (.inr (fin s))) (s : S) : loopT f (st 0 s) = some (runL step fin 0 l s) := by
  have := loop_list l st step fin (fun _ _ => True) (fun i e s he hl _ => h1 i e s he hl) (fun _ _ _ _ _ _ _ => trivial) (fun s _ => h2 s) l.length 0 s (by omega) trivial
  rwa [List.drop_zero] at this

theorem runL_fold {S E B : Type} (g : S → E → S) (fin : S → B) : ∀ (l : List E) (i : Nat) (s : S), runL (fun _ s e => .inl (g s e)) fin i l s = fin (l.foldl g s) := by
  intro l
  induction l with
  | nil => intro i s; rfl
  | cons e r ih => intro i s; exact ih (i + 1) (g s e)

/-- A loop that goes through the whole row. -/
theorem loop_thru {A B E : Type} {f : A → Option (A ⊕ B)} (l : List E) (st : Nat → A) (fin : B)
    (h1 : ∀ i e, l[i]? = some e → i < l.length → f (st i) = some (.inl (st (i + 1)))) (h2 : f (st l.length) = some (.inr fin)) : loopT f (st 0) = some fin := by
  have := loop_list0 (S := Unit) l (fun i _ => st i) (fun _ _ _ => .inl ()) (fun _ => fin) (fun i e _ he hi => h1 i e he hi) (fun _ => h2) ()
  exact this.trans (congrArg some (runL_fold (fun _ _ => ()) (fun _ => fin) l 0 ()))

/-- A loop of a known number of rounds. -/
theorem loop_ind {A B : Type} {f : A → Option (A ⊕ B)} {Q : B → Prop} (I : Nat → A → Prop) (n : Nat)
    (h1 : ∀ i a, i < n → I i a → ∃ a', f a = some (.inl a') ∧ I (i + 1) a') (h2 : ∀ a, I n a → ∃ b, f a = some (.inr b) ∧ Q b) : ∀ a, I 0 a → ∃ b, loopT f a = some b ∧ Q b := by
  have : ∀ (k i : Nat) a, i + k = n → I i a → ∃ b, loopT f a = some b ∧ Q b := by
    intro k
    induction k with
    | zero =>
      intro i a h hi
      obtain rfl : i = n := by omega
      obtain ⟨b, h, hq⟩ := h2 a hi
      exact ⟨b, loopT_inr h, hq⟩
    | succ k ih =>
      intro i a h hi
      obtain ⟨a', h, hi'⟩ := h1 i a (by omega) hi
      obtain ⟨b, hb, hq⟩ := ih (i + 1) a' (by omega) hi'
      exact ⟨b, by rw [← hb]; exact loopT_inl h, hq⟩
  exact fun a h => this n 0 a (by omega) h

theorem lt_t {i n : Nat} (h : i < n) : decide ((i : Int) < (n : Int)) = true := decide_eq_true (by omega)

theorem lt_f (n : Nat) : decide ((n : Int) < (n : Int)) = false := decide_eq_false (by omega)

/-! ### Silences -/
abbrev SiT : Type := Int × Int × Int × Int × List MT × Unit

def SSz (s : SiT) : Prop := s.2.2.2.2.1.length ≤ 4294967296 ∧ ∀ m ∈ s.2.2.2.2.1, PSz m ∧ MSz m

def SSs (l : List SiT) : Prop := l.length ≤ 1000 ∧ ∀ s ∈ l, SSz s

theorem SSz.p {s : SiT} (h : SSz s) : PSs s.2.2.2.2.1 := ⟨by have := h.1; omega, fun m hm => (h.2 m hm).1⟩

theorem SSs.at {l : List SiT} (h : SSs l) {i : Nat} {e : SiT} (he : l[i]? = some e) : SSz e := h.2 e (List.mem_of_getElem? he)

/-! ### Checks of silences -/
/-- A loop that ends at the first element of a kind. -/
theorem runL_any {E B : Type} (p : E → Bool) (b : Nat → B) (fin : B) : ∀ (l : List E) (i : Nat), ∃ j, i ≤ j ∧ runL (fun i (_ : Unit) e => bif p e then .inr (b i) else .inl ()) (fun _ => fin) i l () = bif l.any p then b j else fin := by
  intro l
  induction l with
  | nil => intro i; exact ⟨i, Nat.le_refl _, rfl⟩
  | cons e r ih =>
    intro i
    cases h : p e
    · obtain ⟨j, h1, h2⟩ := ih (i + 1)
      refine ⟨j, by omega, ?_⟩
      simp only [runL, h, cond_false, List.any_cons, Bool.false_or]
      exact h2
    · exact ⟨i, Nat.le_refl _, by simp only [runL, h, cond_true, List.any_cons, Bool.true_or]⟩

theorem any_not {E : Type} (p : E → Bool) (l : List E) : (l.any fun e => !p e) = !l.all p := by
  induction l with
  | nil => rfl
  | cons e r ih => rw [List.any_cons, List.all_cons, ih, Bool.not_and]

def chkS (last : Int) (s : SiT) : Int :=
  bif decide (s.1 < 1) || decide (s.1 ≤ last) then 6
  else bif decide (s.2.1 < 0) || (decide (s.2.1 ≥ s.2.2.1) || (decide (s.2.2.1 > 8589934592) || decide (s.2.2.2.1 < 0))) then 1
  else bif (s.2.2.2.2.1.length : Int) == 0 then 7
  else bif decide ((s.2.2.2.2.1.length : Int) > 8) then 5
  else bif s.2.2.2.2.1.all rightM then 0 else 8

def goS : Int → List SiT → Int
  | _, [] => 0
  | last, s :: r => bif chkS last s != 0 then chkS last s else goS s.1 r

/-- What is wrong with silences. -/
def chkE (l : List SiT) : Int := bif decide ((l.length : Int) > 24) then 5 else goS 0 l

end Go.Proofs.Ytcblbcpnfidndaa

namespace Go.Proofs.Ytcblbcpnfidndaa
open Go Go.Abs Go.Lab
def addE (l : List SiT) (s : SiT) : Int × List SiT := bif chkE (l ++ [s]) != 0 then (chkE (l ++ [s]), []) else (0, l ++ [s])

end Go.Proofs.Ytcblbcpnfidndaa

namespace Go.Proofs.Ytcblbcpnfidndaa
open Go Go.Abs Go.Lab
/-- A silence of the dice. -/
def GoodS (s : SiT) : Prop := 0 ≤ s.2.1 ∧ s.2.1 < s.2.2.1 ∧ s.2.2.1 ≤ 2000 ∧ 0 ≤ s.2.2.2.1 ∧ s.2.2.2.2.1 ≠ [] ∧ s.2.2.2.2.1.length ≤ 8 ∧ ∀ m ∈ s.2.2.2.2.1, GoodM m

theorem GoodS.z {s : SiT} (h : GoodS s) : SSz s := ⟨by have := h.2.2.2.2.2.1; omega, fun m hm => ⟨(h.2.2.2.2.2.2 m hm).p, (h.2.2.2.2.2.2 m hm).z⟩⟩

/-- Silences of the dice. -/
def GoodSs (l : List SiT) : Prop := l.length ≤ 3 ∧ goS 0 l = 0 ∧ ∀ s ∈ l, s.1 ≤ 2 * (l.length : Int) ∧ GoodS s

theorem GoodSs.chk {l : List SiT} (h : GoodSs l) : chkE l = 0 := by
  unfold chkE
  rw [decide_eq_false (by have := h.1; omega), cond_false, h.2.1]

theorem GoodSs.z {l : List SiT} (h : GoodSs l) : SSs l := ⟨by have := h.1; omega, fun s hs => (h.2.2 s hs).2.z⟩

end Go.Proofs.Ytcblbcpnfidndaa

namespace Go.Proofs.Ytcblbcpnfidndaa
open Go Go.Abs Go.Lab
/-! ### A row whose elements are looked at with the one before -/
def okP {E : Type} (bad : Option E → E → Bool) : Option E → List E → Bool
  | _, [] => true
  | p, e :: r => !bad p e && okP bad (some e) r

theorem loop_prev {A B E : Type} {f : A → Option (A ⊕ B)} (l : List E) (st : Nat → A) (bad : Option E → E → Bool) (no yes : B)
    (h1 : ∀ i e, l[i]? = some e → i < l.length → f (st i) = some (bif bad (if i = 0 then none else l[i - 1]?) e then .inr no else .inl (st (i + 1)))) (h2 : f (st l.length) = some (.inr yes)) :
    loopT f (st 0) = some (bif okP bad none l then yes else no) := by
  have key : ∀ (k i : Nat), i + k = l.length → loopT f (st i) = some (bif okP bad (if i = 0 then none else l[i - 1]?) (l.drop i) then yes else no) := by
    intro k
    induction k with
    | zero =>
      intro i h
      obtain rfl : i = l.length := by omega
      rw [List.drop_length]
      exact loopT_inr h2
    | succ k ih =>
      intro i h
      obtain ⟨e, he, hd⟩ := drop_at (l := l) (i := i) (by omega)
      have q := h1 i e he (by omega)
      rw [hd]
      unfold okP
      cases hb : bad (if i = 0 then none else l[i - 1]?) e
      · rw [hb] at q
        have := ih (i + 1) (by omega)
        rw [if_neg (by omega), Nat.add_sub_cancel, he] at this
        rw [Bool.not_false, Bool.true_and, ← this]
        exact loopT_inl q
      · rw [hb] at q
        exact loopT_inr q
  have := key l.length 0 (by omega)
  rw [List.drop_zero] at this
  exact this

theorem prev_case {E : Type} {l : List E} {i : Nat} (hi : i < l.length) : i = 0 ∨ ∃ p, 0 < i ∧ l[i - 1]? = some p ∧ (i ≤ 9223372036854775807 → w64 ((i : Int) - 1) = ((i - 1 : Nat) : Int)) := by
  by_cases h : i = 0
  · exact .inl h
  · obtain ⟨p, hp⟩ := getD_some (l := l) (i := i - 1) (by omega)
    exact .inr ⟨p, by omega, hp, fun hb => by rw [w64_id (by omega) (by omega)]; omega⟩

/-- At most, in the order of bytes. -/
def leB (a b : ByteArray) : Bool := Op.bytesLess a.toList b.toList || a.toList == b.toList

def badK (p : Option ByteArray) (k : ByteArray) : Bool := !keyS k || (match p with | none => false | some q => leB k q)

/-- Keys, ascending. -/
def keysOK (l : List ByteArray) : Bool := okP badK none l

theorem m102_eq (s : ByteArray) (hs : s.size ≤ big) : m102 ((s, ()), ()) = some ((keyS s, ()), ()) := by
  unfold m102
  exact bind_of _ (m68_eq s hs) rfl

theorem m94_eq (l : List ByteArray) (hl : l.length ≤ big) (hs : ∀ k ∈ l, k.size ≤ big) : m94 ((l, ()), ()) = some ((keysOK l, ()), ()) := by
  have h := loop_prev (f := l94_0_2) l (fun i => (((i : Int), l, l, (l.length : Int), ()), ())) badK (.inl ((false, ()), ())) (.inr ((), ())) ?_ ?_
  · unfold m94
    refine bind_of _ h ?_
    unfold keysOK
    cases okP badK none l <;> rfl
  · intro i e he hi
    unfold big at hl
    have hw : w64 ((i : Int) + 1) = ((i + 1 : Nat) : Int) := w64_nat (by omega)
    have q := m102_eq e (hs e (List.mem_of_getElem? he))
    rcases prev_case hi with h0 | ⟨p, h0, hp, hp1⟩
    · rw [if_pos h0]
      have : decide ((i : Int) > 0) = false := decide_eq_false (by omega)
      unfold badK
      simp only [l94_0_2, rowAt_G, rowG_nat he, lt_t hi, q, this, sumE, sS]
      cases keyS e <;> simp only [sumE, sS, hw, Bool.or_false]
    · rw [if_neg (by omega), hp]
      have : decide ((i : Int) > 0) = true := decide_eq_true (by omega)
      unfold badK leB
      simp only [l94_0_2, rowAt_G, rowG_nat he, lt_t hi, q, this, hp1 (by omega), rowG_nat hp, sumE, sS]
      cases keyS e <;> cases Op.bytesLess e.toList p.toList || e.toList == p.toList <;> simp only [sumE, sS, hw, Bool.or_false, Bool.or_true]
  · simp only [l94_0_2, lt_f, sumE, sS]

theorem m99_eq (l : List ByteArray) (hl : l.length ≤ big) (hs : ∀ k ∈ l, k.size ≤ big) : m99 ((l, ()), ()) = some ((keysOK l, ()), ()) := by
  have h := loop_prev (f := l99_0_2) l (fun i => (((i : Int), l, ()), ())) badK (.inl ((false, ()), ())) (.inr ((), ())) ?_ ?_
  · unfold m99
    refine bind_of _ h ?_
    unfold keysOK
    cases okP badK none l <;> rfl
  · intro i e he hi
    unfold big at hl
    have hw : w64 ((i : Int) + 1) = ((i + 1 : Nat) : Int) := w64_nat (by omega)
    have q := m79_eq e (hs e (List.mem_of_getElem? he))
    rcases prev_case hi with h0 | ⟨p, h0, hp, hp1⟩
    · rw [if_pos h0]
      have : decide ((i : Int) > 0) = false := decide_eq_false (by omega)
      unfold badK
      simp only [l99_0_2, rowAt_G, rowG_nat he, lt_t hi, q, this, sumE, sS]
      cases keyS e <;> simp only [sumE, sS, hw, Bool.or_false]
    · rw [if_neg (by omega), hp]
      have : decide ((i : Int) > 0) = true := decide_eq_true (by omega)
      unfold badK leB
      simp only [l99_0_2, rowAt_G, rowG_nat he, lt_t hi, q, this, hp1 (by omega), rowG_nat hp, sumE, sS]
      cases keyS e <;> cases Op.bytesLess e.toList p.toList || e.toList == p.toList <;> simp only [sumE, sS, hw, Bool.or_false, Bool.or_true]
  · simp only [l99_0_2, lt_f, sumE, sS]

theorem add_zero {l : List SiT} {s : SiT} (h : (addE l s).1 = 0) : (addE l s).2 = l ++ [s] ∧ chkE (l ++ [s]) = 0 := by
  unfold addE at h ⊢
  cases hc : (chkE (l ++ [s]) != 0)
  · exact ⟨rfl, by simpa using hc⟩
  · rw [hc] at h
    rw [show chkE (l ++ [s]) = 0 from h] at hc
    cases hc

end Go.Proofs.Ytcblbcpnfidndaa

namespace Go.Proofs.Ytcblbcpnfidndaa
open Go Go.Abs Go.Lab
theorem bl_app (a b : ByteArray) : bl (a ++ b) = bl a ++ bl b := by
  show (a ++ b).data.toList = _
  rw [ByteArray.data_append, Array.toList_append]

theorem sz_app (a b : ByteArray) : (a ++ b).size = a.size + b.size := ByteArray.size_append

theorem mk_app (a b : List UInt8) : mkB a ++ mkB b = mkB (a ++ b) := bl_inj (by rw [bl_app, bl_mk, bl_mk, bl_mk])

theorem app_mk (s : ByteArray) (b : List UInt8) : s ++ mkB b = mkB (bl s ++ b) := bl_inj (by rw [bl_app, bl_mk, bl_mk])

/-! ### Valid labels -/
def badL (p : Option LT) (x : LT) : Bool := !keyS x.1 || (!valS x.2.1 || (x.2.1.toList == ByteArray.empty.toList || (match p with | none => false | some q => leB x.1 q.1)))

def validL (l : List LT) : Bool := !decide ((l.length : Int) > 12) && okP badL none l

/-- Texts that are no longer than memory. -/
def KSz (l : List LT) : Prop := l.length ≤ big ∧ ∀ x ∈ l, x.1.size ≤ big ∧ x.2.1.size ≤ big

theorem m37_eq (l : List LT) (hl : KSz l) : m37 ((l, ()), ()) = some ((validL l, ()), ()) := by
  unfold m37 validL
  cases hc : decide ((l.length : Int) > 12)
  · simp only [sumE, sS]
    have h := loop_prev (f := l37_0_4) l (fun i => (((i : Int), l, l, (l.length : Int), ()), ())) badL (.inl ((false, ()), ())) (.inr ((), ())) ?_ ?_
    · refine bind_of _ h ?_
      cases okP badL none l <;> rfl
    · intro i e he hi
      have hl1 := hl.1
      unfold big at hl1
      have hw : w64 ((i : Int) + 1) = ((i + 1 : Nat) : Int) := w64_nat (by omega)
      obtain ⟨z1, z2⟩ := hl.2 e (List.mem_of_getElem? he)
      have q1 := m68_eq e.1 z1
      have q2 := m69_eq e.2.1 z2
      rcases prev_case hi with h0 | ⟨p, h0, hp, hp1⟩
      · rw [if_pos h0]
        have : decide ((i : Int) > 0) = false := decide_eq_false (by omega)
        unfold badL
        simp only [l37_0_4, rowAt_G, rowG_nat he, lt_t hi, q1, q2, this, sumE, sS]
        cases keyS e.1 <;> cases valS e.2.1 <;> cases (e.2.1.toList == ByteArray.empty.toList) <;> simp only [sumE, sS, hw, Bool.or_false, Bool.or_true, Bool.false_or, Bool.true_or]
      · rw [if_neg (by omega), hp]
        have : decide ((i : Int) > 0) = true := decide_eq_true (by omega)
        unfold badL leB
        simp only [l37_0_4, rowAt_G, rowG_nat he, lt_t hi, q1, q2, this, hp1 (by omega), rowG_nat hp, sumE, sS]
        cases keyS e.1 <;> cases valS e.2.1 <;> cases (e.2.1.toList == ByteArray.empty.toList) <;> cases Op.bytesLess e.1.toList p.1.toList || e.1.toList == p.1.toList <;> simp only [sumE, sS, hw, Bool.or_false, Bool.or_true, Bool.false_or, Bool.true_or]
    · simp only [l37_0_4, lt_f, sumE, sS]
  · simp only [sumE, sS]

theorem m47_eq (l : List LT) (hl : KSz l) : m47 ((l, ()), ()) = some ((validL l, ()), ()) := by
  unfold m47 validL
  cases hc : decide ((l.length : Int) > 12)
  · simp only [sumE, sS]
    have h := loop_prev (f := l47_0_4) l (fun i => (((i : Int), l, ()), ())) badL (.inl ((false, ()), ())) (.inr ((), ())) ?_ ?_
    · refine bind_of _ h ?_
      cases okP badL none l <;> rfl
    · intro i e he hi
      have hl1 := hl.1
      unfold big at hl1
      have hw : w64 ((i : Int) + 1) = ((i + 1 : Nat) : Int) := w64_nat (by omega)
      obtain ⟨z1, z2⟩ := hl.2 e (List.mem_of_getElem? he)
      have q1 := m79_eq e.1 z1
      have q2 := m80_eq e.2.1 z2
      rcases prev_case hi with h0 | ⟨p, h0, hp, hp1⟩
      · rw [if_pos h0]
        have : decide ((i : Int) > 0) = false := decide_eq_false (by omega)
        unfold badL
        simp only [l47_0_4, rowAt_G, rowG_nat he, lt_t hi, q1, q2, this, sumE, sS]
        cases keyS e.1 <;> cases valS e.2.1 <;> cases (e.2.1.toList == ByteArray.empty.toList) <;> simp only [sumE, sS, hw, Bool.or_false, Bool.or_true, Bool.false_or, Bool.true_or]
      · rw [if_neg (by omega), hp]
        have : decide ((i : Int) > 0) = true := decide_eq_true (by omega)
        unfold badL leB
        simp only [l47_0_4, rowAt_G, rowG_nat he, lt_t hi, q1, q2, this, hp1 (by omega), rowG_nat hp, sumE, sS]
        cases keyS e.1 <;> cases valS e.2.1 <;> cases (e.2.1.toList == ByteArray.empty.toList) <;> cases Op.bytesLess e.1.toList p.1.toList || e.1.toList == p.1.toList <;> simp only [sumE, sS, hw, Bool.or_false, Bool.or_true, Bool.false_or, Bool.true_or]
    · simp only [l47_0_4, lt_f, sumE, sS]
  · simp only [sumE, sS]

theorem okP_mem {E : Type} {bad : Option E → E → Bool} : ∀ {l : List E} {p : Option E}, okP bad p l = true → ∀ x ∈ l, ∃ q, bad q x = false
  | [], _, _, x, hx => by cases hx
  | e :: r, p, h, x, hx => by
    unfold okP at h
    rw [Bool.and_eq_true] at h
    rcases List.mem_cons.1 hx with rfl | hx
    · exact ⟨p, by simpa using h.1⟩
    · exact okP_mem h.2 x hx

theorem badL_no {q : Option LT} {x : LT} (h : badL q x = false) : keyS x.1 = true ∧ valS x.2.1 = true ∧ x.2.1 ≠ ByteArray.empty := by
  unfold badL at h
  simp only [Bool.or_eq_false_iff] at h
  refine ⟨by simpa using h.1, by simpa using h.2.1, fun e => ?_⟩
  rw [e] at h
  simp at h

theorem valid_mem {l : List LT} (h : validL l = true) : l.length ≤ 12 ∧ ∀ x ∈ l, keyS x.1 = true ∧ valS x.2.1 = true ∧ x.2.1 ≠ ByteArray.empty := by
  unfold validL at h
  rw [Bool.and_eq_true] at h
  refine ⟨?_, fun x hx => ?_⟩
  · have : decide ((l.length : Int) > 12) = false := by simpa using h.1
    have := of_decide_eq_false this
    omega
  · obtain ⟨q, hq⟩ := okP_mem h.2 x hx
    exact badL_no hq

theorem keyS_sz {s : ByteArray} (h : keyS s = true) : s.size ≤ 24 := by
  have := (key_all (s := bl s) h).2.1
  rwa [len_bl] at this

theorem valS_sz {s : ByteArray} (h : valS s = true) : s.size ≤ 64 := by
  have h : valL (bl s) = true := h
  unfold valL at h
  rw [Bool.and_eq_true] at h
  have := of_decide_eq_true h.2
  rwa [len_bl] at this

/-! ### Quoted values, parts, texts -/
theorem esc_app : ∀ (a b : List UInt8), esc (a ++ b) = esc a ++ esc b
  | [], b => rfl
  | c :: a, b => by
    rw [List.cons_append]
    simp only [esc]
    rw [esc_app a b]
    split <;> rfl

theorem quote_size (s : ByteArray) : (hQuote s).size ≤ 2 * s.size + 2 := by
  unfold hQuote
  rw [size_mk]
  have := esc_len s.data.toList
  have e : s.data.toList.length = s.size := len_bl s
  simp
  omega

theorem m48_eq (s : ByteArray) (hs : s.size ≤ 1048576) : m48 ((s, ()), ()) = some ((hQuote s, ()), ()) := by
  have h := loop_ind (f := l48_0_3) (Q := fun b => b = ((mkB (34 :: esc (bl s)), ()), ())) (fun i st => st = (((i : Int), s, mkB (34 :: esc ((bl s).take i)), ()), ())) s.size ?_ ?_ _ rfl
  · obtain ⟨b, h1, rfl⟩ := h
    unfold m48
    refine bind_of _ (show loopT l48_0_3 ((0, s, bs [34], ()), ()) = _ from h1) ?_
    have hl := esc_len (bl s)
    rw [len_bl] at hl
    have hb : decide ((mkB (34 :: esc (bl s))).size + 1 ≤ 4294967296) = true := decide_eq_true (by rw [size_mk, List.length_cons]; omega)
    simp only [hb, sumE, sS]
    unfold hQuote
    rw [show bs [34] = mkB [34] from rfl, mk_app]
    rfl
  · rintro i _ hi rfl
    obtain ⟨c, hc⟩ := getD_some (l := bl s) (i := i) (by rw [len_bl]; exact hi)
    have hlt : decide ((i : Int) < (s.size : Int)) = true := decide_eq_true (by omega)
    have hbd : decide ((0 : Int) ≤ (i : Int) ∧ (i : Int) < (s.size : Int)) = true := decide_eq_true (by omega)
    have hw : w64 ((i : Int) + 1) = ((i + 1 : Nat) : Int) := w64_nat (by omega)
    have h0 : decide ((0 : Int) ≤ (i : Int)) = true := decide_eq_true (by omega)
    have h1 : decide ((0 : Int) ≤ ((i + 1 : Nat) : Int)) = true := decide_eq_true (by omega)
    have h2 : decide (i ≤ i + 1 ∧ i + 1 ≤ s.size) = true := decide_eq_true (by omega)
    have hx : s.extract i (i + 1) = mkB [c] := bl_inj (by
      have hcl : i < (bl s).length := by rw [len_bl]; exact hi
      rw [extract_bl, bl_mk, List.drop_eq_getElem_cons hcl, show i + 1 - i = 1 by omega, List.take_succ_cons, List.take_zero]
      rw [(List.getElem?_eq_some_iff.1 hc).2])
    have htk : (bl s).take (i + 1) = (bl s).take i ++ [c] := by rw [List.take_add_one, hc]; rfl
    have hl := esc_len ((bl s).take i)
    rw [List.length_take] at hl
    have hsz : ∀ b : List UInt8, b.length ≤ 2 → decide ((mkB (34 :: (esc ((bl s).take i) ++ b))).size + 1 ≤ 4294967296) = true := fun b hb => decide_eq_true (by rw [size_mk]; simp; omega)
    have hs0 : decide ((mkB (34 :: esc ((bl s).take i))).size + 1 ≤ 4294967296) = true := by have := hsz [] (by simp); rwa [List.append_nil] at this
    have hs1 : (mkB [c]).size = 1 := rfl
    have hs92 : mkB (34 :: esc ((bl s).take i)) ++ bs [92] = mkB (34 :: (esc ((bl s).take i) ++ [92])) := by
      rw [show bs [92] = mkB [92] from rfl, mk_app]; rfl
    have e34 : (u8 c == 34) = decide (c = 34) := by
      by_cases h : c = 34
      · subst h; rfl
      · rw [decide_eq_false h]
        exact beq_eq_false_iff_ne.2 fun e => h (UInt8.toNat_inj.1 (by unfold u8 at e; show c.toNat = 34; omega))
    have e92 : (u8 c == 92) = decide (c = 92) := by
      by_cases h : c = 92
      · subst h; rfl
      · rw [decide_eq_false h]
        exact beq_eq_false_iff_ne.2 fun e => h (UInt8.toNat_inj.1 (by unfold u8 at e; show c.toNat = 92; omega))
    refine ⟨_, ?_, rfl⟩
    rw [htk, esc_app]
    simp only [l48_0_3, hlt, hbd, byte_at hc, e34, e92, sumE, sS]
    by_cases c34 : c = 34
    · have he : esc [c] = [92, c] := by simp [esc, c34]
      simp only [decide_eq_true c34, sumE, sS, hs0, hs92, h0, hw, h1, Int.toNat_natCast, h2, hx, hs1, hsz [92] (by simp), mk_app, he]
      simp
    · by_cases c92 : c = 92
      · have he : esc [c] = [92, c] := by simp [esc, c92]
        simp only [decide_eq_false c34, decide_eq_true c92, sumE, sS, hs0, hs92, h0, hw, h1, Int.toNat_natCast, h2, hx, hs1, hsz [92] (by simp), mk_app, he]
        simp
      · have he : esc [c] = [c] := by simp [esc, c34, c92]
        simp only [decide_eq_false c34, decide_eq_false c92, sumE, sS, hs0, h0, hw, h1, Int.toNat_natCast, h2, hx, hs1, mk_app, he]
        simp
  · rintro _ rfl
    refine ⟨_, ?_, rfl⟩
    have : decide ((s.size : Int) < (s.size : Int)) = false := decide_eq_false (by omega)
    simp only [l48_0_3, this, sumE, sS]
    rw [List.take_of_length_le (by rw [len_bl]; exact Nat.le_refl _)]

theorem join_commas : ∀ l : List (List UInt8), Lib.join l [44] = commas l
  | [] => rfl
  | [x] => Lib.join_one x [44]
  | x :: y :: l => by
    rw [Lib.join_cons, commas_cons x (by simp), ← join_commas (y :: l), Lib.join_cons]
    simp [Lib.joinTail]

/-- The text of a label. -/
def partL (x : LT) : List UInt8 := item (bl x.1) [61] (bl x.2.1)

def textL (l : List LT) : List UInt8 := 123 :: (commas (l.map partL) ++ [125])

/-- The text of labels. -/
def textE (l : List LT) : ByteArray := if validL l then mkB (textL l) else ByteArray.empty

theorem part_eq (x : LT) : (x.1 ++ bs [61]) ++ hQuote x.2.1 = mkB (partL x) := by
  rw [show bs [61] = mkB [61] from rfl, app_mk]
  unfold hQuote partL item
  rw [mk_app]
  simp [bl]

theorem part_len {x : LT} (h1 : keyS x.1 = true) (h2 : valS x.2.1 = true) : (partL x).length ≤ 160 := by
  have a := keyS_sz h1
  have b := valS_sz h2
  have := esc_len (bl x.2.1)
  rw [len_bl] at this
  unfold partL item
  simp [len_bl]
  omega

theorem parts_len {l : List LT} (h : validL l = true) (i : Nat) : (commas ((l.map partL).take i)).length ≤ 2000 := by
  obtain ⟨h1, h2⟩ := valid_mem h
  have := commas_len ((l.map partL).take i) 160 (fun x hx => by
    obtain ⟨y, hy, rfl⟩ := List.mem_map.1 (List.mem_of_mem_take hx)
    exact part_len (h2 y hy).1 (h2 y hy).2.1)
  have hl : ((l.map partL).take i).length ≤ 12 := by rw [List.length_take, List.length_map]; omega
  have := Nat.mul_le_mul_right 161 hl
  omega

theorem m39_eq (l : List LT) (hl : KSz l) : m39 ((l, ()), ()) = some ((textE l, ()), ()) := by
  unfold m39 textE
  simp only [m37_eq l hl, sumE, sS]
  cases hv : validL l
  · simp only [sumE, sS, Bool.false_eq_true, if_false]
  · obtain ⟨h1, h2⟩ := valid_mem hv
    simp only [sumE, sS, if_true]
    have h := loop_ind (f := l39_0_5) (Q := fun b => b = ((), (l.map fun x => mkB (partL x), ()))) (fun i st => st = (((i : Int), l, (l.length : Int), ()), ((l.take i).map fun x => mkB (partL x), ()))) l.length ?_ ?_ _ rfl
    · obtain ⟨b, h3, rfl⟩ := h
      refine bind_of _ (show loopT l39_0_5 ((0, l, (l.length : Int), ()), ([], ())) = _ from h3) ?_
      have hj : hJoin (l.map fun x => mkB (partL x)) (bs [44]) = mkB (commas (l.map partL)) := by
        unfold hJoin
        rw [List.map_map]
        exact congrArg mkB (join_commas _)
      have hp := parts_len hv l.length
      rw [List.take_of_length_le (by rw [List.length_map]; exact Nat.le_refl _)] at hp
      have b1 : decide (List.length (l.map fun x => mkB (partL x)) ≤ 4294967296 ∧ (mkB (commas (l.map partL))).size ≤ 140737488355328) = true := decide_eq_true (by rw [List.length_map, size_mk]; omega)
      have b2 : decide (1 + (mkB (commas (l.map partL))).size ≤ 4294967296) = true := decide_eq_true (by rw [size_mk]; omega)
      have b3 : decide ((mkB (123 :: commas (l.map partL))).size + 1 ≤ 4294967296) = true := decide_eq_true (by rw [size_mk, List.length_cons]; omega)
      simp only [hj, b1, b2, sumE, sS]
      rw [show bs [123] = mkB [123] from rfl, mk_app, show [123] ++ commas (l.map partL) = 123 :: commas (l.map partL) from rfl, b3, show bs [125] = mkB [125] from rfl, mk_app]
      rfl
    · rintro i _ hi rfl
      obtain ⟨e, he⟩ := getD_some (l := l) (i := i) hi
      obtain ⟨k1, k2, _⟩ := h2 e (List.mem_of_getElem? he)
      have z1 := keyS_sz k1
      have z2 := valS_sz k2
      have z3 := quote_size e.2.1
      have hw : w64 ((i : Int) + 1) = ((i + 1 : Nat) : Int) := w64_nat (by omega)
      have b1 : decide (e.1.size + 1 ≤ 4294967296) = true := decide_eq_true (by omega)
      have b2 : decide (e.2.1.size ≤ 4294967296) = true := decide_eq_true (by omega)
      have b3 : decide ((e.1 ++ (bs [61])).size + (hQuote e.2.1).size ≤ 4294967296) = true := decide_eq_true (by rw [sz_app]; show e.1.size + 1 + _ ≤ _; omega)
      have b4 : decide (((l.take i).map fun x => mkB (partL x)).length + [mkB (partL e)].length ≤ 4294967296) = true := decide_eq_true (by simp; omega)
      refine ⟨_, ?_, rfl⟩
      rw [show l.take (i + 1) = l.take i ++ [e] by rw [List.take_add_one, he]; rfl, List.map_append]
      simp only [l39_0_5, rowAt_G, rowG_nat he, lt_t hi, b1, b2, b3, part_eq, b4, hw, sumE, sS]
      rfl
    · rintro _ rfl
      refine ⟨_, ?_, rfl⟩
      simp only [l39_0_5, lt_f, sumE, sS]
      rw [List.take_of_length_le (Nat.le_refl _)]

theorem commas_snoc : ∀ (l : List (List UInt8)) (x : List UInt8), l ≠ [] → commas (l ++ [x]) = commas l ++ 44 :: x
  | [], _, h => absurd rfl h
  | [a], x, _ => rfl
  | a :: b :: l, x, _ => by
    rw [List.cons_append, commas_cons a (by simp), commas_snoc (b :: l) x (by simp), commas_cons a (by simp)]
    simp

theorem m16_eq (l : List LT) (hl : KSz l) : m16 ((l, ()), ()) = some ((textE l, ()), ()) := by
  unfold m16 textE
  simp only [m47_eq l hl, sumE, sS]
  cases hv : validL l
  · simp only [sumE, sS, Bool.false_eq_true, if_false]
  · obtain ⟨h1, h2⟩ := valid_mem hv
    simp only [sumE, sS, if_true]
    have h := loop_ind (f := l16_0_5) (Q := fun b => b = ((mkB (123 :: commas (l.map partL)), ()), ())) (fun i st => st = (((i : Int), l, mkB (123 :: commas ((l.map partL).take i)), ()), ())) l.length ?_ ?_ _ rfl
    · obtain ⟨b, h3, rfl⟩ := h
      refine bind_of _ (show loopT l16_0_5 ((0, l, bs [123], ()), ()) = _ from h3) ?_
      have hp := parts_len hv l.length
      rw [List.take_of_length_le (by rw [List.length_map]; exact Nat.le_refl _)] at hp
      have b3 : decide ((mkB (123 :: commas (l.map partL))).size + 1 ≤ 4294967296) = true := decide_eq_true (by rw [size_mk, List.length_cons]; omega)
      simp only [b3, sumE, sS]
      rw [show bs [125] = mkB [125] from rfl, mk_app]
      rfl
    · rintro i _ hi rfl
      obtain ⟨e, he⟩ := getD_some (l := l) (i := i) hi
      obtain ⟨k1, k2, _⟩ := h2 e (List.mem_of_getElem? he)
      have z1 := keyS_sz k1
      have z2 := valS_sz k2
      have z3 := quote_size e.2.1
      have q := m48_eq e.2.1 (by omega)
      have hp := parts_len hv i
      have hl2 := part_len k1 k2
      have hw : w64 ((i : Int) + 1) = ((i + 1 : Nat) : Int) := w64_nat (by omega)
      have b1 : decide (e.1.size + 1 ≤ 4294967296) = true := decide_eq_true (by omega)
      have b3 : decide ((e.1 ++ (bs [61])).size + (hQuote e.2.1).size ≤ 4294967296) = true := decide_eq_true (by rw [sz_app]; show e.1.size + 1 + _ ≤ _; omega)
      have hm : (l.map partL)[i]? = some (partL e) := by rw [List.getElem?_map, he]; rfl
      have htk : (l.map partL).take (i + 1) = (l.map partL).take i ++ [partL e] := by rw [List.take_add_one, hm]; rfl
      refine ⟨_, ?_, rfl⟩
      rw [htk]
      by_cases h0 : i = 0
      · subst h0
        have b5 : decide ((mkB (123 :: commas ((l.map partL).take 0))).size + (mkB (partL e)).size ≤ 4294967296) = true := decide_eq_true (by rw [size_mk, size_mk, List.length_cons]; omega)
        have d0 : decide (((0 : Nat) : Int) > 0) = false := rfl
        simp only [l16_0_5, rowAt_G, rowG_nat he, lt_t hi, d0, b1, q, b3, part_eq, b5, hw, mk_app, sumE, sS]
        rfl
      · have d0 : decide ((i : Int) > 0) = true := decide_eq_true (by omega)
        have b4 : decide ((mkB (123 :: commas ((l.map partL).take i))).size + 1 ≤ 4294967296) = true := decide_eq_true (by rw [size_mk, List.length_cons]; omega)
        have e44 : mkB (123 :: commas ((l.map partL).take i)) ++ bs [44] = mkB (123 :: (commas ((l.map partL).take i) ++ [44])) := by
          rw [show bs [44] = mkB [44] from rfl, mk_app]; rfl
        have b5 : decide ((mkB (123 :: (commas ((l.map partL).take i) ++ [44]))).size + (mkB (partL e)).size ≤ 4294967296) = true := decide_eq_true (by rw [size_mk, size_mk, List.length_cons, List.length_append]; simp; omega)
        have hne : (l.map partL).take i ≠ [] := by
          intro h
          have := congrArg List.length h
          rw [List.length_take, List.length_map, List.length_nil] at this
          omega
        simp only [l16_0_5, rowAt_G, rowG_nat he, lt_t hi, d0, b4, e44, b1, q, b3, part_eq, b5, hw, mk_app, sumE, sS]
        rw [commas_snoc _ _ hne]
        simp
    · rintro _ rfl
      refine ⟨_, ?_, rfl⟩
      simp only [l16_0_5, lt_f, sumE, sS]
      rw [List.take_of_length_le (by rw [List.length_map]; exact Nat.le_refl _)]

theorem m82_eq (ks : List ByteArray) (s : ByteArray) (hk : ks.length ≤ big) : ∃ j : Nat, m82 ((ks, s, ()), ()) = some ((bif ks.any (fun k => decide (k = s)) then (j : Int) else -1, ()), ()) := by
  have h := loop_list0 (f := l82_0_2) ks (fun i (_ : Unit) => (((i : Int), ks, s, (ks.length : Int), ()), ())) (fun i _ e => bif decide (e = s) then .inr (.inl (((i : Int), ()), ())) else .inl ()) (fun _ => .inr ((), ())) ?_ ?_ ()
  · obtain ⟨j, _, hj⟩ := runL_any (fun e => decide (e = s)) (fun i : Nat => (Sum.inl (((i : Int), ()), ()) : ((Int × Unit) × Unit) ⊕ (Unit × Unit))) (.inr ((), ())) ks 0
    refine ⟨j, ?_⟩
    unfold m82
    refine bind_of _ (h.trans (congrArg some hj)) ?_
    cases ks.any fun k => decide (k = s) <;> rfl
  · intro i e _ he hi
    unfold big at hk
    have hw : w64 ((i : Int) + 1) = ((i + 1 : Nat) : Int) := w64_nat (by omega)
    have hc : (s.toList == e.toList) = decide (e = s) := by
      rw [toList_bl, toList_bl, beq_bl]
      exact decide_eq_decide.2 ⟨Eq.symm, Eq.symm⟩
    simp only [l82_0_2, rowAt_G, rowG_nat he, lt_t hi, hc, sumE, sS]
    cases decide (e = s) <;> simp only [sumE, sS, hw]
  · intro _
    simp only [l82_0_2, lt_f, sumE, sS]

theorem m52_eq (ks : List ByteArray) (s : ByteArray) (hk : ks.length ≤ big) : m52 ((ks, s, ()), ()) = some ((ks.any (fun k => decide (k = s)), ()), ()) := by
  obtain ⟨j, h⟩ := m82_eq ks s hk
  unfold m52
  refine bind_of _ h ?_
  cases ks.any fun k => decide (k = s)
  · rfl
  · simp only [cond_true, decide_eq_true (show (j : Int) ≥ 0 by omega)]

end Go.Proofs.Ytcblbcpnfidndaa

namespace Go.Proofs.Ytcblbcpnfidndaa
open Go Go.Abs Go.Lab
abbrev RtT : Type := Int × List MT × Int × List ByteArray × Int × Int × Int × Bool × Unit

/-- The sizes of a route, of routes. -/
def TrSz (r : RtT) : Prop := (r.2.1.length ≤ big ∧ ∀ m ∈ r.2.1, MSz m) ∧ r.2.2.2.1.length ≤ big ∧ ∀ k ∈ r.2.2.2.1, k.size ≤ big

def chkRange (r : RtT) : Bool := decide (r.2.2.1 < 0) || (decide (r.2.2.2.2.1 < 0) || (decide (r.2.2.2.2.1 > r.2.2.2.2.2.1) || (decide (r.2.2.2.2.2.1 > r.2.2.2.2.2.2.1) || (decide (r.2.2.2.2.2.2.1 > 604800) || (r.2.2.2.2.2.2.1 == 0)))))

def chkOne (r : RtT) : Int :=
  bif decide ((r.2.1.length : Int) > 8) || decide ((r.2.2.2.1.length : Int) > 12) then 5
  else bif !r.2.1.all rightM || !keysOK r.2.2.2.1 then 8 else bif chkRange r then 1 else 0

def badPar (i : Nat) (r : RtT) : Bool := if i = 0 then r.1 != -1 else decide (r.1 < 0) || decide (r.1 ≥ (i : Int))

def chkI (i : Nat) (r : RtT) : Int := bif badPar i r then 3 else chkOne r

/-- The first error, with places. -/
def goI {E : Type} (chk : Nat → E → Int) : Nat → List E → Int
  | _, [] => 0
  | i, e :: r => bif chk i e != 0 then chk i e else goI chk (i + 1) r

theorem loop_firstI {A B E : Type} {f : A → Option (A ⊕ B)} (l : List E) (st : Nat → A) (chk : Nat → E → Int) (no : Int → B) (yes : B)
    (h1 : ∀ i e, l[i]? = some e → i < l.length → f (st i) = some (bif chk i e != 0 then .inr (no (chk i e)) else .inl (st (i + 1)))) (h2 : f (st l.length) = some (.inr yes)) :
    loopT f (st 0) = some (bif goI chk 0 l != 0 then no (goI chk 0 l) else yes) := by
  have key : ∀ (k i : Nat), i + k = l.length → loopT f (st i) = some (bif goI chk i (l.drop i) != 0 then no (goI chk i (l.drop i)) else yes) := by
    intro k
    induction k with
    | zero =>
      intro i h
      obtain rfl : i = l.length := by omega
      rw [List.drop_length]
      exact loopT_inr h2
    | succ k ih =>
      intro i h
      obtain ⟨e, he, hd⟩ := drop_at (l := l) (i := i) (by omega)
      have q := h1 i e he (by omega)
      rw [hd]
      unfold goI
      cases hb : (chk i e != 0)
      · rw [hb] at q
        rw [cond_false, ← ih (i + 1) (by omega)]
        exact loopT_inl q
      · rw [hb] at q
        rw [cond_true, hb]
        exact loopT_inr q
  have := key l.length 0 (by omega)
  rw [List.drop_zero] at this
  exact this

def chkT (l : List RtT) : Int :=
  bif (l.length : Int) == 0 then 7 else bif decide ((l.length : Int) > 24) then 5 else bif goI chkI 0 l != 0 then goI chkI 0 l
  else match l[0]? with | some e => bif decide ((e.2.1.length : Int) > 0) then 8 else 0 | none => 0

theorem m93_eq (m : MT) (hm : MSz m) : m93 ((m, ()), ()) = some ((!rightM m, ()), ()) := by
  unfold m93
  exact bind_of _ (m101_eq m hm) rfl

theorem wrong109 (ms : List MT) (hs : ms.length ≤ big) (hm : ∀ m ∈ ms, MSz m) : ∃ j : Nat, loopT l84_2_2 ((0, ms, (ms.length : Int), ()), ()) = some (bif ms.all rightM then .inr ((), ()) else .inl (((j : Int), ()), ())) := by
  have h := loop_list0 (f := l84_2_2) ms (fun i (_ : Unit) => (((i : Int), ms, (ms.length : Int), ()), ())) (fun i _ e => bif !rightM e then .inr (.inl (((i : Int), ()), ())) else .inl ()) (fun _ => .inr ((), ())) ?_ ?_ ()
  · obtain ⟨j, _, hj⟩ := runL_any (fun e => !rightM e) (fun i : Nat => (Sum.inl (((i : Int), ()), ()) : ((Int × Unit) × Unit) ⊕ (Unit × Unit))) (.inr ((), ())) ms 0
    refine ⟨j, h.trans (congrArg some (hj.trans ?_))⟩
    rw [any_not]
    cases ms.all rightM <;> rfl
  · intro i e _ he hi
    unfold big at hs
    have hw : w64 ((i : Int) + 1) = ((i + 1 : Nat) : Int) := w64_nat (by omega)
    simp only [l84_2_2, rowAt_G, rowG_nat he, lt_t hi, m93_eq e (hm e (List.mem_of_getElem? he)), sumE, sS]
    cases rightM e <;> simp only [sumE, sS, hw, Bool.not_true, Bool.not_false]
  · intro _
    simp only [l84_2_2, lt_f, sumE, sS]

theorem par_case (i : Nat) (r : RtT) : (i = 0 ∧ badPar i r = (r.1 != -1)) ∨ (0 < i ∧ badPar i r = (decide (r.1 < 0) || decide (r.1 ≥ (i : Int)))) := by
  unfold badPar
  by_cases h : i = 0
  · exact .inl ⟨h, by rw [if_pos h]⟩
  · exact .inr ⟨by omega, by rw [if_neg h]⟩

theorem m84_eq (r : RtT) (hr : TrSz r) (i : Nat) : m84 ((r, (i : Int), ()), ()) = some ((chkI i r, ()), ()) := by
  obtain ⟨⟨a1, a2⟩, c1, c2⟩ := hr
  obtain ⟨j, hj⟩ := wrong109 r.2.1 a1 a2
  have q := m94_eq r.2.2.2.1 c1 c2
  have hj0 : decide ((j : Int) ≥ 0) = true := decide_eq_true (by omega)
  have key : ((bif ((i : Int) == 0) then (bif ((r.1 : Int) != (-1)) then (some ((true, ()), ((r, ()), ()))) else (bif (decide ((i : Int) > 0)) then (bif (decide ((r.1 : Int) < 0)) then (some ((true, ()), ((r, ()), ()))) else (some (((decide ((r.1 : Int) ≥ (i : Int))), ()), ((r, ()), ())))) else (some ((false, ()), ((r, ()), ())))))
      else (bif (decide ((i : Int) > 0)) then (bif (decide ((r.1 : Int) < 0)) then (some ((true, ()), ((r, ()), ()))) else (some (((decide ((r.1 : Int) ≥ (i : Int))), ()), ((r, ()), ())))) else (some ((false, ()), ((r, ()), ()))))) : Option ((Bool × Unit) × ((RtT × Unit) × Unit))) = some ((badPar i r, ()), ((r, ()), ())) := by
    rcases par_case i r with ⟨rfl, hb⟩ | ⟨h0, hb⟩
    · rw [hb, show (((0 : Nat) : Int) == 0) = true from rfl, show decide (((0 : Nat) : Int) > 0) = false from rfl]
      cases (r.1 != -1) <;> rfl
    · rw [hb, beq_eq_false_iff_ne.2 (show (i : Int) ≠ 0 by omega), decide_eq_true (show (i : Int) > 0 by omega)]
      cases decide (r.1 < 0) <;> cases decide (r.1 ≥ (i : Int)) <;> rfl
  unfold m84
  refine bind_of _ key ?_
  unfold chkI
  cases badPar i r <;> simp only [sumE, sS]
  unfold chkOne
  cases decide ((r.2.1.length : Int) > 8) <;> simp only [sumE, sS, Bool.or_true, Bool.true_or, Bool.or_false, Bool.false_or]
  cases decide ((r.2.2.2.1.length : Int) > 12) <;> simp only [sumE, sS, Bool.or_true, Bool.true_or, Bool.or_false, Bool.false_or]
  rw [hj]
  cases r.2.1.all rightM <;> simp only [sumE, sS, hj0, q, Bool.not_true, Bool.not_false, Bool.or_true, Bool.true_or, Bool.or_false, Bool.false_or]
  cases keysOK r.2.2.2.1 <;> simp only [sumE, sS, Bool.not_true, Bool.not_false]
  unfold chkRange
  cases decide (r.2.2.1 < 0) <;> simp only [sumE, sS, Bool.or_true, Bool.true_or, Bool.or_false, Bool.false_or]
  cases decide (r.2.2.2.2.1 < 0) <;> simp only [sumE, sS, Bool.or_true, Bool.true_or, Bool.or_false, Bool.false_or]
  cases decide (r.2.2.2.2.1 > r.2.2.2.2.2.1) <;> simp only [sumE, sS, Bool.or_true, Bool.true_or, Bool.or_false, Bool.false_or]
  cases decide (r.2.2.2.2.2.1 > r.2.2.2.2.2.2.1) <;> simp only [sumE, sS, Bool.or_true, Bool.true_or, Bool.or_false, Bool.false_or]
  cases decide (r.2.2.2.2.2.2.1 > 604800) <;> simp only [sumE, sS, Bool.or_true, Bool.true_or, Bool.or_false, Bool.false_or]
  cases (r.2.2.2.2.2.2.1 == 0) <;> simp only [sumE, sS]

theorem m91_eq (r : RtT) (hr : TrSz r) : m91 ((r, ()), ()) = some ((chkOne r, ()), ()) := by
  obtain ⟨⟨a1, a2⟩, c1, c2⟩ := hr
  have q := m99_eq r.2.2.2.1 c1 c2
  have hj : loopT l91_0_4 ((0, ()), ((r, ()), ())) = some (bif r.2.1.all rightM then .inr ((), ((r, ()), ())) else .inl ((8, ()), ())) := by
    have h := loop_list0 (f := l91_0_4) r.2.1 (fun i (_ : Unit) => (((i : Int), ()), ((r, ()), ()))) (fun i _ e => bif !rightM e then .inr (.inl ((8, ()), ())) else .inl ()) (fun _ => .inr ((), ((r, ()), ()))) ?_ ?_ ()
    · obtain ⟨j, _, hj⟩ := runL_any (fun e => !rightM e) (fun _ : Nat => (Sum.inl ((8, ()), ()) : ((Int × Unit) × Unit) ⊕ (Unit × (RtT × Unit) × Unit))) (.inr ((), ((r, ()), ()))) r.2.1 0
      refine h.trans (congrArg some (hj.trans ?_))
      rw [any_not]
      cases r.2.1.all rightM <;> rfl
    · intro i e _ he hi
      unfold big at a1
      have hw : w64 ((i : Int) + 1) = ((i + 1 : Nat) : Int) := w64_nat (by omega)
      simp only [l91_0_4, rowAt_G, rowG_nat he, lt_t hi, m98_eq e (a2 e (List.mem_of_getElem? he)), sumE, sS]
      cases rightM e <;> simp only [sumE, sS, hw, Bool.not_true, Bool.not_false]
    · intro _
      simp only [l91_0_4, lt_f, sumE, sS]
  unfold m91 chkOne
  cases decide ((r.2.1.length : Int) > 8) <;> simp only [sumE, sS, Bool.or_true, Bool.true_or, Bool.or_false, Bool.false_or]
  cases decide ((r.2.2.2.1.length : Int) > 12) <;> simp only [sumE, sS, Bool.or_true, Bool.true_or, Bool.or_false, Bool.false_or]
  rw [hj]
  cases r.2.1.all rightM <;> simp only [sumE, sS, q, Bool.not_true, Bool.not_false, Bool.or_true, Bool.true_or, Bool.or_false, Bool.false_or]
  cases keysOK r.2.2.2.1 <;> simp only [sumE, sS, Bool.not_true, Bool.not_false]
  unfold chkRange
  cases decide (r.2.2.1 < 0) <;> simp only [sumE, sS, Bool.or_true, Bool.true_or, Bool.or_false, Bool.false_or]
  cases decide (r.2.2.2.2.1 < 0) <;> simp only [sumE, sS, Bool.or_true, Bool.true_or, Bool.or_false, Bool.false_or]
  cases decide (r.2.2.2.2.1 > r.2.2.2.2.2.1) <;> simp only [sumE, sS, Bool.or_true, Bool.true_or, Bool.or_false, Bool.false_or]
  cases decide (r.2.2.2.2.2.1 > r.2.2.2.2.2.2.1) <;> simp only [sumE, sS, Bool.or_true, Bool.true_or, Bool.or_false, Bool.false_or]
  cases decide (r.2.2.2.2.2.2.1 > 604800) <;> simp only [sumE, sS, Bool.or_true, Bool.true_or, Bool.or_false, Bool.false_or]
  cases (r.2.2.2.2.2.2.1 == 0) <;> simp only [sumE, sS]

def TsSz (l : List RtT) : Prop := l.length ≤ 1048576 ∧ ∀ r ∈ l, TrSz r

theorem m67_eq (l : List RtT) (hl : TsSz l) : m67 ((l, ()), ()) = some ((chkT l, ()), ()) := by
  unfold m67 chkT
  cases hz : ((l.length : Int) == 0)
  · simp only [sumE, sS]
    cases decide ((l.length : Int) > 24)
    · simp only [sumE, sS]
      have h := loop_firstI (f := l67_0_6) l (fun i => (((i : Int), l, l, (l.length : Int), ()), ())) chkI (fun c => .inl ((c, ()), ())) (.inr ((l, ()), ())) ?_ ?_
      · refine bind_of _ h ?_
        cases hc : (goI chkI 0 l != 0)
        · obtain ⟨e, he⟩ := getD_some (l := l) (i := 0) (by have := (beq_eq_false_iff_ne.1 hz); omega)
          rw [he]
          simp only [cond_false, sumE, rowAt_G]
          rw [show rowG l 0 _ = rowG l ((0 : Nat) : Int) _ from rfl, rowG_nat he]
          cases decide ((e.2.1.length : Int) > 0) <;> rfl
        · rfl
      · intro i e he hi
        have hl1 := hl.1
        have hw : w64 ((i : Int) + 1) = ((i + 1 : Nat) : Int) := w64_nat (by omega)
        simp only [l67_0_6, rowAt_G, rowG_nat he, lt_t hi, m84_eq e (hl.2 e (List.mem_of_getElem? he)) i, sumE, sS]
        cases chkI i e != 0 <;> simp only [sumE, sS, hw]
      · simp only [l67_0_6, lt_f, sumE, sS]
    · simp only [sumE, sS]
  · simp only [sumE, sS]

/-- What right routes are. -/
structure TOK (l : List RtT) : Prop where
  pos : 0 < l.length
  len : l.length ≤ 24
  root : ∀ r, l[0]? = some r → r.1 = -1 ∧ r.2.1 = []
  par : ∀ (k : Nat) (r : RtT), l[k]? = some r → 0 < k → 0 ≤ r.1 ∧ r.1 < (k : Int)
  one : ∀ r ∈ l, r.2.1.length ≤ 8 ∧ (∀ m ∈ r.2.1, rightM m = true) ∧ keysOK r.2.2.2.1 = true ∧ r.2.2.2.1.length ≤ 12

end Go.Proofs.Ytcblbcpnfidndaa

namespace Go.Proofs.Ytcblbcpnfidndaa
open Go Go.Abs Go.Lab
/-! ### Rows that ascend -/
theorem asc_keys : ∀ {l : List ByteArray} {p : Option ByteArray}, (∀ k ∈ l, keyS k = true) → l.Pairwise (fun a b => leB b a = false) → (∀ q, p = some q → ∀ k ∈ l, leB k q = false) → okP badK p l = true
  | [], _, _, _, _ => rfl
  | k :: l, p, h1, h2, h3 => by
    unfold okP
    have h2 := List.pairwise_cons.1 h2
    rw [asc_keys (p := some k) (fun y hy => h1 y (List.mem_cons_of_mem _ hy)) h2.2 (fun q hq y hy => by cases hq; exact h2.1 y hy), Bool.and_true]
    unfold badK
    rw [h1 k (List.mem_cons_self ..)]
    cases p with
    | none => rfl
    | some q => simp only; rw [h3 q rfl k (List.mem_cons_self ..)]; rfl

theorem keys4_asc : keys4.Pairwise (fun a b => leB b a = false) := by decide +kernel

theorem sub_keys {l : List ByteArray} (h : l.Sublist keys4) : keysOK l = true := asc_keys (fun k hk => (keys4_ok k (h.subset hk)).1) (keys4_asc.sublist h) (fun q hq => by cases hq)

theorem asc_labels : ∀ {l : List LT} {p : Option LT}, (∀ x ∈ l, keyS x.1 = true ∧ valS x.2.1 = true ∧ x.2.1 ≠ ByteArray.empty) → (l.map (·.1)).Pairwise (fun a b => leB b a = false) → (∀ q, p = some q → ∀ x ∈ l, leB x.1 q.1 = false) → okP badL p l = true
  | [], _, _, _, _ => rfl
  | x :: l, p, h1, h2, h3 => by
    unfold okP
    rw [List.map_cons] at h2
    have h2 := List.pairwise_cons.1 h2
    rw [asc_labels (p := some x) (fun y hy => h1 y (List.mem_cons_of_mem _ hy)) h2.2 (fun q hq y hy => by cases hq; exact h2.1 y.1 (List.mem_map_of_mem hy)), Bool.and_true]
    obtain ⟨a, b, c⟩ := h1 x (List.mem_cons_self ..)
    unfold badL
    rw [a, b]
    have c : (x.2.1.toList == ByteArray.empty.toList) = false := by rw [toList_bl, toList_bl, beq_bl]; exact decide_eq_false c
    rw [c]
    cases p with
    | none => rfl
    | some q => simp only; rw [h3 q rfl x (List.mem_cons_self ..)]; rfl

theorem from_valid {l : List LT} (h : FromKeys keys4 l) : validL l = true := by
  unfold validL
  have h4 := h.1.length_le
  rw [List.length_map, show keys4.length = 4 from rfl] at h4
  rw [decide_eq_false (by omega), asc_labels (fun x hx => ⟨(keys4_ok x.1 (h.1.subset (List.mem_map_of_mem hx))).1, (vals6_ok _ (h.2 x hx).1).1, (h.2 x hx).2⟩) (keys4_asc.sublist h.1) (fun q hq => by cases hq)]
  rfl

/-! ### The dice's routes -/
def GoodT (r : RtT) : Prop := (r.2.1.length ≤ 8 ∧ ∀ m ∈ r.2.1, GoodM m) ∧ r.2.2.2.1.Sublist keys4 ∧ chkRange r = false ∧ r.2.2.2.2.2.1 ≤ 1000 ∧ 0 ≤ r.2.2.2.2.2.1 ∧ 0 ≤ r.2.2.2.2.2.2.1 ∧ r.2.2.2.2.2.2.1 ≤ 10000

theorem GoodT.z {r : RtT} (h : GoodT r) : TrSz r := by
  obtain ⟨⟨h1, h2⟩, h3, _⟩ := h
  have h4 := h3.length_le
  rw [show keys4.length = 4 from rfl] at h4
  exact ⟨⟨by unfold big; omega, fun m hm => (h2 m hm).z⟩, by unfold big; omega, fun k hk => by have := (keys4_ok k (h3.subset hk)).2; unfold big; omega⟩

theorem GoodT.one {r : RtT} (h : GoodT r) : chkOne r = 0 := by
  obtain ⟨⟨h1, h2⟩, h3, h4, _⟩ := h
  have h5 := h3.length_le
  rw [show keys4.length = 4 from rfl] at h5
  unfold chkOne
  rw [decide_eq_false (show ¬ (r.2.1.length : Int) > 8 by omega), decide_eq_false (show ¬ (r.2.2.2.1.length : Int) > 12 by omega), List.all_eq_true.2 (fun m hm => (h2 m hm).1), sub_keys h3, h4]
  rfl

theorem goI_of {E : Type} {chk : Nat → E → Int} : ∀ {l : List E} {i : Nat}, (∀ (k : Nat) (e : E), l[k]? = some e → chk (i + k) e = 0) → goI chk i l = 0
  | [], _, _ => rfl
  | x :: r, i, h => by
    unfold goI
    have h0 := h 0 x rfl
    rw [Nat.add_zero] at h0
    rw [h0]
    exact goI_of (i := i + 1) fun k e he => by
      have := h (k + 1) e (by simpa using he)
      rwa [show i + (k + 1) = i + 1 + k by omega] at this

/-- Routes of the dice. -/
structure GoodTs (l : List RtT) : Prop where
  pos : 0 < l.length
  len : l.length ≤ 24
  root : ∀ r, l[0]? = some r → r.1 = -1 ∧ r.2.1 = []
  par : ∀ (k : Nat) (r : RtT), l[k]? = some r → 0 < k → 0 ≤ r.1 ∧ r.1 < (k : Int)
  good : ∀ r ∈ l, GoodT r

theorem chk_of {l : List RtT} (pos : 0 < l.length) (len : l.length ≤ 24) (root : ∀ r, l[0]? = some r → r.1 = -1 ∧ r.2.1 = []) (par : ∀ (k : Nat) (r : RtT), l[k]? = some r → 0 < k → 0 ≤ r.1 ∧ r.1 < (k : Int)) (one : ∀ r ∈ l, chkOne r = 0) : chkT l = 0 := by
  unfold chkT
  rw [beq_eq_false_iff_ne.2 (show (l.length : Int) ≠ 0 by omega), decide_eq_false (show ¬ (l.length : Int) > 24 by omega), goI_of (fun k e he => ?_)]
  · obtain ⟨r, hr⟩ := getD_some pos
    rw [hr]
    simp only [(root r hr).2]
    rfl
  · rw [Nat.zero_add]
    unfold chkI badPar
    have : (if k = 0 then e.1 != -1 else decide (e.1 < 0) || decide (e.1 ≥ (k : Int))) = false := by
      by_cases h0 : k = 0
      · subst h0; rw [if_pos rfl, (root e he).1]; rfl
      · rw [if_neg h0]
        obtain ⟨a, b⟩ := par k e he (by omega)
        rw [decide_eq_false (by omega), decide_eq_false (by omega)]; rfl
    rw [this]
    exact one e (List.mem_of_getElem? he)

theorem GoodTs.chk {l : List RtT} (h : GoodTs l) : chkT l = 0 := chk_of h.pos h.len h.root h.par (fun r hr => (h.good r hr).one)

theorem GoodTs.z {l : List RtT} (h : GoodTs l) : TsSz l := ⟨by have := h.len; omega, fun r hr => (h.good r hr).z⟩

theorem mem3 {x a b c : Int} (h : x ∈ [a, b, c]) : x = a ∨ x = b ∨ x = c := by simpa using h

theorem mem4 {x a b c d : Int} (h : x ∈ [a, b, c, d]) : x = a ∨ x = b ∨ x = c ∨ x = d := by simpa using h

end Go.Proofs.Ytcblbcpnfidndaa

namespace Go.Proofs.Ytcblbcpnfidndaa
open Go Go.Abs Go.Lab
abbrev MbT : Type := ByteArray × List LT × Int × Int × Bool × Bool × Unit

abbrev GpT : Type := Int × ByteArray × List MbT × Int × Int × Unit

abbrev mKey (m : MbT) : ByteArray := m.1

abbrev mLab (m : MbT) : List LT := m.2.1

abbrev mSince (m : MbT) : Int := m.2.2.1

abbrev mHeard (m : MbT) : Int := m.2.2.2.1

abbrev mFire (m : MbT) : Bool := m.2.2.2.2.1

abbrev mTold (m : MbT) : Bool := m.2.2.2.2.2.1

abbrev gMem (g : GpT) : List MbT := g.2.2.1

abbrev gDue (g : GpT) : Int := g.2.2.2.1

abbrev gSent (g : GpT) : Int := g.2.2.2.2.1

structure MbOK (m : MbT) : Prop where
  lab : validL (mLab m) = true
  key : mKey m = mkB (textL (mLab m))
  since : 0 ≤ mSince m ∧ mSince m ≤ 8589934592
  heard : 0 ≤ mHeard m ∧ mHeard m ≤ 8589934592
  told : mFire m = true ∨ mTold m = false

abbrev Less (a b : ByteArray) : Prop := leB b a = false

structure VG (g : GpT) : Prop where
  len : (gMem g).length ≤ 256
  rt : 0 ≤ g.1
  due : -1 ≤ gDue g ∧ gDue g ≤ 8589934592
  sent : -1 ≤ gSent g ∧ gSent g ≤ 8589934592
  mem : ∀ m ∈ gMem g, MbOK m
  up : ((gMem g).map mKey).Pairwise Less

theorem valid_ks {l : List LT} (h : validL l = true) : KSz l := by
  obtain ⟨h1, h2⟩ := valid_mem h
  refine ⟨by unfold big; omega, fun x hx => ?_⟩
  obtain ⟨a, b, _⟩ := h2 x hx
  have := keyS_sz a
  have := valS_sz b
  unfold big
  omega

theorem text_valid {l : List LT} (h : validL l = true) : textE l = mkB (textL l) := if_pos h

theorem m38_eq (a b c : Int) : m38 ((a, b, c, ()), ()) = some ((decide (b ≤ a ∧ a ≤ c), ()), ()) := by
  unfold m38
  by_cases h1 : a ≥ b <;> by_cases h2 : a ≤ c <;> simp [h1, h2]

theorem m57_eq {m : MbT} (h : MbOK m) : m57 ((m, ()), ()) = some ((true, ()), ()) := by
  have q1 := m37_eq (mLab m) (valid_ks h.lab)
  rw [h.lab] at q1
  have q2 := m39_eq (mLab m) (valid_ks h.lab)
  rw [text_valid h.lab, ← h.key] at q2
  have d1 : decide ((0 : Int) ≤ mSince m ∧ mSince m ≤ 8589934592) = true := decide_eq_true h.since
  have d2 : decide ((0 : Int) ≤ mHeard m ∧ mHeard m ≤ 8589934592) = true := decide_eq_true h.heard
  have ht := h.told
  obtain ⟨k, l, s, hh, f, t, ⟨⟩⟩ := m
  dsimp only [mKey, mLab, mSince, mHeard, mFire, mTold] at q1 q2 d1 d2 ht
  unfold m57
  simp only [q1, q2, m38_eq, d1, d2, sumE, sS]
  cases f
  · have : t = false := by simpa using ht
    subst this
    rfl
  · rfl

theorem pairs_prev {l : List ByteArray} (h : l.Pairwise Less) {i : Nat} {a b : ByteArray} (ha : l[i]? = some a) (hb : l[i + 1]? = some b) : Less a b := by
  obtain ⟨h1, rfl⟩ := List.getElem?_eq_some_iff.1 ha
  obtain ⟨h2, rfl⟩ := List.getElem?_eq_some_iff.1 hb
  exact List.pairwise_iff_getElem.1 h i (i + 1) h1 h2 (by omega)

theorem m23_eq {g : GpT} (h : VG g) : m23 ((g, ()), ()) = some ((true, ()), ()) := by
  have hlen := h.len
  have d0 : decide (((gMem g).length : Int) > 256) = false := decide_eq_false (by omega)
  have d1 : decide (g.1 < 0) = false := decide_eq_false (by have := h.rt; omega)
  have d2 : decide ((-1 : Int) ≤ gDue g ∧ gDue g ≤ 8589934592) = true := decide_eq_true h.due
  have d3 : decide ((-1 : Int) ≤ gSent g ∧ gSent g ≤ 8589934592) = true := decide_eq_true h.sent
  have hl : loopT l23_0_4 (((0 : Int), gMem g, ((gMem g).length : Int), ()), ((g, ()), ())) = some (.inr ((), ())) := loop_thru (gMem g) (fun i => (((i : Int), gMem g, ((gMem g).length : Int), ()), ((g, ()), ()))) _ (fun i e he hi => by
    have q := m57_eq (h.mem e (List.mem_of_getElem? he))
    have hw := w64_nat (i := i) (by omega)
    obtain ⟨rt, ky, ms, du, se, ⟨⟩⟩ := g
    rcases prev_case hi with h0 | ⟨p, h0, hp, hp1⟩
    · have : decide ((i : Int) > 0) = false := decide_eq_false (by omega)
      simp only [l23_0_4, lt_t hi, rowAt_G, rowG_nat he, q, this, hw, sumE, sS]
    · have : decide ((i : Int) > 0) = true := decide_eq_true (by omega)
      have hlt := pairs_prev h.up (i := i - 1) (a := mKey p) (b := mKey e) (by rw [List.getElem?_map, hp]; rfl) (by rw [show i - 1 + 1 = i by omega, List.getElem?_map, he]; rfl)
      have hlt : (Op.bytesLess e.1.toList p.1.toList || e.1.toList == p.1.toList) = false := hlt
      simp only [l23_0_4, lt_t hi, rowAt_G, rowG_nat he, q, this, hp1 (by omega), rowG_nat hp, hlt, hw, sumE, sS]) (by simp only [l23_0_4, lt_f, sumE, sS])
  obtain ⟨rt, ky, ms, du, se, ⟨⟩⟩ := g
  dsimp only [gMem, gDue, gSent] at d0 d1 d2 d3 hl
  unfold m23
  simp only [d0, d1, m38_eq, d2, d3, sumE, sS]
  refine bind_of _ hl ?_
  simp only [sumE, sS]

end Go.Proofs.Ytcblbcpnfidndaa

namespace Go.Proofs.Ytcblbcpnfidndaa
open Go Go.Abs Go.Lab
theorem bl_irr : ∀ x : List UInt8, Op.bytesLess x x = false
  | [] => rfl
  | a :: x => by
    have := bl_irr x
    simp [Op.bytesLess, this]

theorem bl_trans : ∀ {x y z : List UInt8}, Op.bytesLess x y = true → Op.bytesLess y z = true → Op.bytesLess x z = true
  | _, [], _, h, _ => by cases ‹List UInt8› <;> simp [Op.bytesLess] at h
  | _, _ :: _, [], _, h => by simp [Op.bytesLess] at h
  | [], _ :: _, _ :: _, _, _ => by simp [Op.bytesLess]
  | a :: x, b :: y, c :: z, h1, h2 => by
    simp only [Op.bytesLess, Bool.or_eq_true, decide_eq_true_eq, Bool.and_eq_true, beq_iff_eq] at h1 h2 ⊢
    rcases h1 with h1 | ⟨rfl, h1⟩
    · rcases h2 with h2 | ⟨rfl, h2⟩
      · exact .inl (UInt8.lt_trans h1 h2)
      · exact .inl h1
    · rcases h2 with h2 | ⟨rfl, h2⟩
      · exact .inl h2
      · exact .inr ⟨rfl, bl_trans h1 h2⟩

theorem bl_tri : ∀ (x y : List UInt8), Op.bytesLess x y = true ∨ x = y ∨ Op.bytesLess y x = true
  | [], [] => .inr (.inl rfl)
  | [], _ :: _ => .inl rfl
  | _ :: _, [] => .inr (.inr rfl)
  | a :: x, b :: y => by
    simp only [Op.bytesLess, Bool.or_eq_true, decide_eq_true_eq, Bool.and_eq_true, beq_iff_eq]
    rcases Nat.lt_trichotomy a.toNat b.toNat with h | h | h
    · exact .inl (.inl (UInt8.lt_iff_toNat_lt.2 h))
    · have h := UInt8.toNat_inj.1 h
      subst h
      rcases bl_tri x y with h | h | h
      · exact .inl (.inr ⟨rfl, h⟩)
      · exact .inr (.inl (by rw [h]))
      · exact .inr (.inr (.inr ⟨rfl, h⟩))
    · exact .inr (.inr (.inl (UInt8.lt_iff_toNat_lt.2 h)))

abbrev Lt (a b : ByteArray) : Prop := Op.bytesLess a.toList b.toList = true

theorem toL_inj {a b : ByteArray} (h : a.toList = b.toList) : a = b := bl_inj (by rw [← toList_bl, ← toList_bl, h])

theorem lt_irr (a : ByteArray) : ¬ Lt a a := fun h => by rw [Lt, bl_irr] at h; cases h

theorem lt_trans {a b c : ByteArray} (h : Lt a b) (k : Lt b c) : Lt a c := bl_trans h k

theorem lt_tri (a b : ByteArray) : Lt a b ∨ a = b ∨ Lt b a := by
  rcases bl_tri a.toList b.toList with h | h | h
  · exact .inl h
  · exact .inr (.inl (toL_inj h))
  · exact .inr (.inr h)

theorem less_lt {a b : ByteArray} : Less a b ↔ Lt a b := by
  unfold Less leB
  rw [Bool.or_eq_false_iff]
  constructor
  · rintro ⟨h1, h2⟩
    rcases lt_tri a b with h | h | h
    · exact h
    · subst h; simp at h2
    · rw [h] at h1; cases h1
  · intro h
    refine ⟨?_, ?_⟩
    · cases hc : Op.bytesLess b.toList a.toList
      · rfl
      · exact absurd (lt_trans h hc) (lt_irr a)
    · cases hc : (b.toList == a.toList)
      · rfl
      · have : b = a := toL_inj (by simpa using hc)
        subst this
        exact absurd h (lt_irr b)

/-! ### Copies -/
abbrev Cor := Int × ByteArray × Int × Int × Unit

def cor (g : GpT) : Cor := (g.1, g.2.1, gDue g, gSent g, ())

theorem copy41 {g : GpT} (h : VG g) : m41 ((g, ()), ()) = some ((), ((cor g, ()), (gMem g, ()))) := by
  have hlen := h.len
  obtain ⟨rt, ky, ms, du, se, ⟨⟩⟩ := g
  dsimp only [gMem] at hlen
  have d0 : decide (ms.length ≤ 4294967296) = true := decide_eq_true (by omega)
  have hl : loopT l41_0_3 (((0 : Int), (ms.length : Int), ()), (((rt, ky, du, se, ()), ()), (((0, ByteArray.empty, 0, 0, ()), ()), (ms, ())))) = some ((), (((((0, ByteArray.empty, 0, 0, ()) : Cor), ()), ((((rt, ky, du, se, ()) : Cor), ()), (ms, ()))))) := by
    refine loop_thru ms (fun i => (((i : Int), (ms.length : Int), ()), (((rt, ky, du, se, ()), ()), (((0, ByteArray.empty, 0, 0, ()), ()), (ms, ()))))) _ (fun i e he hi => ?_) (by simp only [l41_0_3, lt_f, sumE, sS])
    have hw := w64_nat (i := i) (by omega)
    have d2 : decide ((0 : Int) ≤ (i : Int) ∧ (i : Int) < (ms.length : Int)) = true := decide_eq_true (by omega)
    have hm := h.mem e (List.mem_of_getElem? he)
    have hv := (valid_mem hm.lab).1
    have d3 : decide (e.2.1.length ≤ 4294967296) = true := decide_eq_true (by dsimp only [mLab] at hv; omega)
    have hset : ms.set i (e.1, e.2.1, e.2.2) = ms := by
      have := (List.getElem?_eq_some_iff.1 he).2
      rw [← this]
      exact List.set_getElem_self _
    simp only [l41_0_3, lt_t hi, d2, Int.toNat_natCast, he, m43, d3, hset, hw, sumE, sS]
  unfold m41
  simp only [m75, d0, sumE, sS]
  refine bind_of _ hl ?_
  rfl

theorem m55_eq (t : Int) : m55 ((t, ()), ()) = some (((if t > 8589934592 then -1 else t), ()), ()) := by
  unfold m55
  by_cases h : t > 8589934592
  · simp only [h, if_true, sumE, sS]
  · simp only [h, if_false, sumE, sS]

end Go.Proofs.Ytcblbcpnfidndaa

namespace Go.Proofs.Ytcblbcpnfidndaa
open Go Go.Abs Go.Lab
abbrev inst (t : Int) : Bool := decide (0 ≤ t ∧ t ≤ 8589934592)

abbrev inD (t : Int) : Bool := decide (-1 ≤ t ∧ t ≤ 8589934592)

/-- Whether a member is right. -/
def okM (m : MbT) : Bool := validL (mLab m) && (decide (textE (mLab m) = mKey m) && (inst (mSince m) && (inst (mHeard m) && (mFire m || !mTold m))))

def badM (p : Option MbT) (m : MbT) : Bool := !okM m || (match p with | none => false | some q => leB (mKey m) (mKey q))

/-- Whether a group is valid. -/
def validG (g : GpT) : Bool := !decide (((gMem g).length : Int) > 256) && (!decide (g.1 < 0) && (inD (gDue g) && (inD (gSent g) && okP badM none (gMem g))))

/-- The sizes of a group. -/
def GSz (g : GpT) : Prop := (gMem g).length ≤ big ∧ ∀ m ∈ gMem g, KSz (mLab m)

theorem okM_iff {m : MbT} : okM m = true ↔ MbOK m := by
  unfold okM inst
  simp only [Bool.and_eq_true, decide_eq_true_eq, Bool.or_eq_true, Bool.not_eq_true']
  constructor
  · rintro ⟨h1, h2, h3, h4, h5⟩
    exact ⟨h1, by rw [← h2, text_valid h1], h3, h4, h5⟩
  · intro h
    exact ⟨h.lab, by rw [text_valid h.lab, h.key], h.since, h.heard, h.told⟩

theorem badM_no {p : Option MbT} {m : MbT} : badM p m = false ↔ MbOK m ∧ ∀ q, p = some q → Less (mKey q) (mKey m) := by
  unfold badM
  rw [Bool.or_eq_false_iff, Bool.not_eq_false', okM_iff]
  cases p with
  | none => exact ⟨fun h => ⟨h.1, fun q e => by cases e⟩, fun h => ⟨h.1, rfl⟩⟩
  | some q => exact ⟨fun h => ⟨h.1, fun q' e => by cases e; exact h.2⟩, fun h => ⟨h.1, h.2 q rfl⟩⟩

theorem okP_up : ∀ {l : List MbT} {p : Option MbT}, okP badM p l = true → (∀ m ∈ l, MbOK m) ∧ (∀ q, p = some q → ∀ m ∈ l, Less (mKey q) (mKey m)) ∧ (l.map mKey).Pairwise Less
  | [], _, _ => ⟨fun m hm => (by cases hm), fun _ _ m hm => (by cases hm), List.Pairwise.nil⟩
  | e :: r, p, h => by
    unfold okP at h
    rw [Bool.and_eq_true, Bool.not_eq_true'] at h
    obtain ⟨h1, h2⟩ := badM_no.1 h.1
    obtain ⟨k1, k2, k3⟩ := okP_up h.2
    refine ⟨fun m hm => ?_, fun q hq m hm => ?_, ?_⟩
    · rcases List.mem_cons.1 hm with rfl | hm
      · exact h1
      · exact k1 m hm
    · rcases List.mem_cons.1 hm with rfl | hm
      · exact h2 q hq
      · exact less_lt.2 (lt_trans (less_lt.1 (h2 q hq)) (less_lt.1 (k2 e rfl m hm)))
    · rw [List.map_cons]
      refine List.pairwise_cons.2 ⟨fun k hk => ?_, k3⟩
      obtain ⟨m, hm, rfl⟩ := List.mem_map.1 hk
      exact k2 e rfl m hm

theorem okP_of : ∀ {l : List MbT} {p : Option MbT}, (∀ m ∈ l, MbOK m) → (∀ q, p = some q → ∀ m ∈ l, Less (mKey q) (mKey m)) → (l.map mKey).Pairwise Less → okP badM p l = true
  | [], _, _, _, _ => rfl
  | e :: r, p, h1, h2, h3 => by
    rw [List.map_cons] at h3
    have h3 := List.pairwise_cons.1 h3
    unfold okP
    rw [badM_no.2 ⟨h1 e (List.mem_cons_self ..), fun q hq => h2 q hq e (List.mem_cons_self ..)⟩, Bool.not_false, Bool.true_and]
    exact okP_of (fun m hm => h1 m (List.mem_cons_of_mem _ hm)) (fun q hq m hm => by cases hq; exact h3.1 _ (List.mem_map_of_mem hm)) h3.2

theorem valid_iff {g : GpT} : validG g = true ↔ VG g := by
  unfold validG
  simp only [Bool.and_eq_true, Bool.not_eq_true', decide_eq_false_iff_not, decide_eq_true_eq]
  constructor
  · rintro ⟨h1, h2, h3, h4, h5⟩
    obtain ⟨k1, _, k3⟩ := okP_up h5
    exact ⟨by omega, by omega, h3, h4, k1, k3⟩
  · intro h
    have h1 := h.len
    have h2 := h.rt
    exact ⟨by omega, by omega, h.due, h.sent, okP_of h.mem (fun q hq => by cases hq) h.up⟩

theorem m58_eq (t : Int) : m58 ((t, ()), ()) = some ((inst t, ()), ()) := by
  unfold m58 inst
  by_cases h1 : t ≥ 0 <;> by_cases h2 : t ≤ 8589934592 <;> simp [h1, h2]

theorem inD_case (t : Int) : (t ≠ -1 ∧ inD t = inst t) ∨ (t = -1 ∧ inD t = true) := by
  by_cases h : t = -1
  · exact .inr ⟨h, decide_eq_true (by omega)⟩
  · exact .inl ⟨h, decide_eq_decide.2 (by omega)⟩

theorem m24_all (g : GpT) (hg : GSz g) : m24 ((g, ()), ()) = some ((validG g, ()), ()) := by
  obtain ⟨hl, hk⟩ := hg
  have h := loop_prev (f := l24_0_4) (gMem g) (fun i => (((i : Int), ()), ((g, ()), ()))) badM (.inl ((false, ()), ())) (.inr ((), ())) ?_ ?_
  · unfold validG
    obtain ⟨rt, ky, ms, du, se, ⟨⟩⟩ := g
    dsimp only [gMem, gDue, gSent, inD, inst] at h ⊢
    unfold m24
    simp only [m58_eq, mKey, mLab, mSince, mHeard, mFire, mTold, gMem, gDue, gSent, inst, inD, sumE, sS]
    cases decide ((ms.length : Int) > 256) <;> try simp only [sumE, sS]
    cases decide (rt < 0) <;> try simp only [sumE, sS]
    have key : (loopT l24_0_4 (((0 : Int), ()), (((rt, ky, ms, du, se, ()), ()), ()))).bind (fun d92 => sumE d92 (fun d93 => (some ((d93.1.1, ()), ()))) (fun d94 => (some ((true, ()), ())))) = some ((okP badM none ms, ()), ()) := by
      refine bind_of _ h ?_
      cases okP badM none ms <;> rfl
    have inD_case := inD_case
    dsimp only [inD, inst] at inD_case
    rcases inD_case du with ⟨h1, e1⟩ | ⟨h1, e1⟩ <;> rw [e1]
    · rw [bne_iff_ne.2 h1]
      simp only [sumE, sS]
      cases decide (0 ≤ du ∧ du ≤ 8589934592) <;> try simp only [sumE, sS]
      rcases inD_case se with ⟨h2, e2⟩ | ⟨h2, e2⟩ <;> rw [e2]
      · rw [bne_iff_ne.2 h2]
        simp only [sumE, sS]
        cases decide (0 ≤ se ∧ se ≤ 8589934592) <;> try simp only [sumE, sS]
        exact key
      · subst h2
        simp only [bne_self_eq_false, sumE, sS]
        exact key
    · subst h1
      simp only [bne_self_eq_false, sumE, sS]
      rcases inD_case se with ⟨h2, e2⟩ | ⟨h2, e2⟩ <;> rw [e2]
      · rw [bne_iff_ne.2 h2]
        simp only [sumE, sS]
        cases decide (0 ≤ se ∧ se ≤ 8589934592) <;> try simp only [sumE, sS]
        exact key
      · subst h2
        simp only [bne_self_eq_false, sumE, sS]
        exact key
  · intro i e he hi
    unfold big at hl
    have hke := hk e (List.mem_of_getElem? he)
    have q1 := m47_eq (mLab e) hke
    have q2 := m16_eq (mLab e) hke
    have hw := w64_nat (i := i) (by omega)
    obtain ⟨rt, ky, ms, du, se, ⟨⟩⟩ := g
    obtain ⟨k, l, s, hh, f, t, ⟨⟩⟩ := e
    dsimp only [gMem, mLab] at he hi hl q1 q2 ⊢
    rcases prev_case hi with h0 | ⟨p, h0, hp, hp1⟩
    · rw [if_pos h0]
      have : decide ((i : Int) > 0) = false := decide_eq_false (by omega)
      unfold badM okM
      simp only [l24_0_4, lt_t hi, rowAt_G, rowG_nat he, q1, q2, m58_eq, toList_bl, beq_bl, mKey, mLab, mSince, mHeard, mFire, mTold, gMem, gDue, gSent, inst, inD, this, hw, sumE, sS]
      cases validL l <;> try simp only [hw, mKey, mLab, mSince, mHeard, mFire, mTold, gMem, gDue, gSent, inst, inD, sumE, sS, Bool.or_false, Bool.or_true, Bool.false_or, Bool.true_or]
      cases decide (textE l = k) <;> try simp only [hw, mKey, mLab, mSince, mHeard, mFire, mTold, gMem, gDue, gSent, inst, inD, sumE, sS, Bool.or_false, Bool.or_true, Bool.false_or, Bool.true_or]
      cases decide (0 ≤ s ∧ s ≤ 8589934592) <;> try simp only [hw, mKey, mLab, mSince, mHeard, mFire, mTold, gMem, gDue, gSent, inst, inD, sumE, sS, Bool.or_false, Bool.or_true, Bool.false_or, Bool.true_or]
      cases decide (0 ≤ hh ∧ hh ≤ 8589934592) <;> try simp only [hw, mKey, mLab, mSince, mHeard, mFire, mTold, gMem, gDue, gSent, inst, inD, sumE, sS, Bool.or_false, Bool.or_true, Bool.false_or, Bool.true_or]
      cases f <;> cases t <;> try simp only [hw, mKey, mLab, mSince, mHeard, mFire, mTold, gMem, gDue, gSent, inst, inD, sumE, sS, Bool.or_false, Bool.or_true, Bool.false_or, Bool.true_or]
    · rw [if_neg (by omega), hp]
      have : decide ((i : Int) > 0) = true := decide_eq_true (by omega)
      unfold badM leB okM
      simp only [l24_0_4, lt_t hi, rowAt_G, rowG_nat he, q1, q2, m58_eq, toList_bl, beq_bl, mKey, mLab, mSince, mHeard, mFire, mTold, gMem, gDue, gSent, inst, inD, this, hp1 (by omega), rowG_nat hp, hw, sumE, sS]
      cases validL l <;> try simp only [hw, mKey, mLab, mSince, mHeard, mFire, mTold, gMem, gDue, gSent, inst, inD, sumE, sS, Bool.or_false, Bool.or_true, Bool.false_or, Bool.true_or]
      cases decide (textE l = k) <;> try simp only [hw, mKey, mLab, mSince, mHeard, mFire, mTold, gMem, gDue, gSent, inst, inD, sumE, sS, Bool.or_false, Bool.or_true, Bool.false_or, Bool.true_or]
      cases decide (0 ≤ s ∧ s ≤ 8589934592) <;> try simp only [hw, mKey, mLab, mSince, mHeard, mFire, mTold, gMem, gDue, gSent, inst, inD, sumE, sS, Bool.or_false, Bool.or_true, Bool.false_or, Bool.true_or]
      cases decide (0 ≤ hh ∧ hh ≤ 8589934592) <;> try simp only [hw, mKey, mLab, mSince, mHeard, mFire, mTold, gMem, gDue, gSent, inst, inD, sumE, sS, Bool.or_false, Bool.or_true, Bool.false_or, Bool.true_or]
      cases f <;> cases t <;> try simp only [hw, mKey, mLab, mSince, mHeard, mFire, mTold, gMem, gDue, gSent, inst, inD, sumE, sS, Bool.or_false, Bool.or_true, Bool.false_or, Bool.true_or] <;>
        cases (Op.bytesLess (bl k) (bl p.1) || decide (k = p.1)) <;> try simp only [hw, mKey, mLab, mSince, mHeard, mFire, mTold, gMem, gDue, gSent, inst, inD, sumE, sS]
  · simp only [l24_0_4, lt_f, sumE, sS]

/-! ### Routes -/
def strip (r : RtT) : RtT := (-1, [], r.2.2)

/-- Whether a route is right, as a root. -/
def rightR (r : RtT) : Bool := chkOne (strip r) == 0

theorem strip_z {r : RtT} (h : TrSz r) : TrSz (strip r) := ⟨⟨Nat.zero_le _, fun m hm => by cases hm⟩, h.2⟩

theorem chkT_strip (r : RtT) : chkT [strip r] = chkOne (strip r) := by
  have h1 : chkI 0 (strip r) = chkOne (strip r) := rfl
  have h2 : (([strip r] : List RtT)[0]?) = some (strip r) := rfl
  have h3 : decide (((strip r).2.1.length : Int) > 0) = false := rfl
  unfold chkT
  simp only [goI, h1, h2, h3, List.length_singleton]
  by_cases h : chkOne (strip r) = 0
  · rw [h]; rfl
  · rw [bne_iff_ne.2 h]
    simp only [cond_true]
    rw [bne_iff_ne.2 h]
    rfl

theorem m36_eq (r : RtT) (hr : TrSz r) : m36 ((r, ()), ()) = some ((rightR r, ()), ()) := by
  unfold m36
  refine bind_of _ (m67_eq [strip r] ⟨by simp, fun x hx => by simp at hx; subst hx; exact strip_z hr⟩) ?_
  rw [chkT_strip]
  rfl

theorem m59_eq (r : RtT) (hr : TrSz r) : m59 ((r, ()), ()) = some ((rightR r, ()), ()) := by
  have q := m91_eq (strip r) (strip_z hr)
  have hl : loopT l59_1_6 (((0 : Int), ()), ([strip r], ())) = some (if chkOne (strip r) = 0 then .inr ((), ([strip r], ())) else .inl ((chkOne (strip r), ()), ([strip r], ()))) := by
    by_cases h : chkOne (strip r) = 0
    · rw [if_pos h]
      have h1 : l59_1_6 (((0 : Int), ()), ([strip r], ())) = some (.inl (((1 : Int), ()), ([strip r], ()))) := by
        unfold l59_1_6
        rw [h] at q
        simp [strip, q] at q ⊢
        exact w64_id (by omega) (by omega)
      rw [loopT_inl h1]
      exact loopT_inr rfl
    · rw [if_neg h]
      refine loopT_inr ?_
      unfold l59_1_6
      simp [strip] at q h ⊢
      rw [q]
      simp [h]
      rw [bne_iff_ne.2 h]
      rfl
  unfold m59 rightR
  have e : (((-1), ([], r.2.2)) : RtT) = strip r := rfl
  simp only [e, List.length_singleton]
  rw [hl]
  by_cases h : chkOne (strip r) = 0
  · rw [if_pos h, h]; rfl
  · rw [if_neg h]; rfl

end Go.Proofs.Ytcblbcpnfidndaa

namespace Go.Proofs.Ytcblbcpnfidndaa
open Go Go.Abs Go.Lab
abbrev rWait (r : RtT) : Int := r.2.2.2.2.1

abbrev rInt (r : RtT) : Int := r.2.2.2.2.2.1

abbrev rRep (r : RtT) : Int := r.2.2.2.2.2.2.1

structure RR (r : RtT) : Prop where
  z : TrSz r
  ok : rightR r = true
  pol : 0 ≤ r.2.2.1
  wait : 0 ≤ rWait r
  int : rWait r ≤ rInt r
  rep : rInt r ≤ rRep r
  max : rRep r ≤ 604800
  pos : rRep r ≠ 0

theorem rr_of {r : RtT} (z : TrSz r) (h : rightR r = true) : RR r := by
  have h0 : chkOne (strip r) = 0 := by unfold rightR at h; simpa using h
  unfold chkOne at h0
  cases h1 : (decide (((strip r).2.1.length : Int) > 8) || decide (((strip r).2.2.2.1.length : Int) > 12))
  · rw [h1] at h0
    cases h2 : (!(strip r).2.1.all rightM || !keysOK (strip r).2.2.2.1)
    · rw [h2] at h0
      cases h3 : chkRange (strip r)
      · unfold chkRange at h3
        simp only [Bool.or_eq_false_iff, decide_eq_false_iff_not, beq_eq_false_iff_ne] at h3
        obtain ⟨a, b, c, d, e, f⟩ := h3
        have a : ¬ r.2.2.1 < 0 := a
        have b : ¬ r.2.2.2.2.1 < 0 := b
        have c : ¬ r.2.2.2.2.1 > r.2.2.2.2.2.1 := c
        have d : ¬ r.2.2.2.2.2.1 > r.2.2.2.2.2.2.1 := d
        have e : ¬ r.2.2.2.2.2.2.1 > 604800 := e
        exact ⟨z, h, by omega, by unfold rWait; omega, by unfold rWait rInt; omega, by unfold rInt rRep; omega, by unfold rRep; omega, f⟩
      · rw [h3] at h0; cases h0
    · rw [h2] at h0; cases h0
  · rw [h1] at h0; cases h0

/-! ### Places of keys -/
def pos (k : ByteArray) : List MbT → Nat
  | [] => 0
  | m :: r => if Op.bytesLess (mKey m).toList k.toList = true then pos k r + 1 else 0

def hit (k : ByteArray) (l : List MbT) : Bool := match l[pos k l]? with | some m => decide (mKey m = k) | none => false

theorem pos_le (k : ByteArray) : ∀ l : List MbT, pos k l ≤ l.length
  | [] => Nat.le_refl _
  | m :: r => by
    unfold pos
    have := pos_le k r
    split <;> simp <;> omega

theorem pos_take {k : ByteArray} : ∀ {l : List MbT}, ∀ m ∈ l.take (pos k l), Lt (mKey m) k
  | [], m, h => by simp at h
  | x :: r, m, h => by
    unfold pos at h
    split at h
    · rename_i hx
      rw [List.take_succ_cons] at h
      rcases List.mem_cons.1 h with rfl | h
      · exact hx
      · exact pos_take m h
    · simp at h

theorem pos_at {k : ByteArray} : ∀ {l : List MbT} {m : MbT}, l[pos k l]? = some m → ¬ Lt (mKey m) k
  | [], m, h => by simp at h
  | x :: r, m, h => by
    unfold pos at h
    split at h
    · exact pos_at (by simpa using h)
    · rename_i hx
      simp at h
      subst h; exact hx

theorem up_drop {l : List MbT} (h : (l.map mKey).Pairwise Less) {i : Nat} {e m : MbT} (he : l[i]? = some e) (hm : m ∈ l.drop (i + 1)) : Less (mKey e) (mKey m) := by
  obtain ⟨j, hj, rfl⟩ := List.mem_drop_iff_getElem.1 hm
  obtain ⟨h1, rfl⟩ := List.getElem?_eq_some_iff.1 he
  have := List.pairwise_iff_getElem.1 h i (i + 1 + j) (by rw [List.length_map]; exact h1) (by rw [List.length_map]; omega) (by omega)
  rwa [List.getElem_map, List.getElem_map] at this

/-- Behind the place of a key there are greater keys only. -/
theorem pos_drop {k : ByteArray} {l : List MbT} (h : (l.map mKey).Pairwise Less) (hh : hit k l = false) : ∀ m ∈ l.drop (pos k l), Lt k (mKey m) := by
  intro m hm
  by_cases hl : pos k l < l.length
  · obtain ⟨e, he, hd⟩ := drop_at hl
    have h1 := pos_at he
    have h2 : mKey e ≠ k := by
      unfold hit at hh
      rw [he] at hh
      simpa using hh
    have h3 : Lt k (mKey e) := by
      rcases lt_tri (mKey e) k with h | h | h
      · exact absurd h h1
      · exact absurd h h2
      · exact h
    rw [hd] at hm
    rcases List.mem_cons.1 hm with rfl | hm
    · exact h3
    · exact lt_trans h3 (less_lt.1 (up_drop h he hm))
  · rw [List.drop_eq_nil_of_le (by omega)] at hm; cases hm

theorem hit_some {k : ByteArray} {l : List MbT} (h : hit k l = true) : ∃ m, l[pos k l]? = some m ∧ mKey m = k := by
  unfold hit at h
  split at h
  · rename_i m hm
    exact ⟨m, hm, by simpa using h⟩
  · cases h

/-! ### Waking -/
def limE (t : Int) : Int := if t > 8589934592 then -1 else t

def wakeN (se wait int t : Int) : Int := if se = -1 then t + wait else if se + int > t then se + int else t

def wakeV (du se wait int t : Int) : Int := limE (if du = -1 then wakeN se wait int t else if du < wakeN se wait int t then du else wakeN se wait int t)

theorem lim_p (t : Int) : m55 ((t, ()), ()) = some ((limE t, ()), ()) := m55_eq t

theorem lim_r (t : Int) : m66 ((t, ()), ()) = some ((limE t, ()), ()) := by
  unfold m66 limE
  by_cases h : t > 8589934592
  · simp only [h, if_true, sumE, sS]
  · simp only [h, if_false, sumE, sS]

theorem lim_le {t : Int} (h : t ≤ 8589934592) : limE t = t := by unfold limE; rw [if_neg (by omega)]

/-- What the reference makes of it. -/
theorem wake_r {du se wait int t : Int} (h : du ≤ 8589934592) : wakeV du se wait int t = if du = -1 ∨ wakeN se wait int t < du then limE (wakeN se wait int t) else du := by
  unfold wakeV
  generalize wakeN se wait int t = n
  by_cases h1 : du = -1
  · simp [h1]
  · by_cases h2 : n < du
    · have h3 : ¬ du < n := by omega
      simp [h1, h2, h3]
    · by_cases h3 : du < n
      · simp [h1, h2, h3, lim_le h]
      · have : n = du := by omega
        subst this
        simp [h1, lim_le h]

/-! ### Add -/
abbrev zeroC : Cor := (0, ByteArray.empty, 0, 0, ())

abbrev dueC (g : GpT) (d : Int) : Cor := (g.1, g.2.1, d, gSent g, ())

def heardM (m : MbT) (t : Int) : MbT := (m.1, m.2.1, m.2.2.1, t, m.2.2.2.2)

def stepM (m : MbT) (on : Bool) (t : Int) : MbT := (m.1, m.2.1, t, mHeard m, on, on, ())

abbrev wakeG (g : GpT) (r : RtT) (t : Int) : Int := wakeV (gDue g) (gSent g) (rWait r) (rInt r) t

def restD (g : GpT) (ms : List MbT) : Int := if ms.length = 0 then -1 else gDue g

/-- What is made of an alert. -/
def gAdd (g : GpT) (r : RtT) (l : List LT) (on : Bool) (t : Int) : Int × Cor × List MbT :=
  let k := mkB (textL l)
  let ms := gMem g
  let i := pos k ms
  if hit k ms = true then
    match ms[i]? with
    | none => (0, zeroC, [])
    | some m =>
      if mFire m = on then (0, dueC g (gDue g), ms.set i (heardM m t))
      else if on = true then (0, dueC g (gDue g), ms.set i (stepM (heardM m t) true t))
      else if mTold m = true then (0, dueC g (wakeG g r t), ms.set i (stepM (heardM m t) false t))
      else (0, dueC g (restD g (ms.take i ++ ms.drop (i + 1))), ms.take i ++ ms.drop (i + 1))
  else if on = true then
    if ms.length = 256 then (5, zeroC, []) else (0, dueC g (wakeG g r t), ms.take i ++ [(k, l, t, t, true, false, ())] ++ ms.drop i)
  else (0, dueC g (restD g ms), ms)

abbrev outA (x : Int × Cor × List MbT) : Option ((Int × Unit) × ((Cor × Unit) × (List MbT × Unit))) := some ((x.1, ()), ((x.2.1, ()), (x.2.2, ())))

theorem set_at {l : List MbT} {i : Nat} {e : MbT} (h : l[i]? = some e) (x : MbT) : (l.set i x)[i]? = some x := by
  rw [List.getElem?_set_self (List.getElem?_eq_some_iff.1 h).1]

theorem take_set_self (l : List MbT) (i : Nat) (x : MbT) : (l.set i x).take i = l.take i := by
  rw [List.take_set, List.set_eq_of_length_le (by rw [List.length_take]; omega)]

theorem drop_set_self (l : List MbT) (i : Nat) (x : MbT) : (l.set i x).drop (i + 1) = l.drop (i + 1) := by
  rw [List.drop_set, if_pos (by omega)]

theorem len0 (l : List MbT) : (((l.length : Nat) : Int) == 0) = decide (l.length = 0) := by
  rw [beq_decide]; exact decide_eq_decide.2 (by omega)

/-! ### The reference's Add -/
theorem copy_r {g : GpT} (h : (gMem g).length ≤ 4294967296) : m22 ((g, ()), ()) = some ((), ((cor g, ()), (gMem g, ()))) := by
  unfold m22
  have : decide (0 + g.2.2.1.length ≤ 4294967296) = true := decide_eq_true (by simpa using h)
  simp only [this, sumE, sS]
  rfl

theorem pos_cons (k : ByteArray) (m : MbT) (r : List MbT) : pos k (m :: r) = if Op.bytesLess (mKey m).toList k.toList = true then pos k r + 1 else 0 := rfl

theorem find_r (k : ByteArray) (ms : List MbT) (hl : ms.length ≤ 1000) : loopT l27_1_2 (((0 : Int), k, ()), (ms, ())) = some ((k, (pos k ms : Int), ()), (ms, ())) := by
  have key : ∀ (d i : Nat), i + d = ms.length → pos k ms = i + pos k (ms.drop i) → loopT l27_1_2 (((i : Int), k, ()), (ms, ())) = some ((k, (pos k ms : Int), ()), (ms, ())) := by
    intro d
    induction d with
    | zero =>
      intro i hi hp
      rw [List.drop_eq_nil_of_le (by omega)] at hp
      have : pos k ms = i := hp
      rw [this]
      refine loopT_inr ?_
      have : decide ((i : Int) < ((ms.length : Nat) : Int)) = false := decide_eq_false (by omega)
      simp only [l27_1_2, this, sumE, sS]
    | succ d ih =>
      intro i hi hp
      obtain ⟨e, he, hd⟩ := drop_at (l := ms) (i := i) (by omega)
      rw [hd] at hp
      have h1 : decide ((i : Int) < ((ms.length : Nat) : Int)) = true := decide_eq_true (by omega)
      have h2 : decide ((0 : Int) ≤ (i : Int) ∧ (i : Int) < (ms.length : Int)) = true := decide_eq_true (by omega)
      have hw : w64 ((i : Int) + 1) = ((i + 1 : Nat) : Int) := w64_nat (by omega)
      rw [pos_cons] at hp
      by_cases hlt : Op.bytesLess (mKey e).toList k.toList = true
      · rw [if_pos hlt] at hp
        have q := ih (i + 1) (by omega) (by omega)
        rw [← q]
        refine loopT_inl ?_
        simp only [mKey] at hlt
        simp only [l27_1_2, h1, h2, Int.toNat_natCast, he, hlt, hw, sumE, sS]
      · rw [if_neg hlt] at hp
        rw [show pos k ms = i from hp]
        refine loopT_inr ?_
        simp only [mKey, Bool.not_eq_true] at hlt
        simp only [l27_1_2, h1, h2, Int.toNat_natCast, he, hlt, hw, sumE, sS]
  exact key ms.length 0 (by omega) (by simp)

end Go.Proofs.Ytcblbcpnfidndaa

namespace Go.Proofs.Ytcblbcpnfidndaa
open Go Go.Abs Go.Lab
theorem m24_eq {g : GpT} (h : VG g) : m24 ((g, ()), ()) = some ((true, ()), ()) := by
  have := m24_all g ⟨by have := h.len; unfold big; omega, fun m hm => valid_ks (h.mem m hm).lab⟩
  rwa [valid_iff.2 h] at this

theorem ins_at (ms : List MbT) (i : Nat) (z x : MbT) (hi : i ≤ ms.length) :
    (spliceL (ms ++ [z]) (i + 1) (((((ms ++ [z]).drop i).take ((ms ++ [z]).length - i))).take ((ms ++ [z]).length - (i + 1)))).set i x = ms.take i ++ [x] ++ ms.drop i := by
  have hl : (ms ++ [z]).length = ms.length + 1 := by simp
  have a1 : ((ms ++ [z]).drop i).take ((ms ++ [z]).length - i) = ms.drop i ++ [z] := by
    rw [List.take_of_length_le (by rw [List.length_drop]; exact Nat.le_refl _), List.drop_append_of_le_length hi]
  have e1 : (ms.drop i ++ [z]).take ((ms ++ [z]).length - (i + 1)) = ms.drop i := by
    rw [hl, List.take_append_of_le_length (by rw [List.length_drop]; omega), List.take_of_length_le (by rw [List.length_drop]; omega)]
  have a3 : (ms ++ [z]).drop (i + 1 + (ms.drop i).length) = [] := List.drop_eq_nil_of_le (by rw [hl, List.length_drop]; omega)
  have e2 : (ms ++ [z]).take (i + 1) = ms.take i ++ [(ms ++ [z])[i]'(by rw [hl]; omega)] := by
    rw [List.take_succ_eq_append_getElem (by rw [hl]; omega), List.take_append_of_le_length hi]
  rw [a1, e1]
  unfold spliceL
  rw [a3, List.append_nil, e2, List.append_assoc, List.set_append_right _ _ (by rw [List.length_take]; omega)]
  rw [show i - (ms.take i).length = 0 by rw [List.length_take]; omega]
  simp

theorem ins_len (ms : List MbT) (i : Nat) (z : MbT) (hi : i ≤ ms.length) :
    (spliceL (ms ++ [z]) (i + 1) (((((ms ++ [z]).drop i).take ((ms ++ [z]).length - i))).take ((ms ++ [z]).length - (i + 1)))).length = ms.length + 1 := by
  have := congrArg List.length (ins_at ms i z z hi)
  rw [List.length_set] at this
  rw [this]
  simp; omega

theorem add_r {g : GpT} (h : VG g) {r : RtT} (hr : RR r) {l : List LT} (hl : validL l = true) (on : Bool) {t : Int} (ht : 0 ≤ t ∧ t ≤ 8589934592) :
    m27 ((g, r, l, on, t, ()), ()) = outA (gAdd g r l on t) := by
  have q1 := m24_eq h
  have q2 := m59_eq r hr.z
  rw [hr.ok] at q2
  have q3 := m47_eq l (valid_ks hl)
  rw [hl] at q3
  have q4 := m16_eq l (valid_ks hl)
  rw [text_valid hl] at q4
  have hlen := h.len
  have q5 := find_r (mkB (textL l)) (gMem g) (by omega)
  have q6 := copy_r (g := g) (by omega)
  have dt : inst t = true := decide_eq_true ht
  have hsent := h.sent
  have hdue := h.due
  have hv := (valid_mem hl).1
  have hw := hr.wait
  have hi := hr.int
  have hp := hr.rep
  have hx := hr.max
  have w1 : w64 (gSent g + rInt r) = gSent g + rInt r := w64_id (by omega) (by omega)
  have w2 : w64 (t + rWait r) = t + rWait r := w64_id (by omega) (by omega)
  have hple := pos_le (mkB (textL l)) (gMem g)
  have hwr := fun wa ir => wake_r (du := gDue g) (se := gSent g) (wait := wa) (int := ir) (t := t) hdue.2
  obtain ⟨rt, ky, ms, du, se, ⟨⟩⟩ := g
  obtain ⟨pa, mt, po, gb, wa, ir, rp, co, ⟨⟩⟩ := r
  dsimp only [gMem, gDue, gSent, rWait, rInt, rRep, cor] at *
  unfold m27
  simp only [q1, q2, q3, q4, q6, m58_eq, dt, Int.toNat_natCast, List.length_set, sumE, sS]
  refine bind_of _ q5 ?_
  unfold gAdd
  dsimp only [gMem, gDue, gSent, rWait, rInt, rRep, dueC, wakeG]
  have hx0 : hit (mkB (textL l)) ms = match ms[pos (mkB (textL l)) ms]? with | some m => decide (mKey m = (mkB (textL l))) | none => false := rfl
  generalize pos (mkB (textL l)) ms = i at *
  have key : ∀ F : ((Int × Bool × Unit) × (List MbT × Unit)) → Option ((Int × Unit) × ((Cor × Unit) × (List MbT × Unit))),
      ((bif decide ((i : Int) < ((ms.length : Nat) : Int)) then (bif (decide ((0 : Int) ≤ (i : Int) ∧ (i : Int) < (ms.length : Int))) then
        (ms[i]?).bind fun e219 => some (((i : Int), ((e219.1.toList == (mkB (textL l)).toList), ())), (ms, ()))
        else none) else (some (((i : Int), (false, ())), (ms, ()))) : Option ((Int × Bool × Unit) × (List MbT × Unit))).bind F) = F (((i : Int), (hit (mkB (textL l)) ms, ())), (ms, ())) := by
    intro F
    rw [hx0]
    by_cases hil : i < ms.length
    · obtain ⟨e, he⟩ := getD_some hil
      have h1 : decide ((i : Int) < ((ms.length : Nat) : Int)) = true := decide_eq_true (by omega)
      have h2 : decide ((0 : Int) ≤ (i : Int) ∧ (i : Int) < (ms.length : Int)) = true := decide_eq_true (by omega)
      simp only [h1, h2, he, toList_bl, beq_bl, mKey, sumE, sS]
    · have h1 : decide ((i : Int) < ((ms.length : Nat) : Int)) = false := decide_eq_false (by omega)
      simp only [h1, List.getElem?_eq_none (show ms.length ≤ i by omega), sumE, sS]
  refine (key _).trans ?_
  dsimp only
  cases hh : hit (mkB (textL l)) ms
  · simp only [Bool.false_eq_true, if_false, eq_self, sumE, sS]
    cases on
    · simp only [restD, gMem, gDue, len0, eq_self, Bool.false_eq_true, if_false, sumE, sS]
      by_cases h0 : ms.length = 0
      · simp only [h0, eq_self, if_true, sumE, sS]
      · simp only [h0, eq_self, if_false, sumE, sS]
    · by_cases h6 : ms.length = 256
      · have b6 : decide (((ms.length : Nat) : Int) ≥ 256) = true := decide_eq_true (by omega)
        simp only [b6, eq_self, if_true, sumE, sS]
        rw [if_pos h6]
      · have b6 : decide (((ms.length : Nat) : Int) ≥ 256) = false := decide_eq_false (by omega)
        have d1 : decide (0 + l.length ≤ 4294967296) = true := decide_eq_true (by omega)
        have d2 : decide (ms.length + ([(ByteArray.empty, ([], (0, (0, (false, (false, ()))))))] : List MbT).length ≤ 4294967296) = true := decide_eq_true (by simp; omega)
        have hxl : (ms ++ ([(ByteArray.empty, ([], (0, (0, (false, (false, ()))))))] : List MbT)).length = ms.length + 1 := by simp
        have wi : w64 ((i : Int) + 1) = ((i + 1 : Nat) : Int) := w64_nat (by omega)
        have d3 : decide ((0 : Int) ≤ ((i + 1 : Nat) : Int)) = true := decide_eq_true (by omega)
        have d4 : decide ((0 : Int) ≤ (i : Int)) = true := decide_eq_true (by omega)
        have d5 : decide (i + 1 ≤ ms.length + 1 ∧ ms.length + 1 ≤ ms.length + 1) = true := decide_eq_true (by omega)
        have d6 : decide (i ≤ ms.length + 1 ∧ ms.length + 1 ≤ ms.length + 1) = true := decide_eq_true (by omega)
        have d7 : decide (i + (ms.length + 1 - i) ≤ ms.length + 1) = true := decide_eq_true (by omega)
        have d8 : decide (i + 1 + (ms.length + 1 - (i + 1)) ≤ ms.length + 1) = true := decide_eq_true (by omega)
        have d9 : decide ((0 : Int) ≤ (i : Int) ∧ (i : Int) < ((ms.length + 1 : Nat) : Int)) = true := decide_eq_true (by omega)
        have d10 : decide (i < ms.length + 1) = true := decide_eq_true (by omega)
        have e1 := ins_len ms i (ByteArray.empty, ([], (0, (0, (false, (false, ())))))) (by omega)
        have e2 := ins_at ms i (ByteArray.empty, ([], (0, (0, (false, (false, ())))))) (mkB (textL l), l, t, t, true, false, ()) (by omega)
        rw [hxl] at e1 e2
        have e3 : (ms.take i ++ [(mkB (textL l), l, t, t, true, false, ())] ++ ms.drop i).length = ms.length + 1 := by simp; omega
        simp only [b6, h6, d1, d2, hxl, wi, d3, d4, d5, d6, d7, d8, Int.toNat_natCast, e1, d9, d10, e2, eq_self, if_true, if_false, sumE, sS]
        rw [hwr]
        by_cases hs : se = -1 <;> by_cases hd : du = -1
        · subst hs; subst hd
          simp only [w1, w2, wakeN, lim_r, e3, eq_self, true_or, if_true, if_false, sumE, sS]
        · subst hs
          have bd : (du == -1) = false := beq_eq_false_iff_ne.2 hd
          by_cases hn : t + wa < du
          · simp only [w1, w2, bd, hd, hn, decide_eq_true hn, wakeN, lim_r, e3, eq_self, or_true, if_true, if_false, sumE, sS]
          · simp only [w1, w2, bd, hd, hn, decide_eq_false hn, wakeN, lim_r, e3, eq_self, or_self, if_true, if_false, sumE, sS]
        · subst hd
          have bs : (se != -1) = true := bne_iff_ne.2 hs
          simp only [w1, w2, bs, hs, wakeN, lim_r, e3, eq_self, true_or, if_true, if_false, sumE, sS]
        · have bd : (du == -1) = false := beq_eq_false_iff_ne.2 hd
          have bs : (se != -1) = true := bne_iff_ne.2 hs
          by_cases hn : (if se + ir > t then se + ir else t) < du
          · simp only [w1, w2, bd, bs, hd, hs, hn, decide_eq_true hn, wakeN, lim_r, e3, eq_self, or_true, if_true, if_false, sumE, sS]
          · simp only [w1, w2, bd, bs, hd, hs, hn, decide_eq_false hn, wakeN, lim_r, e3, eq_self, or_self, if_true, if_false, sumE, sS]
  · have hm : ∃ m, ms[i]? = some m := by
      by_cases hil : i < ms.length
      · exact getD_some hil
      · rw [List.getElem?_eq_none (by omega)] at hx0
        exact absurd hh (by rw [hx0]; simp)
    obtain ⟨m, hm⟩ := hm
    have hlt : i < ms.length := (List.getElem?_eq_some_iff.1 hm).1
    have db : decide ((0 : Int) ≤ (i : Int) ∧ (i : Int) < (ms.length : Int)) = true := decide_eq_true (by omega)
    have wi : w64 ((i : Int) + 1) = ((i + 1 : Nat) : Int) := w64_nat (by omega)
    have d3 : decide ((0 : Int) ≤ ((i + 1 : Nat) : Int)) = true := decide_eq_true (by omega)
    have d4 : decide ((0 : Int) ≤ (i : Int)) = true := decide_eq_true (by omega)
    have d5 : decide (0 ≤ i ∧ i ≤ ms.length) = true := decide_eq_true (by omega)
    have d6 : decide (i + 1 ≤ ms.length ∧ ms.length ≤ ms.length) = true := decide_eq_true (by omega)
    have d7 : decide (i + 1 + (ms.length - (i + 1)) ≤ ms.length) = true := decide_eq_true (by omega)
    have e0 : (ms.drop (i + 1)).take (ms.length - (i + 1)) = ms.drop (i + 1) := List.take_of_length_le (by rw [List.length_drop]; omega)
    have d8 : decide (i ≤ ms.length ∧ i + (ms.drop (i + 1)).length ≤ 4294967296) = true := decide_eq_true (by rw [List.length_drop]; omega)
    have sa := set_at hm
    obtain ⟨mk, ml, mn, mh, mf, mt', ⟨⟩⟩ := m
    simp only [hm, sa, db, List.set_set, List.length_set, Int.toNat_natCast, heardM, stepM, mKey, mLab, mHeard, mFire, mTold, eq_self, if_true, sumE, sS]
    cases mf <;> cases on
    · simp only [sa, eq_self, if_true, sumE, sS]
    · simp only [sa, List.set_set, eq_self, if_true, if_false, Bool.false_eq_true, Bool.true_eq_false, sumE, sS]
    · cases mt'
      · simp only [sa, db, wi, d3, d4, d5, d6, d7, d8, e0, true_and, take_set_self, drop_set_self, restD, gMem, gDue, len0, List.length_set, Int.toNat_natCast, eq_self, if_true, if_false, Bool.true_eq_false, Bool.false_eq_true, sumE, sS]
        by_cases h0 : (ms.take i ++ ms.drop (i + 1)).length = 0
        · simp only [h0, eq_self, if_true, sumE, sS]
        · simp only [h0, eq_self, if_false, sumE, sS]
      · simp only [sa, db, List.set_set, List.length_set, Int.toNat_natCast, if_true, if_false, Bool.true_eq_false, Bool.false_eq_true, sumE, sS]
        rw [hwr]
        by_cases hs : se = -1 <;> by_cases hd : du = -1
        · subst hs; subst hd
          simp only [w1, w2, wakeN, lim_r, List.length_set, eq_self, true_or, if_true, if_false, sumE, sS]
        · subst hs
          have bd : (du == -1) = false := beq_eq_false_iff_ne.2 hd
          by_cases hn : t + wa < du
          · simp only [w1, w2, bd, hd, hn, decide_eq_true hn, wakeN, lim_r, List.length_set, eq_self, or_true, if_true, if_false, sumE, sS]
          · simp only [w1, w2, bd, hd, hn, decide_eq_false hn, wakeN, lim_r, List.length_set, eq_self, or_self, if_true, if_false, sumE, sS]
        · subst hd
          have bs : (se != -1) = true := bne_iff_ne.2 hs
          simp only [w1, w2, bs, hs, wakeN, lim_r, List.length_set, eq_self, true_or, if_true, if_false, sumE, sS]
        · have bd : (du == -1) = false := beq_eq_false_iff_ne.2 hd
          have bs : (se != -1) = true := bne_iff_ne.2 hs
          by_cases hn : (if se + ir > t then se + ir else t) < du
          · simp only [w1, w2, bd, bs, hd, hs, hn, decide_eq_true hn, wakeN, lim_r, List.length_set, eq_self, or_true, if_true, if_false, sumE, sS]
          · simp only [w1, w2, bd, bs, hd, hs, hn, decide_eq_false hn, wakeN, lim_r, List.length_set, eq_self, or_self, if_true, if_false, sumE, sS]
    · simp only [sa, eq_self, if_true, sumE, sS]

end Go.Proofs.Ytcblbcpnfidndaa

namespace Go.Proofs.Ytcblbcpnfidndaa
open Go Go.Abs Go.Lab
/-- Whether a member has not been heard of for long. -/
def oldM (m : MbT) (t a : Int) : Bool := mFire m && decide (mHeard m ≤ t - a)

/-- Members that were looked at, Due, members to come. -/
def expL (se wa ir t a : Int) : List MbT → Int → List MbT → List MbT × Int
  | kept, du, [] => (kept, du)
  | kept, du, m :: r =>
    if oldM m t a = true then
      if mTold m = true then expL se wa ir t a (kept ++ [stepM m false t]) (wakeV du se wa ir t) r
      else expL se wa ir t a kept (if (kept ++ r).length = 0 then -1 else du) r
    else expL se wa ir t a (kept ++ [m]) du r

def gExp (g : GpT) (r : RtT) (t a : Int) : Int × Cor × List MbT :=
  if a = 0 then (0, dueC g (gDue g), gMem g)
  else (0, dueC g (expL (gSent g) (rWait r) (rInt r) t a [] (gDue g) (gMem g)).2, (expL (gSent g) (rWait r) (rInt r) t a [] (gDue g) (gMem g)).1)

theorem app_at (A : List MbT) (m : MbT) (B : List MbT) : (A ++ m :: B)[A.length]? = some m := by
  rw [List.getElem?_append_right (Nat.le_refl _), Nat.sub_self]; rfl

theorem app_set (A : List MbT) (m x : MbT) (B : List MbT) : (A ++ m :: B).set A.length x = A ++ x :: B := by
  rw [List.set_append_right _ _ (Nat.le_refl _), Nat.sub_self]; rfl

theorem app_take (A : List MbT) (m : MbT) (B : List MbT) : (A ++ m :: B).take A.length = A := List.take_left' rfl

theorem app_drop (A : List MbT) (m : MbT) (B : List MbT) : (A ++ m :: B).drop (A.length + 1) = B := by
  rw [List.drop_append, List.drop_eq_nil_of_le (by omega), List.nil_append]
  simp

theorem wake_b {du se wa ir t : Int} (h1 : 0 ≤ t ∧ t ≤ 8589934592) (h2 : 0 ≤ wa) (h3 : -1 ≤ du ∧ du ≤ 8589934592) (h4 : -1 ≤ se) (h5 : 0 ≤ ir) : -1 ≤ wakeV du se wa ir t ∧ wakeV du se wa ir t ≤ 8589934592 := by
  unfold wakeV wakeN limE
  split <;> split <;> (repeat' split) <;> omega

/-! ### The reference's Expire -/
theorem exp_r_loop (rt : Int) (ky : ByteArray) (se t a : Int) {r : RtT} (hr : RR r) (hse : -1 ≤ se ∧ se ≤ 8589934592) (ht : 0 ≤ t ∧ t ≤ 8589934592) (ha : 0 < a ∧ a ≤ 604800) : ∀ (rem : List MbT) (kept : List MbT) (du : Int),
    kept.length + rem.length ≤ 256 → -1 ≤ du ∧ du ≤ 8589934592 →
    loopT l30_0_7 (((kept.length : Int), t, a, ()), (((rt, ky, du, se, ()), ()), ((r, ()), ((zeroC, ()), (kept ++ rem, ()))))) =
      some ((), ((zeroC, ()), (((rt, ky, (expL se (rWait r) (rInt r) t a kept du rem).2, se, ()), ()), ((expL se (rWait r) (rInt r) t a kept du rem).1, ())))) := by
  intro rem
  induction rem with
  | nil =>
    intro kept du hk hdu
    rw [List.append_nil]
    refine loopT_inr ?_
    have : decide ((kept.length : Int) < ((kept.length : Nat) : Int)) = false := decide_eq_false (by omega)
    simp only [l30_0_7, this, expL, sumE, sS]
  | cons m rem ih =>
    intro kept du hk hdu
    have w3 : w64 (t - a) = t - a := w64_id (by omega) (by omega)
    have da : decide (a > 0) = true := decide_eq_true ha.1
    simp only [List.length_cons] at hk
    have wk : w64 ((kept.length : Int) + 1) = ((kept.length + 1 : Nat) : Int) := w64_nat (by omega)
    have next := fun x du' hdu' => ih (kept ++ [x]) du' (by simp; omega) hdu'
    have sl : ∀ x : MbT, (kept ++ x :: rem).length = kept.length + (rem.length + 1) := fun x => by simp
    have b1 : decide ((kept.length : Int) < ((kept.length + (rem.length + 1) : Nat) : Int)) = true := decide_eq_true (by omega)
    have b2 : decide ((0 : Int) ≤ (kept.length : Int) ∧ (kept.length : Int) < ((kept.length + (rem.length + 1) : Nat) : Int)) = true := decide_eq_true (by omega)
    have hk1 : ∀ x : MbT, (((kept ++ [x]).length : Nat) : Int) = ((kept.length + 1 : Nat) : Int) := fun x => by simp
    obtain ⟨pa, mt, po, gb, wa, ir, rp, co, ⟨⟩⟩ := r
    have hwa := hr.wait
    have hir := hr.int
    have hrp := hr.rep
    have hmx := hr.max
    dsimp only [rWait, rInt, rRep] at *
    obtain ⟨mk, ml, mn, mh, mf, mt', ⟨⟩⟩ := m
    unfold expL
    by_cases ho : oldM (mk, ml, mn, mh, mf, mt', ()) t a = true
    · rw [if_pos ho]
      unfold oldM at ho
      dsimp only [mFire, mHeard] at ho
      rw [Bool.and_eq_true] at ho
      obtain ⟨rfl, ho⟩ := ho
      cases mt'
      · have n0 : (if mTold ((mk, ml, mn, mh, true, false, ()) : MbT) = true then expL se wa ir t a (kept ++ [stepM (mk, ml, mn, mh, true, false, ()) false t]) (wakeV du se wa ir t) rem else expL se wa ir t a kept (if (kept ++ rem).length = 0 then -1 else du) rem) = expL se wa ir t a kept (if (kept ++ rem).length = 0 then -1 else du) rem := rfl
        rw [n0]
        have q2 := ih kept (if (kept ++ rem).length = 0 then -1 else du) (by omega) (by split <;> omega)
        rw [← q2]
        refine loopT_inl ?_
        have c1 : decide ((0 : Int) ≤ (kept.length : Int)) = true := decide_eq_true (by omega)
        have c2 : decide (0 ≤ kept.length ∧ kept.length ≤ kept.length + (rem.length + 1)) = true := decide_eq_true (by omega)
        have c3 : decide ((0 : Int) ≤ ((kept.length + 1 : Nat) : Int)) = true := decide_eq_true (by omega)
        have c4 : decide (kept.length + 1 ≤ kept.length + (rem.length + 1) ∧ kept.length + (rem.length + 1) ≤ kept.length + (rem.length + 1)) = true := decide_eq_true (by omega)
        have c5 : decide (kept.length + 1 + (kept.length + (rem.length + 1) - (kept.length + 1)) ≤ kept.length + (rem.length + 1)) = true := decide_eq_true (by omega)
        have e0 : rem.take (kept.length + (rem.length + 1) - (kept.length + 1)) = rem := List.take_of_length_le (by omega)
        have c6 : decide (kept.length ≤ kept.length + (rem.length + 1) ∧ kept.length + rem.length ≤ 4294967296) = true := decide_eq_true (by omega)
        have c7 : decide ((((kept ++ rem).length : Nat) : Int) < ((kept.length + (rem.length + 1) : Nat) : Int)) = true := decide_eq_true (by simp; omega)
        simp only [l30_0_7, sl, b1, b2, Int.toNat_natCast, app_at, da, w3, ho, c1, c2, wk, c3, c4, c5, app_take, app_drop, e0, c6, len0, true_and, eq_self, sumE, sS]
        by_cases h0 : (kept ++ rem).length = 0
        · simp only [h0, eq_self, if_true, sumE, sS]
          rw [h0] at c7
          simp only [c7, sumE, sS]
        · simp only [h0, c7, eq_self, if_false, sumE, sS]
      · have n0 : (if mTold ((mk, ml, mn, mh, true, true, ()) : MbT) = true then expL se wa ir t a (kept ++ [stepM (mk, ml, mn, mh, true, true, ()) false t]) (wakeV du se wa ir t) rem else expL se wa ir t a kept (if (kept ++ rem).length = 0 then -1 else du) rem) = expL se wa ir t a (kept ++ [stepM (mk, ml, mn, mh, true, true, ()) false t]) (wakeV du se wa ir t) rem := rfl
        rw [n0, ← next (stepM (mk, ml, mn, mh, true, true, ()) false t) (wakeV du se wa ir t) (wake_b ht hwa hdu hse.1 (by omega)), List.append_assoc, hk1]
        refine loopT_inl ?_
        have w1 : w64 (se + ir) = se + ir := w64_id (by omega) (by omega)
        have w2 : w64 (t + wa) = t + wa := w64_id (by omega) (by omega)
        have c7 : decide (((kept.length + (rem.length + 1) : Nat) : Int) < ((kept.length + (rem.length + 1) : Nat) : Int)) = false := decide_eq_false (by omega)
        rw [wake_r hdu.2]
        simp only [l30_0_7, sl, b1, b2, Int.toNat_natCast, app_at, app_set, da, w3, ho, List.singleton_append, stepM, mHeard, eq_self, sumE, sS]
        by_cases hs : se = -1 <;> by_cases hd : du = -1
        · subst hs; subst hd
          simp only [w1, w2, wakeN, lim_r, sl, c7, wk, eq_self, true_or, if_true, if_false, sumE, sS]
        · subst hs
          have bd : (du == -1) = false := beq_eq_false_iff_ne.2 hd
          by_cases hn : t + wa < du
          · simp only [w1, w2, bd, hd, hn, decide_eq_true hn, wakeN, lim_r, sl, c7, wk, eq_self, or_true, if_true, if_false, sumE, sS]
          · simp only [w1, w2, bd, hd, hn, decide_eq_false hn, wakeN, lim_r, sl, c7, wk, eq_self, or_self, if_true, if_false, sumE, sS]
        · subst hd
          have bs : (se != -1) = true := bne_iff_ne.2 hs
          simp only [w1, w2, bs, hs, wakeN, lim_r, sl, c7, wk, eq_self, true_or, if_true, if_false, sumE, sS]
        · have bd : (du == -1) = false := beq_eq_false_iff_ne.2 hd
          have bs : (se != -1) = true := bne_iff_ne.2 hs
          by_cases hn : (if se + ir > t then se + ir else t) < du
          · simp only [w1, w2, bd, bs, hd, hs, hn, decide_eq_true hn, wakeN, lim_r, sl, c7, wk, eq_self, or_true, if_true, if_false, sumE, sS]
          · simp only [w1, w2, bd, bs, hd, hs, hn, decide_eq_false hn, wakeN, lim_r, sl, c7, wk, eq_self, or_self, if_true, if_false, sumE, sS]
    · rw [if_neg ho]
      rw [← next _ du hdu, List.append_assoc, hk1]
      refine loopT_inl ?_
      unfold oldM at ho
      dsimp only [mFire, mHeard] at ho
      simp only [l30_0_7, sl, b1, b2, Int.toNat_natCast, app_at, da, w3, sumE, sS]
      cases mf
      · simp only [wk, List.singleton_append, sumE, sS]
      · have : decide (mh ≤ t - a) = false := by simpa using ho
        simp only [this, wk, List.singleton_append, sumE, sS]

theorem exp_r_none (rt : Int) (ky : ByteArray) (se t du : Int) {r : RtT} (ms : List MbT) (hl : ms.length ≤ 256) :
    loopT l30_0_7 (((0 : Int), t, 0, ()), (((rt, ky, du, se, ()), ()), ((r, ()), ((zeroC, ()), (ms, ()))))) = some ((), ((zeroC, ()), (((rt, ky, du, se, ()), ()), (ms, ())))) := by
  refine loop_thru ms (fun i => (((i : Int), t, 0, ()), (((rt, ky, du, se, ()), ()), ((r, ()), ((zeroC, ()), (ms, ())))))) _ (fun i e he hi => ?_) (by
    have : decide ((ms.length : Int) < ((ms.length : Nat) : Int)) = false := decide_eq_false (by omega)
    simp only [l30_0_7, this, sumE, sS])
  have b1 : decide ((i : Int) < ((ms.length : Nat) : Int)) = true := decide_eq_true (by omega)
  have b2 : decide ((0 : Int) ≤ (i : Int) ∧ (i : Int) < (ms.length : Int)) = true := decide_eq_true (by omega)
  have da : decide ((0 : Int) > 0) = false := rfl
  have wk : w64 ((i : Int) + 1) = ((i + 1 : Nat) : Int) := w64_nat (by omega)
  simp only [l30_0_7, b1, b2, Int.toNat_natCast, he, da, wk, sumE, sS]

theorem exp_r {g : GpT} (h : VG g) {r : RtT} (hr : RR r) {t a : Int} (ht : 0 ≤ t ∧ t ≤ 8589934592) (ha : 0 ≤ a ∧ a ≤ 604800) : m30 ((g, r, t, a, ()), ()) = outA (gExp g r t a) := by
  have q1 := m24_eq h
  have q2 := m59_eq r hr.z
  rw [hr.ok] at q2
  have hlen := h.len
  have q6 := copy_r (g := g) (by omega)
  have dt : inst t = true := decide_eq_true ht
  have d1 : decide (a < 0) = false := decide_eq_false (by omega)
  have d2 : decide (a > 604800) = false := decide_eq_false (by omega)
  have hl : loopT l30_0_7 (((0 : Int), t, a, ()), (((g.1, g.2.1, gDue g, gSent g, ()), ()), ((r, ()), ((zeroC, ()), (gMem g, ()))))) = some ((), ((zeroC, ()), (((gExp g r t a).2.1, ()), ((gExp g r t a).2.2, ())))) := by
    unfold gExp
    by_cases h0 : a = 0
    · subst h0
      rw [if_pos rfl]
      exact exp_r_none _ _ _ _ _ _ hlen
    · rw [if_neg h0]
      exact exp_r_loop g.1 g.2.1 (gSent g) t a hr h.sent ht (by omega) (gMem g) [] (gDue g) (by simpa using hlen) h.due
  have he : (gExp g r t a).1 = 0 := by unfold gExp; split <;> rfl
  obtain ⟨rt, ky, ms, du, se, ⟨⟩⟩ := g
  dsimp only [gMem, gDue, gSent, cor] at *
  unfold m30
  simp only [q1, q2, q6, m58_eq, dt, d1, d2, sumE, sS]
  refine bind_of _ hl ?_
  show _ = some (((gExp (rt, ky, ms, du, se, ()) r t a).1, ()), _)
  rw [he]

end Go.Proofs.Ytcblbcpnfidndaa

namespace Go.Proofs.Ytcblbcpnfidndaa
open Go Go.Abs Go.Lab
abbrev NtC := Int × Int × Int × ByteArray × Unit

abbrev zeroN : NtC := (0, 0, 0, ByteArray.empty, ())

/-- Whether a list has a key. -/
def muB (mu : List ByteArray) (k : ByteArray) : Bool := mu.any fun x => decide (x = k)

def firL (mu : List ByteArray) (ms : List MbT) : List ByteArray := (ms.filter fun m => !muB mu (mKey m) && mFire m).map mKey

def resL (mu : List ByteArray) (ms : List MbT) : List ByteArray := (ms.filter fun m => !muB mu (mKey m) && !mFire m).map mKey

def freB (mu : List ByteArray) (ms : List MbT) : Bool := ms.any fun m => !muB mu (mKey m) && (mFire m && !mTold m)

def tellM (F : List ByteArray) (m : MbT) : MbT := (m.1, m.2.1, m.2.2.1, m.2.2.2.1, m.2.2.2.2.1, mTold m || muB F (mKey m), ())

def aftL (F R : List ByteArray) (ms : List MbT) : List MbT := (ms.filter fun m => !muB R (mKey m)).map (tellM F)

def opnB (ms : List MbT) : Bool := ms.any fun m => !mTold m

def againB (se rep t : Int) (F : List ByteArray) : Bool := decide (0 < F.length) && (se != -1) && decide (se + rep ≤ t)

def newsB (se rep t : Int) (mu : List ByteArray) (ms : List MbT) : Bool := freB mu ms || againB se rep t (firL mu ms) || decide (0 < (resL mu ms).length)

def nextD (se int rep t : Int) (o : Bool) : Int := limE (max (if o = true ∨ se + rep ≤ t then t + int else se + rep) (t + 1))

abbrev LkT := Bool × Cor × NtC × List MbT × List ByteArray × List ByteArray

/-- What a look makes. -/
def gLook (g : GpT) (r : RtT) (t : Int) (mu : List ByteArray) : LkT :=
  if gDue g = -1 ∨ gDue g > t then (false, dueC g (gDue g), zeroN, gMem g, [], [])
  else
    let F := firL mu (gMem g)
    let R := resL mu (gMem g)
    if newsB (gSent g) (rRep r) t mu (gMem g) = true then
      (true, (g.1, g.2.1, (if (aftL F R (gMem g)).length = 0 then -1 else nextD t (rInt r) (rRep r) t (opnB (aftL F R (gMem g)))), t, ()), (t, g.1, r.2.2.1, g.2.1, ()), aftL F R (gMem g), F, R)
    else (false, dueC g (if (gMem g).length = 0 then -1 else nextD (gSent g) (rInt r) (rRep r) t (opnB (gMem g))), zeroN, gMem g, [], [])

theorem takeSnoc {A : Type} {l : List A} {i : Nat} {e : A} (he : l[i]? = some e) : l.take (i + 1) = l.take i ++ [e] := by
  rw [List.take_add_one, he]; rfl

theorem firL_snoc (mu : List ByteArray) (l : List MbT) (e : MbT) : firL mu (l ++ [e]) = firL mu l ++ (if !muB mu (mKey e) && mFire e then [mKey e] else []) := by
  unfold firL
  rw [List.filter_append, List.map_append]
  cases h : (!muB mu (mKey e) && mFire e) <;> simp [h]

theorem resL_snoc (mu : List ByteArray) (l : List MbT) (e : MbT) : resL mu (l ++ [e]) = resL mu l ++ (if !muB mu (mKey e) && !mFire e then [mKey e] else []) := by
  unfold resL
  rw [List.filter_append, List.map_append]
  cases h : (!muB mu (mKey e) && !mFire e) <;> simp [h]

theorem freB_snoc (mu : List ByteArray) (l : List MbT) (e : MbT) : freB mu (l ++ [e]) = (freB mu l || (!muB mu (mKey e) && (mFire e && !mTold e))) := by
  unfold freB
  rw [List.any_append]
  simp

theorem firL_len (mu : List ByteArray) (l : List MbT) : (firL mu l).length ≤ l.length := by
  unfold firL; rw [List.length_map]; exact List.length_filter_le _ _

theorem resL_len (mu : List ByteArray) (l : List MbT) : (resL mu l).length ≤ l.length := by
  unfold resL; rw [List.length_map]; exact List.length_filter_le _ _

theorem has_p (mu : List ByteArray) (k : ByteArray) (h : mu.length ≤ big) : m52 ((mu, k, ()), ()) = some ((muB mu k, ()), ()) := m52_eq mu k h

theorem has_r (mu : List ByteArray) (k : ByteArray) (h : mu.length ≤ big) : m65 ((mu, k, ()), ()) = some ((muB mu k, ()), ()) := by
  unfold big at h
  have hl := loop_list0 (f := l65_0_2) mu (fun i (_ : Unit) => (((i : Int), k, mu, ()), ())) (fun i _ e => bif decide (e = k) then .inr (.inl ((true, ()), ())) else .inl ()) (fun _ => .inr ((), ())) ?_ ?_ ()
  · obtain ⟨j, _, hj⟩ := runL_any (fun e => decide (e = k)) (fun _ : Nat => (Sum.inl ((true, ()), ()) : ((Bool × Unit) × Unit) ⊕ (Unit × Unit))) (.inr ((), ())) mu 0
    unfold m65 muB
    refine bind_of _ (hl.trans (congrArg some hj)) ?_
    cases mu.any (fun e => decide (e = k)) <;> rfl
  · intro i e _ he hi
    have hw : w64 ((i : Int) + 1) = ((i + 1 : Nat) : Int) := w64_nat (by omega)
    simp only [l65_0_2, rowAt_G, rowG_nat he, lt_t hi, toList_bl, beq_bl, sumE, sS]
    cases decide (e = k) <;> simp only [sumE, sS, hw]
  · intro _
    simp only [l65_0_2, lt_f, sumE, sS]

theorem notice_p (ms : List MbT) (mu : List ByteArray) (t : Int) (nc : NtC) (r : RtT) (c : Cor) (hl : ms.length ≤ 256) (hm : mu.length ≤ big) :
    loopT l17_1_4 (((0 : Int), false, mu, t, ((ms.length : Nat) : Int), ()), (ms, (nc, ()), (zeroN, ()), (r, ()), (c, ()), [], [], ())) =
      some ((freB mu ms, t, ()), (ms, (zeroN, ()), (nc, ()), (r, ()), (c, ()), firL mu ms, resL mu ms, ())) := by
  have := loop_thru (f := l17_1_4) ms (fun i => (((i : Int), freB mu (ms.take i), mu, t, ((ms.length : Nat) : Int), ()), (ms, (nc, ()), (zeroN, ()), (r, ()), (c, ()), firL mu (ms.take i), resL mu (ms.take i), ())))
    ((freB mu ms, t, ()), (ms, (zeroN, ()), (nc, ()), (r, ()), (c, ()), firL mu ms, resL mu ms, ())) ?_ ?_
  · exact this
  · intro i e he hi
    have hw : w64 ((i : Int) + 1) = ((i + 1 : Nat) : Int) := w64_nat (by omega)
    have hb : decide ((0 : Int) ≤ (i : Int) ∧ (i : Int) < (ms.length : Int)) = true := decide_eq_true (by omega)
    have f1 := firL_len mu (ms.take i)
    have f2 := resL_len mu (ms.take i)
    rw [List.length_take] at f1 f2
    have c1 : decide ((firL mu (ms.take i)).length + [mKey e].length ≤ 4294967296) = true := decide_eq_true (by simp; omega)
    have c2 : decide ((resL mu (ms.take i)).length + [mKey e].length ≤ 4294967296) = true := decide_eq_true (by simp; omega)
    have q := has_p mu (mKey e) hm
    obtain ⟨mk, ml, mn, mh, mf, mt', ⟨⟩⟩ := e
    dsimp only [mKey] at q c1 c2
    rw [takeSnoc he, firL_snoc, resL_snoc, freB_snoc]
    simp only [l17_1_4, lt_t hi, hb, Int.toNat_natCast, he, q, mKey, mFire, mTold, sumE, sS]
    cases muB mu mk
    · cases mf
      · simp only [c2, hw, List.append_nil, Bool.or_false, if_true, if_false, Bool.false_eq_true, sumE, sS]
      · simp only [c1, hw, List.append_nil, Bool.or_false, if_true, if_false, Bool.false_eq_true, sumE, sS]
        cases freB mu (ms.take i) <;> simp only [hw, Bool.true_or, Bool.false_or, sumE, sS]
    · simp only [hw, List.append_nil, Bool.or_false, if_true, if_false, Bool.false_eq_true, sumE, sS]
  · rw [List.take_length]
    simp only [l17_1_4, lt_f, sumE, sS]

abbrev keepM (R : List ByteArray) (m : MbT) : Bool := !muB R (mKey m)

theorem index_p (ms : List MbT) (nc : NtC) (F R : List ByteArray) (hl : ms.length ≤ 256) (hR : R.length ≤ big) :
    (loopT l17_3_2 (((0 : Int), ((ms.length : Nat) : Int), ()), (ms, (nc, ()), F, R, ())) = some (.inr ((), (ms, (nc, ()), F, R, ()))) ∧ ms.filter (keepM R) = ms) ∨
    ∃ j, j < ms.length ∧ loopT l17_3_2 (((0 : Int), ((ms.length : Nat) : Int), ()), (ms, (nc, ()), F, R, ())) = some (.inl (((j : Int), ()), (ms, (nc, ()), F, R, ()))) ∧ (ms.take (j + 1)).filter (keepM R) = ms.take j := by
  have key : ∀ (d i : Nat), i + d = ms.length → (ms.take i).filter (keepM R) = ms.take i →
      (loopT l17_3_2 (((i : Int), ((ms.length : Nat) : Int), ()), (ms, (nc, ()), F, R, ())) = some (.inr ((), (ms, (nc, ()), F, R, ()))) ∧ ms.filter (keepM R) = ms) ∨
      ∃ j, j < ms.length ∧ loopT l17_3_2 (((i : Int), ((ms.length : Nat) : Int), ()), (ms, (nc, ()), F, R, ())) = some (.inl (((j : Int), ()), (ms, (nc, ()), F, R, ()))) ∧ (ms.take (j + 1)).filter (keepM R) = ms.take j := by
    intro d
    induction d with
    | zero =>
      intro i h h2
      obtain rfl : i = ms.length := by omega
      rw [List.take_length] at h2
      refine .inl ⟨loopT_inr ?_, h2⟩
      simp only [l17_3_2, lt_f, sumE, sS]
    | succ d ih =>
      intro i h h2
      obtain ⟨e, he⟩ := getD_some (l := ms) (i := i) (by omega)
      have hi : i < ms.length := by omega
      have hw : w64 ((i : Int) + 1) = ((i + 1 : Nat) : Int) := w64_nat (by omega)
      have hb : decide ((0 : Int) ≤ (i : Int) ∧ (i : Int) < (ms.length : Int)) = true := decide_eq_true (by omega)
      have q := has_p R (mKey e) hR
      dsimp only [mKey] at q
      cases hr : muB R (mKey e)
      · dsimp only [mKey] at hr
        have h3 : (ms.take (i + 1)).filter (keepM R) = ms.take (i + 1) := by
          rw [takeSnoc he, List.filter_append, h2]
          simp [keepM, hr]
        have hs : l17_3_2 (((i : Int), ((ms.length : Nat) : Int), ()), (ms, (nc, ()), F, R, ())) = some (.inl ((((i + 1 : Nat) : Int), ((ms.length : Nat) : Int), ()), (ms, (nc, ()), F, R, ()))) := by
          simp only [l17_3_2, lt_t hi, hb, Int.toNat_natCast, he, q, hr, hw, eq_self, sumE, sS]
        rw [loopT_inl hs]
        exact ih (i + 1) (by omega) h3
      · dsimp only [mKey] at hr
        refine .inr ⟨i, hi, loopT_inr ?_, ?_⟩
        · simp only [l17_3_2, lt_t hi, hb, Int.toNat_natCast, he, q, hr, hw, eq_self, sumE, sS]
        · rw [takeSnoc he, List.filter_append, h2]
          simp [keepM, hr]
  exact key ms.length 0 (by omega) rfl

theorem strike_p (ms : List MbT) (nc : NtC) (F R : List ByteArray) (hl : ms.length ≤ 256) (hR : R.length ≤ big) : ∀ (d src dst : Nat) (blk : List MbT), src + d = ms.length → dst < src → blk.length = ms.length →
    blk.take dst = (ms.take src).filter (keepM R) → blk.drop src = ms.drop src →
    ∃ (dst' : Nat) (blk' : List MbT), loopT l17_2_5 (((src : Int), (dst : Int), ()), (blk, (nc, ()), F, R, ())) = some (((dst' : Int), ()), (blk', (nc, ()), F, R, ())) ∧ dst' ≤ ms.length ∧ blk'.length = ms.length ∧ blk'.take dst' = ms.filter (keepM R) := by
  intro d
  induction d with
  | zero =>
    intro src dst blk h1 h2 h3 h4 h5
    obtain rfl : src = ms.length := by omega
    rw [List.take_length] at h4
    refine ⟨dst, blk, loopT_inr ?_, by omega, h3, h4⟩
    have : decide ((ms.length : Int) < ((blk.length : Nat) : Int)) = false := decide_eq_false (by omega)
    simp only [l17_2_5, this, sumE, sS]
  | succ d ih =>
    intro src dst blk h1 h2 h3 h4 h5
    obtain ⟨e, he⟩ := getD_some (l := ms) (i := src) (by omega)
    have he' : blk[src]? = some e := by
      have := congrArg (fun l => l[0]?) h5
      simp only [List.getElem?_drop, Nat.add_zero] at this
      rw [this, he]
    have c1 : decide ((src : Int) < ((blk.length : Nat) : Int)) = true := decide_eq_true (by omega)
    have c2 : decide ((0 : Int) ≤ (src : Int) ∧ (src : Int) < (blk.length : Int)) = true := decide_eq_true (by omega)
    have c3 : decide ((0 : Int) ≤ (dst : Int) ∧ (dst : Int) < (blk.length : Int)) = true := decide_eq_true (by omega)
    have c4 : decide (dst < blk.length) = true := decide_eq_true (by omega)
    have w1 : w64 ((src : Int) + 1) = ((src + 1 : Nat) : Int) := w64_nat (by omega)
    have w2 : w64 ((dst : Int) + 1) = ((dst + 1 : Nat) : Int) := w64_nat (by omega)
    have q := has_p R (mKey e) hR
    dsimp only [mKey] at q
    cases hr : muB R (mKey e)
    · dsimp only [mKey] at hr
      have hs : l17_2_5 (((src : Int), (dst : Int), ()), (blk, (nc, ()), F, R, ())) = some (.inl ((((src + 1 : Nat) : Int), ((dst + 1 : Nat) : Int), ()), (blk.set dst e, (nc, ()), F, R, ()))) := by
        simp only [l17_2_5, c1, c2, Int.toNat_natCast, he', q, hr, c3, c4, w1, w2, eq_self, sumE, sS]
      rw [loopT_inl hs]
      refine ih (src + 1) (dst + 1) (blk.set dst e) (by omega) (by omega) (by rw [List.length_set, h3]) ?_ ?_
      · rw [takeSnoc he, List.filter_append, ← h4]
        rw [takeSnoc (e := e) (by rw [List.getElem?_set_self (by omega)]), take_set_self]
        simp [keepM, hr]
      · rw [List.drop_set, if_pos (by omega)]
        rw [← List.drop_drop, ← List.drop_drop, h5]
    · dsimp only [mKey] at hr
      have hs : l17_2_5 (((src : Int), (dst : Int), ()), (blk, (nc, ()), F, R, ())) = some (.inl ((((src + 1 : Nat) : Int), (dst : Int), ()), (blk, (nc, ()), F, R, ()))) := by
        simp only [l17_2_5, c1, c2, Int.toNat_natCast, he', q, hr, w1, eq_self, sumE, sS]
      rw [loopT_inl hs]
      refine ih (src + 1) dst blk (by omega) (by omega) h3 ?_ ?_
      · rw [takeSnoc he, List.filter_append, ← h4]
        simp [keepM, hr]
      · rw [← List.drop_drop, ← List.drop_drop, h5]

end Go.Proofs.Ytcblbcpnfidndaa

namespace Go.Proofs.Ytcblbcpnfidndaa
open Go Go.Abs Go.Lab
abbrev PgT := Int × ByteArray × (Nat × Nat) × Int × Int × Unit

theorem tell_p (M T : List MbT) (nc : NtC) (g : PgT) (c0 : Cor) (n0 : NtC) (r : RtT) (F R : List ByteArray) (ok : Bool) (t : Int) (hl : M.length ≤ 256) (hF : F.length ≤ big) (hg : g.2.2.1 = (0, M.length)) :
    loopT l17_0_13 (((0 : Int), (0, M.length), ok, t, ((M.length : Nat) : Int), ()), ((nc, ()), (g, ()), M ++ T, (c0, ()), (n0, ()), (r, ()), F, R, ())) =
      some ((ok, t, ()), ((c0, ()), (n0, ()), (nc, ()), (g, ()), (r, ()), F, R, M.map (tellM F) ++ T, ())) := by
  obtain ⟨rt, ky, pt, du, se, ⟨⟩⟩ := g
  dsimp only at hg
  subst hg
  have := loop_thru (f := l17_0_13) M (fun i => (((i : Int), (0, M.length), ok, t, ((M.length : Nat) : Int), ()), ((nc, ()), ((rt, ky, (0, M.length), du, se, ()), ()), (M.take i).map (tellM F) ++ (M.drop i ++ T), (c0, ()), (n0, ()), (r, ()), F, R, ())))
    ((ok, t, ()), ((c0, ()), (n0, ()), (nc, ()), ((rt, ky, (0, M.length), du, se, ()), ()), (r, ()), F, R, M.map (tellM F) ++ T, ())) ?_ ?_
  · exact this
  · intro i e he hi
    obtain ⟨e', he', hd⟩ := drop_at hi
    rw [he] at he'
    injection he' with he'
    subst he'
    have hw : w64 ((i : Int) + 1) = ((i + 1 : Nat) : Int) := w64_nat (by omega)
    have hb : decide ((0 : Int) ≤ (i : Int) ∧ (i : Int) < (M.length : Int)) = true := decide_eq_true (by omega)
    have hA : ((M.take i).map (tellM F)).length = i := by simp; omega
    rw [hd, List.cons_append]
    have at1 : ∀ B : List MbT, ((M.take i).map (tellM F) ++ e :: B)[i]? = some e := fun B => by
      have := app_at ((M.take i).map (tellM F)) e B
      rwa [hA] at this
    have st1 : ∀ (x : MbT) (B : List MbT), ((M.take i).map (tellM F) ++ e :: B).set i x = (M.take i).map (tellM F) ++ x :: B := fun x B => by
      have := app_set ((M.take i).map (tellM F)) e x B
      rwa [hA] at this
    have q := has_p F (mKey e) hF
    dsimp only [mKey] at q
    have hx : (M.take (i + 1)).map (tellM F) ++ (M.drop (i + 1) ++ T) = (M.take i).map (tellM F) ++ tellM F e :: (M.drop (i + 1) ++ T) := by
      rw [takeSnoc he, List.map_append, List.append_assoc]; rfl
    rw [hx]
    obtain ⟨mk, ml, mn, mh, mf, mt', ⟨⟩⟩ := e
    dsimp only at q
    simp only [l17_0_13, lt_t hi, hb, Int.toNat_natCast, Nat.zero_add, at1, st1, q, hw, sumE, sS]
    cases mt' <;> simp only [st1, hw, tellM, mTold, mKey, Bool.true_or, Bool.false_or, sumE, sS]
  · rw [List.take_length, List.drop_length, List.nil_append]
    simp only [l17_0_13, lt_f, sumE, sS]

theorem open_p (l : List MbT) (hl : l.length ≤ 256) : ∃ j : Nat, loopT l17_7_2 (((0 : Int), l, (l.length : Int), ()), ()) = some (bif opnB l then .inl (((j : Int), ()), ()) else .inr ((), ())) := by
  have h := loop_list0 (f := l17_7_2) l (fun i (_ : Unit) => (((i : Int), l, (l.length : Int), ()), ())) (fun i _ e => bif !mTold e then .inr (.inl (((i : Int), ()), ())) else .inl ()) (fun _ => .inr ((), ())) ?_ ?_ ()
  · obtain ⟨j, _, hj⟩ := runL_any (fun e : MbT => !mTold e) (fun i : Nat => (Sum.inl (((i : Int), ()), ()) : ((Int × Unit) × Unit) ⊕ (Unit × Unit))) (.inr ((), ())) l 0
    exact ⟨j, h.trans (congrArg some hj)⟩
  · intro i e _ he hi
    have hw : w64 ((i : Int) + 1) = ((i + 1 : Nat) : Int) := w64_nat (by omega)
    have q : m54 ((e, ()), ()) = some ((!mTold e, ()), ()) := rfl
    simp only [l17_7_2, rowAt_G, rowG_nat he, lt_t hi, q, sumE, sS]
    cases mTold e <;> simp only [sumE, sS, hw]
  · intro _
    simp only [l17_7_2, lt_f, sumE, sS]

/-- The form of the program's result. -/
def LookOK (x : LkT) (o : Option ((Bool × Int × Unit) × ((PgT × Unit) × (NtC × Unit) × List MbT × List ByteArray × List ByteArray × Unit))) : Prop :=
  ∃ (n : Nat) (blk : List MbT), o = some ((x.1, 0, ()), (((x.2.1.1, x.2.1.2.1, (0, n), x.2.1.2.2.1, x.2.1.2.2.2.1, ()), ()), (x.2.2.1, ()), blk, x.2.2.2.2.1, x.2.2.2.2.2, ())) ∧ n ≤ blk.length ∧ blk.take n = x.2.2.2.1

theorem look_bind {A : Type} {y : LkT} {o : Option A} {f : A → Option ((Bool × Int × Unit) × ((PgT × Unit) × (NtC × Unit) × List MbT × List ByteArray × List ByteArray × Unit))} (x : A) (h : o = some x) (h2 : LookOK y (f x)) : LookOK y (o.bind f) := by
  rw [h]; exact h2

theorem look_ex {A : Type} {y : LkT} {o : Option A} {f : A → Option ((Bool × Int × Unit) × ((PgT × Unit) × (NtC × Unit) × List MbT × List ByteArray × List ByteArray × Unit))} (P : A → Prop) (h : ∃ x, o = some x ∧ P x) (h2 : ∀ x, P x → LookOK y (f x)) : LookOK y (o.bind f) := by
  obtain ⟨x, rfl, hp⟩ := h
  exact h2 x hp

theorem exb {A B : Type} {o : Option A} {f : A → Option B} {Q : B → Prop} (x : A) (h : o = some x) (h2 : ∃ b, f x = some b ∧ Q b) : ∃ b, o.bind f = some b ∧ Q b := by
  rw [h]; exact h2

theorem exP {A B : Type} {o : Option A} {f : A → Option B} {Q : B → Prop} (P : A → Prop) (h : ∃ x, o = some x ∧ P x) (h2 : ∀ x, P x → ∃ b, f x = some b ∧ Q b) : ∃ b, o.bind f = some b ∧ Q b := by
  obtain ⟨x, rfl, hp⟩ := h
  exact h2 x hp

theorem len0n (n : Nat) : (((n : Nat) : Int) == 0) = decide (n = 0) := by
  rw [beq_decide]; exact decide_eq_decide.2 (by omega)

theorem look_p {g : GpT} (h : VG g) {r : RtT} (hr : RR r) {t : Int} (ht : 0 ≤ t ∧ t ≤ 8589934592) {mu : List ByteArray} (hm : mu.length ≤ big) : LookOK (gLook g r t mu) (m17 ((g, r, t, mu, ()), ())) := by
  have q1 := m23_eq h
  have q2 := m36_eq r hr.z
  rw [hr.ok] at q2
  have q6 := copy41 h
  have dt : decide ((0 : Int) ≤ t ∧ t ≤ 8589934592) = true := decide_eq_true ht
  have hlen := h.len
  have hsent := h.sent
  have hdue := h.due
  have hir := hr.int
  have hwa := hr.wait
  have hrp := hr.rep
  have hmx := hr.max
  obtain ⟨rt, ky, ms, du, se, ⟨⟩⟩ := g
  obtain ⟨pa, mt, po, gb, wa, ir, rp, co, ⟨⟩⟩ := r
  dsimp only [gMem, gDue, gSent, rWait, rInt, rRep, cor] at *
  have qn := fun nc c => notice_p ms mu t nc (pa, mt, po, gb, wa, ir, rp, co, ()) c hlen hm
  unfold m17 gLook
  dsimp only [gMem, gDue, gSent, rInt, rRep, dueC]
  simp only [q1, q2, q6, m38_eq, dt, sumE, sS]
  have w1 : w64 (se + rp) = se + rp := w64_id (by omega) (by omega)
  have w2 : w64 (t + 1) = t + 1 := w64_id (by omega) (by omega)
  have w3 : w64 (t + ir) = t + ir := w64_id (by omega) (by omega)
  have w4 : w64 (t + rp) = t + rp := w64_id (by omega) (by omega)
  by_cases h1 : du = -1
  · subst h1
    rw [if_pos (.inl rfl)]
    simp only [beq_self_eq_true, sumE, sS]
    exact ⟨ms.length, ms, rfl, Nat.le_refl _, List.take_length⟩
  have b1 : (du == -1) = false := beq_eq_false_iff_ne.2 h1
  rw [b1]
  by_cases h2 : du > t
  · rw [if_pos (.inr h2)]
    simp only [decide_eq_true h2, sumE, sS]
    exact ⟨ms.length, ms, rfl, Nat.le_refl _, List.take_length⟩
  rw [if_neg (by rintro (h | h) <;> contradiction)]
  simp only [decide_eq_false h2, qn, sumE, sS]
  have fl := firL_len mu ms
  have rl := resL_len mu ms
  refine look_bind ((againB se rp t (firL mu ms), freB mu ms, ()), ms, (zeroN, ()), ((t, rt, po, ky, ()), ()), firL mu ms, resL mu ms, ()) ?_ ?_
  · unfold againB
    rw [show decide (((firL mu ms).length : Int) > 0) = decide (0 < (firL mu ms).length) from decide_eq_decide.2 (by omega), w1]
    cases decide (0 < (firL mu ms).length) <;> cases (se != -1) <;> simp only [sumE, sS]
  dsimp only
  refine look_bind ((newsB se rp t mu ms, ()), ms, ((t, rt, po, ky, ()), ()), firL mu ms, resL mu ms, ()) ?_ ?_
  · unfold newsB
    rw [show decide (((resL mu ms).length : Int) > 0) = decide (0 < (resL mu ms).length) from decide_eq_decide.2 (by omega)]
    cases freB mu ms <;> cases againB se rp t (firL mu ms) <;> simp only [Bool.true_or, Bool.false_or, sumE, sS]
  dsimp only
  rw [show decide (ms.length = ms.length) = true from decide_eq_true rfl, cond_true]
  refine look_ex (fun x => ∃ (ok : Bool) (se' : Int) (n : Nat) (blk : List MbT) (F' R' : List ByteArray) (nc : NtC) (c0 : Cor) (n0 : NtC), x = ((ok, t, ()), (c0, ()), (n0, ()), (nc, ()), ((rt, ky, (0, n), du, se', ()), ()), ((pa, mt, po, gb, wa, ir, rp, co, ()), ()), F', R', blk, ()) ∧
    n ≤ blk.length ∧ blk.length ≤ 256 ∧ (-1 ≤ se' ∧ se' ≤ 8589934592) ∧ (if newsB se rp t mu ms = true then
      ((true, (rt, ky, (if (aftL (firL mu ms) (resL mu ms) ms).length = 0 then -1 else nextD t ir rp t (opnB (aftL (firL mu ms) (resL mu ms) ms))), t, ()), (t, rt, po, ky, ()), aftL (firL mu ms) (resL mu ms) ms, firL mu ms, resL mu ms) : LkT)
      else (false, (rt, ky, (if ms.length = 0 then -1 else nextD se ir rp t (opnB ms)), se, ()), zeroN, ms, [], [])) = (ok, (rt, ky, (if (blk.take n).length = 0 then -1 else nextD se' ir rp t (opnB (blk.take n))), se', ()), nc, blk.take n, F', R')) ?_ ?_
  · cases newsB se rp t mu ms
    · refine ⟨_, rfl, false, se, ms.length, ms, [], [], zeroN, zeroC, zeroN, rfl, Nat.le_refl _, hlen, hsent, ?_⟩
      rw [List.take_length]
      rfl
    · rw [cond_true]
      refine exP (fun x => ∃ (n : Nat) (blk : List MbT), x = ((true, t, ()), ((t, rt, po, ky, ()), ()), ((rt, ky, (0, n), du, t, ()), ()), (zeroC, ()), (zeroN, ()), ((pa, mt, po, gb, wa, ir, rp, co, ()), ()), firL mu ms, resL mu ms, blk, ()) ∧ n ≤ blk.length ∧ blk.length = ms.length ∧ blk.take n = ms.filter (keepM (resL mu ms))) ?_ ?_
      · rcases index_p ms (t, rt, po, ky, ()) (firL mu ms) (resL mu ms) hlen (by unfold big; omega) with ⟨e, hf⟩ | ⟨j, hj, e, hf⟩
        · rw [e]
          simp only [eq_self, beq_self_eq_true, sumE, sS]
          exact ⟨_, rfl, ms.length, ms, rfl, Nat.le_refl _, rfl, by rw [List.take_length, hf]⟩
        · have bj : ((j : Int) == -1) = false := beq_eq_false_iff_ne.2 (by omega)
          have wj : w64 ((j : Int) + 1) = ((j + 1 : Nat) : Int) := w64_nat (by omega)
          rw [e]
          simp only [eq_self, bj, wj, sumE, sS]
          obtain ⟨dst, blk, e2, h3, h4, h5⟩ := strike_p ms (t, rt, po, ky, ()) (firL mu ms) (resL mu ms) hlen (by unfold big; omega) (ms.length - (j + 1)) (j + 1) j ms (by omega) (by omega) rfl hf.symm rfl
          refine exb _ e2 ?_
          have d1 : decide ((0 : Int) ≤ (dst : Int)) = true := decide_eq_true (by omega)
          have d2 : decide (dst ≤ blk.length ∧ True) = true := decide_eq_true ⟨by omega, trivial⟩
          have d3 : decide (dst + (blk.length - dst) ≤ blk.length) = true := decide_eq_true (by omega)
          have d0 : decide (dst ≤ blk.length ∧ blk.length ≤ blk.length) = true := decide_eq_true (by omega)
          have sl : (spliceL blk dst (List.replicate (blk.length - dst) ((ByteArray.empty, [], 0, 0, false, false, ()) : MbT))).length = blk.length := by
            unfold spliceL
            simp; omega
          have st : (spliceL blk dst (List.replicate (blk.length - dst) ((ByteArray.empty, [], 0, 0, false, false, ()) : MbT))).take dst = blk.take dst := by
            unfold spliceL
            rw [List.append_assoc, List.take_append_of_le_length (by rw [List.length_take]; omega), List.take_of_length_le (by rw [List.length_take]; omega)]
          have d4 : decide (0 ≤ dst ∧ dst ≤ blk.length) = true := decide_eq_true (by omega)
          have d5 : decide (blk.length = ms.length) = true := decide_eq_true h4
          simp only [d1, d0, d3, d4, d5, sl, Int.toNat_natCast, eq_self, sumE, sS]
          exact ⟨_, rfl, dst, _, rfl, by rw [sl]; omega, by rw [sl, h4], by rw [st, h5]⟩
      · rintro _ ⟨n, blk, rfl, h1, h2, h3⟩
        dsimp only
        have hMl : (blk.take n).length = n := by rw [List.length_take]; omega
        have q := tell_p (blk.take n) (blk.drop n) (t, rt, po, ky, ()) (rt, ky, (0, n), du, t, ()) zeroC zeroN (pa, mt, po, gb, wa, ir, rp, co, ()) (firL mu ms) (resL mu ms) true t (by rw [hMl]; omega) (by unfold big; omega) (by rw [hMl])
        rw [List.take_append_drop, hMl] at q
        refine exb _ q ?_
        have ht2 : (List.map (tellM (firL mu ms)) (List.take n blk) ++ List.drop n blk).take n = aftL (firL mu ms) (resL mu ms) ms := by
          rw [List.take_append_of_le_length (by rw [List.length_map, hMl]; exact Nat.le_refl _), List.take_of_length_le (by rw [List.length_map, hMl]; exact Nat.le_refl _), h3]
          rfl
        refine ⟨_, rfl, true, t, n, _, firL mu ms, resL mu ms, (t, rt, po, ky, ()), zeroC, zeroN, rfl, by simp; omega, by simp; omega, by omega, ?_⟩
        rw [ht2]
        rfl
  · rintro _ ⟨ok, se', n, blk, F', R', nc, c0, n0, rfl, h3, h4, h5, h6⟩
    rw [h6]
    dsimp only
    have w5 : w64 (se' + rp) = se' + rp := w64_id (by omega) (by omega)
    have d1 : decide (0 + n ≤ blk.length) = true := decide_eq_true (by omega)
    obtain ⟨j, ho⟩ := open_p (blk.take n) (by rw [List.length_take]; omega)
    have hl : (blk.take n).length = n := by rw [List.length_take]; omega
    rw [hl] at ho
    simp only [d1, List.drop_zero, hl, w2, w3, w5, sumE, sS]
    refine look_bind ((opnB (blk.take n), ()), ()) ?_ ?_
    · refine bind_of _ ho ?_
      have dj : decide ((j : Int) ≥ 0) = true := decide_eq_true (by omega)
      cases opnB (blk.take n) <;> simp only [dj, sumE, sS]
    dsimp only
    have mx : ∀ d : Int, (if t + 1 > d then t + 1 else d) = max d (t + 1) := fun d => by split <;> omega
    unfold nextD
    cases opnB (blk.take n)
    · by_cases hp : se' + rp ≤ t
      · simp only [decide_eq_true hp, w3, w2, mx, lim_p, len0n, hp, or_true, if_true, eq_self, sumE, sS]
        by_cases hn : n = 0
        · simp only [hn, eq_self, if_true, sumE, sS]
          exact ⟨0, blk, rfl, Nat.zero_le _, rfl⟩
        · simp only [hn, if_false, sumE, sS]
          exact ⟨n, blk, rfl, h3, rfl⟩
      · simp only [decide_eq_false hp, w3, w2, mx, lim_p, len0n, hp, or_self, Bool.false_eq_true, if_false, eq_self, sumE, sS]
        by_cases hn : n = 0
        · simp only [hn, eq_self, if_true, sumE, sS]
          exact ⟨0, blk, rfl, Nat.zero_le _, rfl⟩
        · simp only [hn, if_false, sumE, sS]
          exact ⟨n, blk, rfl, h3, rfl⟩
    · simp only [w3, w2, mx, lim_p, len0n, true_or, if_true, eq_self, sumE, sS]
      by_cases hn : n = 0
      · simp only [hn, eq_self, if_true, sumE, sS]
        exact ⟨0, blk, rfl, Nat.zero_le _, rfl⟩
      · simp only [hn, if_false, sumE, sS]
        exact ⟨n, blk, rfl, h3, rfl⟩

end Go.Proofs.Ytcblbcpnfidndaa

namespace Go.Proofs.Ytcblbcpnfidndaa
open Go Go.Abs Go.Lab
def nwsB (mu : List ByteArray) (l : List MbT) : Bool := freB mu l || decide (0 < (resL mu l).length)

theorem notice_r {g : GpT} (mu : List ByteArray) (t : Int) (nc : NtC) (r : RtT) (c c0 : Cor) (n0 : NtC) (oms : List MbT) (hl : (gMem g).length ≤ 256) (hm : mu.length ≤ big) :
    loopT l31_0_11 (((0 : Int), false, mu, t, ()), ((nc, ()), (g, ()), (c, ()), (c0, ()), (n0, ()), (r, ()), [], [], oms, ())) =
      some ((t, nwsB mu (gMem g), ()), ((c, ()), (nc, ()), (g, ()), (c0, ()), (n0, ()), (r, ()), oms, firL mu (gMem g), resL mu (gMem g), ())) := by
  obtain ⟨rt, ky, ms, du, se, ⟨⟩⟩ := g
  dsimp only [gMem] at *
  have := loop_thru (f := l31_0_11) ms (fun i => (((i : Int), nwsB mu (ms.take i), mu, t, ()), ((nc, ()), ((rt, ky, ms, du, se, ()), ()), (c, ()), (c0, ()), (n0, ()), (r, ()), firL mu (ms.take i), resL mu (ms.take i), oms, ())))
    ((t, nwsB mu ms, ()), ((c, ()), (nc, ()), ((rt, ky, ms, du, se, ()), ()), (c0, ()), (n0, ()), (r, ()), oms, firL mu ms, resL mu ms, ())) ?_ ?_
  · exact this
  · intro i e he hi
    have hw : w64 ((i : Int) + 1) = ((i + 1 : Nat) : Int) := w64_nat (by omega)
    have f1 := firL_len mu (ms.take i)
    have f2 := resL_len mu (ms.take i)
    rw [List.length_take] at f1 f2
    have c1 : decide ((firL mu (ms.take i)).length + [mKey e].length ≤ 4294967296) = true := decide_eq_true (by simp; omega)
    have c2 : decide ((resL mu (ms.take i)).length + [mKey e].length ≤ 4294967296) = true := decide_eq_true (by simp; omega)
    have q := has_r mu (mKey e) hm
    obtain ⟨mk, ml, mn, mh, mf, mt', ⟨⟩⟩ := e
    dsimp only [mKey] at q c1 c2
    have h1 : decide ((i : Int) < (ms.length : Int)) = true := lt_t hi
    unfold nwsB
    rw [takeSnoc he, firL_snoc, resL_snoc, freB_snoc]
    simp only [l31_0_11, h1, rowAt_G, rowG_nat he, q, mKey, mFire, mTold, sumE, sS]
    cases muB mu mk
    · cases mf
      · have : decide (0 < (resL mu (ms.take i) ++ [mk]).length) = true := decide_eq_true (by simp)
        simp only [c2, hw, this, List.append_nil, Bool.or_false, Bool.or_true, if_true, if_false, Bool.false_eq_true, sumE, sS]
      · simp only [c1, hw, List.append_nil, Bool.or_false, if_true, if_false, Bool.false_eq_true, sumE, sS]
        cases freB mu (ms.take i) <;> cases decide (0 < (resL mu (ms.take i)).length) <;> simp only [hw, Bool.true_or, Bool.false_or, Bool.or_true, Bool.or_false, sumE, sS]
    · simp only [hw, List.append_nil, Bool.or_false, if_true, if_false, Bool.false_eq_true, sumE, sS]
  · rw [List.take_length]
    simp only [l31_0_11, lt_f, sumE, sS]

theorem aftL_snoc (F R : List ByteArray) (l : List MbT) (e : MbT) : aftL F R (l ++ [e]) = aftL F R l ++ (if muB R (mKey e) = true then [] else [tellM F e]) := by
  unfold aftL
  rw [List.filter_append, List.map_append]
  cases h : muB R (mKey e) <;> simp [h]

theorem aftL_len (F R : List ByteArray) (l : List MbT) : (aftL F R l).length ≤ l.length := by
  unfold aftL; rw [List.length_map]; exact List.length_filter_le _ _

theorem after_r {g : GpT} (t : Int) (ok : Bool) (nc : NtC) (r : RtT) (c c0 : Cor) (n0 : NtC) (F R : List ByteArray) (hl : (gMem g).length ≤ 256) (hF : F.length ≤ big) (hR : R.length ≤ big) :
    loopT l31_0_25 (((0 : Int), ok, t, ()), ((c, ()), (nc, ()), (g, ()), (c0, ()), (n0, ()), (r, ()), [], F, R, ())) =
      some ((ok, t, ()), ((c, ()), (c0, ()), (n0, ()), (nc, ()), (r, ()), aftL F R (gMem g), F, R, ())) := by
  obtain ⟨rt, ky, ms, du, se, ⟨⟩⟩ := g
  dsimp only [gMem] at *
  have := loop_thru (f := l31_0_25) ms (fun i => (((i : Int), ok, t, ()), ((c, ()), (nc, ()), ((rt, ky, ms, du, se, ()), ()), (c0, ()), (n0, ()), (r, ()), aftL F R (ms.take i), F, R, ())))
    ((ok, t, ()), ((c, ()), (c0, ()), (n0, ()), (nc, ()), (r, ()), aftL F R ms, F, R, ())) ?_ ?_
  · exact this
  · intro i e he hi
    have hw : w64 ((i : Int) + 1) = ((i + 1 : Nat) : Int) := w64_nat (by omega)
    have f1 := aftL_len F R (ms.take i)
    rw [List.length_take] at f1
    have c1 : ∀ x : MbT, decide ((aftL F R (ms.take i)).length + [x].length ≤ 4294967296) = true := fun x => decide_eq_true (by simp; omega)
    have q := has_r R (mKey e) hR
    have q2 := has_r F (mKey e) hF
    obtain ⟨mk, ml, mn, mh, mf, mt', ⟨⟩⟩ := e
    dsimp only [mKey] at q q2
    have h1 : decide ((i : Int) < (ms.length : Int)) = true := lt_t hi
    rw [takeSnoc he, aftL_snoc]
    simp only [l31_0_25, h1, rowAt_G, rowG_nat he, q, mKey, tellM, mTold, sumE, sS]
    cases muB R mk
    · cases mt' <;> simp only [q2, c1, hw, Bool.true_or, Bool.false_or, if_true, if_false, Bool.false_eq_true, sumE, sS]
    · simp only [hw, List.append_nil, if_true, sumE, sS]
  · rw [List.take_length]
    simp only [l31_0_25, lt_f, sumE, sS]

theorem opnB_snoc (l : List MbT) (e : MbT) : opnB (l ++ [e]) = (opnB l || !mTold e) := by
  unfold opnB; rw [List.any_append]; simp

theorem untold_r (t : Int) (ok : Bool) (nc : NtC) (r : RtT) (c c0 : Cor) (n0 : NtC) (F R : List ByteArray) (ms : List MbT) (hl : ms.length ≤ 256) :
    loopT l31_0_34 (((0 : Int), false, ok, t, ()), ((c, ()), (c0, ()), (n0, ()), (nc, ()), (r, ()), ms, F, R, ())) =
      some ((ok, t, opnB ms, ()), ((c0, ()), (n0, ()), (nc, ()), (c, ()), (r, ()), F, R, ms, ())) := by
  have := loop_thru (f := l31_0_34) ms (fun i => (((i : Int), opnB (ms.take i), ok, t, ()), ((c, ()), (c0, ()), (n0, ()), (nc, ()), (r, ()), ms, F, R, ())))
    ((ok, t, opnB ms, ()), ((c0, ()), (n0, ()), (nc, ()), (c, ()), (r, ()), F, R, ms, ())) ?_ ?_
  · exact this
  · intro i e he hi
    have hw : w64 ((i : Int) + 1) = ((i + 1 : Nat) : Int) := w64_nat (by omega)
    have h1 : decide ((i : Int) < ((ms.length : Nat) : Int)) = true := lt_t hi
    have h2 : decide ((0 : Int) ≤ (i : Int) ∧ (i : Int) < (ms.length : Int)) = true := decide_eq_true (by omega)
    rw [takeSnoc he, opnB_snoc]
    simp only [l31_0_34, h1, h2, Int.toNat_natCast, he, sumE, sS]
    cases opnB (ms.take i) <;> simp only [hw, Bool.true_or, Bool.false_or, sumE, sS]
  · rw [List.take_length]
    have h1 : decide ((ms.length : Int) < ((ms.length : Nat) : Int)) = false := lt_f _
    simp only [l31_0_34, h1, sumE, sS]

theorem eq_ex {A B : Type} {o : Option A} {f : A → Option B} {y : Option B} (P : A → Prop) (h : ∃ x, o = some x ∧ P x) (h2 : ∀ x, P x → f x = y) : o.bind f = y := by
  obtain ⟨x, rfl, hp⟩ := h
  exact h2 x hp

theorem look_r {g : GpT} (h : VG g) {r : RtT} (hr : RR r) {t : Int} (ht : 0 ≤ t ∧ t ≤ 8589934592) {mu : List ByteArray} (hm : mu.length ≤ big) :
    m31 ((g, r, t, mu, ()), ()) = some (((gLook g r t mu).1, 0, ()), (((gLook g r t mu).2.1, ()), ((gLook g r t mu).2.2.1, ()), (gLook g r t mu).2.2.2.1, (gLook g r t mu).2.2.2.2.1, (gLook g r t mu).2.2.2.2.2, ())) := by
  have q1 := m24_eq h
  have q2 := m59_eq r hr.z
  rw [hr.ok] at q2
  have hlen := h.len
  have q6 := copy_r (g := g) (by omega)
  have dt : inst t = true := decide_eq_true ht
  have hsent := h.sent
  have hdue := h.due
  have hir := hr.int
  have hwa := hr.wait
  have hrp := hr.rep
  have hmx := hr.max
  obtain ⟨rt, ky, ms, du, se, ⟨⟩⟩ := g
  obtain ⟨pa, mt, po, gb, wa, ir, rp, co, ⟨⟩⟩ := r
  dsimp only [gMem, gDue, gSent, rWait, rInt, rRep, cor] at *
  have qn := notice_r (g := (rt, ky, ms, du, se, ())) mu t (t, rt, po, ky, ()) (pa, mt, po, gb, wa, ir, rp, co, ()) (rt, ky, du, se, ()) zeroC zeroN ms hlen hm
  dsimp only [gMem] at qn
  unfold m31 gLook
  dsimp only [gMem, gDue, gSent, rInt, rRep, dueC]
  simp only [q1, q2, q6, m58_eq, dt, sumE, sS]
  have w1 : w64 (se + rp) = se + rp := w64_id (by omega) (by omega)
  have w2 : w64 (t + 1) = t + 1 := w64_id (by omega) (by omega)
  have w3 : w64 (t + ir) = t + ir := w64_id (by omega) (by omega)
  have w4 : w64 (t + rp) = t + rp := w64_id (by omega) (by omega)
  by_cases h1 : du = -1
  · subst h1
    rw [if_pos (.inl rfl)]
    simp only [beq_self_eq_true, sumE, sS]
  have b1 : (du == -1) = false := beq_eq_false_iff_ne.2 h1
  rw [b1]
  by_cases h2 : du > t
  · rw [if_pos (.inr h2)]
    simp only [decide_eq_true h2, sumE, sS]
  rw [if_neg (by rintro (h | h) <;> contradiction)]
  simp only [decide_eq_false h2, qn, sumE, sS]
  have fl := firL_len mu ms
  have rl := resL_len mu ms
  refine bind_of ((newsB se rp t mu ms, t, ()), ((rt, ky, du, se, ()), ()), ((t, rt, po, ky, ()), ()), ((rt, ky, ms, du, se, ()), ()), (zeroC, ()), (zeroN, ()), ((pa, mt, po, gb, wa, ir, rp, co, ()), ()), ms, firL mu ms, resL mu ms, ()) ?_ ?_
  · unfold newsB nwsB againB
    rw [show decide (((firL mu ms).length : Int) > 0) = decide (0 < (firL mu ms).length) from decide_eq_decide.2 (by omega), w1]
    cases decide (0 < (firL mu ms).length) <;> cases (se != -1) <;> cases decide (se + rp ≤ t) <;> simp only [Bool.true_or, Bool.false_or, Bool.or_true, Bool.or_false, sumE, sS]
  dsimp only
  have mx : ∀ d : Int, (if d > t + 1 then d else t + 1) = max d (t + 1) := fun d => by split <;> omega
  refine eq_ex (fun x => ∃ (ok : Bool) (se' : Int) (MS : List MbT) (nc : NtC) (F R : List ByteArray) (c0 : Cor) (n0 : NtC), x = ((ok, t, ()), ((rt, ky, du, se', ()), ()), (c0, ()), (n0, ()), (nc, ()), ((pa, mt, po, gb, wa, ir, rp, co, ()), ()), MS, F, R, ()) ∧
    MS.length ≤ 256 ∧ (-1 ≤ se' ∧ se' ≤ 8589934592) ∧ (if newsB se rp t mu ms = true then
      ((true, (rt, ky, (if (aftL (firL mu ms) (resL mu ms) ms).length = 0 then -1 else nextD t ir rp t (opnB (aftL (firL mu ms) (resL mu ms) ms))), t, ()), (t, rt, po, ky, ()), aftL (firL mu ms) (resL mu ms) ms, firL mu ms, resL mu ms) : LkT)
      else (false, (rt, ky, (if ms.length = 0 then -1 else nextD se ir rp t (opnB ms)), se, ()), zeroN, ms, [], [])) = (ok, (rt, ky, (if MS.length = 0 then -1 else nextD se' ir rp t (opnB MS)), se', ()), nc, MS, F, R)) ?_ ?_
  · cases newsB se rp t mu ms
    · refine ⟨_, rfl, false, se, ms, zeroN, [], [], zeroC, zeroN, rfl, hlen, hsent, rfl⟩
    · have qa := after_r (g := (rt, ky, ms, du, se, ())) t true (t, rt, po, ky, ()) (pa, mt, po, gb, wa, ir, rp, co, ()) (rt, ky, du, t, ()) zeroC zeroN (firL mu ms) (resL mu ms) hlen (by unfold big; omega) (by unfold big; omega)
      rw [cond_true]
      refine exb _ qa ?_
      have := aftL_len (firL mu ms) (resL mu ms) ms
      exact ⟨_, rfl, true, t, aftL (firL mu ms) (resL mu ms) ms, (t, rt, po, ky, ()), firL mu ms, resL mu ms, zeroC, zeroN, rfl, by omega, by omega, rfl⟩
  · rintro _ ⟨ok, se', MS, nc, F, R, c0, n0, rfl, h4, h5, h6⟩
    rw [h6]
    dsimp only
    have w5 : w64 (se' + rp) = se' + rp := w64_id (by omega) (by omega)
    refine bind_of _ (untold_r t ok nc (pa, mt, po, gb, wa, ir, rp, co, ()) (rt, ky, du, se', ()) c0 n0 F R MS h4) ?_
    simp only [w2, w3, w5, sumE, sS]
    unfold nextD
    cases opnB MS
    · by_cases hp : se' + rp ≤ t
      · simp only [decide_eq_true hp, w3, w2, mx, lim_r, len0, hp, or_true, if_true, eq_self, sumE, sS]
        by_cases hn : MS.length = 0
        · simp only [hn, eq_self, if_true, sumE, sS]
        · simp only [hn, eq_self, if_false, sumE, sS]
      · simp only [decide_eq_false hp, w3, w2, mx, lim_r, len0, hp, or_self, Bool.false_eq_true, if_false, eq_self, sumE, sS]
        by_cases hn : MS.length = 0
        · simp only [hn, eq_self, if_true, sumE, sS]
        · simp only [hn, eq_self, if_false, sumE, sS]
    · simp only [w3, w2, mx, lim_r, len0, true_or, if_true, eq_self, sumE, sS]
      by_cases hn : MS.length = 0
      · simp only [hn, eq_self, if_true, sumE, sS]
      · simp only [hn, eq_self, if_false, sumE, sS]

end Go.Proofs.Ytcblbcpnfidndaa

namespace Go.Proofs.Ytcblbcpnfidndaa
open Go Go.Abs Go.Lab
def grp (c : Cor) (ms : List MbT) : GpT := (c.1, c.2.1, ms, c.2.2.1, c.2.2.2.1, ())

theorem vg_zero : VG (grp zeroC []) := ⟨by decide, by decide, by decide, by decide, fun m hm => (by cases hm), List.Pairwise.nil⟩

theorem key_inj {ms : List MbT} (h : (ms.map mKey).Pairwise Less) {a b : MbT} (ha : a ∈ ms) (hb : b ∈ ms) (e : mKey a = mKey b) : a = b := by
  obtain ⟨i, hi, rfl⟩ := List.mem_iff_getElem.1 ha
  obtain ⟨j, hj, rfl⟩ := List.mem_iff_getElem.1 hb
  have hp := List.pairwise_iff_getElem.1 h
  rcases Nat.lt_trichotomy i j with hij | hij | hij
  · have := hp i j (by rwa [List.length_map]) (by rwa [List.length_map]) hij
    rw [List.getElem_map, List.getElem_map, e] at this
    exact absurd (less_lt.1 this) (lt_irr _)
  · subst hij; rfl
  · have := hp j i (by rwa [List.length_map]) (by rwa [List.length_map]) hij
    rw [List.getElem_map, List.getElem_map, e] at this
    exact absurd (less_lt.1 this) (lt_irr _)

theorem set_keys {ms : List MbT} {i : Nat} {m x : MbT} (h : ms[i]? = some m) (e : mKey x = mKey m) : (ms.set i x).map mKey = ms.map mKey := by
  rw [List.map_set, e]
  obtain ⟨hi, rfl⟩ := List.getElem?_eq_some_iff.1 h
  have : mKey ms[i] = (ms.map mKey)[i]'(by rwa [List.length_map]) := by rw [List.getElem_map]
  rw [this, List.set_getElem_self]

theorem mem_set {A : Type} {l : List A} {i : Nat} {x y : A} (h : y ∈ l.set i x) : y ∈ l ∨ y = x := List.mem_or_eq_of_mem_set h

theorem wake_range {du se wa ir t : Int} (h1 : 0 ≤ t ∧ t ≤ 8589934592) (h2 : 0 ≤ wa) (h3 : -1 ≤ du ∧ du ≤ 8589934592) (h4 : -1 ≤ se) (h5 : 0 ≤ ir) : -1 ≤ wakeV du se wa ir t ∧ wakeV du se wa ir t ≤ 8589934592 := wake_b h1 h2 h3 h4 h5

theorem lim_range {t : Int} (h : -1 ≤ t) : -1 ≤ limE t ∧ limE t ≤ 8589934592 := by unfold limE; split <;> omega

theorem next_range {se ir rp t : Int} {o : Bool} (h : 0 ≤ t) : -1 ≤ nextD se ir rp t o ∧ nextD se ir rp t o ≤ 8589934592 := by
  unfold nextD
  exact lim_range (by omega)

theorem heard_ok {m : MbT} (h : MbOK m) {t : Int} (ht : 0 ≤ t ∧ t ≤ 8589934592) : MbOK (heardM m t) := ⟨h.lab, h.key, h.since, ht, h.told⟩

theorem step_ok {m : MbT} (h : MbOK m) {t : Int} (ht : 0 ≤ t ∧ t ≤ 8589934592) (on : Bool) : MbOK (stepM m on t) :=
  ⟨h.lab, h.key, ht, h.heard, by show on = true ∨ on = false; cases on <;> simp⟩

theorem new_ok {l : List LT} (hl : validL l = true) {t : Int} (ht : 0 ≤ t ∧ t ≤ 8589934592) : MbOK (mkB (textL l), l, t, t, true, false, ()) := ⟨hl, rfl, ht, ht, .inl rfl⟩

theorem add_vg {g : GpT} (h : VG g) {r : RtT} (hr : RR r) {l : List LT} (hl : validL l = true) (on : Bool) {t : Int} (ht : 0 ≤ t ∧ t ≤ 8589934592) : VG (grp (gAdd g r l on t).2.1 (gAdd g r l on t).2.2) := by
  have hw := wake_range ht hr.wait h.due h.sent.1 (by have := hr.wait; have := hr.int; omega : (0 : Int) ≤ rInt r)
  have hrest : ∀ ms, -1 ≤ restD g ms ∧ restD g ms ≤ 8589934592 := fun ms => by
    have := h.due
    unfold restD; split <;> omega
  have hlen := h.len
  unfold gAdd
  dsimp only
  by_cases hh : hit (mkB (textL l)) (gMem g) = true
  · rw [if_pos hh]
    obtain ⟨m, hm, hk⟩ := hit_some hh
    have hmo := h.mem m (List.mem_of_getElem? hm)
    rw [hm]
    dsimp only
    have hset : ∀ (x : MbT) (d : Int), mKey x = mKey m → MbOK x → (-1 ≤ d ∧ d ≤ 8589934592) → VG (grp (dueC g d) ((gMem g).set (pos (mkB (textL l)) (gMem g)) x)) := fun x d hx ho hd =>
      ⟨by show ((gMem g).set _ x).length ≤ 256; rw [List.length_set]; exact hlen, h.rt, hd, h.sent, fun y hy => by
        rcases mem_set hy with hy | rfl
        · exact h.mem y hy
        · exact ho, by show (((gMem g).set _ x).map mKey).Pairwise Less; rw [set_keys hm hx]; exact h.up⟩
    split
    · exact hset _ _ rfl (heard_ok hmo ht) h.due
    · split
      · exact hset _ _ rfl (step_ok (heard_ok hmo ht) ht true) h.due
      · split
        · exact hset _ _ rfl (step_ok (heard_ok hmo ht) ht false) hw
        · have hsub : ((gMem g).take (pos (mkB (textL l)) (gMem g)) ++ (gMem g).drop (pos (mkB (textL l)) (gMem g) + 1)).Sublist (gMem g) := by
            conv => rhs; rw [← List.take_append_drop (pos (mkB (textL l)) (gMem g)) (gMem g)]
            exact (List.Sublist.refl _).append (List.drop_sublist_drop_left _ (by omega))
          exact ⟨Nat.le_trans hsub.length_le hlen, h.rt, hrest _, h.sent, fun y hy => h.mem y (hsub.subset hy), h.up.sublist (hsub.map mKey)⟩
  · rw [if_neg hh]
    split
    · split
      · exact vg_zero
      · have hp := pos_le (mkB (textL l)) (gMem g)
        refine ⟨?_, h.rt, hw, h.sent, fun y hy => ?_, ?_⟩
        · show (List.take _ _ ++ _ ++ List.drop _ _).length ≤ 256
          simp; omega
        · have hy : y ∈ List.take _ _ ++ [_] ++ List.drop _ _ := hy
          simp only [List.mem_append, List.mem_singleton] at hy
          rcases hy with (hy | rfl) | hy
          · exact h.mem y (List.mem_of_mem_take hy)
          · exact new_ok hl ht
          · exact h.mem y (List.mem_of_mem_drop hy)
        · show ((List.take (pos (mkB (textL l)) (gMem g)) (gMem g) ++ [(mkB (textL l), l, t, t, true, false, ())] ++ List.drop (pos (mkB (textL l)) (gMem g)) (gMem g)).map mKey).Pairwise Less
          rw [List.append_assoc, List.map_append, List.map_append, List.pairwise_append]
          have hup := h.up
          rw [← List.take_append_drop (pos (mkB (textL l)) (gMem g)) (gMem g), List.map_append, List.pairwise_append] at hup
          have ha : ∀ m ∈ (gMem g).take (pos (mkB (textL l)) (gMem g)), Lt (mKey m) (mkB (textL l)) := pos_take
          have hb := pos_drop h.up (by simpa using hh : hit (mkB (textL l)) (gMem g) = false)
          refine ⟨hup.1, ?_, fun a ha' b hb' => ?_⟩
          · rw [List.map_cons, List.map_nil, List.singleton_append]
            refine List.pairwise_cons.2 ⟨fun k hk => ?_, hup.2.1⟩
            obtain ⟨m, hm, rfl⟩ := List.mem_map.1 hk
            exact less_lt.2 (hb m hm)
          · obtain ⟨m, hm, rfl⟩ := List.mem_map.1 ha'
            rw [List.map_cons, List.map_nil, List.singleton_append] at hb'
            rcases List.mem_cons.1 hb' with rfl | hb'
            · exact less_lt.2 (ha m hm)
            · obtain ⟨m', hm', rfl⟩ := List.mem_map.1 hb'
              exact less_lt.2 (lt_trans (ha m hm) (hb m' hm'))
    · exact ⟨hlen, h.rt, hrest _, h.sent, h.mem, h.up⟩

theorem expL_vg {se wa ir t a : Int} (ht : 0 ≤ t ∧ t ≤ 8589934592) (hwa : 0 ≤ wa) (hir : 0 ≤ ir) (hse : -1 ≤ se) : ∀ (rem kept : List MbT) (du : Int), (∀ m ∈ kept ++ rem, MbOK m) → ((kept ++ rem).map mKey).Pairwise Less → (-1 ≤ du ∧ du ≤ 8589934592) →
    (∀ m ∈ (expL se wa ir t a kept du rem).1, MbOK m) ∧ (((expL se wa ir t a kept du rem).1).map mKey).Pairwise Less ∧ (-1 ≤ (expL se wa ir t a kept du rem).2 ∧ (expL se wa ir t a kept du rem).2 ≤ 8589934592) ∧ (expL se wa ir t a kept du rem).1.length ≤ kept.length + rem.length
  | [], kept, du, h1, h2, h3 => by rw [List.append_nil] at h1 h2; exact ⟨h1, h2, h3, Nat.le_refl _⟩
  | m :: rem, kept, du, h1, h2, h3 => by
    have e : ∀ x : MbT, kept ++ [x] ++ rem = kept ++ x :: rem := fun x => by rw [List.append_assoc]; rfl
    have hm : MbOK m := h1 m (by simp)
    have put : ∀ x : MbT, mKey x = mKey m → MbOK x → (∀ y ∈ kept ++ [x] ++ rem, MbOK y) ∧ ((kept ++ [x] ++ rem).map mKey).Pairwise Less := fun x hx ho => by
      rw [e]
      refine ⟨fun y hy => ?_, ?_⟩
      · rcases List.mem_append.1 hy with hy | hy
        · exact h1 y (List.mem_append_left _ hy)
        · rcases List.mem_cons.1 hy with rfl | hy
          · exact ho
          · exact h1 y (List.mem_append_right _ (List.mem_cons_of_mem _ hy))
      · rw [List.map_append, List.map_cons, hx]
        rw [List.map_append, List.map_cons] at h2
        exact h2
    unfold expL
    split
    · split
      · obtain ⟨p1, p2⟩ := put (stepM m false t) rfl (step_ok hm ht false)
        obtain ⟨a1, a2, a3, a4⟩ := expL_vg ht hwa hir hse rem (kept ++ [stepM m false t]) (wakeV du se wa ir t) p1 p2 (wake_range ht hwa h3 hse hir)
        exact ⟨a1, a2, a3, by simp at a4 ⊢; omega⟩
      · have hs : (kept ++ rem).Sublist (kept ++ m :: rem) := (List.Sublist.refl _).append (List.sublist_cons_self _ _)
        obtain ⟨a1, a2, a3, a4⟩ := expL_vg (a := a) ht hwa hir hse rem kept (if (kept ++ rem).length = 0 then -1 else du) (fun y hy => h1 y (hs.subset hy)) (h2.sublist (hs.map mKey)) (by split <;> omega)
        exact ⟨a1, a2, a3, by have : (m :: rem).length = rem.length + 1 := rfl; omega⟩
    · obtain ⟨p1, p2⟩ := put m rfl hm
      obtain ⟨a1, a2, a3, a4⟩ := expL_vg (a := a) ht hwa hir hse rem (kept ++ [m]) du p1 p2 h3
      exact ⟨a1, a2, a3, by simp at a4 ⊢; omega⟩

theorem exp_vg {g : GpT} (h : VG g) {r : RtT} (hr : RR r) {t : Int} (a : Int) (ht : 0 ≤ t ∧ t ≤ 8589934592) : VG (grp (gExp g r t a).2.1 (gExp g r t a).2.2) := by
  have hlen := h.len
  unfold gExp
  split
  · exact ⟨hlen, h.rt, h.due, h.sent, h.mem, h.up⟩
  · obtain ⟨a1, a2, a3, a4⟩ := expL_vg (a := a) ht hr.wait (by have := hr.wait; have := hr.int; omega : (0 : Int) ≤ rInt r) h.sent.1 (gMem g) [] (gDue g) h.mem h.up h.due
    exact ⟨by simp only [List.length_nil, Nat.zero_add] at a4; exact Nat.le_trans a4 hlen, h.rt, a3, h.sent, a1, a2⟩

theorem muB_mem {mu : List ByteArray} {k : ByteArray} : muB mu k = true ↔ k ∈ mu := by
  unfold muB
  rw [List.any_eq_true]
  constructor
  · rintro ⟨x, hx, e⟩
    have : x = k := by simpa using e
    exact this ▸ hx
  · exact fun h => ⟨k, h, by simp⟩

theorem muB_not {mu : List ByteArray} {k : ByteArray} (h : k ∉ mu) : muB mu k = false := by
  cases hc : muB mu k
  · rfl
  · exact absurd (muB_mem.1 hc) h

theorem fir_mem {mu : List ByteArray} {ms : List MbT} {k : ByteArray} : k ∈ firL mu ms ↔ ∃ m ∈ ms, mKey m = k ∧ k ∉ mu ∧ mFire m = true := by
  unfold firL
  rw [List.mem_map]
  constructor
  · rintro ⟨m, hm, rfl⟩
    rw [List.mem_filter, Bool.and_eq_true, Bool.not_eq_true'] at hm
    exact ⟨m, hm.1, rfl, fun hc => by rw [muB_mem.2 hc] at hm; exact absurd hm.2.1 (by simp), hm.2.2⟩
  · rintro ⟨m, hm, rfl, h1, h2⟩
    refine ⟨m, List.mem_filter.2 ⟨hm, ?_⟩, rfl⟩
    rw [Bool.and_eq_true, Bool.not_eq_true']
    exact ⟨muB_not h1, h2⟩

theorem res_mem {mu : List ByteArray} {ms : List MbT} {k : ByteArray} : k ∈ resL mu ms ↔ ∃ m ∈ ms, mKey m = k ∧ k ∉ mu ∧ mFire m = false := by
  unfold resL
  rw [List.mem_map]
  constructor
  · rintro ⟨m, hm, rfl⟩
    rw [List.mem_filter, Bool.and_eq_true, Bool.not_eq_true'] at hm
    exact ⟨m, hm.1, rfl, fun hc => by rw [muB_mem.2 hc] at hm; exact absurd hm.2.1 (by simp), by simpa using hm.2.2⟩
  · rintro ⟨m, hm, rfl, h1, h2⟩
    refine ⟨m, List.mem_filter.2 ⟨hm, ?_⟩, rfl⟩
    rw [Bool.and_eq_true, Bool.not_eq_true']
    exact ⟨muB_not h1, by simpa using h2⟩

theorem aft_keys (F R : List ByteArray) (ms : List MbT) : (aftL F R ms).map mKey = (ms.filter fun m => !muB R (mKey m)).map mKey := by
  unfold aftL
  rw [List.map_map]
  rfl

theorem aft_mem {F R : List ByteArray} {ms : List MbT} {x : MbT} : x ∈ aftL F R ms ↔ ∃ m ∈ ms, mKey m ∉ R ∧ x = tellM F m := by
  unfold aftL
  rw [List.mem_map]
  constructor
  · rintro ⟨m, hm, rfl⟩
    rw [List.mem_filter, Bool.not_eq_true'] at hm
    exact ⟨m, hm.1, fun hc => by rw [muB_mem.2 hc] at hm; exact absurd hm.2 (by simp), rfl⟩
  · rintro ⟨m, hm, h1, rfl⟩
    refine ⟨m, List.mem_filter.2 ⟨hm, ?_⟩, rfl⟩
    cases hc : muB R (mKey m)
    · rfl
    · exact absurd (muB_mem.1 hc) h1

theorem aft_vg {g : GpT} (h : VG g) (mu : List ByteArray) (R : List ByteArray) (du se : Int) (hd : -1 ≤ du ∧ du ≤ 8589934592) (hs : -1 ≤ se ∧ se ≤ 8589934592) : VG (grp (g.1, g.2.1, du, se, ()) (aftL (firL mu (gMem g)) R (gMem g))) := by
  refine ⟨Nat.le_trans (aftL_len _ _ _) h.len, h.rt, hd, hs, fun x hx => ?_, ?_⟩
  · obtain ⟨m, hm, _, rfl⟩ := aft_mem.1 hx
    have ho := h.mem m hm
    refine ⟨ho.lab, ho.key, ho.since, ho.heard, ?_⟩
    show mFire m = true ∨ (mTold m || muB (firL mu (gMem g)) (mKey m)) = false
    rcases ho.told with hf | hf
    · exact .inl hf
    · cases hc : muB (firL mu (gMem g)) (mKey m)
      · exact .inr (by rw [hf]; rfl)
      · obtain ⟨m', hm', e, _, hf'⟩ := fir_mem.1 (muB_mem.1 hc)
        rw [key_inj h.up hm' hm e] at hf'
        exact .inl hf'
  · show ((aftL _ _ _).map mKey).Pairwise Less
    rw [aft_keys]
    exact h.up.sublist ((List.filter_sublist).map mKey)

theorem look_vg {g : GpT} (h : VG g) (r : RtT) {t : Int} (mu : List ByteArray) (ht : 0 ≤ t ∧ t ≤ 8589934592) : VG (grp (gLook g r t mu).2.1 (gLook g r t mu).2.2.2.1) := by
  have hn : ∀ (ms : List MbT) se o, -1 ≤ (if ms.length = 0 then -1 else nextD se (rInt r) (rRep r) t o) ∧ (if ms.length = 0 then -1 else nextD se (rInt r) (rRep r) t o) ≤ 8589934592 := fun ms se o => by
    have := next_range (se := se) (ir := rInt r) (rp := rRep r) (o := o) ht.1
    split <;> omega
  unfold gLook
  split
  · exact ⟨h.len, h.rt, h.due, h.sent, h.mem, h.up⟩
  · dsimp only
    split
    · exact aft_vg h mu _ _ _ (hn _ _ _) (by omega)
    · exact ⟨h.len, h.rt, hn _ _ _, h.sent, h.mem, h.up⟩

abbrev cSent (c : Cor) : Int := c.2.2.2.1

theorem add_sent (g : GpT) (r : RtT) (l : List LT) (on : Bool) (t : Int) : cSent (gAdd g r l on t).2.1 = gSent g ∨ cSent (gAdd g r l on t).2.1 = 0 := by
  unfold gAdd
  dsimp only
  split
  · split
    · exact .inr rfl
    · split
      · exact .inl rfl
      · split
        · exact .inl rfl
        · split <;> exact .inl rfl
  · split
    · split
      · exact .inr rfl
      · exact .inl rfl
    · exact .inl rfl

theorem exp_sent (g : GpT) (r : RtT) (t a : Int) : cSent (gExp g r t a).2.1 = gSent g := by
  unfold gExp; split <;> rfl

theorem look_sent (g : GpT) (r : RtT) (t : Int) (mu : List ByteArray) : cSent (gLook g r t mu).2.1 = gSent g ∨ cSent (gLook g r t mu).2.1 = t := by
  unfold gLook
  split
  · exact .inl rfl
  · dsimp only
    split
    · exact .inr rfl
    · exact .inl rfl

end Go.Proofs.Ytcblbcpnfidndaa

namespace Go.Proofs.Ytcblbcpnfidndaa
open Go Go.Abs Go.Lab
def Ens {A : Type} (o : Option A) (Q : A → Prop) : Prop := ∃ x, o = some x ∧ Q x

theorem ens_some {A : Type} {x : A} {Q : A → Prop} (h : Q x) : Ens (some x) Q := ⟨x, rfl, h⟩

theorem ens_bind {A B : Type} {o : Option A} {f : A → Option B} {Q : B → Prop} (h : Ens o fun x => Ens (f x) Q) : Ens (o.bind f) Q := by
  obtain ⟨x, rfl, y, h1, h2⟩ := h
  exact ⟨y, h1, h2⟩

theorem ens_call {A B : Type} {o : Option A} {R : A → Prop} {f : A → Option B} {Q : B → Prop} (h : Ens o R) (h2 : ∀ x, R x → Ens (f x) Q) : Ens (o.bind f) Q := by
  obtain ⟨x, rfl, hx⟩ := h
  exact h2 x hx

theorem ens_ite {A : Type} {P : Prop} [Decidable P] {x y : Option A} {Q : A → Prop} (h1 : P → Ens x Q) (h2 : ¬ P → Ens y Q) : Ens (bif decide P then x else y) Q := by
  by_cases h : P
  · rw [decide_eq_true h]; exact h1 h
  · rw [decide_eq_false h]; exact h2 h

theorem ens_need {A : Type} {P : Prop} [Decidable P] {x : Option A} {Q : A → Prop} (h : P) (h1 : Ens x Q) : Ens (bif decide P then x else none) Q := by
  rw [decide_eq_true h]; exact h1

theorem ens_bif {A : Type} {b : Bool} {x y : Option A} {Q : A → Prop} (h1 : b = true → Ens x Q) (h2 : b = false → Ens y Q) : Ens (bif b then x else y) Q := by
  cases b
  · exact h2 rfl
  · exact h1 rfl

theorem ens_at {A B : Type} {l : List A} {i : Nat} {f : A → Option B} {Q : B → Prop} (h1 : i < l.length) (h : ∀ e, l[i]? = some e → e ∈ l → Ens (f e) Q) : Ens ((l[i]?).bind f) Q := by
  have he : l[i]? = some l[i] := List.getElem?_eq_getElem h1
  rw [he]
  exact h _ he (List.getElem_mem h1)

/-- A loop: what holds at every round, a number that falls. -/
theorem ens_loop {A B : Type} {f : A → Option (A ⊕ B)} (I : A → Prop) (μ : A → Nat) {Q : B → Prop}
    (h : ∀ a, I a → Ens (f a) fun r => match r with | .inl a' => I a' ∧ μ a' < μ a | .inr b => Q b) : ∀ a, I a → Ens (loopT f a) Q := by
  have key : ∀ (n : Nat) a, μ a ≤ n → I a → Ens (loopT f a) Q := by
    intro n
    induction n with
    | zero =>
      intro a hn hi
      obtain ⟨r, h1, h2⟩ := h a hi
      cases r with
      | inl a' => exact absurd h2.2 (by omega)
      | inr b => exact ⟨b, loopT_inr h1, h2⟩
    | succ n ih =>
      intro a hn hi
      obtain ⟨r, h1, h2⟩ := h a hi
      cases r with
      | inl a' =>
        obtain ⟨b, h3, h4⟩ := ih a' (by omega) h2.1
        exact ⟨b, by rw [← h3]; exact loopT_inl h1, h4⟩
      | inr b => exact ⟨b, loopT_inr h1, h2⟩
  exact fun a hi => key (μ a) a (Nat.le_refl _) hi

/-! ### The dice -/
theorem c20 (n : Int) (d : Dice) (hd : DOK d) (hn : n ≤ 9223372036854775807) : Ens (m20 ((n, ()), ((d, ()), ()))) (fun r => DOK r.2.1.1 ∧ 0 ≤ r.1.1 ∧ (1 ≤ n → r.1.1 < n)) := by
  obtain ⟨r, d', e, h1, h2, h3⟩ := next_spec n d hd hn
  refine ⟨_, e, h1, ?_, fun h => (h2 h).2⟩
  by_cases h : 1 ≤ n
  · exact (h2 h).1
  · show 0 ≤ r; rw [h3 (by omega)]; exact Int.le_refl _

theorem c19 (l : List Int) (d : Dice) (hd : DOK d) (h0 : 0 < l.length) (h1 : l.length ≤ 1000) : Ens (m19 ((l, ()), ((d, ()), ()))) (fun r => DOK r.2.1.1 ∧ r.1.1 ∈ l) := by
  obtain ⟨r, d', e, h1, h2⟩ := pick_spec l d hd h0 (by omega)
  exact ⟨_, e, h1, h2⟩

theorem c18 (n : Int) (d : Dice) (hd : DOK d) (h1 : 1 ≤ n) (h2 : n ≤ 1000) : Ens (m18 ((n, ()), ((d, ()), ()))) (fun r => DOK r.2.1.1) := by
  obtain ⟨r, d', e, h⟩ := bool_spec n d hd h1 (by omega)
  exact ⟨_, e, h⟩

theorem c13 (d : Dice) (hd : DOK d) : Ens (m13 ((), ((d, ()), ()))) (fun r => DOK r.2.1.1 ∧ validL r.2.2.1 = true) := by
  obtain ⟨l, d', e, h1, h2⟩ := labels_spec d hd
  exact ⟨_, e, h1, from_valid h2⟩

/-- A route of the dice: its numbers, its keys. -/
abbrev RcT := Int × Int × Int × Int × Int × Bool × Unit

def rtOf (c : RcT) (ks : List ByteArray) : RtT := (c.1, [], c.2.1, ks, c.2.2.1, c.2.2.2.1, c.2.2.2.2.1, c.2.2.2.2.2.1, ())

theorem c11 (d : Dice) (hd : DOK d) : Ens (m11 ((), ((d, ()), ()))) (fun r => DOK r.2.1.1 ∧ RR (rtOf r.2.2.1.1 r.2.2.2.1) ∧ r.2.2.1.1.1 = -1 ∧ r.2.2.1.1.2.2.1 ≤ 60 ∧ r.2.2.1.1.2.2.2.1 ≤ 360 ∧ r.2.2.1.1.2.2.2.2.1 ≤ 3960) := by
  obtain ⟨a1, d1, e1, hd1, b1⟩ := pick_spec [0, 30, 10, 60] d hd (by simp) (by simp)
  obtain ⟨a2, d2, e2, hd2, b2⟩ := pick_spec [20, 300, 40] d1 hd1 (by simp) (by simp)
  obtain ⟨a3, d3, e3, hd3, b3, _⟩ := next_spec 3 d2 hd2 (by omega)
  have b3 := b3 (by omega)
  obtain ⟨ks, d4, e4, hd4, hk⟩ := keysD_spec d3 hd3
  obtain ⟨a5, d5, e5, hd5, b5⟩ := pick_spec [0, 3600, 100] d4 hd4 (by simp) (by simp)
  obtain ⟨c, d6, e6, hd6⟩ := bool_spec 2 d5 hd5 (by omega) (by omega)
  have b1 := mem4 b1
  have b2 := mem3 b2
  have b5 := mem3 b5
  have w1 : w64 (a1 + a2) = a1 + a2 := w64_id (by omega) (by omega)
  have w2 : w64 (a1 + a2 + a5) = a1 + a2 + a5 := w64_id (by omega) (by omega)
  have hg : GoodT (rtOf (-1, a3, a1, a1 + a2, a1 + a2 + a5, c, ()) ks) := ⟨⟨Nat.zero_le _, fun m hm => by cases hm⟩, hk, by
    show chkRange (-1, [], a3, ks, a1, a1 + a2, a1 + a2 + a5, c, ()) = false
    unfold chkRange
    simp only [Bool.or_eq_false_iff]
    exact ⟨decide_eq_false (by omega), decide_eq_false (by omega), decide_eq_false (by omega), decide_eq_false (by omega), decide_eq_false (by omega), beq_eq_false_iff_ne.2 (by omega)⟩, by show a1 + a2 ≤ 1000; omega, by show 0 ≤ a1 + a2; omega, by show 0 ≤ a1 + a2 + a5; omega, by show a1 + a2 + a5 ≤ 10000; omega⟩
  refine ⟨((), ((d6, ()), (((-1), a3, a1, a1 + a2, a1 + a2 + a5, c, ()), ()), ks, ())), ?_, hd6, rr_of hg.z ?_, rfl, ?_, ?_, ?_⟩
  · unfold m11
    simp only [e1, e2, e3, e4, e5, e6, w1, w2, sumE, sS]
  · unfold rightR
    have : strip (rtOf (-1, a3, a1, a1 + a2, a1 + a2 + a5, c, ()) ks) = rtOf (-1, a3, a1, a1 + a2, a1 + a2 + a5, c, ()) ks := rfl
    rw [this, hg.one]
    rfl
  · show a1 ≤ 60; omega
  · show a1 + a2 ≤ 360; omega
  · show a1 + a2 + a5 ≤ 3960; omega

theorem zero_vg (rt : Int) (ky : ByteArray) (h : 0 ≤ rt) : VG (rt, ky, [], -1, -1, ()) := ⟨Nat.zero_le _, h, by show (-1 : Int) ≤ -1 ∧ (-1 : Int) ≤ 8589934592; omega, by show (-1 : Int) ≤ -1 ∧ (-1 : Int) ≤ 8589934592; omega, fun m hm => (by cases hm), List.Pairwise.nil⟩

/-- The dice's groups. -/
theorem c21 {r : RtT} (hr : RR r) (n : Int) (hn : 0 ≤ n ∧ n ≤ 10) (d : Dice) (hd : DOK d) : Ens (m21 ((r, n, ()), ((d, ()), ()))) (fun x => DOK x.2.1.1 ∧ VG (grp x.2.2.1.1 x.2.2.2.1) ∧ 0 ≤ x.1.1 ∧ x.1.1 ≤ 4100 ∧ cSent x.2.2.1.1 ≤ x.1.1) := by
  unfold m21
  refine ens_bind ⟨((), (((0, bs [123, 125], -1, -1, ()), ()), ())), rfl, ?_⟩
  refine ens_call (c20 100 d hd (by omega)) ?_
  rintro ⟨⟨t, ⟨⟩⟩, ⟨⟨d1, ⟨⟩⟩, ⟨⟩⟩⟩ ⟨hd1, ht0, ht1⟩
  dsimp only at hd1 ht0 ht1 ⊢
  have ht1 := ht1 (by omega)
  refine ens_call (R := fun b => DOK b.2.1.1 ∧ VG (grp b.2.2.2.1.1 b.2.2.2.2.1) ∧ 0 ≤ b.1.1 ∧ b.1.1 ≤ 4100 ∧ cSent b.2.2.2.1.1 ≤ b.1.1) ?_ ?_
  · refine ens_loop (fun v => DOK v.2.1.1 ∧ VG (grp v.2.2.1.1 v.2.2.2.2.2.1) ∧ v.2.2.2.1.1 = r ∧ 0 ≤ v.1.2.1 ∧ 0 ≤ v.1.1 ∧ v.1.2.1 + 400 * v.1.1 ≤ 4100 ∧ cSent v.2.2.1.1 ≤ v.1.2.1) (fun v => v.1.1.toNat) ?_ _ ?_
    rotate_left
    · exact ⟨hd1, zero_vg 0 _ (by omega), rfl, ht0, hn.1, by dsimp only; omega, by show (-1 : Int) ≤ t; omega⟩
    rintro ⟨⟨k, t, ⟨⟩⟩, ⟨⟨d, ⟨⟩⟩, ⟨⟨rt, ky, du, se, ⟨⟩⟩, ⟨⟩⟩, ⟨r0, ⟨⟩⟩, ⟨⟨a, b, c, e, ⟨⟩⟩, ⟨⟩⟩, ms, ⟨⟩⟩⟩ ⟨hd, hg, hr0, h0, hk, h1, hsn⟩
    dsimp only [grp, cSent] at hd hg h0 h1 hk hr0 hsn ⊢
    subst hr0
    have hgl := hg.len
    dsimp only [gMem] at hgl
    unfold l21_0_3
    dsimp only
    by_cases hk0 : k > 0
    rotate_left
    · simp only [decide_eq_false hk0, sumE, sS]
      exact ens_some ⟨hd, hg, h0, by dsimp only; omega, hsn⟩
    simp only [decide_eq_true hk0, m56, sumE, sS]
    refine ens_bif (fun _ => ?_) (fun _ => ens_some ⟨hd, hg, h0, by dsimp only; omega, hsn⟩)
    refine ens_call (R := fun x => x.1.1 = k ∧ x.1.2.1 = t ∧ DOK x.2.1.1 ∧ VG (grp x.2.2.1.1 x.2.2.2.2.2.1) ∧ x.2.2.2.1.1 = r0 ∧ cSent x.2.2.1.1 ≤ t) ?_ ?_
    · refine ens_call (c20 4 d hd (by omega)) ?_
      rintro ⟨⟨q, ⟨⟩⟩, ⟨⟨d2, ⟨⟩⟩, ⟨⟩⟩⟩ ⟨hd2, hq0, hq1⟩
      dsimp only at hd2 hq0 hq1 ⊢
      have hq1 := hq1 (by omega)
      have hadd : Ens ((m13 ((), ((d2, ()), ()))).bind fun u167 => (m20 ((3, ()), ((u167.2.1.1, ()), ()))).bind fun u168 =>
          (m27 (((rt, ky, ms, du, se, ()), r0, u167.2.2.1, decide (u168.1.1 > 0), t, ()), ())).bind fun u169 =>
            some ((k, t, ()), ((u168.2.1.1, ()), ((u169.2.1.1.1, u169.2.1.1.2.1, u169.2.1.1.2.2.1, u169.2.1.1.2.2.2.1, ()), ()), (r0, ()), ((a, b, c, e, ()), ()), u169.2.2.1, ()))) (fun x => x.1.1 = k ∧ x.1.2.1 = t ∧ DOK x.2.1.1 ∧ VG (grp x.2.2.1.1 x.2.2.2.2.2.1) ∧ x.2.2.2.1.1 = r0 ∧ cSent x.2.2.1.1 ≤ t) := by
        refine ens_call (c13 d2 hd2) ?_
        rintro ⟨⟨⟩, ⟨⟨d3, ⟨⟩⟩, l, ⟨⟩⟩⟩ ⟨hd3, hl⟩
        refine ens_call (c20 3 d3 hd3 (by omega)) ?_
        rintro ⟨⟨o, ⟨⟩⟩, ⟨⟨d4, ⟨⟩⟩, ⟨⟩⟩⟩ ⟨hd4, _, _⟩
        have ht : 0 ≤ t ∧ t ≤ 8589934592 := ⟨h0, by omega⟩
        refine ens_call (R := fun y => y = (((gAdd (rt, ky, ms, du, se, ()) r0 l (decide (o > 0)) t).1, ()), (((gAdd (rt, ky, ms, du, se, ()) r0 l (decide (o > 0)) t).2.1, ()), ((gAdd (rt, ky, ms, du, se, ()) r0 l (decide (o > 0)) t).2.2, ())))) ⟨_, add_r hg hr hl _ ht, rfl⟩ ?_
        rintro _ rfl
        exact ens_some ⟨rfl, rfl, hd4, add_vg hg hr hl _ ht, rfl, by
          rcases add_sent (rt, ky, ms, du, se, ()) r0 l (decide (o > 0)) t with h | h
          · exact Int.le_trans (Int.le_of_eq h) hsn
          · exact Int.le_trans (Int.le_of_eq h) h0⟩
      have hcase : q = 0 ∨ q = 1 ∨ q = 2 ∨ q = 3 := by omega
      rcases hcase with rfl | rfl | rfl | rfl
      · exact hadd
      · exact hadd
      · simp only [show ((2 : Int) == 0) = false from rfl, show ((2 : Int) == 1) = false from rfl, show ((2 : Int) == 2) = true from rfl, sumE, sS]
        refine ens_call (R := fun x => x.1 = (k, t, ()) ∧ DOK x.2.1.1 ∧ x.2.2.1.1 = (rt, ky, du, se, ()) ∧ x.2.2.2.1.1 = r0 ∧ x.2.2.2.2.2.1.length ≤ 1 ∧ x.2.2.2.2.2.2.1 = ms) ?_ ?_
        · refine ens_call (R := fun x => x.1.2 = (k, t, ()) ∧ DOK x.2.1.1 ∧ x.2.2.1.1 = (rt, ky, du, se, ()) ∧ x.2.2.2.1.1 = r0 ∧ x.2.2.2.2.2.1 = [] ∧ x.2.2.2.2.2.2.1 = ms ∧ (x.1.1 = true → 0 < ms.length)) ?_ ?_
          · refine ens_ite (fun h => ?_) (fun h => ens_some ⟨rfl, hd2, rfl, rfl, rfl, rfl, fun h => by cases h⟩)
            refine ens_call (c18 2 d2 hd2 (by omega) (by omega)) ?_
            rintro ⟨⟨o, ⟨⟩⟩, ⟨⟨d3, ⟨⟩⟩, ⟨⟩⟩⟩ hd3
            exact ens_some ⟨rfl, hd3, rfl, rfl, rfl, rfl, fun _ => by omega⟩
          · rintro ⟨⟨o, k', t', ⟨⟩⟩, ⟨⟨d3, ⟨⟩⟩, ⟨⟨rt2, ky2, du2, se2, ⟨⟩⟩, ⟨⟩⟩, ⟨r1, ⟨⟩⟩, ⟨⟨a2, b2, c2, e2, ⟨⟩⟩, ⟨⟩⟩, mu, ms2, ⟨⟩⟩⟩ ⟨h5, hd3, h6, h7, h8, h9, h10⟩
            dsimp only at h5 hd3 h6 h7 h8 h9 h10 ⊢
            obtain ⟨⟩ := h5; obtain ⟨⟩ := h6; subst h7; subst h8; subst h9
            refine ens_bif (fun ho => ?_) (fun _ => ens_some ⟨rfl, hd3, rfl, rfl, Nat.zero_le _, rfl⟩)
            have hpos := h10 ho
            refine ens_call (c20 _ d3 hd3 (by omega)) ?_
            rintro ⟨⟨p, ⟨⟩⟩, ⟨⟨d4, ⟨⟩⟩, ⟨⟩⟩⟩ ⟨hd4, hp0, hp1⟩
            dsimp only at hd4 hp0 hp1 ⊢
            have hp1 := hp1 (by omega)
            refine ens_need ⟨hp0, hp1⟩ (ens_at (by omega) fun m _ _ => ens_some ⟨rfl, hd4, rfl, rfl, by simp, rfl⟩)
        · rintro ⟨⟨k', t', ⟨⟩⟩, ⟨⟨d3, ⟨⟩⟩, ⟨⟨rt2, ky2, du2, se2, ⟨⟩⟩, ⟨⟩⟩, ⟨r1, ⟨⟩⟩, ⟨⟨a2, b2, c2, e2, ⟨⟩⟩, ⟨⟩⟩, mu, ms2, ⟨⟩⟩⟩ ⟨h5, hd3, h6, h7, h8, h9⟩
          dsimp only at h5 hd3 h6 h7 h8 h9 ⊢
          obtain ⟨⟩ := h5; obtain ⟨⟩ := h6; subst h7; subst h9
          have ht : 0 ≤ t ∧ t ≤ 8589934592 := ⟨h0, by omega⟩
          refine ens_call ⟨_, look_r hg hr ht (by unfold big; omega), rfl⟩ ?_
          rintro _ rfl
          exact ens_some ⟨rfl, rfl, hd3, look_vg hg _ _ ht, rfl, by
            rcases look_sent (rt, ky, _, du, se, ()) _ t mu with h | h
            · exact Int.le_trans (Int.le_of_eq h) hsn
            · exact Int.le_of_eq h⟩
      · simp only [show ((3 : Int) == 0) = false from rfl, show ((3 : Int) == 1) = false from rfl, show ((3 : Int) == 2) = false from rfl, show ((3 : Int) == 3) = true from rfl, sumE, sS]
        refine ens_call (c19 [0, 50, 300] d2 hd2 (by decide) (by decide)) ?_
        rintro ⟨⟨p, ⟨⟩⟩, ⟨⟨d3, ⟨⟩⟩, ⟨⟩⟩⟩ ⟨hd3, hp⟩
        dsimp only at hd3 hp ⊢
        simp only [List.mem_cons, List.not_mem_nil, or_false] at hp
        have ht : 0 ≤ t ∧ t ≤ 8589934592 := ⟨h0, by omega⟩
        refine ens_call ⟨_, exp_r hg hr ht (by omega), rfl⟩ ?_
        rintro _ rfl
        exact ens_some ⟨rfl, rfl, hd3, exp_vg hg hr _ ht, rfl, Int.le_trans (Int.le_of_eq (exp_sent _ _ _ _)) hsn⟩
    · rintro ⟨⟨k', t', ⟨⟩⟩, ⟨⟨d3, ⟨⟩⟩, ⟨⟨rt2, ky2, du2, se2, ⟨⟩⟩, ⟨⟩⟩, ⟨r1, ⟨⟩⟩, ⟨⟨a2, b2, c2, e2, ⟨⟩⟩, ⟨⟩⟩, ms2, ⟨⟩⟩⟩ ⟨h5, h6, hd3, hg3, h7, hsn3⟩
      dsimp only [cSent] at h5 h6 hd3 hg3 h7 hsn3 ⊢
      subst h5; subst h6; subst h7
      refine ens_call (c19 [0, 1, 10, 30, 400] d3 hd3 (by decide) (by decide)) ?_
      rintro ⟨⟨p, ⟨⟩⟩, ⟨⟨d4, ⟨⟩⟩, ⟨⟩⟩⟩ ⟨hd4, hp⟩
      simp only [List.mem_cons, List.not_mem_nil, or_false] at hp
      have w1 : w64 (k' - 1) = k' - 1 := w64_id (by omega) (by omega)
      have w2 : w64 (t' + p) = t' + p := w64_id (by omega) (by omega)
      dsimp only
      rw [w1, w2]
      exact ens_some ⟨⟨hd4, hg3, rfl, by dsimp only; omega, by dsimp only; omega, by dsimp only; omega, by dsimp only [cSent]; omega⟩, by dsimp only; omega⟩
  · rintro ⟨⟨t', ⟨⟩⟩, ⟨⟨d2, ⟨⟩⟩, ⟨⟨a, b, c, e, ⟨⟩⟩, ⟨⟩⟩, ⟨⟨rt, ky, du, se, ⟨⟩⟩, ⟨⟩⟩, ms, ⟨⟩⟩⟩ ⟨h1, h2, h3, h4⟩
    exact ens_some ⟨h1, h2, h3, h4⟩

end Go.Proofs.Ytcblbcpnfidndaa

namespace Go.Proofs.Ytcblbcpnfidndaa
open Go Go.Abs Go.Lab
theorem sane23 : m9 ((), ()) = some ((true, ()), ()) := by kernel_rfl

abbrev YT : (Bool × Unit) × Unit := ((true, ()), ())

theorem ens_tt {o : Option ((Bool × Unit) × Unit)} (h : Ens o (fun r => r = YT)) : o = some YT := by
  obtain ⟨_, rfl, rfl⟩ := h
  rfl

end Go.Proofs.Ytcblbcpnfidndaa

namespace Go.Proofs.Ytcblbcpnfidndaa
open Go Go.Abs Go.Lab
structure MutedOK (g : GpT) (m : MbT) (t : Int) (x : LkT) : Prop where
  fir : mKey m ∉ x.2.2.2.2.1
  res : mKey m ∉ x.2.2.2.2.2
  all : ∀ n ∈ x.2.2.2.1, mKey n = mKey m → mFire n = mFire m ∧ mTold n = mTold m ∧ mSince n = mSince m
  ex : ∃ n ∈ x.2.2.2.1, mKey n = mKey m
  due : x.2.1.2.2.1 > t ∨ gDue g = -1 ∨ gDue g > t

theorem muted_ok {g : GpT} (h : VG g) {r : RtT} (hr : RR r) {t : Int} (ht : 0 ≤ t ∧ t ≤ 10000) {m : MbT} (hm : m ∈ gMem g) (hsn : gSent g ≤ t) : MutedOK g m t (gLook g r t [mKey m]) := by
  have hkm : ∀ n ∈ gMem g, mKey n = mKey m → mFire n = mFire m ∧ mTold n = mTold m ∧ mSince n = mSince m := fun n hn e => by
    rw [key_inj h.up hn hm e]; exact ⟨rfl, rfl, rfl⟩
  have hF : mKey m ∉ firL [mKey m] (gMem g) := fun hc => by
    obtain ⟨_, _, _, h1, _⟩ := fir_mem.1 hc
    exact h1 (by simp)
  have hR : mKey m ∉ resL [mKey m] (gMem g) := fun hc => by
    obtain ⟨_, _, _, h1, _⟩ := res_mem.1 hc
    exact h1 (by simp)
  have hwa := hr.wait
  have hir := hr.int
  have hrp := hr.rep
  have hmx := hr.max
  have hnx : ∀ se o, -1 ≤ se → se ≤ 8589934592 - 1000000 → nextD se (rInt r) (rRep r) t o > t := fun se o h1 h2 => by
    unfold nextD limE
    split <;> split <;> omega
  unfold gLook
  by_cases hd : gDue g = -1 ∨ gDue g > t
  · rw [if_pos hd]
    exact ⟨by simp, by simp, hkm, ⟨m, hm, rfl⟩, .inr hd⟩
  · rw [if_neg hd]
    have hd1 : ¬ gDue g = -1 := fun h => hd (.inl h)
    dsimp only
    split
    · refine ⟨hF, hR, fun n hn e => ?_, ⟨tellM (firL [mKey m] (gMem g)) m, aft_mem.2 ⟨m, hm, hR, rfl⟩, rfl⟩, .inl ?_⟩
      · obtain ⟨n', hn', _, rfl⟩ := aft_mem.1 hn
        have e : mKey n' = mKey m := e
        obtain ⟨a, b, c⟩ := hkm n' hn' e
        refine ⟨a, ?_, c⟩
        show (mTold n' || muB _ (mKey n')) = mTold m
        rw [e, muB_not hF, b, Bool.or_false]
      · have hne : ¬ (aftL (firL [mKey m] (gMem g)) (resL [mKey m] (gMem g)) (gMem g)).length = 0 := fun hc => by
          have : tellM (firL [mKey m] (gMem g)) m ∈ aftL (firL [mKey m] (gMem g)) (resL [mKey m] (gMem g)) (gMem g) := aft_mem.2 ⟨m, hm, hR, rfl⟩
          rw [List.length_eq_zero_iff.1 hc] at this
          cases this
        show (if _ then _ else _) > t
        rw [if_neg hne]
        exact hnx _ _ (by omega) (by omega)
    · refine ⟨by simp, by simp, hkm, ⟨m, hm, rfl⟩, .inl ?_⟩
      have hne : ¬ (gMem g).length = 0 := fun hc => by
        rw [List.length_eq_zero_iff.1 hc] at hm
        cases hm
      show (if _ then _ else _) > t
      rw [if_neg hne]
      have hs := h.sent
      exact hnx _ _ hs.1 (by omega)

theorem law5c (x : List Int) : m5 ((x, ()), ()) = some ((true, ()), ()) := by
  unfold m5
  simp only [light, roll, sane23, sumE, sS]
  cases hx : decide (x.length ≤ 500)
  · simp only [sumE, sS]
  have hx := of_decide_eq_true hx
  simp only [sumE, sS]
  refine ens_tt ?_
  refine ens_call (c11 _ (dok0 hx)) ?_
  rintro ⟨⟨⟩, ⟨⟨d1, ⟨⟩⟩, ⟨⟨pa, po, wa, ir, rp, co, ⟨⟩⟩, ⟨⟩⟩, ks, ⟨⟩⟩⟩ ⟨hd1, hr, _, hw, hi, hp⟩
  dsimp only [rtOf] at hd1 hr hw hi hp ⊢
  refine ens_call (c21 hr 9 (by omega) d1 hd1) ?_
  rintro ⟨⟨now, ⟨⟩⟩, ⟨⟨d2, ⟨⟩⟩, ⟨⟨rt, ky, du, se, ⟨⟩⟩, ⟨⟩⟩, ms, ⟨⟩⟩⟩ ⟨hd2, hg, h0, h1, hsn⟩
  dsimp only [grp, cSent] at hd2 hg h0 h1 hsn ⊢
  have hlen := hg.len
  dsimp only [gMem] at hlen
  rw [len0]
  by_cases hz : ms.length = 0
  · rw [decide_eq_true hz]
    exact ens_some rfl
  rw [decide_eq_false hz, cond_false]
  refine ens_call (c20 _ d2 hd2 (by omega)) ?_
  rintro ⟨⟨q, ⟨⟩⟩, ⟨⟨d3, ⟨⟩⟩, ⟨⟩⟩⟩ ⟨_, hq0, hq1⟩
  dsimp only at hq0 hq1 ⊢
  have hq1 := hq1 (by omega)
  refine ens_need ⟨hq0, hq1⟩ (ens_at (by omega) fun m _ hm => ?_)
  obtain ⟨F1, F2, F3, ⟨y, hy, F4⟩, F5⟩ := muted_ok hg hr (t := now) (by omega) hm hsn
  have hfr : (gLook (rt, ky, ms, du, se, ()) (pa, [], po, ks, wa, ir, rp, co, ()) now [mKey m]).2.2.2.2.1.length ≤ 256 ∧ (gLook (rt, ky, ms, du, se, ()) (pa, [], po, ks, wa, ir, rp, co, ()) now [mKey m]).2.2.2.2.2.length ≤ 256 := by
    unfold gLook
    have a := firL_len [mKey m] ms
    have b := resL_len [mKey m] ms
    split
    · exact ⟨Nat.zero_le _, Nat.zero_le _⟩
    · dsimp only [gMem]
      split
      · exact ⟨by dsimp only; omega, by dsimp only; omega⟩
      · exact ⟨Nat.zero_le _, Nat.zero_le _⟩
  have hml : (gLook (rt, ky, ms, du, se, ()) (pa, [], po, ks, wa, ir, rp, co, ()) now [mKey m]).2.2.2.1.length ≤ 256 := (look_vg hg (pa, [], po, ks, wa, ir, rp, co, ()) [mKey m] (t := now) (by omega)).len
  obtain ⟨n, blk, e, hn, hb⟩ := look_p hg hr (t := now) (by omega) (mu := [mKey m]) (by simp [big])
  generalize gLook (rt, ky, ms, du, se, ()) (pa, [], po, ks, wa, ir, rp, co, ()) now [mKey m] = z at *
  obtain ⟨ok, ⟨rt2, ky2, du2, se2, ⟨⟩⟩, nc, MS, F, R⟩ := z
  dsimp only at F1 F2 F3 hy F5 hfr hml e hb
  subst hb
  refine ens_call ⟨_, e, rfl⟩ ?_
  rintro _ rfl
  dsimp only
  rw [show ((0 : Int) != 0) = false from rfl, cond_false]
  refine ens_need (by omega) (ens_need (by omega) ?_)
  have hFR : ∀ k ∈ F ++ R, k ≠ mKey m := fun k hk e => by
    subst e
    rcases List.mem_append.1 hk with h | h
    · exact F1 h
    · exact F2 h
  have hFl : (F ++ R).length ≤ 512 := by rw [List.length_append]; omega
  have l1 := loop_thru (f := l5_0_13) (F ++ R) (fun i => (((i : Int), now, (((F ++ R).length : Nat) : Int), ()), ((m, ()), (F ++ R), ((rt, ky, du, se, ()), ()), ((rt2, ky2, (0, n), du2, se2, ()), ()), ms, blk, ()))) (.inr ((now, ()), ((rt, ky, du, se, ()), ()), ((rt2, ky2, (0, n), du2, se2, ()), ()), (m, ()), ms, blk, ())) ?_ ?_
  rotate_left
  · intro i k hk hi
    have hw : w64 ((i : Int) + 1) = ((i + 1 : Nat) : Int) := w64_nat (by omega)
    have hb : decide ((0 : Int) ≤ (i : Int) ∧ (i : Int) < ((F ++ R).length : Int)) = true := decide_eq_true (by omega)
    have hne : decide (k = m.1) = false := decide_eq_false (hFR k (List.mem_of_getElem? hk))
    simp only [l5_0_13, lt_t hi, hb, Int.toNat_natCast, hk, toList_bl, beq_bl, hne, hw, sumE, sS]
  · simp only [l5_0_13, lt_f, sumE, sS]
  refine ens_call ⟨_, l1, rfl⟩ ?_
  rintro _ rfl
  simp only [sumE, sS]
  obtain ⟨j, hj, hjy⟩ := List.mem_iff_getElem.1 hy
  rw [List.length_take] at hj
  have at1 : ∀ i, i < n → ∃ e, blk[i]? = some e ∧ e ∈ blk.take n := fun i hi => by
    have : i < (blk.take n).length := by rw [List.length_take]; omega
    refine ⟨(blk.take n)[i], ?_, List.getElem_mem this⟩
    rw [← List.getElem?_eq_getElem this, List.getElem?_take_of_lt hi]
  refine ens_call (R := fun b => b = .inl ((true, ()), ())) ?_ ?_
  · have hnl : n ≤ 256 := by rw [List.length_take] at hml; omega
    refine ens_loop (fun v => ∃ i : Nat, i ≤ j ∧ v = ((now, (i : Int), (0, n), ((n : Nat) : Int), ()), ((rt, ky, du, se, ()), ()), ((rt2, ky2, (0, n), du2, se2, ()), ()), (m, ()), blk, ms, ())) (fun v => n - v.1.2.1.toNat) ?_ _ ⟨0, Nat.zero_le _, rfl⟩
    rintro _ ⟨i, hi, rfl⟩
    obtain ⟨e1, he1, hm1⟩ := at1 i (by omega)
    have hw : w64 ((i : Int) + 1) = ((i + 1 : Nat) : Int) := w64_nat (by omega)
    have hb : decide ((0 : Int) ≤ (i : Int) ∧ (i : Int) < ((n : Nat) : Int)) = true := decide_eq_true (by omega)
    have hlt : decide ((i : Int) < ((n : Nat) : Int)) = true := decide_eq_true (by omega)
    unfold l5_0_19
    simp only [hlt, hb, Int.toNat_natCast, Nat.zero_add, he1, toList_bl, beq_bl, sane23, sumE, sS]
    by_cases hk : e1.1 = m.1
    · obtain ⟨g1, g2, g3⟩ := F3 e1 hm1 hk
      have b1 : (e1.2.2.2.2.1 == m.2.2.2.2.1) = true := by rw [show e1.2.2.2.2.1 = m.2.2.2.2.1 from g1]; exact beq_self_eq_true _
      have b2 : (e1.2.2.2.2.2.1 == m.2.2.2.2.2.1) = true := by rw [show e1.2.2.2.2.2.1 = m.2.2.2.2.2.1 from g2]; exact beq_self_eq_true _
      have b3 : (e1.2.2.1 == m.2.2.1) = true := by rw [show e1.2.2.1 = m.2.2.1 from g3]; exact beq_self_eq_true _
      rw [decide_eq_true hk]
      simp only [b1, b2, b3, sumE, sS]
      rcases F5 with h | h | h
      · rw [decide_eq_true h]
        exact ens_some rfl
      · rw [show du = -1 from h]
        cases decide (du2 > now) <;> exact ens_some rfl
      · rw [decide_eq_true (show du > now from h)]
        cases decide (du2 > now) <;> cases (du == -1) <;> exact ens_some rfl
    · rw [decide_eq_false hk]
      simp only [hw, sumE, sS]
      have hne : i ≠ j := by
        rintro rfl
        apply hk
        have : blk[i]? = some y := by
          rw [← hjy, ← List.getElem?_eq_getElem (by rw [List.length_take]; omega), List.getElem?_take_of_lt (by omega)]
        rw [he1] at this
        injection this with this
        rw [this]
        exact F4
      exact ens_some ⟨⟨i + 1, by omega, rfl⟩, by dsimp only; omega⟩
  · rintro _ rfl
    exact ens_some rfl

theorem law5 : ∀ x, Abs.InRs [.row (.int .i64)] x → m5 (x, ()) = some ((true, ()), ()) := fun x _ => law5c x.1

end Go.Proofs.Ytcblbcpnfidndaa
