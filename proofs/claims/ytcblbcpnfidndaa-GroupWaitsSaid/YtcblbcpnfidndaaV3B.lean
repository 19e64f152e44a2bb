/- Lemmas for the statement of the last text of this claim. -/
import Derived.Test.YtcblbcpnfidndaaChecked
import Derived.Test.YtcblbcpnfidndaaPxS
import Derived.WalkKit
import Derived.ProofKit
import Derived.Deep.RegionLaw
import Derived.Deep.LoopGhost
import Derived.Lib.Walk
import Derived.Maps.Own
import Derived.Shelf.RegionOpenPlain
import Derived.Shelf.Spec.SlicesInsert
import Derived.Shelf.Strings.OnBuilder
import Derived.Test.YtcblbcpnfidndaaPxO
import Derived.Test.YtcblbcpnfidndaaPlD
import Derived.BigCall
import Derived.Lib.LazyBuf
import Derived.Test.YtcblbcpnfidndaaPxQ
import Derived.Test.YtcblbcpnfidndaaV3A
set_option linter.unusedSimpArgs false
set_option linter.unusedVariables false
namespace Go.Proofs.Ytcblbcpnfidndaa
open Go Go.Abs Go.Lab
theorem bl_irr : ∀ x : List UInt8, Op.bytesLess x x = false
  | [] => rfl
  | a :: x => by
    have := bl_irr x
    simp [Op.bytesLess, this]

theorem bl_trans : ∀ {x y z : List UInt8}, Op.bytesLess x y = true → Op.bytesLess y z = true → Op.bytesLess x z = true
  | _, [], _, h, _ => by cases ‹List UInt8› <;> simp [Op.bytesLess] at h
  | _, _ :: _, [], _, h => by simp [Op.bytesLess] at h
  | [], _ :: _, _ :: _, _, _ => by simp [Op.bytesLess]
  | a :: x, b :: y, c :: z, h1, h2 => by
    simp only [Op.bytesLess, Bool.or_eq_true, decide_eq_true_eq, Bool.and_eq_true, beq_iff_eq] at h1 h2 ⊢
    rcases h1 with h1 | ⟨rfl, h1⟩
    · rcases h2 with h2 | ⟨rfl, h2⟩
      · exact .inl (UInt8.lt_trans h1 h2)
      · exact .inl h1
    · rcases h2 with h2 | ⟨rfl, h2⟩
      · exact .inl h2
      · exact .inr ⟨rfl, bl_trans h1 h2⟩

theorem bl_tri : ∀ (x y : List UInt8), Op.bytesLess x y = true ∨ x = y ∨ Op.bytesLess y x = true
  | [], [] => .inr (.inl rfl)
  | [], _ :: _ => .inl rfl
  | _ :: _, [] => .inr (.inr rfl)
  | a :: x, b :: y => by
    simp only [Op.bytesLess, Bool.or_eq_true, decide_eq_true_eq, Bool.and_eq_true, beq_iff_eq]
    rcases Nat.lt_trichotomy a.toNat b.toNat with h | h | h
    · exact .inl (.inl (UInt8.lt_iff_toNat_lt.2 h))
    · have h := UInt8.toNat_inj.1 h
      subst h
      rcases bl_tri x y with h | h | h
      · exact .inl (.inr ⟨rfl, h⟩)
      · exact .inr (.inl (by rw [h]))
      · exact .inr (.inr (.inr ⟨rfl, h⟩))
    · exact .inr (.inr (.inl (UInt8.lt_iff_toNat_lt.2 h)))

abbrev Lt (a b : ByteArray) : Prop := Op.bytesLess a.toList b.toList = true

theorem toL_inj {a b : ByteArray} (h : a.toList = b.toList) : a = b := bl_inj (by rw [← toList_bl, ← toList_bl, h])

theorem lt_irr (a : ByteArray) : ¬ Lt a a := fun h => by rw [Lt, bl_irr] at h; cases h

theorem lt_trans {a b c : ByteArray} (h : Lt a b) (k : Lt b c) : Lt a c := bl_trans h k

theorem lt_tri (a b : ByteArray) : Lt a b ∨ a = b ∨ Lt b a := by
  rcases bl_tri a.toList b.toList with h | h | h
  · exact .inl h
  · exact .inr (.inl (toL_inj h))
  · exact .inr (.inr h)

theorem less_lt {a b : ByteArray} : Less a b ↔ Lt a b := by
  unfold Less leB
  rw [Bool.or_eq_false_iff]
  constructor
  · rintro ⟨h1, h2⟩
    rcases lt_tri a b with h | h | h
    · exact h
    · subst h; simp at h2
    · rw [h] at h1; cases h1
  · intro h
    refine ⟨?_, ?_⟩
    · cases hc : Op.bytesLess b.toList a.toList
      · rfl
      · exact absurd (lt_trans h hc) (lt_irr a)
    · cases hc : (b.toList == a.toList)
      · rfl
      · have : b = a := toL_inj (by simpa using hc)
        subst this
        exact absurd h (lt_irr b)

theorem cmpB_neg {a b : ByteArray} : cmpB a b < 0 ↔ Lt a b := by
  unfold cmpB
  by_cases h : Lt a b
  · rw [if_pos h]; exact ⟨fun _ => h, fun _ => by omega⟩
  · rw [if_neg h]
    constructor
    · intro h2; split at h2 <;> omega
    · exact fun h2 => absurd h2 h

theorem cmpB_zero {a b : ByteArray} : cmpB a b = 0 ↔ a = b := by
  unfold cmpB
  by_cases h : Lt a b
  · rw [if_pos h]
    exact ⟨fun h2 => by omega, fun h2 => by subst h2; exact absurd h (lt_irr a)⟩
  · rw [if_neg h]
    by_cases h2 : leB a b = false
    · rw [if_pos h2]
      have h3 := less_lt.1 (show Less b a from h2)
      exact ⟨fun h => by omega, fun h => by subst h; exact absurd h3 (lt_irr a)⟩
    · rw [if_neg h2]
      refine ⟨fun _ => ?_, fun _ => rfl⟩
      rcases lt_tri a b with h3 | h3 | h3
      · exact absurd h3 h
      · exact h3
      · exact absurd (less_lt.2 h3) h2

theorem half (i j : Nat) (h : i + j ≤ 1000000) : w64 (shrI .u64 (IntKind.wrap .u64 (w64 ((i : Int) + (j : Int)))) 1) = (((i + j) / 2 : Nat) : Int) := by
  have h1 : w64 ((i : Int) + (j : Int)) = (i : Int) + (j : Int) := w64_id (by omega) (by omega)
  rw [h1]
  have h2 : IntKind.wrap .u64 ((i : Int) + (j : Int)) = (i : Int) + (j : Int) := by
    have hp : (2 : Int) ^ IntKind.u64.bits = 18446744073709551616 := rfl
    simp only [IntKind.wrap, hp, show IntKind.u64.signed = false from rfl, Bool.false_and, Bool.false_eq_true, if_false]
    omega
  rw [h2]
  have h3 : shrI .u64 ((i : Int) + (j : Int)) 1 = (((i + j) / 2 : Nat) : Int) := by
    unfold shrI
    rw [show (2 : Int) ^ (min (1 : Int).toNat IntKind.u64.bits) = 2 from rfl, Int.fdiv_eq_ediv_of_nonneg _ (by omega)]
    omega
  rw [h3]
  exact w64_id (by omega) (by omega)

theorem find40 {g : GpT} (hlen : (gMem g).length ≤ 256) (hup0 : ((gMem g).map mKey).Pairwise Less) (k : ByteArray) : ∃ (i : Nat) (o : Bool), m40 ((g, k, ()), ()) = some (((i : Int), o, ()), ()) ∧ i ≤ (gMem g).length ∧ (∀ m ∈ (gMem g).take i, Lt (mKey m) k) ∧
    (∀ m ∈ (gMem g).drop i, ¬ Lt (mKey m) k) ∧ (o = true → ∃ m, (gMem g)[i]? = some m ∧ mKey m = k) ∧ (o = false → ∀ m ∈ gMem g, mKey m ≠ k) := by
  have hup := List.pairwise_iff_getElem.1 hup0
  have mono : ∀ (a b : Nat) (x y : MbT), (gMem g)[a]? = some x → (gMem g)[b]? = some y → a ≤ b → ¬ Lt (mKey x) k → ¬ Lt (mKey y) k := by
    intro a b x y ha hb hab hx hy
    by_cases e : a = b
    · subst e; rw [ha] at hb; injection hb with hb; subst hb; exact hx hy
    · obtain ⟨h1, h1'⟩ := List.getElem?_eq_some_iff.1 ha
      obtain ⟨h2, h2'⟩ := List.getElem?_eq_some_iff.1 hb
      have := hup a b (by rw [List.length_map]; exact h1) (by rw [List.length_map]; exact h2) (by omega)
      rw [List.getElem_map, List.getElem_map, h1', h2'] at this
      exact hx (lt_trans (less_lt.1 this) hy)
  have key : ∃ i : Nat, loopT l40_1_3 ((k, gMem g, ((gMem g).length : Int), 0, ((gMem g).length : Int), ()), ()) = some ((k, (i : Int), gMem g, ((gMem g).length : Int), ()), ()) ∧ i ≤ (gMem g).length ∧
      (∀ j m, j < i → (gMem g)[j]? = some m → Lt (mKey m) k) ∧ (∀ j m, i ≤ j → (gMem g)[j]? = some m → ¬ Lt (mKey m) k) := by
    have go : ∀ (d lo hi : Nat), hi - lo ≤ d → lo ≤ hi → hi ≤ (gMem g).length → (∀ j m, j < lo → (gMem g)[j]? = some m → Lt (mKey m) k) → (∀ j m, hi ≤ j → (gMem g)[j]? = some m → ¬ Lt (mKey m) k) →
        ∃ i : Nat, loopT l40_1_3 ((k, gMem g, (hi : Int), (lo : Int), ((gMem g).length : Int), ()), ()) = some ((k, (i : Int), gMem g, ((gMem g).length : Int), ()), ()) ∧ i ≤ (gMem g).length ∧
          (∀ j m, j < i → (gMem g)[j]? = some m → Lt (mKey m) k) ∧ (∀ j m, i ≤ j → (gMem g)[j]? = some m → ¬ Lt (mKey m) k) := by
      intro d
      induction d with
      | zero =>
        intro lo hi h0 h1 h2 h3 h4
        have : lo = hi := by omega
        subst this
        refine ⟨lo, loopT_inr ?_, h2, h3, h4⟩
        simp only [l40_1_3, lt_f, sumE, sS]
      | succ d ih =>
        intro lo hi h0 h1 h2 h3 h4
        by_cases hlt : lo < hi
        · have hm := half lo hi (by omega)
          have hmid : (lo + hi) / 2 < (gMem g).length := by omega
          obtain ⟨e, he⟩ := getD_some hmid
          have dl : decide ((lo : Int) < (hi : Int)) = true := decide_eq_true (by omega)
          have d1 : decide ((0 : Int) ≤ 1) = true := rfl
          have hw : w64 ((((lo + hi) / 2 : Nat) : Int) + 1) = (((lo + hi) / 2 + 1 : Nat) : Int) := w64_nat (by omega)
          by_cases hc : Lt (mKey e) k
          · have dc : decide (cmpB (mKey e) k < 0) = true := decide_eq_true (cmpB_neg.2 hc)
            obtain ⟨i, q, r⟩ := ih ((lo + hi) / 2 + 1) hi (by omega) (by omega) h2 (fun j m hj hjm => by
              by_cases hx : Lt (mKey m) k
              · exact hx
              · exact absurd hc (mono j _ m e hjm he (by omega) hx)) h4
            refine ⟨i, (loopT_inl ?_).trans q, r⟩
            simp only [l40_1_3, dl, d1, hm, rowAt_G, rowG_nat he, m73_eq, dc, hw, sumE, sS]
          · have dc : decide (cmpB (mKey e) k < 0) = false := decide_eq_false (fun h => hc (cmpB_neg.1 h))
            obtain ⟨i, q, r⟩ := ih lo ((lo + hi) / 2) (by omega) (by omega) (by omega) h3 (fun j m hj hjm => mono _ j e m he hjm hj hc)
            refine ⟨i, (loopT_inl ?_).trans q, r⟩
            simp only [l40_1_3, dl, d1, hm, rowAt_G, rowG_nat he, m73_eq, dc, sumE, sS]
        · have : lo = hi := by omega
          subst this
          refine ⟨lo, loopT_inr ?_, h2, h3, h4⟩
          simp only [l40_1_3, lt_f, sumE, sS]
    exact go _ 0 _ (Nat.le_refl _) (Nat.zero_le _) (Nat.le_refl _) (fun j m hj => by omega) (fun j m hj hjm => by
      have := (List.getElem?_eq_some_iff.1 hjm).1; omega)
  obtain ⟨i, q, h1, h2, h3⟩ := key
  have ht : ∀ m ∈ (gMem g).take i, Lt (mKey m) k := fun m hm => by
    obtain ⟨j, hj, rfl⟩ := List.mem_take_iff_getElem.1 hm
    exact h2 j _ (by omega) (List.getElem?_eq_getElem _)
  have hd : ∀ m ∈ (gMem g).drop i, ¬ Lt (mKey m) k := fun m hm => by
    obtain ⟨j, hj, rfl⟩ := List.mem_drop_iff_getElem.1 hm
    exact h3 (i + j) _ (by omega) (List.getElem?_eq_getElem _)
  have hne : (∀ m, (gMem g)[i]? = some m → mKey m ≠ k) → ∀ m ∈ gMem g, mKey m ≠ k := by
    intro hi m hm e
    obtain ⟨j, hj, rfl⟩ := List.mem_iff_getElem.1 hm
    rcases Nat.lt_trichotomy j i with hji | hji | hji
    · have := h2 j _ hji (List.getElem?_eq_getElem hj)
      rw [e] at this
      exact lt_irr _ this
    · subst hji
      exact hi _ (List.getElem?_eq_getElem hj) e
    · have hil : i < (gMem g).length := by omega
      have a := hup i j (by rw [List.length_map]; exact hil) (by rw [List.length_map]; exact hj) hji
      rw [List.getElem_map, List.getElem_map] at a
      have b := h3 i _ (Nat.le_refl _) (List.getElem?_eq_getElem hil)
      have c := less_lt.1 a
      rw [e] at c
      exact b c
  by_cases hil : i < (gMem g).length
  · obtain ⟨e, he⟩ := getD_some hil
    have dl : decide ((i : Int) < ((gMem g).length : Int)) = true := decide_eq_true (by omega)
    refine ⟨i, cmpB (mKey e) k == 0, ?_, h1, ht, hd, fun ho => ⟨e, he, cmpB_zero.1 (by simpa using ho)⟩, fun ho => hne fun m hm hk => ?_⟩
    · unfold m40
      refine bind_of _ q ?_
      simp only [dl, rowAt_G, rowG_nat he, m73_eq, sumE, sS]
    · rw [he] at hm
      injection hm with hm
      subst hm
      have := cmpB_zero.2 hk
      rw [this] at ho
      cases ho
  · have dl : decide ((i : Int) < ((gMem g).length : Int)) = false := decide_eq_false (by omega)
    refine ⟨i, false, ?_, h1, ht, hd, fun ho => (by cases ho), fun _ => hne fun m hm => ?_⟩
    · unfold m40
      refine bind_of _ q ?_
      simp only [dl, sumE, sS]
    · have := (List.getElem?_eq_some_iff.1 hm).1; omega

/-! ### Copies -/
abbrev Cor := Int × ByteArray × Int × Int × Unit

def cor (g : GpT) : Cor := (g.1, g.2.1, gDue g, gSent g, ())

theorem copy41 {g : GpT} (h : VG g) : m41 ((g, ()), ()) = some ((), ((cor g, ()), (gMem g, ()))) := by
  have hlen := h.len
  obtain ⟨rt, ky, ms, du, se, ⟨⟩⟩ := g
  dsimp only [gMem] at hlen
  have d0 : decide (ms.length ≤ 4294967296) = true := decide_eq_true (by omega)
  have hl : loopT l41_0_3 (((0 : Int), (ms.length : Int), ()), (((rt, ky, du, se, ()), ()), (((0, ByteArray.empty, 0, 0, ()), ()), (ms, ())))) = some ((), (((((0, ByteArray.empty, 0, 0, ()) : Cor), ()), ((((rt, ky, du, se, ()) : Cor), ()), (ms, ()))))) := by
    refine loop_thru ms (fun i => (((i : Int), (ms.length : Int), ()), (((rt, ky, du, se, ()), ()), (((0, ByteArray.empty, 0, 0, ()), ()), (ms, ()))))) _ (fun i e he hi => ?_) (by simp only [l41_0_3, lt_f, sumE, sS])
    have hw := w64_nat (i := i) (by omega)
    have d2 : decide ((0 : Int) ≤ (i : Int) ∧ (i : Int) < (ms.length : Int)) = true := decide_eq_true (by omega)
    have hm := h.mem e (List.mem_of_getElem? he)
    have hv := (valid_mem hm.lab).1
    have d3 : decide (e.2.1.length ≤ 4294967296) = true := decide_eq_true (by dsimp only [mLab] at hv; omega)
    have hset : ms.set i (e.1, e.2.1, e.2.2) = ms := by
      have := (List.getElem?_eq_some_iff.1 he).2
      rw [← this]
      exact List.set_getElem_self _
    simp only [l41_0_3, lt_t hi, d2, Int.toNat_natCast, he, m43, d3, hset, hw, sumE, sS]
  unfold m41
  simp only [m75, d0, sumE, sS]
  refine bind_of _ hl ?_
  rfl

theorem m55_eq (t : Int) : m55 ((t, ()), ()) = some (((if t > 8589934592 then -1 else t), ()), ()) := by
  unfold m55
  by_cases h : t > 8589934592
  · simp only [h, if_true, sumE, sS]
  · simp only [h, if_false, sumE, sS]

end Go.Proofs.Ytcblbcpnfidndaa

namespace Go.Proofs.Ytcblbcpnfidndaa
open Go Go.Abs Go.Lab
/-! ### Routes -/
def strip (r : RtT) : RtT := (-1, [], r.2.2)

/-- Whether a route is right, as a root. -/
def rightR (r : RtT) : Bool := chkOne (strip r) == 0

theorem strip_z {r : RtT} (h : TrSz r) : TrSz (strip r) := ⟨⟨Nat.zero_le _, fun m hm => by cases hm⟩, h.2⟩

theorem chkT_strip (r : RtT) : chkT [strip r] = chkOne (strip r) := by
  have h1 : chkI 0 (strip r) = chkOne (strip r) := rfl
  have h2 : (([strip r] : List RtT)[0]?) = some (strip r) := rfl
  have h3 : decide (((strip r).2.1.length : Int) > 0) = false := rfl
  unfold chkT
  simp only [goI, h1, h2, h3, List.length_singleton]
  by_cases h : chkOne (strip r) = 0
  · rw [h]; rfl
  · rw [bne_iff_ne.2 h]
    simp only [cond_true]
    rw [bne_iff_ne.2 h]
    rfl

theorem m36_eq (r : RtT) (hr : TrSz r) : m36 ((r, ()), ()) = some ((rightR r, ()), ()) := by
  unfold m36
  refine bind_of _ (m67_eq [strip r] ⟨by simp, fun x hx => by simp at hx; subst hx; exact strip_z hr⟩) ?_
  rw [chkT_strip]
  rfl

end Go.Proofs.Ytcblbcpnfidndaa

namespace Go.Proofs.Ytcblbcpnfidndaa
open Go Go.Abs Go.Lab
abbrev rWait (r : RtT) : Int := r.2.2.2.2.1

abbrev rInt (r : RtT) : Int := r.2.2.2.2.2.1

abbrev rRep (r : RtT) : Int := r.2.2.2.2.2.2.1

structure RR (r : RtT) : Prop where
  z : TrSz r
  ok : rightR r = true
  pol : 0 ≤ r.2.2.1
  wait : 0 ≤ rWait r
  int : rWait r ≤ rInt r
  rep : rInt r ≤ rRep r
  max : rRep r ≤ 604800
  pos : rRep r ≠ 0

theorem rr_of {r : RtT} (z : TrSz r) (h : rightR r = true) : RR r := by
  have h0 : chkOne (strip r) = 0 := by unfold rightR at h; simpa using h
  unfold chkOne at h0
  cases h1 : (decide (((strip r).2.1.length : Int) > 8) || decide (((strip r).2.2.2.1.length : Int) > 12))
  · rw [h1] at h0
    cases h2 : (!(strip r).2.1.all rightM || !keysOK (strip r).2.2.2.1)
    · rw [h2] at h0
      cases h3 : chkRange (strip r)
      · unfold chkRange at h3
        simp only [Bool.or_eq_false_iff, decide_eq_false_iff_not, beq_eq_false_iff_ne] at h3
        obtain ⟨a, b, c, d, e, f⟩ := h3
        have a : ¬ r.2.2.1 < 0 := a
        have b : ¬ r.2.2.2.2.1 < 0 := b
        have c : ¬ r.2.2.2.2.1 > r.2.2.2.2.2.1 := c
        have d : ¬ r.2.2.2.2.2.1 > r.2.2.2.2.2.2.1 := d
        have e : ¬ r.2.2.2.2.2.2.1 > 604800 := e
        exact ⟨z, h, by omega, by unfold rWait; omega, by unfold rWait rInt; omega, by unfold rInt rRep; omega, by unfold rRep; omega, f⟩
      · rw [h3] at h0; cases h0
    · rw [h2] at h0; cases h0
  · rw [h1] at h0; cases h0

/-! ### Places of keys -/
def pos (k : ByteArray) : List MbT → Nat
  | [] => 0
  | m :: r => if Op.bytesLess (mKey m).toList k.toList = true then pos k r + 1 else 0

def hit (k : ByteArray) (l : List MbT) : Bool := match l[pos k l]? with | some m => decide (mKey m = k) | none => false

theorem pos_of {k : ByteArray} : ∀ {l : List MbT} {i : Nat}, i ≤ l.length → (∀ m ∈ l.take i, Lt (mKey m) k) → (∀ m ∈ l.drop i, ¬ Lt (mKey m) k) → pos k l = i
  | [], i, h, _, _ => by simp at h; subst h; rfl
  | m :: r, 0, _, _, h => by
    unfold pos
    rw [if_neg (h m (by simp))]
  | m :: r, i + 1, h0, h1, h2 => by
    unfold pos
    rw [if_pos (h1 m (by simp)), pos_of (by simpa using h0) (fun x hx => h1 x (by rw [List.take_succ_cons]; exact List.mem_cons_of_mem _ hx)) (fun x hx => h2 x (by simpa using hx))]

theorem pos_le (k : ByteArray) : ∀ l : List MbT, pos k l ≤ l.length
  | [] => Nat.le_refl _
  | m :: r => by
    unfold pos
    have := pos_le k r
    split <;> simp <;> omega

theorem pos_take {k : ByteArray} : ∀ {l : List MbT}, ∀ m ∈ l.take (pos k l), Lt (mKey m) k
  | [], m, h => by simp at h
  | x :: r, m, h => by
    unfold pos at h
    split at h
    · rename_i hx
      rw [List.take_succ_cons] at h
      rcases List.mem_cons.1 h with rfl | h
      · exact hx
      · exact pos_take m h
    · simp at h

theorem pos_at {k : ByteArray} : ∀ {l : List MbT} {m : MbT}, l[pos k l]? = some m → ¬ Lt (mKey m) k
  | [], m, h => by simp at h
  | x :: r, m, h => by
    unfold pos at h
    split at h
    · exact pos_at (by simpa using h)
    · rename_i hx
      simp at h
      subst h; exact hx

theorem up_drop {l : List MbT} (h : (l.map mKey).Pairwise Less) {i : Nat} {e m : MbT} (he : l[i]? = some e) (hm : m ∈ l.drop (i + 1)) : Less (mKey e) (mKey m) := by
  obtain ⟨j, hj, rfl⟩ := List.mem_drop_iff_getElem.1 hm
  obtain ⟨h1, rfl⟩ := List.getElem?_eq_some_iff.1 he
  have := List.pairwise_iff_getElem.1 h i (i + 1 + j) (by rw [List.length_map]; exact h1) (by rw [List.length_map]; omega) (by omega)
  rwa [List.getElem_map, List.getElem_map] at this

/-- Behind the place of a key there are greater keys only. -/
theorem pos_drop {k : ByteArray} {l : List MbT} (h : (l.map mKey).Pairwise Less) (hh : hit k l = false) : ∀ m ∈ l.drop (pos k l), Lt k (mKey m) := by
  intro m hm
  by_cases hl : pos k l < l.length
  · obtain ⟨e, he, hd⟩ := drop_at hl
    have h1 := pos_at he
    have h2 : mKey e ≠ k := by
      unfold hit at hh
      rw [he] at hh
      simpa using hh
    have h3 : Lt k (mKey e) := by
      rcases lt_tri (mKey e) k with h | h | h
      · exact absurd h h1
      · exact absurd h h2
      · exact h
    rw [hd] at hm
    rcases List.mem_cons.1 hm with rfl | hm
    · exact h3
    · exact lt_trans h3 (less_lt.1 (up_drop h he hm))
  · rw [List.drop_eq_nil_of_le (by omega)] at hm; cases hm

theorem hit_some {k : ByteArray} {l : List MbT} (h : hit k l = true) : ∃ m, l[pos k l]? = some m ∧ mKey m = k := by
  unfold hit at h
  split at h
  · rename_i m hm
    exact ⟨m, hm, by simpa using h⟩
  · cases h

theorem find_eq0 {g : GpT} (hlen : (gMem g).length ≤ 256) (hup : ((gMem g).map mKey).Pairwise Less) (k : ByteArray) : m40 ((g, k, ()), ()) = some (((pos k (gMem g) : Int), hit k (gMem g), ()), ()) := by
  obtain ⟨i, o, e, h1, h2, h3, h4, h5⟩ := find40 hlen hup k
  have hi := pos_of h1 h2 h3
  have ho : hit k (gMem g) = o := by
    unfold hit
    rw [hi]
    cases o
    · split
      · rename_i m hm
        exact decide_eq_false (h5 rfl m (List.mem_of_getElem? hm))
      · rfl
    · obtain ⟨m, hm, hk⟩ := h4 rfl
      rw [hm]
      exact decide_eq_true hk
  rw [e, hi, ho]

theorem find_eq {g : GpT} (h : VG g) (k : ByteArray) : m40 ((g, k, ()), ()) = some (((pos k (gMem g) : Int), hit k (gMem g), ()), ()) := find_eq0 h.len h.up k

/-! ### Waking -/
def limE (t : Int) : Int := if t > 8589934592 then -1 else t

def wakeN (se wait int t : Int) : Int := if se = -1 then t + wait else if se + int > t then se + int else t

def wakeV (du se wait int t : Int) : Int := limE (if du = -1 then wakeN se wait int t else if du < wakeN se wait int t then du else wakeN se wait int t)

theorem lim_p (t : Int) : m55 ((t, ()), ()) = some ((limE t, ()), ()) := m55_eq t

theorem lim_le {t : Int} (h : t ≤ 8589934592) : limE t = t := by unfold limE; rw [if_neg (by omega)]

/-! ### Add -/
abbrev zeroC : Cor := (0, ByteArray.empty, 0, 0, ())

abbrev dueC (g : GpT) (d : Int) : Cor := (g.1, g.2.1, d, gSent g, ())

def heardM (m : MbT) (t : Int) : MbT := (m.1, m.2.1, m.2.2.1, t, m.2.2.2.2)

def stepM (m : MbT) (on : Bool) (t : Int) : MbT := (m.1, m.2.1, t, mHeard m, on, on, ())

abbrev wakeG (g : GpT) (r : RtT) (t : Int) : Int := wakeV (gDue g) (gSent g) (rWait r) (rInt r) t

def restD (g : GpT) (ms : List MbT) : Int := if ms.length = 0 then -1 else gDue g

/-- What is made of an alert. -/
def gAdd (g : GpT) (r : RtT) (l : List LT) (on : Bool) (t : Int) : Int × Cor × List MbT :=
  let k := mkB (textL l)
  let ms := gMem g
  let i := pos k ms
  if hit k ms = true then
    match ms[i]? with
    | none => (0, zeroC, [])
    | some m =>
      if mFire m = on then (0, dueC g (gDue g), ms.set i (heardM m t))
      else if on = true then (0, dueC g (gDue g), ms.set i (stepM (heardM m t) true t))
      else if mTold m = true then (0, dueC g (wakeG g r t), ms.set i (stepM (heardM m t) false t))
      else (0, dueC g (restD g (ms.take i ++ ms.drop (i + 1))), ms.take i ++ ms.drop (i + 1))
  else if on = true then
    if ms.length = 256 then (5, zeroC, []) else (0, dueC g (wakeG g r t), ms.take i ++ [(k, l, t, t, true, false, ())] ++ ms.drop i)
  else (0, dueC g (restD g ms), ms)

abbrev outA (x : Int × Cor × List MbT) : Option ((Int × Unit) × ((Cor × Unit) × (List MbT × Unit))) := some ((x.1, ()), ((x.2.1, ()), (x.2.2, ())))

theorem set_at {l : List MbT} {i : Nat} {e : MbT} (h : l[i]? = some e) (x : MbT) : (l.set i x)[i]? = some x := by
  rw [List.getElem?_set_self (List.getElem?_eq_some_iff.1 h).1]

theorem take_set_self (l : List MbT) (i : Nat) (x : MbT) : (l.set i x).take i = l.take i := by
  rw [List.take_set, List.set_eq_of_length_le (by rw [List.length_take]; omega)]

theorem drop_set_self (l : List MbT) (i : Nat) (x : MbT) : (l.set i x).drop (i + 1) = l.drop (i + 1) := by
  rw [List.drop_set, if_pos (by omega)]

theorem len0 (l : List MbT) : (((l.length : Nat) : Int) == 0) = decide (l.length = 0) := by
  rw [beq_decide]; exact decide_eq_decide.2 (by omega)

theorem add_p {g : GpT} (h : VG g) {r : RtT} (hr : RR r) {l : List LT} (hl : validL l = true) (on : Bool) {t : Int} (ht : 0 ≤ t ∧ t ≤ 8589934592) :
    m14 ((g, r, l, on, t, ()), ()) = outA (gAdd g r l on t) := by
  have q1 := m23_eq h
  have q2 := m36_eq r hr.z
  rw [hr.ok] at q2
  have q3 := m37_eq l (valid_ks hl)
  rw [hl] at q3
  have q4 := m39_eq l (valid_ks hl)
  rw [text_valid hl] at q4
  have q5 := find_eq h (mkB (textL l))
  have q6 := copy41 h
  have dt : decide ((0 : Int) ≤ t ∧ t ≤ 8589934592) = true := decide_eq_true ht
  have hlen := h.len
  have hsent := h.sent
  have hdue := h.due
  have hv := (valid_mem hl).1
  have hw := hr.wait
  have hi := hr.int
  have hp := hr.rep
  have hx := hr.max
  have w1 : w64 (gSent g + rInt r) = gSent g + rInt r := w64_id (by omega) (by omega)
  have w2 : w64 (t + rWait r) = t + rWait r := w64_id (by omega) (by omega)
  have hple := pos_le (mkB (textL l)) (gMem g)
  obtain ⟨rt, ky, ms, du, se, ⟨⟩⟩ := g
  obtain ⟨pa, mt, po, gb, wa, ir, rp, co, ⟨⟩⟩ := r
  dsimp only [gMem, gDue, gSent, rWait, rInt, rRep, cor] at *
  unfold m14
  simp only [q1, q2, q3, q4, q5, q6, m38_eq, dt, Int.toNat_natCast, List.length_set, sumE, sS]
  unfold gAdd
  dsimp only [gMem, gDue, gSent, rWait, rInt, rRep, dueC, wakeG]
  have hx0 : hit (mkB (textL l)) ms = match ms[pos (mkB (textL l)) ms]? with | some m => decide (mKey m = (mkB (textL l))) | none => false := rfl
  generalize pos (mkB (textL l)) ms = i at *
  cases hh : hit (mkB (textL l)) ms
  · simp only [Bool.false_eq_true, if_false, sumE, sS]
    cases on
    · have b0 : ((ms.length : Int) == 0) = decide (ms.length = 0) := by
        rw [beq_decide]; exact decide_eq_decide.2 (by omega)
      simp only [restD, gMem, gDue, b0, eq_self, Bool.false_eq_true, if_false, sumE, sS]
      by_cases h0 : ms.length = 0
      · simp only [h0, eq_self, if_true, sumE, sS]
      · simp only [h0, eq_self, if_false, sumE, sS]
    · by_cases h6 : ms.length = 256
      · have b6 : ((ms.length : Int) == 256) = true := by rw [beq_decide]; exact decide_eq_true (by omega)
        simp only [b6, eq_self, if_true, sumE, sS]
        rw [if_pos h6]
      · have b6 : ((ms.length : Int) == 256) = false := by rw [beq_decide]; exact decide_eq_false (by omega)
        have d1 : decide (l.length ≤ 4294967296) = true := decide_eq_true (by omega)
        have d2 : decide ((0 : Int) ≤ (i : Int) ∧ (i : Int) ≤ (ms.length : Int) ∧ ms.length ≤ 4294967295) = true := decide_eq_true (by omega)
        have b0 : ((((ms.take i ++ [(mkB (textL l), l, t, t, true, false, ())] ++ ms.drop i).length : Nat) : Int) == 0) = false := by
          rw [beq_decide]; exact decide_eq_false (by simp only [List.length_append, List.length_singleton]; omega)
        simp only [b6, h6, m43, d1, d2, List.length_singleton, Int.toNat_natCast, eq_self, and_true, if_true, if_false, sumE, sS]
        by_cases hs : se = -1 <;> by_cases hd : du = -1
        · subst hs; subst hd
          simp only [w1, w2, wakeV, wakeN, lim_p, b0, eq_self, if_true, if_false, sumE, sS]
        · subst hs
          have bd : (du != -1) = true := bne_iff_ne.2 hd
          simp only [w1, w2, bd, hd, wakeV, wakeN, lim_p, b0, eq_self, if_true, if_false, sumE, sS]
        · subst hd
          have bs : (se != -1) = true := bne_iff_ne.2 hs
          simp only [w1, w2, bs, hs, wakeV, wakeN, lim_p, b0, eq_self, if_true, if_false, sumE, sS]
        · have bd : (du != -1) = true := bne_iff_ne.2 hd
          have bs : (se != -1) = true := bne_iff_ne.2 hs
          simp only [w1, w2, bd, bs, hd, hs, wakeV, wakeN, lim_p, b0, eq_self, if_true, if_false, sumE, sS]
  · have hm : ∃ m, ms[i]? = some m := by
      by_cases hil : i < ms.length
      · exact getD_some hil
      · rw [List.getElem?_eq_none (by omega)] at hx0
        exact absurd hh (by rw [hx0]; simp)
    obtain ⟨m, hm⟩ := hm
    have hlt : i < ms.length := (List.getElem?_eq_some_iff.1 hm).1
    have db : decide ((0 : Int) ≤ (i : Int) ∧ (i : Int) < (ms.length : Int)) = true := decide_eq_true (by omega)
    have wi : w64 ((i : Int) + 1) = ((i + 1 : Nat) : Int) := w64_nat (by omega)
    have dd : decide ((0 : Int) ≤ (i : Int) ∧ (i : Int) < ((i + 1 : Nat) : Int) ∧ ((i + 1 : Nat) : Int) ≤ (ms.length : Int) ∧ ms.length ≤ 4294967296) = true := decide_eq_true (by omega)
    have sa := set_at hm
    have b0 : ((ms.length : Int) == 0) = false := by rw [beq_decide]; exact decide_eq_false (by omega)
    obtain ⟨mk, ml, mn, mh, mf, mt', ⟨⟩⟩ := m
    simp only [hm, sa, db, List.set_set, List.length_set, Int.toNat_natCast, heardM, stepM, mKey, mLab, mHeard, mFire, mTold, eq_self, if_true, sumE, sS]
    have ft : (false == true) = false := rfl
    have tf : (true == false) = false := rfl
    cases mf <;> cases on
    · simp only [b0, List.length_set, eq_self, if_true, sumE, sS]
    · simp only [ft, b0, List.length_set, eq_self, if_true, if_false, Bool.false_eq_true, sumE, sS]
    · cases mt'
      · simp only [tf, wi, dd, take_set_self, drop_set_self, restD, gMem, gDue, len0, List.length_set, Int.toNat_natCast, eq_self, if_true, if_false, Bool.true_eq_false, Bool.false_eq_true, sumE, sS]
        by_cases h0 : (ms.take i ++ ms.drop (i + 1)).length = 0
        · simp only [h0, eq_self, if_true, sumE, sS]
        · simp only [h0, eq_self, if_false, sumE, sS]
      · simp only [tf, if_true, if_false, Bool.true_eq_false, Bool.false_eq_true, sumE, sS]
        by_cases hs : se = -1 <;> by_cases hd : du = -1
        · subst hs; subst hd
          simp only [w1, w2, wakeV, wakeN, lim_p, b0, List.length_set, eq_self, if_true, if_false, sumE, sS]
        · subst hs
          have bd : (du != -1) = true := bne_iff_ne.2 hd
          simp only [w1, w2, bd, hd, wakeV, wakeN, lim_p, b0, List.length_set, eq_self, if_true, if_false, sumE, sS]
        · subst hd
          have bs : (se != -1) = true := bne_iff_ne.2 hs
          simp only [w1, w2, bs, hs, wakeV, wakeN, lim_p, b0, List.length_set, eq_self, if_true, if_false, sumE, sS]
        · have bd : (du != -1) = true := bne_iff_ne.2 hd
          have bs : (se != -1) = true := bne_iff_ne.2 hs
          simp only [w1, w2, bd, bs, hd, hs, wakeV, wakeN, lim_p, b0, List.length_set, eq_self, if_true, if_false, sumE, sS]
    · simp only [b0, List.length_set, eq_self, if_true, sumE, sS]

end Go.Proofs.Ytcblbcpnfidndaa

namespace Go.Proofs.Ytcblbcpnfidndaa
open Go Go.Abs Go.Lab
end Go.Proofs.Ytcblbcpnfidndaa

namespace Go.Proofs.Ytcblbcpnfidndaa
open Go Go.Abs Go.Lab
theorem app_at (A : List MbT) (m : MbT) (B : List MbT) : (A ++ m :: B)[A.length]? = some m := by
  rw [List.getElem?_append_right (Nat.le_refl _), Nat.sub_self]; rfl

theorem app_set (A : List MbT) (m x : MbT) (B : List MbT) : (A ++ m :: B).set A.length x = A ++ x :: B := by
  rw [List.set_append_right _ _ (Nat.le_refl _), Nat.sub_self]; rfl

theorem wake_b {du se wa ir t : Int} (h1 : 0 ≤ t ∧ t ≤ 8589934592) (h2 : 0 ≤ wa) (h3 : -1 ≤ du ∧ du ≤ 8589934592) (h4 : -1 ≤ se) (h5 : 0 ≤ ir) : -1 ≤ wakeV du se wa ir t ∧ wakeV du se wa ir t ≤ 8589934592 := by
  unfold wakeV wakeN limE
  split <;> split <;> (repeat' split) <;> omega

end Go.Proofs.Ytcblbcpnfidndaa

namespace Go.Proofs.Ytcblbcpnfidndaa
open Go Go.Abs Go.Lab
abbrev NtC := Int × Int × Int × ByteArray × Unit

abbrev zeroN : NtC := (0, 0, 0, ByteArray.empty, ())

/-- Whether a list has a key. -/
def muB (mu : List ByteArray) (k : ByteArray) : Bool := mu.any fun x => decide (x = k)

def firL (mu : List ByteArray) (ms : List MbT) : List ByteArray := (ms.filter fun m => !muB mu (mKey m) && mFire m).map mKey

def resL (mu : List ByteArray) (ms : List MbT) : List ByteArray := (ms.filter fun m => !muB mu (mKey m) && !mFire m).map mKey

def freB (mu : List ByteArray) (ms : List MbT) : Bool := ms.any fun m => !muB mu (mKey m) && (mFire m && !mTold m)

def tellM (F : List ByteArray) (m : MbT) : MbT := (m.1, m.2.1, m.2.2.1, m.2.2.2.1, m.2.2.2.2.1, mTold m || muB F (mKey m), ())

def aftL (F R : List ByteArray) (ms : List MbT) : List MbT := (ms.filter fun m => !muB R (mKey m)).map (tellM F)

def opnB (ms : List MbT) : Bool := ms.any fun m => !mTold m

def againB (se rep t : Int) (F : List ByteArray) : Bool := decide (0 < F.length) && (se != -1) && decide (se + rep ≤ t)

def newsB (se rep t : Int) (mu : List ByteArray) (ms : List MbT) : Bool := freB mu ms || againB se rep t (firL mu ms) || decide (0 < (resL mu ms).length)

def nextD (se int rep t : Int) (o : Bool) : Int := limE (max (if o = true ∨ se + rep ≤ t then t + int else se + rep) (t + 1))

abbrev LkT := Bool × Cor × NtC × List MbT × List ByteArray × List ByteArray

/-- What a look makes. -/
def gLook (g : GpT) (r : RtT) (t : Int) (mu : List ByteArray) : LkT :=
  if gDue g = -1 ∨ gDue g > t then (false, dueC g (gDue g), zeroN, gMem g, [], [])
  else
    let F := firL mu (gMem g)
    let R := resL mu (gMem g)
    if newsB (gSent g) (rRep r) t mu (gMem g) = true then
      (true, (g.1, g.2.1, (if (aftL F R (gMem g)).length = 0 then -1 else nextD t (rInt r) (rRep r) t (opnB (aftL F R (gMem g)))), t, ()), (t, g.1, r.2.2.1, g.2.1, ()), aftL F R (gMem g), F, R)
    else (false, dueC g (if (gMem g).length = 0 then -1 else nextD (gSent g) (rInt r) (rRep r) t (opnB (gMem g))), zeroN, gMem g, [], [])

theorem takeSnoc {A : Type} {l : List A} {i : Nat} {e : A} (he : l[i]? = some e) : l.take (i + 1) = l.take i ++ [e] := by
  rw [List.take_add_one, he]; rfl

theorem firL_snoc (mu : List ByteArray) (l : List MbT) (e : MbT) : firL mu (l ++ [e]) = firL mu l ++ (if !muB mu (mKey e) && mFire e then [mKey e] else []) := by
  unfold firL
  rw [List.filter_append, List.map_append]
  cases h : (!muB mu (mKey e) && mFire e) <;> simp [h]

theorem resL_snoc (mu : List ByteArray) (l : List MbT) (e : MbT) : resL mu (l ++ [e]) = resL mu l ++ (if !muB mu (mKey e) && !mFire e then [mKey e] else []) := by
  unfold resL
  rw [List.filter_append, List.map_append]
  cases h : (!muB mu (mKey e) && !mFire e) <;> simp [h]

theorem freB_snoc (mu : List ByteArray) (l : List MbT) (e : MbT) : freB mu (l ++ [e]) = (freB mu l || (!muB mu (mKey e) && (mFire e && !mTold e))) := by
  unfold freB
  rw [List.any_append]
  simp

theorem firL_len (mu : List ByteArray) (l : List MbT) : (firL mu l).length ≤ l.length := by
  unfold firL; rw [List.length_map]; exact List.length_filter_le _ _

theorem resL_len (mu : List ByteArray) (l : List MbT) : (resL mu l).length ≤ l.length := by
  unfold resL; rw [List.length_map]; exact List.length_filter_le _ _

theorem has_p (mu : List ByteArray) (k : ByteArray) (h : mu.length ≤ big) : m52 ((mu, k, ()), ()) = some ((muB mu k, ()), ()) := m52_eq mu k h

theorem notice_p (ms : List MbT) (mu : List ByteArray) (t : Int) (nc : NtC) (r : RtT) (c : Cor) (hl : ms.length ≤ 256) (hm : mu.length ≤ big) :
    loopT l17_1_4 (((0 : Int), false, mu, t, ((ms.length : Nat) : Int), ()), (ms, (nc, ()), (zeroN, ()), (r, ()), (c, ()), [], [], ())) =
      some ((freB mu ms, t, ()), (ms, (zeroN, ()), (nc, ()), (r, ()), (c, ()), firL mu ms, resL mu ms, ())) := by
  have := loop_thru (f := l17_1_4) ms (fun i => (((i : Int), freB mu (ms.take i), mu, t, ((ms.length : Nat) : Int), ()), (ms, (nc, ()), (zeroN, ()), (r, ()), (c, ()), firL mu (ms.take i), resL mu (ms.take i), ())))
    ((freB mu ms, t, ()), (ms, (zeroN, ()), (nc, ()), (r, ()), (c, ()), firL mu ms, resL mu ms, ())) ?_ ?_
  · exact this
  · intro i e he hi
    have hw : w64 ((i : Int) + 1) = ((i + 1 : Nat) : Int) := w64_nat (by omega)
    have hb : decide ((0 : Int) ≤ (i : Int) ∧ (i : Int) < (ms.length : Int)) = true := decide_eq_true (by omega)
    have f1 := firL_len mu (ms.take i)
    have f2 := resL_len mu (ms.take i)
    rw [List.length_take] at f1 f2
    have c1 : decide ((firL mu (ms.take i)).length + [mKey e].length ≤ 4294967296) = true := decide_eq_true (by simp; omega)
    have c2 : decide ((resL mu (ms.take i)).length + [mKey e].length ≤ 4294967296) = true := decide_eq_true (by simp; omega)
    have q := has_p mu (mKey e) hm
    obtain ⟨mk, ml, mn, mh, mf, mt', ⟨⟩⟩ := e
    dsimp only [mKey] at q c1 c2
    rw [takeSnoc he, firL_snoc, resL_snoc, freB_snoc]
    simp only [l17_1_4, lt_t hi, hb, Int.toNat_natCast, he, q, mKey, mFire, mTold, sumE, sS]
    cases muB mu mk
    · cases mf
      · simp only [c2, hw, List.append_nil, Bool.or_false, if_true, if_false, Bool.false_eq_true, sumE, sS]
      · simp only [c1, hw, List.append_nil, Bool.or_false, if_true, if_false, Bool.false_eq_true, sumE, sS]
        cases freB mu (ms.take i) <;> simp only [hw, Bool.true_or, Bool.false_or, sumE, sS]
    · simp only [hw, List.append_nil, Bool.or_false, if_true, if_false, Bool.false_eq_true, sumE, sS]
  · rw [List.take_length]
    simp only [l17_1_4, lt_f, sumE, sS]

abbrev keepM (R : List ByteArray) (m : MbT) : Bool := !muB R (mKey m)

theorem index_p (ms : List MbT) (nc : NtC) (F R : List ByteArray) (hl : ms.length ≤ 256) (hR : R.length ≤ big) :
    (loopT l17_3_2 (((0 : Int), ((ms.length : Nat) : Int), ()), (ms, (nc, ()), F, R, ())) = some (.inr ((), (ms, (nc, ()), F, R, ()))) ∧ ms.filter (keepM R) = ms) ∨
    ∃ j, j < ms.length ∧ loopT l17_3_2 (((0 : Int), ((ms.length : Nat) : Int), ()), (ms, (nc, ()), F, R, ())) = some (.inl (((j : Int), ()), (ms, (nc, ()), F, R, ()))) ∧ (ms.take (j + 1)).filter (keepM R) = ms.take j := by
  have key : ∀ (d i : Nat), i + d = ms.length → (ms.take i).filter (keepM R) = ms.take i →
      (loopT l17_3_2 (((i : Int), ((ms.length : Nat) : Int), ()), (ms, (nc, ()), F, R, ())) = some (.inr ((), (ms, (nc, ()), F, R, ()))) ∧ ms.filter (keepM R) = ms) ∨
      ∃ j, j < ms.length ∧ loopT l17_3_2 (((i : Int), ((ms.length : Nat) : Int), ()), (ms, (nc, ()), F, R, ())) = some (.inl (((j : Int), ()), (ms, (nc, ()), F, R, ()))) ∧ (ms.take (j + 1)).filter (keepM R) = ms.take j := by
    intro d
    induction d with
    | zero =>
      intro i h h2
      obtain rfl : i = ms.length := by omega
      rw [List.take_length] at h2
      refine .inl ⟨loopT_inr ?_, h2⟩
      simp only [l17_3_2, lt_f, sumE, sS]
    | succ d ih =>
      intro i h h2
      obtain ⟨e, he⟩ := getD_some (l := ms) (i := i) (by omega)
      have hi : i < ms.length := by omega
      have hw : w64 ((i : Int) + 1) = ((i + 1 : Nat) : Int) := w64_nat (by omega)
      have hb : decide ((0 : Int) ≤ (i : Int) ∧ (i : Int) < (ms.length : Int)) = true := decide_eq_true (by omega)
      have q := has_p R (mKey e) hR
      dsimp only [mKey] at q
      cases hr : muB R (mKey e)
      · dsimp only [mKey] at hr
        have h3 : (ms.take (i + 1)).filter (keepM R) = ms.take (i + 1) := by
          rw [takeSnoc he, List.filter_append, h2]
          simp [keepM, hr]
        have hs : l17_3_2 (((i : Int), ((ms.length : Nat) : Int), ()), (ms, (nc, ()), F, R, ())) = some (.inl ((((i + 1 : Nat) : Int), ((ms.length : Nat) : Int), ()), (ms, (nc, ()), F, R, ()))) := by
          simp only [l17_3_2, lt_t hi, hb, Int.toNat_natCast, he, q, hr, hw, eq_self, sumE, sS]
        rw [loopT_inl hs]
        exact ih (i + 1) (by omega) h3
      · dsimp only [mKey] at hr
        refine .inr ⟨i, hi, loopT_inr ?_, ?_⟩
        · simp only [l17_3_2, lt_t hi, hb, Int.toNat_natCast, he, q, hr, hw, eq_self, sumE, sS]
        · rw [takeSnoc he, List.filter_append, h2]
          simp [keepM, hr]
  exact key ms.length 0 (by omega) rfl

theorem strike_p (ms : List MbT) (nc : NtC) (F R : List ByteArray) (hl : ms.length ≤ 256) (hR : R.length ≤ big) : ∀ (d src dst : Nat) (blk : List MbT), src + d = ms.length → dst < src → blk.length = ms.length →
    blk.take dst = (ms.take src).filter (keepM R) → blk.drop src = ms.drop src →
    ∃ (dst' : Nat) (blk' : List MbT), loopT l17_2_5 (((src : Int), (dst : Int), ()), (blk, (nc, ()), F, R, ())) = some (((dst' : Int), ()), (blk', (nc, ()), F, R, ())) ∧ dst' ≤ ms.length ∧ blk'.length = ms.length ∧ blk'.take dst' = ms.filter (keepM R) := by
  intro d
  induction d with
  | zero =>
    intro src dst blk h1 h2 h3 h4 h5
    obtain rfl : src = ms.length := by omega
    rw [List.take_length] at h4
    refine ⟨dst, blk, loopT_inr ?_, by omega, h3, h4⟩
    have : decide ((ms.length : Int) < ((blk.length : Nat) : Int)) = false := decide_eq_false (by omega)
    simp only [l17_2_5, this, sumE, sS]
  | succ d ih =>
    intro src dst blk h1 h2 h3 h4 h5
    obtain ⟨e, he⟩ := getD_some (l := ms) (i := src) (by omega)
    have he' : blk[src]? = some e := by
      have := congrArg (fun l => l[0]?) h5
      simp only [List.getElem?_drop, Nat.add_zero] at this
      rw [this, he]
    have c1 : decide ((src : Int) < ((blk.length : Nat) : Int)) = true := decide_eq_true (by omega)
    have c2 : decide ((0 : Int) ≤ (src : Int) ∧ (src : Int) < (blk.length : Int)) = true := decide_eq_true (by omega)
    have c3 : decide ((0 : Int) ≤ (dst : Int) ∧ (dst : Int) < (blk.length : Int)) = true := decide_eq_true (by omega)
    have c4 : decide (dst < blk.length) = true := decide_eq_true (by omega)
    have w1 : w64 ((src : Int) + 1) = ((src + 1 : Nat) : Int) := w64_nat (by omega)
    have w2 : w64 ((dst : Int) + 1) = ((dst + 1 : Nat) : Int) := w64_nat (by omega)
    have q := has_p R (mKey e) hR
    dsimp only [mKey] at q
    cases hr : muB R (mKey e)
    · dsimp only [mKey] at hr
      have hs : l17_2_5 (((src : Int), (dst : Int), ()), (blk, (nc, ()), F, R, ())) = some (.inl ((((src + 1 : Nat) : Int), ((dst + 1 : Nat) : Int), ()), (blk.set dst e, (nc, ()), F, R, ()))) := by
        simp only [l17_2_5, c1, c2, Int.toNat_natCast, he', q, hr, c3, c4, w1, w2, eq_self, sumE, sS]
      rw [loopT_inl hs]
      refine ih (src + 1) (dst + 1) (blk.set dst e) (by omega) (by omega) (by rw [List.length_set, h3]) ?_ ?_
      · rw [takeSnoc he, List.filter_append, ← h4]
        rw [takeSnoc (e := e) (by rw [List.getElem?_set_self (by omega)]), take_set_self]
        simp [keepM, hr]
      · rw [List.drop_set, if_pos (by omega)]
        rw [← List.drop_drop, ← List.drop_drop, h5]
    · dsimp only [mKey] at hr
      have hs : l17_2_5 (((src : Int), (dst : Int), ()), (blk, (nc, ()), F, R, ())) = some (.inl ((((src + 1 : Nat) : Int), (dst : Int), ()), (blk, (nc, ()), F, R, ()))) := by
        simp only [l17_2_5, c1, c2, Int.toNat_natCast, he', q, hr, w1, eq_self, sumE, sS]
      rw [loopT_inl hs]
      refine ih (src + 1) dst blk (by omega) (by omega) h3 ?_ ?_
      · rw [takeSnoc he, List.filter_append, ← h4]
        simp [keepM, hr]
      · rw [← List.drop_drop, ← List.drop_drop, h5]

end Go.Proofs.Ytcblbcpnfidndaa

namespace Go.Proofs.Ytcblbcpnfidndaa
open Go Go.Abs Go.Lab
abbrev PgT := Int × ByteArray × (Nat × Nat) × Int × Int × Unit

theorem tell_p (M T : List MbT) (nc : NtC) (g : PgT) (c0 : Cor) (n0 : NtC) (r : RtT) (F R : List ByteArray) (ok : Bool) (t : Int) (hl : M.length ≤ 256) (hF : F.length ≤ big) (hg : g.2.2.1 = (0, M.length)) :
    loopT l17_0_13 (((0 : Int), (0, M.length), ok, t, ((M.length : Nat) : Int), ()), ((nc, ()), (g, ()), M ++ T, (c0, ()), (n0, ()), (r, ()), F, R, ())) =
      some ((ok, t, ()), ((c0, ()), (n0, ()), (nc, ()), (g, ()), (r, ()), F, R, M.map (tellM F) ++ T, ())) := by
  obtain ⟨rt, ky, pt, du, se, ⟨⟩⟩ := g
  dsimp only at hg
  subst hg
  have := loop_thru (f := l17_0_13) M (fun i => (((i : Int), (0, M.length), ok, t, ((M.length : Nat) : Int), ()), ((nc, ()), ((rt, ky, (0, M.length), du, se, ()), ()), (M.take i).map (tellM F) ++ (M.drop i ++ T), (c0, ()), (n0, ()), (r, ()), F, R, ())))
    ((ok, t, ()), ((c0, ()), (n0, ()), (nc, ()), ((rt, ky, (0, M.length), du, se, ()), ()), (r, ()), F, R, M.map (tellM F) ++ T, ())) ?_ ?_
  · exact this
  · intro i e he hi
    obtain ⟨e', he', hd⟩ := drop_at hi
    rw [he] at he'
    injection he' with he'
    subst he'
    have hw : w64 ((i : Int) + 1) = ((i + 1 : Nat) : Int) := w64_nat (by omega)
    have hb : decide ((0 : Int) ≤ (i : Int) ∧ (i : Int) < (M.length : Int)) = true := decide_eq_true (by omega)
    have hA : ((M.take i).map (tellM F)).length = i := by simp; omega
    rw [hd, List.cons_append]
    have at1 : ∀ B : List MbT, ((M.take i).map (tellM F) ++ e :: B)[i]? = some e := fun B => by
      have := app_at ((M.take i).map (tellM F)) e B
      rwa [hA] at this
    have st1 : ∀ (x : MbT) (B : List MbT), ((M.take i).map (tellM F) ++ e :: B).set i x = (M.take i).map (tellM F) ++ x :: B := fun x B => by
      have := app_set ((M.take i).map (tellM F)) e x B
      rwa [hA] at this
    have q := has_p F (mKey e) hF
    dsimp only [mKey] at q
    have hx : (M.take (i + 1)).map (tellM F) ++ (M.drop (i + 1) ++ T) = (M.take i).map (tellM F) ++ tellM F e :: (M.drop (i + 1) ++ T) := by
      rw [takeSnoc he, List.map_append, List.append_assoc]; rfl
    rw [hx]
    obtain ⟨mk, ml, mn, mh, mf, mt', ⟨⟩⟩ := e
    dsimp only at q
    simp only [l17_0_13, lt_t hi, hb, Int.toNat_natCast, Nat.zero_add, at1, st1, q, hw, sumE, sS]
    cases mt' <;> simp only [st1, hw, tellM, mTold, mKey, Bool.true_or, Bool.false_or, sumE, sS]
  · rw [List.take_length, List.drop_length, List.nil_append]
    simp only [l17_0_13, lt_f, sumE, sS]

theorem open_p (l : List MbT) (hl : l.length ≤ 256) : ∃ j : Nat, loopT l17_7_2 (((0 : Int), l, (l.length : Int), ()), ()) = some (bif opnB l then .inl (((j : Int), ()), ()) else .inr ((), ())) := by
  have h := loop_list0 (f := l17_7_2) l (fun i (_ : Unit) => (((i : Int), l, (l.length : Int), ()), ())) (fun i _ e => bif !mTold e then .inr (.inl (((i : Int), ()), ())) else .inl ()) (fun _ => .inr ((), ())) ?_ ?_ ()
  · obtain ⟨j, _, hj⟩ := runL_any (fun e : MbT => !mTold e) (fun i : Nat => (Sum.inl (((i : Int), ()), ()) : ((Int × Unit) × Unit) ⊕ (Unit × Unit))) (.inr ((), ())) l 0
    exact ⟨j, h.trans (congrArg some hj)⟩
  · intro i e _ he hi
    have hw : w64 ((i : Int) + 1) = ((i + 1 : Nat) : Int) := w64_nat (by omega)
    have q : m54 ((e, ()), ()) = some ((!mTold e, ()), ()) := rfl
    simp only [l17_7_2, rowAt_G, rowG_nat he, lt_t hi, q, sumE, sS]
    cases mTold e <;> simp only [sumE, sS, hw]
  · intro _
    simp only [l17_7_2, lt_f, sumE, sS]

/-- The form of the program's result. -/
def LookOK (x : LkT) (o : Option ((Bool × Int × Unit) × ((PgT × Unit) × (NtC × Unit) × List MbT × List ByteArray × List ByteArray × Unit))) : Prop :=
  ∃ (n : Nat) (blk : List MbT), o = some ((x.1, 0, ()), (((x.2.1.1, x.2.1.2.1, (0, n), x.2.1.2.2.1, x.2.1.2.2.2.1, ()), ()), (x.2.2.1, ()), blk, x.2.2.2.2.1, x.2.2.2.2.2, ())) ∧ n ≤ blk.length ∧ blk.take n = x.2.2.2.1

theorem look_bind {A : Type} {y : LkT} {o : Option A} {f : A → Option ((Bool × Int × Unit) × ((PgT × Unit) × (NtC × Unit) × List MbT × List ByteArray × List ByteArray × Unit))} (x : A) (h : o = some x) (h2 : LookOK y (f x)) : LookOK y (o.bind f) := by
  rw [h]; exact h2

theorem look_ex {A : Type} {y : LkT} {o : Option A} {f : A → Option ((Bool × Int × Unit) × ((PgT × Unit) × (NtC × Unit) × List MbT × List ByteArray × List ByteArray × Unit))} (P : A → Prop) (h : ∃ x, o = some x ∧ P x) (h2 : ∀ x, P x → LookOK y (f x)) : LookOK y (o.bind f) := by
  obtain ⟨x, rfl, hp⟩ := h
  exact h2 x hp

theorem exb {A B : Type} {o : Option A} {f : A → Option B} {Q : B → Prop} (x : A) (h : o = some x) (h2 : ∃ b, f x = some b ∧ Q b) : ∃ b, o.bind f = some b ∧ Q b := by
  rw [h]; exact h2

theorem exP {A B : Type} {o : Option A} {f : A → Option B} {Q : B → Prop} (P : A → Prop) (h : ∃ x, o = some x ∧ P x) (h2 : ∀ x, P x → ∃ b, f x = some b ∧ Q b) : ∃ b, o.bind f = some b ∧ Q b := by
  obtain ⟨x, rfl, hp⟩ := h
  exact h2 x hp

theorem len0n (n : Nat) : (((n : Nat) : Int) == 0) = decide (n = 0) := by
  rw [beq_decide]; exact decide_eq_decide.2 (by omega)

theorem look_p {g : GpT} (h : VG g) {r : RtT} (hr : RR r) {t : Int} (ht : 0 ≤ t ∧ t ≤ 8589934592) {mu : List ByteArray} (hm : mu.length ≤ big) : LookOK (gLook g r t mu) (m17 ((g, r, t, mu, ()), ())) := by
  have q1 := m23_eq h
  have q2 := m36_eq r hr.z
  rw [hr.ok] at q2
  have q6 := copy41 h
  have dt : decide ((0 : Int) ≤ t ∧ t ≤ 8589934592) = true := decide_eq_true ht
  have hlen := h.len
  have hsent := h.sent
  have hdue := h.due
  have hir := hr.int
  have hwa := hr.wait
  have hrp := hr.rep
  have hmx := hr.max
  obtain ⟨rt, ky, ms, du, se, ⟨⟩⟩ := g
  obtain ⟨pa, mt, po, gb, wa, ir, rp, co, ⟨⟩⟩ := r
  dsimp only [gMem, gDue, gSent, rWait, rInt, rRep, cor] at *
  have qn := fun nc c => notice_p ms mu t nc (pa, mt, po, gb, wa, ir, rp, co, ()) c hlen hm
  unfold m17 gLook
  dsimp only [gMem, gDue, gSent, rInt, rRep, dueC]
  simp only [q1, q2, q6, m38_eq, dt, sumE, sS]
  have w1 : w64 (se + rp) = se + rp := w64_id (by omega) (by omega)
  have w2 : w64 (t + 1) = t + 1 := w64_id (by omega) (by omega)
  have w3 : w64 (t + ir) = t + ir := w64_id (by omega) (by omega)
  have w4 : w64 (t + rp) = t + rp := w64_id (by omega) (by omega)
  by_cases h1 : du = -1
  · subst h1
    rw [if_pos (.inl rfl)]
    simp only [beq_self_eq_true, sumE, sS]
    exact ⟨ms.length, ms, rfl, Nat.le_refl _, List.take_length⟩
  have b1 : (du == -1) = false := beq_eq_false_iff_ne.2 h1
  rw [b1]
  by_cases h2 : du > t
  · rw [if_pos (.inr h2)]
    simp only [decide_eq_true h2, sumE, sS]
    exact ⟨ms.length, ms, rfl, Nat.le_refl _, List.take_length⟩
  rw [if_neg (by rintro (h | h) <;> contradiction)]
  simp only [decide_eq_false h2, qn, sumE, sS]
  have fl := firL_len mu ms
  have rl := resL_len mu ms
  refine look_bind ((againB se rp t (firL mu ms), freB mu ms, ()), ms, (zeroN, ()), ((t, rt, po, ky, ()), ()), firL mu ms, resL mu ms, ()) ?_ ?_
  · unfold againB
    rw [show decide (((firL mu ms).length : Int) > 0) = decide (0 < (firL mu ms).length) from decide_eq_decide.2 (by omega), w1]
    cases decide (0 < (firL mu ms).length) <;> cases (se != -1) <;> simp only [sumE, sS]
  dsimp only
  refine look_bind ((newsB se rp t mu ms, ()), ms, ((t, rt, po, ky, ()), ()), firL mu ms, resL mu ms, ()) ?_ ?_
  · unfold newsB
    rw [show decide (((resL mu ms).length : Int) > 0) = decide (0 < (resL mu ms).length) from decide_eq_decide.2 (by omega)]
    cases freB mu ms <;> cases againB se rp t (firL mu ms) <;> simp only [Bool.true_or, Bool.false_or, sumE, sS]
  dsimp only
  rw [show decide (ms.length = ms.length) = true from decide_eq_true rfl, cond_true]
  refine look_ex (fun x => ∃ (ok : Bool) (se' : Int) (n : Nat) (blk : List MbT) (F' R' : List ByteArray) (nc : NtC) (c0 : Cor) (n0 : NtC), x = ((ok, t, ()), (c0, ()), (n0, ()), (nc, ()), ((rt, ky, (0, n), du, se', ()), ()), ((pa, mt, po, gb, wa, ir, rp, co, ()), ()), F', R', blk, ()) ∧
    n ≤ blk.length ∧ blk.length ≤ 256 ∧ (-1 ≤ se' ∧ se' ≤ 8589934592) ∧ (if newsB se rp t mu ms = true then
      ((true, (rt, ky, (if (aftL (firL mu ms) (resL mu ms) ms).length = 0 then -1 else nextD t ir rp t (opnB (aftL (firL mu ms) (resL mu ms) ms))), t, ()), (t, rt, po, ky, ()), aftL (firL mu ms) (resL mu ms) ms, firL mu ms, resL mu ms) : LkT)
      else (false, (rt, ky, (if ms.length = 0 then -1 else nextD se ir rp t (opnB ms)), se, ()), zeroN, ms, [], [])) = (ok, (rt, ky, (if (blk.take n).length = 0 then -1 else nextD se' ir rp t (opnB (blk.take n))), se', ()), nc, blk.take n, F', R')) ?_ ?_
  · cases newsB se rp t mu ms
    · refine ⟨_, rfl, false, se, ms.length, ms, [], [], zeroN, zeroC, zeroN, rfl, Nat.le_refl _, hlen, hsent, ?_⟩
      rw [List.take_length]
      rfl
    · rw [cond_true]
      refine exP (fun x => ∃ (n : Nat) (blk : List MbT), x = ((true, t, ()), ((t, rt, po, ky, ()), ()), ((rt, ky, (0, n), du, t, ()), ()), (zeroC, ()), (zeroN, ()), ((pa, mt, po, gb, wa, ir, rp, co, ()), ()), firL mu ms, resL mu ms, blk, ()) ∧ n ≤ blk.length ∧ blk.length = ms.length ∧ blk.take n = ms.filter (keepM (resL mu ms))) ?_ ?_
      · rcases index_p ms (t, rt, po, ky, ()) (firL mu ms) (resL mu ms) hlen (by unfold big; omega) with ⟨e, hf⟩ | ⟨j, hj, e, hf⟩
        · rw [e]
          simp only [eq_self, beq_self_eq_true, sumE, sS]
          exact ⟨_, rfl, ms.length, ms, rfl, Nat.le_refl _, rfl, by rw [List.take_length, hf]⟩
        · have bj : ((j : Int) == -1) = false := beq_eq_false_iff_ne.2 (by omega)
          have wj : w64 ((j : Int) + 1) = ((j + 1 : Nat) : Int) := w64_nat (by omega)
          rw [e]
          simp only [eq_self, bj, wj, sumE, sS]
          obtain ⟨dst, blk, e2, h3, h4, h5⟩ := strike_p ms (t, rt, po, ky, ()) (firL mu ms) (resL mu ms) hlen (by unfold big; omega) (ms.length - (j + 1)) (j + 1) j ms (by omega) (by omega) rfl hf.symm rfl
          refine exb _ e2 ?_
          have d1 : decide ((0 : Int) ≤ (dst : Int)) = true := decide_eq_true (by omega)
          have d2 : decide (dst ≤ blk.length ∧ True) = true := decide_eq_true ⟨by omega, trivial⟩
          have d3 : decide (dst + (blk.length - dst) ≤ blk.length) = true := decide_eq_true (by omega)
          have d0 : decide (dst ≤ blk.length ∧ blk.length ≤ blk.length) = true := decide_eq_true (by omega)
          have sl : (spliceL blk dst (List.replicate (blk.length - dst) ((ByteArray.empty, [], 0, 0, false, false, ()) : MbT))).length = blk.length := by
            unfold spliceL
            simp; omega
          have st : (spliceL blk dst (List.replicate (blk.length - dst) ((ByteArray.empty, [], 0, 0, false, false, ()) : MbT))).take dst = blk.take dst := by
            unfold spliceL
            rw [List.append_assoc, List.take_append_of_le_length (by rw [List.length_take]; omega), List.take_of_length_le (by rw [List.length_take]; omega)]
          have d4 : decide (0 ≤ dst ∧ dst ≤ blk.length) = true := decide_eq_true (by omega)
          have d5 : decide (blk.length = ms.length) = true := decide_eq_true h4
          simp only [d1, d0, d3, d4, d5, sl, Int.toNat_natCast, eq_self, sumE, sS]
          exact ⟨_, rfl, dst, _, rfl, by rw [sl]; omega, by rw [sl, h4], by rw [st, h5]⟩
      · rintro _ ⟨n, blk, rfl, h1, h2, h3⟩
        dsimp only
        have hMl : (blk.take n).length = n := by rw [List.length_take]; omega
        have q := tell_p (blk.take n) (blk.drop n) (t, rt, po, ky, ()) (rt, ky, (0, n), du, t, ()) zeroC zeroN (pa, mt, po, gb, wa, ir, rp, co, ()) (firL mu ms) (resL mu ms) true t (by rw [hMl]; omega) (by unfold big; omega) (by rw [hMl])
        rw [List.take_append_drop, hMl] at q
        refine exb _ q ?_
        have ht2 : (List.map (tellM (firL mu ms)) (List.take n blk) ++ List.drop n blk).take n = aftL (firL mu ms) (resL mu ms) ms := by
          rw [List.take_append_of_le_length (by rw [List.length_map, hMl]; exact Nat.le_refl _), List.take_of_length_le (by rw [List.length_map, hMl]; exact Nat.le_refl _), h3]
          rfl
        refine ⟨_, rfl, true, t, n, _, firL mu ms, resL mu ms, (t, rt, po, ky, ()), zeroC, zeroN, rfl, by simp; omega, by simp; omega, by omega, ?_⟩
        rw [ht2]
        rfl
  · rintro _ ⟨ok, se', n, blk, F', R', nc, c0, n0, rfl, h3, h4, h5, h6⟩
    rw [h6]
    dsimp only
    have w5 : w64 (se' + rp) = se' + rp := w64_id (by omega) (by omega)
    have d1 : decide (0 + n ≤ blk.length) = true := decide_eq_true (by omega)
    obtain ⟨j, ho⟩ := open_p (blk.take n) (by rw [List.length_take]; omega)
    have hl : (blk.take n).length = n := by rw [List.length_take]; omega
    rw [hl] at ho
    simp only [d1, List.drop_zero, hl, w2, w3, w5, sumE, sS]
    refine look_bind ((opnB (blk.take n), ()), ()) ?_ ?_
    · refine bind_of _ ho ?_
      have dj : decide ((j : Int) ≥ 0) = true := decide_eq_true (by omega)
      cases opnB (blk.take n) <;> simp only [dj, sumE, sS]
    dsimp only
    have mx : ∀ d : Int, (if t + 1 > d then t + 1 else d) = max d (t + 1) := fun d => by split <;> omega
    unfold nextD
    cases opnB (blk.take n)
    · by_cases hp : se' + rp ≤ t
      · simp only [decide_eq_true hp, w3, w2, mx, lim_p, len0n, hp, or_true, if_true, eq_self, sumE, sS]
        by_cases hn : n = 0
        · simp only [hn, eq_self, if_true, sumE, sS]
          exact ⟨0, blk, rfl, Nat.zero_le _, rfl⟩
        · simp only [hn, if_false, sumE, sS]
          exact ⟨n, blk, rfl, h3, rfl⟩
      · simp only [decide_eq_false hp, w3, w2, mx, lim_p, len0n, hp, or_self, Bool.false_eq_true, if_false, eq_self, sumE, sS]
        by_cases hn : n = 0
        · simp only [hn, eq_self, if_true, sumE, sS]
          exact ⟨0, blk, rfl, Nat.zero_le _, rfl⟩
        · simp only [hn, if_false, sumE, sS]
          exact ⟨n, blk, rfl, h3, rfl⟩
    · simp only [w3, w2, mx, lim_p, len0n, true_or, if_true, eq_self, sumE, sS]
      by_cases hn : n = 0
      · simp only [hn, eq_self, if_true, sumE, sS]
        exact ⟨0, blk, rfl, Nat.zero_le _, rfl⟩
      · simp only [hn, if_false, sumE, sS]
        exact ⟨n, blk, rfl, h3, rfl⟩

end Go.Proofs.Ytcblbcpnfidndaa

namespace Go.Proofs.Ytcblbcpnfidndaa
open Go Go.Abs Go.Lab
theorem aftL_len (F R : List ByteArray) (l : List MbT) : (aftL F R l).length ≤ l.length := by
  unfold aftL; rw [List.length_map]; exact List.length_filter_le _ _

end Go.Proofs.Ytcblbcpnfidndaa

namespace Go.Proofs.Ytcblbcpnfidndaa
open Go Go.Abs Go.Lab
def grp (c : Cor) (ms : List MbT) : GpT := (c.1, c.2.1, ms, c.2.2.1, c.2.2.2.1, ())

theorem vg_zero : VG (grp zeroC []) := ⟨by decide, by decide, by decide, by decide, fun m hm => (by cases hm), List.Pairwise.nil⟩

theorem set_keys {ms : List MbT} {i : Nat} {m x : MbT} (h : ms[i]? = some m) (e : mKey x = mKey m) : (ms.set i x).map mKey = ms.map mKey := by
  rw [List.map_set, e]
  obtain ⟨hi, rfl⟩ := List.getElem?_eq_some_iff.1 h
  have : mKey ms[i] = (ms.map mKey)[i]'(by rwa [List.length_map]) := by rw [List.getElem_map]
  rw [this, List.set_getElem_self]

theorem mem_set {A : Type} {l : List A} {i : Nat} {x y : A} (h : y ∈ l.set i x) : y ∈ l ∨ y = x := List.mem_or_eq_of_mem_set h

theorem wake_range {du se wa ir t : Int} (h1 : 0 ≤ t ∧ t ≤ 8589934592) (h2 : 0 ≤ wa) (h3 : -1 ≤ du ∧ du ≤ 8589934592) (h4 : -1 ≤ se) (h5 : 0 ≤ ir) : -1 ≤ wakeV du se wa ir t ∧ wakeV du se wa ir t ≤ 8589934592 := wake_b h1 h2 h3 h4 h5

theorem heard_ok {m : MbT} (h : MbOK m) {t : Int} (ht : 0 ≤ t ∧ t ≤ 8589934592) : MbOK (heardM m t) := ⟨h.lab, h.key, h.since, ht, h.told⟩

theorem step_ok {m : MbT} (h : MbOK m) {t : Int} (ht : 0 ≤ t ∧ t ≤ 8589934592) (on : Bool) : MbOK (stepM m on t) :=
  ⟨h.lab, h.key, ht, h.heard, by show on = true ∨ on = false; cases on <;> simp⟩

theorem new_ok {l : List LT} (hl : validL l = true) {t : Int} (ht : 0 ≤ t ∧ t ≤ 8589934592) : MbOK (mkB (textL l), l, t, t, true, false, ()) := ⟨hl, rfl, ht, ht, .inl rfl⟩

theorem add_vg {g : GpT} (h : VG g) {r : RtT} (hr : RR r) {l : List LT} (hl : validL l = true) (on : Bool) {t : Int} (ht : 0 ≤ t ∧ t ≤ 8589934592) : VG (grp (gAdd g r l on t).2.1 (gAdd g r l on t).2.2) := by
  have hw := wake_range ht hr.wait h.due h.sent.1 (by have := hr.wait; have := hr.int; omega : (0 : Int) ≤ rInt r)
  have hrest : ∀ ms, -1 ≤ restD g ms ∧ restD g ms ≤ 8589934592 := fun ms => by
    have := h.due
    unfold restD; split <;> omega
  have hlen := h.len
  unfold gAdd
  dsimp only
  by_cases hh : hit (mkB (textL l)) (gMem g) = true
  · rw [if_pos hh]
    obtain ⟨m, hm, hk⟩ := hit_some hh
    have hmo := h.mem m (List.mem_of_getElem? hm)
    rw [hm]
    dsimp only
    have hset : ∀ (x : MbT) (d : Int), mKey x = mKey m → MbOK x → (-1 ≤ d ∧ d ≤ 8589934592) → VG (grp (dueC g d) ((gMem g).set (pos (mkB (textL l)) (gMem g)) x)) := fun x d hx ho hd =>
      ⟨by show ((gMem g).set _ x).length ≤ 256; rw [List.length_set]; exact hlen, h.rt, hd, h.sent, fun y hy => by
        rcases mem_set hy with hy | rfl
        · exact h.mem y hy
        · exact ho, by show (((gMem g).set _ x).map mKey).Pairwise Less; rw [set_keys hm hx]; exact h.up⟩
    split
    · exact hset _ _ rfl (heard_ok hmo ht) h.due
    · split
      · exact hset _ _ rfl (step_ok (heard_ok hmo ht) ht true) h.due
      · split
        · exact hset _ _ rfl (step_ok (heard_ok hmo ht) ht false) hw
        · have hsub : ((gMem g).take (pos (mkB (textL l)) (gMem g)) ++ (gMem g).drop (pos (mkB (textL l)) (gMem g) + 1)).Sublist (gMem g) := by
            conv => rhs; rw [← List.take_append_drop (pos (mkB (textL l)) (gMem g)) (gMem g)]
            exact (List.Sublist.refl _).append (List.drop_sublist_drop_left _ (by omega))
          exact ⟨Nat.le_trans hsub.length_le hlen, h.rt, hrest _, h.sent, fun y hy => h.mem y (hsub.subset hy), h.up.sublist (hsub.map mKey)⟩
  · rw [if_neg hh]
    split
    · split
      · exact vg_zero
      · have hp := pos_le (mkB (textL l)) (gMem g)
        refine ⟨?_, h.rt, hw, h.sent, fun y hy => ?_, ?_⟩
        · show (List.take _ _ ++ _ ++ List.drop _ _).length ≤ 256
          simp; omega
        · have hy : y ∈ List.take _ _ ++ [_] ++ List.drop _ _ := hy
          simp only [List.mem_append, List.mem_singleton] at hy
          rcases hy with (hy | rfl) | hy
          · exact h.mem y (List.mem_of_mem_take hy)
          · exact new_ok hl ht
          · exact h.mem y (List.mem_of_mem_drop hy)
        · show ((List.take (pos (mkB (textL l)) (gMem g)) (gMem g) ++ [(mkB (textL l), l, t, t, true, false, ())] ++ List.drop (pos (mkB (textL l)) (gMem g)) (gMem g)).map mKey).Pairwise Less
          rw [List.append_assoc, List.map_append, List.map_append, List.pairwise_append]
          have hup := h.up
          rw [← List.take_append_drop (pos (mkB (textL l)) (gMem g)) (gMem g), List.map_append, List.pairwise_append] at hup
          have ha : ∀ m ∈ (gMem g).take (pos (mkB (textL l)) (gMem g)), Lt (mKey m) (mkB (textL l)) := pos_take
          have hb := pos_drop h.up (by simpa using hh : hit (mkB (textL l)) (gMem g) = false)
          refine ⟨hup.1, ?_, fun a ha' b hb' => ?_⟩
          · rw [List.map_cons, List.map_nil, List.singleton_append]
            refine List.pairwise_cons.2 ⟨fun k hk => ?_, hup.2.1⟩
            obtain ⟨m, hm, rfl⟩ := List.mem_map.1 hk
            exact less_lt.2 (hb m hm)
          · obtain ⟨m, hm, rfl⟩ := List.mem_map.1 ha'
            rw [List.map_cons, List.map_nil, List.singleton_append] at hb'
            rcases List.mem_cons.1 hb' with rfl | hb'
            · exact less_lt.2 (ha m hm)
            · obtain ⟨m', hm', rfl⟩ := List.mem_map.1 hb'
              exact less_lt.2 (lt_trans (ha m hm) (hb m' hm'))
    · exact ⟨hlen, h.rt, hrest _, h.sent, h.mem, h.up⟩

theorem muB_mem {mu : List ByteArray} {k : ByteArray} : muB mu k = true ↔ k ∈ mu := by
  unfold muB
  rw [List.any_eq_true]
  constructor
  · rintro ⟨x, hx, e⟩
    have : x = k := by simpa using e
    exact this ▸ hx
  · exact fun h => ⟨k, h, by simp⟩

theorem muB_not {mu : List ByteArray} {k : ByteArray} (h : k ∉ mu) : muB mu k = false := by
  cases hc : muB mu k
  · rfl
  · exact absurd (muB_mem.1 hc) h

theorem fir_mem {mu : List ByteArray} {ms : List MbT} {k : ByteArray} : k ∈ firL mu ms ↔ ∃ m ∈ ms, mKey m = k ∧ k ∉ mu ∧ mFire m = true := by
  unfold firL
  rw [List.mem_map]
  constructor
  · rintro ⟨m, hm, rfl⟩
    rw [List.mem_filter, Bool.and_eq_true, Bool.not_eq_true'] at hm
    exact ⟨m, hm.1, rfl, fun hc => by rw [muB_mem.2 hc] at hm; exact absurd hm.2.1 (by simp), hm.2.2⟩
  · rintro ⟨m, hm, rfl, h1, h2⟩
    refine ⟨m, List.mem_filter.2 ⟨hm, ?_⟩, rfl⟩
    rw [Bool.and_eq_true, Bool.not_eq_true']
    exact ⟨muB_not h1, h2⟩

abbrev cSent (c : Cor) : Int := c.2.2.2.1

end Go.Proofs.Ytcblbcpnfidndaa

namespace Go.Proofs.Ytcblbcpnfidndaa
open Go Go.Abs Go.Lab
def Ens {A : Type} (o : Option A) (Q : A → Prop) : Prop := ∃ x, o = some x ∧ Q x

theorem ens_some {A : Type} {x : A} {Q : A → Prop} (h : Q x) : Ens (some x) Q := ⟨x, rfl, h⟩

theorem ens_bind {A B : Type} {o : Option A} {f : A → Option B} {Q : B → Prop} (h : Ens o fun x => Ens (f x) Q) : Ens (o.bind f) Q := by
  obtain ⟨x, rfl, y, h1, h2⟩ := h
  exact ⟨y, h1, h2⟩

theorem ens_call {A B : Type} {o : Option A} {R : A → Prop} {f : A → Option B} {Q : B → Prop} (h : Ens o R) (h2 : ∀ x, R x → Ens (f x) Q) : Ens (o.bind f) Q := by
  obtain ⟨x, rfl, hx⟩ := h
  exact h2 x hx

theorem ens_need {A : Type} {P : Prop} [Decidable P] {x : Option A} {Q : A → Prop} (h : P) (h1 : Ens x Q) : Ens (bif decide P then x else none) Q := by
  rw [decide_eq_true h]; exact h1

theorem ens_bif {A : Type} {b : Bool} {x y : Option A} {Q : A → Prop} (h1 : b = true → Ens x Q) (h2 : b = false → Ens y Q) : Ens (bif b then x else y) Q := by
  cases b
  · exact h2 rfl
  · exact h1 rfl

/-- A loop: what holds at every round, a number that falls. -/
theorem ens_loop {A B : Type} {f : A → Option (A ⊕ B)} (I : A → Prop) (μ : A → Nat) {Q : B → Prop}
    (h : ∀ a, I a → Ens (f a) fun r => match r with | .inl a' => I a' ∧ μ a' < μ a | .inr b => Q b) : ∀ a, I a → Ens (loopT f a) Q := by
  have key : ∀ (n : Nat) a, μ a ≤ n → I a → Ens (loopT f a) Q := by
    intro n
    induction n with
    | zero =>
      intro a hn hi
      obtain ⟨r, h1, h2⟩ := h a hi
      cases r with
      | inl a' => exact absurd h2.2 (by omega)
      | inr b => exact ⟨b, loopT_inr h1, h2⟩
    | succ n ih =>
      intro a hn hi
      obtain ⟨r, h1, h2⟩ := h a hi
      cases r with
      | inl a' =>
        obtain ⟨b, h3, h4⟩ := ih a' (by omega) h2.1
        exact ⟨b, by rw [← h3]; exact loopT_inl h1, h4⟩
      | inr b => exact ⟨b, loopT_inr h1, h2⟩
  exact fun a hi => key (μ a) a (Nat.le_refl _) hi

theorem c18 (n : Int) (d : Dice) (hd : DOK d) (h1 : 1 ≤ n) (h2 : n ≤ 1000) : Ens (m18 ((n, ()), ((d, ()), ()))) (fun r => DOK r.2.1.1) := by
  obtain ⟨r, d', e, h⟩ := bool_spec n d hd h1 (by omega)
  exact ⟨_, e, h⟩

theorem c13 (d : Dice) (hd : DOK d) : Ens (m13 ((), ((d, ()), ()))) (fun r => DOK r.2.1.1 ∧ validL r.2.2.1 = true) := by
  obtain ⟨l, d', e, h1, h2⟩ := labels_spec d hd
  exact ⟨_, e, h1, from_valid h2⟩

/-- A route of the dice: its numbers, its keys. -/
abbrev RcT := Int × Int × Int × Int × Int × Bool × Unit

def rtOf (c : RcT) (ks : List ByteArray) : RtT := (c.1, [], c.2.1, ks, c.2.2.1, c.2.2.2.1, c.2.2.2.2.1, c.2.2.2.2.2.1, ())

theorem c11 (d : Dice) (hd : DOK d) : Ens (m11 ((), ((d, ()), ()))) (fun r => DOK r.2.1.1 ∧ RR (rtOf r.2.2.1.1 r.2.2.2.1) ∧ r.2.2.1.1.1 = -1 ∧ r.2.2.1.1.2.2.1 ≤ 60 ∧ r.2.2.1.1.2.2.2.1 ≤ 360 ∧ r.2.2.1.1.2.2.2.2.1 ≤ 3960) := by
  obtain ⟨a1, d1, e1, hd1, b1⟩ := pick_spec [0, 30, 10, 60] d hd (by simp) (by simp)
  obtain ⟨a2, d2, e2, hd2, b2⟩ := pick_spec [20, 300, 40] d1 hd1 (by simp) (by simp)
  obtain ⟨a3, d3, e3, hd3, b3, _⟩ := next_spec 3 d2 hd2 (by omega)
  have b3 := b3 (by omega)
  obtain ⟨ks, d4, e4, hd4, hk⟩ := keysD_spec d3 hd3
  obtain ⟨a5, d5, e5, hd5, b5⟩ := pick_spec [0, 3600, 100] d4 hd4 (by simp) (by simp)
  obtain ⟨c, d6, e6, hd6⟩ := bool_spec 2 d5 hd5 (by omega) (by omega)
  have b1 := mem4 b1
  have b2 := mem3 b2
  have b5 := mem3 b5
  have w1 : w64 (a1 + a2) = a1 + a2 := w64_id (by omega) (by omega)
  have w2 : w64 (a1 + a2 + a5) = a1 + a2 + a5 := w64_id (by omega) (by omega)
  have hg : GoodT (rtOf (-1, a3, a1, a1 + a2, a1 + a2 + a5, c, ()) ks) := ⟨⟨Nat.zero_le _, fun m hm => by cases hm⟩, hk, by
    show chkRange (-1, [], a3, ks, a1, a1 + a2, a1 + a2 + a5, c, ()) = false
    unfold chkRange
    simp only [Bool.or_eq_false_iff]
    exact ⟨decide_eq_false (by omega), decide_eq_false (by omega), decide_eq_false (by omega), decide_eq_false (by omega), decide_eq_false (by omega), beq_eq_false_iff_ne.2 (by omega)⟩, by show a1 + a2 ≤ 1000; omega, by show 0 ≤ a1 + a2; omega, by show 0 ≤ a1 + a2 + a5; omega, by show a1 + a2 + a5 ≤ 10000; omega⟩
  refine ⟨((), ((d6, ()), (((-1), a3, a1, a1 + a2, a1 + a2 + a5, c, ()), ()), ks, ())), ?_, hd6, rr_of hg.z ?_, rfl, ?_, ?_, ?_⟩
  · unfold m11
    simp only [e1, e2, e3, e4, e5, e6, w1, w2, sumE, sS]
  · unfold rightR
    have : strip (rtOf (-1, a3, a1, a1 + a2, a1 + a2 + a5, c, ()) ks) = rtOf (-1, a3, a1, a1 + a2, a1 + a2 + a5, c, ()) ks := rfl
    rw [this, hg.one]
    rfl
  · show a1 ≤ 60; omega
  · show a1 + a2 ≤ 360; omega
  · show a1 + a2 + a5 ≤ 3960; omega

theorem zero_vg (rt : Int) (ky : ByteArray) (h : 0 ≤ rt) : VG (rt, ky, [], -1, -1, ()) := ⟨Nat.zero_le _, h, by show (-1 : Int) ≤ -1 ∧ (-1 : Int) ≤ 8589934592; omega, by show (-1 : Int) ≤ -1 ∧ (-1 : Int) ≤ 8589934592; omega, fun m hm => (by cases hm), List.Pairwise.nil⟩

end Go.Proofs.Ytcblbcpnfidndaa

namespace Go.Proofs.Ytcblbcpnfidndaa
open Go Go.Abs Go.Lab
theorem sane23 : m9 ((), ()) = some ((true, ()), ()) := by kernel_rfl

abbrev YT : (Bool × Unit) × Unit := ((true, ()), ())

theorem ens_tt {o : Option ((Bool × Unit) × Unit)} (h : Ens o (fun r => r = YT)) : o = some YT := by
  obtain ⟨_, rfl, rfl⟩ := h
  rfl

end Go.Proofs.Ytcblbcpnfidndaa

namespace Go.Proofs.Ytcblbcpnfidndaa
open Go Go.Abs Go.Lab
theorem add_len (g : GpT) (r : RtT) (l : List LT) (on : Bool) (t : Int) (h : (gMem g).length < 256) : (gAdd g r l on t).1 = 0 ∧ (gAdd g r l on t).2.2.length ≤ (gMem g).length + 1 := by
  have hp := pos_le (mkB (textL l)) (gMem g)
  unfold gAdd
  dsimp only
  split
  · split
    · exact ⟨rfl, Nat.zero_le _⟩
    · split
      · exact ⟨rfl, by rw [List.length_set]; omega⟩
      · split
        · exact ⟨rfl, by rw [List.length_set]; omega⟩
        · split
          · exact ⟨rfl, by rw [List.length_set]; omega⟩
          · exact ⟨rfl, by simp; omega⟩
  · split
    · split
      · omega
      · exact ⟨rfl, by simp; omega⟩
    · exact ⟨rfl, Nat.le_succ _⟩

theorem look_len (g : GpT) (r : RtT) (t : Int) (mu : List ByteArray) : (gLook g r t mu).2.2.2.1.length ≤ (gMem g).length ∧ (gLook g r t mu).2.2.2.2.1.length ≤ (gMem g).length ∧ (gLook g r t mu).2.2.2.2.2.length ≤ (gMem g).length := by
  have a := firL_len mu (gMem g)
  have b := resL_len mu (gMem g)
  unfold gLook
  split
  · exact ⟨Nat.le_refl _, Nat.zero_le _, Nat.zero_le _⟩
  · dsimp only
    split
    · exact ⟨aftL_len _ _ _, a, b⟩
    · exact ⟨Nat.le_refl _, Nat.zero_le _, Nat.zero_le _⟩

end Go.Proofs.Ytcblbcpnfidndaa

namespace Go.Proofs.Ytcblbcpnfidndaa
open Go Go.Abs Go.Lab
theorem mod12 {n : Int} (h : IntKind.i64.min ≤ n ∧ n ≤ IntKind.i64.max) : ∃ f : Int, m12 ((n, 1000, ()), ()) = some ((f, ()), ()) ∧ 0 ≤ f ∧ f < 1000 := by
  have h1 := Int.tmod_lt_of_pos n (show (0 : Int) < 1000 by omega)
  have h2 : -1000 < n.tmod 1000 := by
    have := Int.lt_tmod_of_pos n (show (0 : Int) < 1000 by omega)
    omega
  have w : w64 (n.tmod 1000 + 1000) = n.tmod 1000 + 1000 := w64_id (by omega) (by omega)
  have h3 := Int.tmod_lt_of_pos (n.tmod 1000 + 1000) (show (0 : Int) < 1000 by omega)
  have h4 := Int.tmod_nonneg (1000 : Int) (show 0 ≤ n.tmod 1000 + 1000 by omega)
  refine ⟨(n.tmod 1000 + 1000).tmod 1000, ?_, h4, h3⟩
  unfold m12
  have d : decide ((1000 : Int) ≠ 0) = true := by decide
  simp only [d, w, sumE, sS]

/-- An alert of another key leaves a member as it was. -/
theorem add_other {g : GpT} {r : RtT} (hr : RR r) {l : List LT} (on : Bool) {t : Int} {m : MbT} (hl : (gMem g).length < 256) (hm : m ∈ gMem g) (hk : mKey m ≠ mkB (textL l)) (hs : gSent g = -1) (h0 : 0 ≤ gDue g ∧ gDue g ≤ 100000) (hd : gDue g ≤ t + rWait r) :
    m ∈ (gAdd g r l on t).2.2 ∧ (gAdd g r l on t).2.1.2.2.1 = gDue g ∧ cSent (gAdd g r l on t).2.1 = -1 := by
  have hw : wakeG g r t = gDue g := by
    show wakeV _ _ _ _ _ = _
    unfold wakeV wakeN
    rw [if_pos hs, if_neg (by omega)]
    rw [lim_le (by split <;> omega)]
    split <;> omega
  unfold gAdd
  dsimp only
  by_cases hh : hit (mkB (textL l)) (gMem g) = true
  · rw [if_pos hh]
    obtain ⟨e, he, hke⟩ := hit_some hh
    rw [he]
    dsimp only
    obtain ⟨j, hj, rfl⟩ := List.mem_iff_getElem.1 hm
    have hne : pos (mkB (textL l)) (gMem g) ≠ j := by
      rintro rfl
      rw [List.getElem?_eq_getElem hj] at he
      injection he with he
      rw [he] at hk
      exact hk hke
    have hset : ∀ x, (gMem g)[j] ∈ (gMem g).set (pos (mkB (textL l)) (gMem g)) x := fun x =>
      List.mem_iff_getElem.2 ⟨j, by rw [List.length_set]; exact hj, by rw [List.getElem_set_ne hne]⟩
    split
    · exact ⟨hset _, rfl, hs⟩
    · split
      · exact ⟨hset _, rfl, hs⟩
      · split
        · exact ⟨hset _, hw, hs⟩
        · have hin : (gMem g)[j] ∈ (gMem g).take (pos (mkB (textL l)) (gMem g)) ++ (gMem g).drop (pos (mkB (textL l)) (gMem g) + 1) := by
            rcases Nat.lt_or_gt_of_ne hne with h | h
            · exact List.mem_append_right _ (List.mem_drop_iff_getElem.2 ⟨j - (pos (mkB (textL l)) (gMem g) + 1), by omega, by congr 1; omega⟩)
            · exact List.mem_append_left _ (List.mem_take_iff_getElem.2 ⟨j, by omega, rfl⟩)
          refine ⟨hin, ?_, hs⟩
          show restD g _ = _
          unfold restD
          rw [if_neg (fun hc => by rw [List.length_eq_zero_iff.1 hc] at hin; cases hin)]
  · rw [if_neg hh]
    split
    · split
      · omega
      · refine ⟨?_, hw, hs⟩
        have hm2 := hm
        rw [← List.take_append_drop (pos (mkB (textL l)) (gMem g)) (gMem g)] at hm2
        simp only [List.mem_append, List.mem_singleton] at hm2 ⊢
        rcases hm2 with h | h
        · exact .inl (.inl h)
        · exact .inr h
    · refine ⟨hm, ?_, hs⟩
      show restD g _ = _
      unfold restD
      rw [if_neg (fun hc => by rw [List.length_eq_zero_iff.1 hc] at hm; cases hm)]

theorem first_add (ky : ByteArray) {r : RtT} (hr : RR r) (hw : rWait r ≤ 60) (l : List LT) {t : Int} (h0 : 0 ≤ t) (h1 : t < 1000) :
    gAdd (0, ky, [], -1, -1, ()) r l true t = (0, (0, ky, t + rWait r, -1, ()), [(mkB (textL l), l, t, t, true, false, ())]) := by
  have := hr.wait
  have hh : hit (mkB (textL l)) [] = false := rfl
  have hw : wakeV (-1) (-1) (rWait r) (rInt r) t = t + rWait r := by
    unfold wakeV wakeN
    rw [if_pos rfl, if_pos rfl, lim_le (by omega)]
  unfold gAdd
  dsimp only [gMem, gDue, gSent, wakeG, dueC]
  rw [hh, hw]
  rfl

theorem look_tells {g : GpT} {r : RtT} {t : Int} {m : MbT} (hm : m ∈ gMem g) (hf : mFire m = true) (ht : mTold m = false) (hd : gDue g = t) (h0 : 0 ≤ t) : (gLook g r t []).1 = true ∧ mKey m ∈ (gLook g r t []).2.2.2.2.1 := by
  have hn : newsB (gSent g) (rRep r) t [] (gMem g) = true := by
    unfold newsB
    have : freB [] (gMem g) = true := by
      unfold freB
      rw [List.any_eq_true]
      refine ⟨m, hm, ?_⟩
      show (!false && (mFire m && !mTold m)) = true
      rw [hf, ht]; rfl
    rw [this]; rfl
  unfold gLook
  rw [if_neg (by rintro (h | h) <;> omega)]
  dsimp only
  rw [if_pos hn]
  exact ⟨rfl, fir_mem.2 ⟨m, hm, rfl, by simp, hf⟩⟩

structure WaitI (rc : RcT) (ks : List ByteArray) (key : ByteArray) (frm : Int) (v : (ByteArray × Int × Int × Unit) × ((PgT × Unit) × (Dice × Unit) × (RcT × Unit) × List MbT × List ByteArray × Unit)) : Prop where
  hkey : v.1.1 = key
  hfrm : v.1.2.2.1 = frm
  hrc : v.2.2.2.1.1 = rc
  hks : v.2.2.2.2.2.1 = ks
  hd : DOK v.2.2.1.1
  off : v.2.1.1.2.2.1.1 = 0
  len : v.2.1.1.2.2.1.2 ≤ v.2.2.2.2.1.length
  vg : VG (v.2.1.1.1, v.2.1.1.2.1, v.2.2.2.2.1.take v.2.1.1.2.2.1.2, v.2.1.1.2.2.2.1, v.2.1.1.2.2.2.2.1, ())
  n0 : frm ≤ v.1.2.1
  n1 : v.1.2.1 ≤ frm + rc.2.2.1
  cnt : (v.2.1.1.2.2.1.2 : Int) ≤ v.1.2.1 - frm + 1
  due : v.2.1.1.2.2.2.1 = frm + rc.2.2.1
  snt : v.2.1.1.2.2.2.2.1 = -1
  mem : ∃ m ∈ v.2.2.2.2.1.take v.2.1.1.2.2.1.2, mKey m = key ∧ mFire m = true ∧ mTold m = false

theorem law3c (x : List Int) (n : Int) (hn : IntKind.i64.min ≤ n ∧ n ≤ IntKind.i64.max) : m3 ((x, n, ()), ()) = some ((true, ()), ()) := by
  unfold m3
  simp only [light, roll, sane23, sumE, sS]
  cases hx : decide (x.length ≤ 500)
  · simp only [sumE, sS]
  have hx := of_decide_eq_true hx
  simp only [sumE, sS]
  refine ens_tt ?_
  refine ens_call (c11 _ (dok0 hx)) ?_
  rintro ⟨⟨⟩, ⟨⟨d1, ⟨⟩⟩, ⟨⟨pa, po, wa, ir, rp, co, ⟨⟩⟩, ⟨⟩⟩, ks, ⟨⟩⟩⟩ ⟨hd1, hr, hpa, hw, hi, hp⟩
  dsimp only [rtOf] at hd1 hr hw hi hp hpa ⊢
  have hw0 := hr.wait
  dsimp only [rWait] at hw0
  obtain ⟨frm, ef, hf0, hf1⟩ := mod12 hn
  refine ens_call ⟨_, ef, rfl⟩ ?_
  rintro _ rfl
  dsimp only
  refine ens_call (c13 d1 hd1) ?_
  rintro ⟨⟨⟩, ⟨⟨d2, ⟨⟩⟩, l, ⟨⟩⟩⟩ ⟨hd2, hl⟩
  dsimp only at hd2 hl ⊢
  refine ens_bind ⟨((), (((0, bs [123, 125], -1, -1, ()), ()), ())), rfl, ?_⟩
  dsimp only
  have hz := zero_vg 0 (bs [123, 125]) (by omega)
  have fa := first_add (bs [123, 125]) hr hw l hf0 hf1
  have qa := add_p hz hr hl true (t := frm) (by omega)
  have va := add_vg hz hr hl true (t := frm) (by omega)
  rw [fa] at qa va
  dsimp only [rWait, outA, grp] at qa va
  have w1 : w64 (frm + wa) = frm + wa := w64_id (by omega) (by omega)
  have q16 := m16_eq l (valid_ks hl)
  rw [text_valid hl] at q16
  rw [qa]
  simp only [w1, q16, bne_self_eq_false, sumE, sS]
  refine ens_call (R := fun b => b = .inl ((true, ()), ())) ?_ ?_
  rotate_left
  · rintro _ rfl
    exact ens_some rfl
  refine ens_loop (fun v => WaitI (pa, po, wa, ir, rp, co, ()) ks (mkB (textL l)) frm v) (fun v => (frm + wa + 1 - v.1.2.1).toNat) ?_ _ ?_
  rotate_left
  · exact ⟨rfl, rfl, rfl, rfl, hd2, rfl, Nat.le_refl _, va, Int.le_refl _, by dsimp only; omega, by dsimp only [List.length_singleton]; omega, rfl, rfl, ⟨_, List.mem_singleton.2 rfl, rfl, rfl, rfl⟩⟩
  rintro ⟨⟨key, now, fr0, ⟨⟩⟩, ⟨⟨rt, ky, ⟨of, n2⟩, du, se, ⟨⟩⟩, ⟨⟩⟩, ⟨d, ⟨⟩⟩, ⟨rc0, ⟨⟩⟩, blk, ks0, ⟨⟩⟩ ⟨hkey, hfrm, hrc, hks, hd, hof, hlen, hg, hn0, hn1, hcnt, hdue, hsnt, m, hm, hm1, hm2, hm3⟩
  dsimp only at hkey hfrm hrc hks hd hof hlen hg hn0 hn1 hcnt hdue hsnt hm ⊢
  subst hkey; subst hfrm; subst hrc; subst hks; subst hof; subst hdue; subst hsnt
  have hml : (blk.take n2).length = n2 := by rw [List.length_take]; omega
  unfold l3_0_12
  dsimp only
  rw [w1]
  have dle : decide (now ≤ fr0 + wa) = true := decide_eq_true hn1
  simp only [dle, sumE, sS]
  by_cases hend : now = fr0 + wa
  · subst hend
    simp only [beq_self_eq_true, sumE, sS]
    have dn : decide (0 + n2 ≤ blk.length) = true := decide_eq_true (by omega)
    obtain ⟨t1, t2⟩ := look_tells (g := (rt, ky, blk.take n2, fr0 + wa, -1, ())) (r := (pa, [], po, ks0, wa, ir, rp, co, ())) (t := fr0 + wa) hm hm2 hm3 rfl (by omega)
    obtain ⟨n3, blk3, e, hn3, hb⟩ := look_p hg hr (t := fr0 + wa) (by omega) (mu := []) (Nat.zero_le _)
    have b2 := look_len (rt, ky, blk.take n2, fr0 + wa, -1, ()) (pa, [], po, ks0, wa, ir, rp, co, ()) (fr0 + wa) []
    generalize gLook (rt, ky, blk.take n2, fr0 + wa, -1, ()) (pa, [], po, ks0, wa, ir, rp, co, ()) (fr0 + wa) [] = z at *
    obtain ⟨ok, ⟨rt2, ky2, du2, se2, ⟨⟩⟩, nc, MS, F, R⟩ := z
    dsimp only [gMem] at t1 t2 b2 hb e
    subst t1
    rw [hml] at b2
    simp only [dn, List.drop_zero, e, show ((0 : Int) != 0) = false from rfl, sumE, sS]
    obtain ⟨j, hj, hjk⟩ := List.mem_iff_getElem.1 t2
    have fl : ∃ u, loopT l3_0_20 (((0 : Int), (mkB (textL l)), fr0, fr0 + wa, ((F.length : Nat) : Int), ()), (F, ((rt2, ky2, (0, n3), du2, se2, ()), ()), (d, ()), ((pa, po, wa, ir, rp, co, ()), ()), blk3, ks0, ())) = some u ∧ u = .inl ((true, ()), ()) := by
      refine ens_loop (fun v => ∃ i : Nat, i ≤ j ∧ v = (((i : Int), (mkB (textL l)), fr0, fr0 + wa, ((F.length : Nat) : Int), ()), (F, ((rt2, ky2, (0, n3), du2, se2, ()), ()), (d, ()), ((pa, po, wa, ir, rp, co, ()), ()), blk3, ks0, ()))) (fun v => F.length - v.1.1.toNat) ?_ _ ⟨0, Nat.zero_le _, rfl⟩
      rintro _ ⟨i, hij, rfl⟩
      obtain ⟨k, hk⟩ := getD_some (l := F) (i := i) (by omega)
      have hw2 : w64 ((i : Int) + 1) = ((i + 1 : Nat) : Int) := w64_nat (by omega)
      have hb1 : decide ((0 : Int) ≤ (i : Int) ∧ (i : Int) < (F.length : Int)) = true := decide_eq_true (by omega)
      have hlt : decide ((i : Int) < ((F.length : Nat) : Int)) = true := decide_eq_true (by omega)
      unfold l3_0_20
      simp only [hlt, hb1, Int.toNat_natCast, hk, toList_bl, beq_bl, sane23, sumE, sS]
      by_cases hke : k = (mkB (textL l))
      · rw [decide_eq_true hke]
        exact ens_some rfl
      · rw [decide_eq_false hke]
        simp only [hw2, sumE, sS]
        have hne : i ≠ j := by
          rintro rfl
          rw [List.getElem?_eq_getElem hj] at hk
          injection hk with hk
          exact hke (by rw [← hk, hjk]; exact hm1)
        exact ens_some ⟨⟨i + 1, by omega, rfl⟩, by dsimp only; omega⟩
    obtain ⟨_, e2, rfl⟩ := fl
    simp only [e2, sumE, sS]
    exact ens_some rfl
  · have bne : (fr0 + wa == now) = false := beq_eq_false_iff_ne.2 (by omega)
    have w2 : w64 (now + 1) = now + 1 := w64_id (by omega) (by omega)
    simp only [bne, sumE, sS]
    refine ens_call (R := fun z => ∃ (pg : PgT) (d' : Dice) (blk' : List MbT), z = .inl (((mkB (textL l)), fr0, now, ()), ((pg, ()), (d', ()), ((pa, po, wa, ir, rp, co, ()), ()), blk', ks0, ())) ∧ WaitI (pa, po, wa, ir, rp, co, ()) ks0 (mkB (textL l)) fr0 (((mkB (textL l)), now + 1, fr0, ()), ((pg, ()), (d', ()), ((pa, po, wa, ir, rp, co, ()), ()), blk', ks0, ()))) ?_ ?_
    rotate_left
    · rintro _ ⟨⟨a, b, ⟨c1, c2⟩, e, f, ⟨⟩⟩, d', blk', rfl, hI⟩
      simp only [w2, sumE, sS]
      exact ens_some ⟨hI, by dsimp only; omega⟩
    have keep : ∀ d' : Dice, DOK d' → WaitI (pa, po, wa, ir, rp, co, ()) ks0 (mkB (textL l)) fr0 (((mkB (textL l)), now + 1, fr0, ()), (((rt, ky, (0, n2), fr0 + wa, -1, ()), ()), (d', ()), ((pa, po, wa, ir, rp, co, ()), ()), blk, ks0, ())) := fun d' hd' =>
      ⟨rfl, rfl, rfl, rfl, hd', rfl, hlen, hg, by dsimp only; omega, by dsimp only; omega, by dsimp only; omega, rfl, rfl, ⟨m, hm, hm1, hm2, hm3⟩⟩
    refine ens_call (c18 9 d hd (by omega) (by omega)) ?_
    rintro ⟨⟨o, ⟨⟩⟩, ⟨⟨d3, ⟨⟩⟩, ⟨⟩⟩⟩ hd3
    dsimp only at hd3 ⊢
    refine ens_bif (fun _ => ?_) (fun _ => ens_some ⟨_, _, _, rfl, keep d3 hd3⟩)
    refine ens_call (c13 d3 hd3) ?_
    rintro ⟨⟨⟩, ⟨⟨d4, ⟨⟩⟩, l2, ⟨⟩⟩⟩ ⟨hd4, hl2⟩
    dsimp only at hd4 hl2 ⊢
    have q17 := m16_eq l2 (valid_ks hl2)
    rw [text_valid hl2] at q17
    simp only [q17, toList_bl, beq_bl, sumE, sS]
    by_cases hk2 : mkB (textL l2) = (mkB (textL l))
    · rw [decide_eq_true hk2]
      exact ens_some ⟨_, _, _, rfl, keep d4 hd4⟩
    rw [decide_eq_false hk2]
    simp only [sumE, sS]
    refine ens_call (c18 2 d4 hd4 (by omega) (by omega)) ?_
    rintro ⟨⟨on, ⟨⟩⟩, ⟨⟨d5, ⟨⟩⟩, ⟨⟩⟩⟩ hd5
    dsimp only at hd5 ⊢
    refine ens_need (by omega) ?_
    rw [List.drop_zero]
    have ht : 0 ≤ now ∧ now ≤ 8589934592 := by omega
    have hm256 : (gMem (rt, ky, blk.take n2, fr0 + wa, -1, ())).length < 256 := by show (blk.take n2).length < 256; omega
    obtain ⟨a1, a2⟩ := add_len (rt, ky, blk.take n2, fr0 + wa, -1, ()) (pa, [], po, ks0, wa, ir, rp, co, ()) l2 on now hm256
    obtain ⟨a3, a4, a5⟩ := add_other (g := (rt, ky, blk.take n2, fr0 + wa, -1, ())) hr (l := l2) on (t := now) (m := m) hm256 hm (by rw [hm1]; exact fun h => hk2 h.symm) rfl (by show 0 ≤ fr0 + wa ∧ fr0 + wa ≤ 100000; omega) (by show fr0 + wa ≤ now + wa; omega)
    have a6 := add_vg hg hr hl2 on ht
    have a7 := add_p hg hr hl2 on ht
    generalize gAdd (rt, ky, blk.take n2, fr0 + wa, -1, ()) (pa, [], po, ks0, wa, ir, rp, co, ()) l2 on now = z at *
    obtain ⟨e0, ⟨rt2, ky2, du2, se2, ⟨⟩⟩, MS⟩ := z
    dsimp only [grp, cSent, gSent, gDue, gMem] at a1 a2 a3 a4 a5 a6 a7
    subst a1; subst a4; subst a5
    rw [hml] at a2
    refine ens_call ⟨_, a7, rfl⟩ ?_
    rintro _ rfl
    simp only [show ((0 : Int) != 0) = false from rfl, sumE, sS]
    exact ens_some ⟨_, _, _, rfl, ⟨rfl, rfl, rfl, rfl, hd5, rfl, Nat.le_refl _, by dsimp only; rw [List.take_length]; exact a6, by dsimp only; omega, by dsimp only; omega, by dsimp only; omega, rfl, rfl, ⟨m, by dsimp only; rw [List.take_length]; exact a3, hm1, hm2, hm3⟩⟩⟩

theorem law3 : ∀ x, Abs.InRs [.row (.int .i64), .int .i64] x → m3 (x, ()) = some ((true, ()), ()) := by
  intro x h
  obtain ⟨_, h1, _⟩ := h
  exact law3c x.1 x.2.1 h1

end Go.Proofs.Ytcblbcpnfidndaa
