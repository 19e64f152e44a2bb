/- Lemmas for the statement of the last text of this claim. -/
import Derived.Test.YtcblbcpnfidndaaChecked
import Derived.Test.YtcblbcpnfidndaaPxS
import Derived.WalkKit
import Derived.ProofKit
import Derived.Deep.RegionLaw
import Derived.Deep.LoopGhost
import Derived.Lib.Walk
import Derived.Maps.Own
import Derived.Shelf.RegionOpenPlain
import Derived.Shelf.Spec.SlicesInsert
import Derived.Shelf.Strings.OnBuilder
import Derived.Test.YtcblbcpnfidndaaPxO
import Derived.Test.YtcblbcpnfidndaaPlD
import Derived.BigCall
import Derived.Lib.LazyBuf
import Derived.Test.YtcblbcpnfidndaaPxQ
import Derived.Test.YtcblbcpnfidndaaV4A
set_option linter.unusedSimpArgs false
set_option linter.unusedVariables false
namespace Go.Proofs.Ytcblbcpnfidndaa
open Go Go.Abs Go.Lab
abbrev NtC := Int × Int × Int × ByteArray × Unit

abbrev zeroN : NtC := (0, 0, 0, ByteArray.empty, ())

/-- Whether a list has a key. -/
def muB (mu : List ByteArray) (k : ByteArray) : Bool := mu.any fun x => decide (x = k)

def firL (mu : List ByteArray) (ms : List MbT) : List ByteArray := (ms.filter fun m => !muB mu (mKey m) && mFire m).map mKey

def resL (mu : List ByteArray) (ms : List MbT) : List ByteArray := (ms.filter fun m => !muB mu (mKey m) && !mFire m).map mKey

def freB (mu : List ByteArray) (ms : List MbT) : Bool := ms.any fun m => !muB mu (mKey m) && (mFire m && !mTold m)

def tellM (F : List ByteArray) (m : MbT) : MbT := (m.1, m.2.1, m.2.2.1, m.2.2.2.1, m.2.2.2.2.1, mTold m || muB F (mKey m), ())

def aftL (F R : List ByteArray) (ms : List MbT) : List MbT := (ms.filter fun m => !muB R (mKey m)).map (tellM F)

def opnB (ms : List MbT) : Bool := ms.any fun m => !mTold m

def againB (se rep t : Int) (F : List ByteArray) : Bool := decide (0 < F.length) && (se != -1) && decide (se + rep ≤ t)

def newsB (se rep t : Int) (mu : List ByteArray) (ms : List MbT) : Bool := freB mu ms || againB se rep t (firL mu ms) || decide (0 < (resL mu ms).length)

def nextD (se int rep t : Int) (o : Bool) : Int := limE (max (if o = true ∨ se + rep ≤ t then t + int else se + rep) (t + 1))

abbrev LkT := Bool × Cor × NtC × List MbT × List ByteArray × List ByteArray

/-- What a look makes. -/
def gLook (g : GpT) (r : RtT) (t : Int) (mu : List ByteArray) : LkT :=
  if gDue g = -1 ∨ gDue g > t then (false, dueC g (gDue g), zeroN, gMem g, [], [])
  else
    let F := firL mu (gMem g)
    let R := resL mu (gMem g)
    if newsB (gSent g) (rRep r) t mu (gMem g) = true then
      (true, (g.1, g.2.1, (if (aftL F R (gMem g)).length = 0 then -1 else nextD t (rInt r) (rRep r) t (opnB (aftL F R (gMem g)))), t, ()), (t, g.1, r.2.2.1, g.2.1, ()), aftL F R (gMem g), F, R)
    else (false, dueC g (if (gMem g).length = 0 then -1 else nextD (gSent g) (rInt r) (rRep r) t (opnB (gMem g))), zeroN, gMem g, [], [])

theorem takeSnoc {A : Type} {l : List A} {i : Nat} {e : A} (he : l[i]? = some e) : l.take (i + 1) = l.take i ++ [e] := by
  rw [List.take_add_one, he]; rfl

theorem firL_snoc (mu : List ByteArray) (l : List MbT) (e : MbT) : firL mu (l ++ [e]) = firL mu l ++ (if !muB mu (mKey e) && mFire e then [mKey e] else []) := by
  unfold firL
  rw [List.filter_append, List.map_append]
  cases h : (!muB mu (mKey e) && mFire e) <;> simp [h]

theorem resL_snoc (mu : List ByteArray) (l : List MbT) (e : MbT) : resL mu (l ++ [e]) = resL mu l ++ (if !muB mu (mKey e) && !mFire e then [mKey e] else []) := by
  unfold resL
  rw [List.filter_append, List.map_append]
  cases h : (!muB mu (mKey e) && !mFire e) <;> simp [h]

theorem freB_snoc (mu : List ByteArray) (l : List MbT) (e : MbT) : freB mu (l ++ [e]) = (freB mu l || (!muB mu (mKey e) && (mFire e && !mTold e))) := by
  unfold freB
  rw [List.any_append]
  simp

theorem firL_len (mu : List ByteArray) (l : List MbT) : (firL mu l).length ≤ l.length := by
  unfold firL; rw [List.length_map]; exact List.length_filter_le _ _

theorem resL_len (mu : List ByteArray) (l : List MbT) : (resL mu l).length ≤ l.length := by
  unfold resL; rw [List.length_map]; exact List.length_filter_le _ _

theorem has_p (mu : List ByteArray) (k : ByteArray) (h : mu.length ≤ big) : m52 ((mu, k, ()), ()) = some ((muB mu k, ()), ()) := m52_eq mu k h

theorem notice_p (ms : List MbT) (mu : List ByteArray) (t : Int) (nc : NtC) (r : RtT) (c : Cor) (hl : ms.length ≤ 256) (hm : mu.length ≤ big) :
    loopT l17_1_4 (((0 : Int), false, mu, t, ((ms.length : Nat) : Int), ()), (ms, (nc, ()), (zeroN, ()), (r, ()), (c, ()), [], [], ())) =
      some ((freB mu ms, t, ()), (ms, (zeroN, ()), (nc, ()), (r, ()), (c, ()), firL mu ms, resL mu ms, ())) := by
  have := loop_thru (f := l17_1_4) ms (fun i => (((i : Int), freB mu (ms.take i), mu, t, ((ms.length : Nat) : Int), ()), (ms, (nc, ()), (zeroN, ()), (r, ()), (c, ()), firL mu (ms.take i), resL mu (ms.take i), ())))
    ((freB mu ms, t, ()), (ms, (zeroN, ()), (nc, ()), (r, ()), (c, ()), firL mu ms, resL mu ms, ())) ?_ ?_
  · exact this
  · intro i e he hi
    have hw : w64 ((i : Int) + 1) = ((i + 1 : Nat) : Int) := w64_nat (by omega)
    have hb : decide ((0 : Int) ≤ (i : Int) ∧ (i : Int) < (ms.length : Int)) = true := decide_eq_true (by omega)
    have f1 := firL_len mu (ms.take i)
    have f2 := resL_len mu (ms.take i)
    rw [List.length_take] at f1 f2
    have c1 : decide ((firL mu (ms.take i)).length + [mKey e].length ≤ 4294967296) = true := decide_eq_true (by simp; omega)
    have c2 : decide ((resL mu (ms.take i)).length + [mKey e].length ≤ 4294967296) = true := decide_eq_true (by simp; omega)
    have q := has_p mu (mKey e) hm
    obtain ⟨mk, ml, mn, mh, mf, mt', ⟨⟩⟩ := e
    dsimp only [mKey] at q c1 c2
    rw [takeSnoc he, firL_snoc, resL_snoc, freB_snoc]
    simp only [l17_1_4, lt_t hi, hb, Int.toNat_natCast, he, q, mKey, mFire, mTold, sumE, sS]
    cases muB mu mk
    · cases mf
      · simp only [c2, hw, List.append_nil, Bool.or_false, if_true, if_false, Bool.false_eq_true, sumE, sS]
      · simp only [c1, hw, List.append_nil, Bool.or_false, if_true, if_false, Bool.false_eq_true, sumE, sS]
        cases freB mu (ms.take i) <;> simp only [hw, Bool.true_or, Bool.false_or, sumE, sS]
    · simp only [hw, List.append_nil, Bool.or_false, if_true, if_false, Bool.false_eq_true, sumE, sS]
  · rw [List.take_length]
    simp only [l17_1_4, lt_f, sumE, sS]

abbrev keepM (R : List ByteArray) (m : MbT) : Bool := !muB R (mKey m)

theorem index_p (ms : List MbT) (nc : NtC) (F R : List ByteArray) (hl : ms.length ≤ 256) (hR : R.length ≤ big) :
    (loopT l17_3_2 (((0 : Int), ((ms.length : Nat) : Int), ()), (ms, (nc, ()), F, R, ())) = some (.inr ((), (ms, (nc, ()), F, R, ()))) ∧ ms.filter (keepM R) = ms) ∨
    ∃ j, j < ms.length ∧ loopT l17_3_2 (((0 : Int), ((ms.length : Nat) : Int), ()), (ms, (nc, ()), F, R, ())) = some (.inl (((j : Int), ()), (ms, (nc, ()), F, R, ()))) ∧ (ms.take (j + 1)).filter (keepM R) = ms.take j := by
  have key : ∀ (d i : Nat), i + d = ms.length → (ms.take i).filter (keepM R) = ms.take i →
      (loopT l17_3_2 (((i : Int), ((ms.length : Nat) : Int), ()), (ms, (nc, ()), F, R, ())) = some (.inr ((), (ms, (nc, ()), F, R, ()))) ∧ ms.filter (keepM R) = ms) ∨
      ∃ j, j < ms.length ∧ loopT l17_3_2 (((i : Int), ((ms.length : Nat) : Int), ()), (ms, (nc, ()), F, R, ())) = some (.inl (((j : Int), ()), (ms, (nc, ()), F, R, ()))) ∧ (ms.take (j + 1)).filter (keepM R) = ms.take j := by
    intro d
    induction d with
    | zero =>
      intro i h h2
      obtain rfl : i = ms.length := by omega
      rw [List.take_length] at h2
      refine .inl ⟨loopT_inr ?_, h2⟩
      simp only [l17_3_2, lt_f, sumE, sS]
    | succ d ih =>
      intro i h h2
      obtain ⟨e, he⟩ := getD_some (l := ms) (i := i) (by omega)
      have hi : i < ms.length := by omega
      have hw : w64 ((i : Int) + 1) = ((i + 1 : Nat) : Int) := w64_nat (by omega)
      have hb : decide ((0 : Int) ≤ (i : Int) ∧ (i : Int) < (ms.length : Int)) = true := decide_eq_true (by omega)
      have q := has_p R (mKey e) hR
      dsimp only [mKey] at q
      cases hr : muB R (mKey e)
      · dsimp only [mKey] at hr
        have h3 : (ms.take (i + 1)).filter (keepM R) = ms.take (i + 1) := by
          rw [takeSnoc he, List.filter_append, h2]
          simp [keepM, hr]
        have hs : l17_3_2 (((i : Int), ((ms.length : Nat) : Int), ()), (ms, (nc, ()), F, R, ())) = some (.inl ((((i + 1 : Nat) : Int), ((ms.length : Nat) : Int), ()), (ms, (nc, ()), F, R, ()))) := by
          simp only [l17_3_2, lt_t hi, hb, Int.toNat_natCast, he, q, hr, hw, eq_self, sumE, sS]
        rw [loopT_inl hs]
        exact ih (i + 1) (by omega) h3
      · dsimp only [mKey] at hr
        refine .inr ⟨i, hi, loopT_inr ?_, ?_⟩
        · simp only [l17_3_2, lt_t hi, hb, Int.toNat_natCast, he, q, hr, hw, eq_self, sumE, sS]
        · rw [takeSnoc he, List.filter_append, h2]
          simp [keepM, hr]
  exact key ms.length 0 (by omega) rfl

theorem strike_p (ms : List MbT) (nc : NtC) (F R : List ByteArray) (hl : ms.length ≤ 256) (hR : R.length ≤ big) : ∀ (d src dst : Nat) (blk : List MbT), src + d = ms.length → dst < src → blk.length = ms.length →
    blk.take dst = (ms.take src).filter (keepM R) → blk.drop src = ms.drop src →
    ∃ (dst' : Nat) (blk' : List MbT), loopT l17_2_5 (((src : Int), (dst : Int), ()), (blk, (nc, ()), F, R, ())) = some (((dst' : Int), ()), (blk', (nc, ()), F, R, ())) ∧ dst' ≤ ms.length ∧ blk'.length = ms.length ∧ blk'.take dst' = ms.filter (keepM R) := by
  intro d
  induction d with
  | zero =>
    intro src dst blk h1 h2 h3 h4 h5
    obtain rfl : src = ms.length := by omega
    rw [List.take_length] at h4
    refine ⟨dst, blk, loopT_inr ?_, by omega, h3, h4⟩
    have : decide ((ms.length : Int) < ((blk.length : Nat) : Int)) = false := decide_eq_false (by omega)
    simp only [l17_2_5, this, sumE, sS]
  | succ d ih =>
    intro src dst blk h1 h2 h3 h4 h5
    obtain ⟨e, he⟩ := getD_some (l := ms) (i := src) (by omega)
    have he' : blk[src]? = some e := by
      have := congrArg (fun l => l[0]?) h5
      simp only [List.getElem?_drop, Nat.add_zero] at this
      rw [this, he]
    have c1 : decide ((src : Int) < ((blk.length : Nat) : Int)) = true := decide_eq_true (by omega)
    have c2 : decide ((0 : Int) ≤ (src : Int) ∧ (src : Int) < (blk.length : Int)) = true := decide_eq_true (by omega)
    have c3 : decide ((0 : Int) ≤ (dst : Int) ∧ (dst : Int) < (blk.length : Int)) = true := decide_eq_true (by omega)
    have c4 : decide (dst < blk.length) = true := decide_eq_true (by omega)
    have w1 : w64 ((src : Int) + 1) = ((src + 1 : Nat) : Int) := w64_nat (by omega)
    have w2 : w64 ((dst : Int) + 1) = ((dst + 1 : Nat) : Int) := w64_nat (by omega)
    have q := has_p R (mKey e) hR
    dsimp only [mKey] at q
    cases hr : muB R (mKey e)
    · dsimp only [mKey] at hr
      have hs : l17_2_5 (((src : Int), (dst : Int), ()), (blk, (nc, ()), F, R, ())) = some (.inl ((((src + 1 : Nat) : Int), ((dst + 1 : Nat) : Int), ()), (blk.set dst e, (nc, ()), F, R, ()))) := by
        simp only [l17_2_5, c1, c2, Int.toNat_natCast, he', q, hr, c3, c4, w1, w2, eq_self, sumE, sS]
      rw [loopT_inl hs]
      refine ih (src + 1) (dst + 1) (blk.set dst e) (by omega) (by omega) (by rw [List.length_set, h3]) ?_ ?_
      · rw [takeSnoc he, List.filter_append, ← h4]
        rw [takeSnoc (e := e) (by rw [List.getElem?_set_self (by omega)]), take_set_self]
        simp [keepM, hr]
      · rw [List.drop_set, if_pos (by omega)]
        rw [← List.drop_drop, ← List.drop_drop, h5]
    · dsimp only [mKey] at hr
      have hs : l17_2_5 (((src : Int), (dst : Int), ()), (blk, (nc, ()), F, R, ())) = some (.inl ((((src + 1 : Nat) : Int), (dst : Int), ()), (blk, (nc, ()), F, R, ()))) := by
        simp only [l17_2_5, c1, c2, Int.toNat_natCast, he', q, hr, w1, eq_self, sumE, sS]
      rw [loopT_inl hs]
      refine ih (src + 1) dst blk (by omega) (by omega) h3 ?_ ?_
      · rw [takeSnoc he, List.filter_append, ← h4]
        simp [keepM, hr]
      · rw [← List.drop_drop, ← List.drop_drop, h5]

end Go.Proofs.Ytcblbcpnfidndaa

namespace Go.Proofs.Ytcblbcpnfidndaa
open Go Go.Abs Go.Lab
abbrev PgT := Int × ByteArray × (Nat × Nat) × Int × Int × Unit

theorem tell_p (M T : List MbT) (nc : NtC) (g : PgT) (c0 : Cor) (n0 : NtC) (r : RtT) (F R : List ByteArray) (ok : Bool) (t : Int) (hl : M.length ≤ 256) (hF : F.length ≤ big) (hg : g.2.2.1 = (0, M.length)) :
    loopT l17_0_13 (((0 : Int), (0, M.length), ok, t, ((M.length : Nat) : Int), ()), ((nc, ()), (g, ()), M ++ T, (c0, ()), (n0, ()), (r, ()), F, R, ())) =
      some ((ok, t, ()), ((c0, ()), (n0, ()), (nc, ()), (g, ()), (r, ()), F, R, M.map (tellM F) ++ T, ())) := by
  obtain ⟨rt, ky, pt, du, se, ⟨⟩⟩ := g
  dsimp only at hg
  subst hg
  have := loop_thru (f := l17_0_13) M (fun i => (((i : Int), (0, M.length), ok, t, ((M.length : Nat) : Int), ()), ((nc, ()), ((rt, ky, (0, M.length), du, se, ()), ()), (M.take i).map (tellM F) ++ (M.drop i ++ T), (c0, ()), (n0, ()), (r, ()), F, R, ())))
    ((ok, t, ()), ((c0, ()), (n0, ()), (nc, ()), ((rt, ky, (0, M.length), du, se, ()), ()), (r, ()), F, R, M.map (tellM F) ++ T, ())) ?_ ?_
  · exact this
  · intro i e he hi
    obtain ⟨e', he', hd⟩ := drop_at hi
    rw [he] at he'
    injection he' with he'
    subst he'
    have hw : w64 ((i : Int) + 1) = ((i + 1 : Nat) : Int) := w64_nat (by omega)
    have hb : decide ((0 : Int) ≤ (i : Int) ∧ (i : Int) < (M.length : Int)) = true := decide_eq_true (by omega)
    have hA : ((M.take i).map (tellM F)).length = i := by simp; omega
    rw [hd, List.cons_append]
    have at1 : ∀ B : List MbT, ((M.take i).map (tellM F) ++ e :: B)[i]? = some e := fun B => by
      have := app_at ((M.take i).map (tellM F)) e B
      rwa [hA] at this
    have st1 : ∀ (x : MbT) (B : List MbT), ((M.take i).map (tellM F) ++ e :: B).set i x = (M.take i).map (tellM F) ++ x :: B := fun x B => by
      have := app_set ((M.take i).map (tellM F)) e x B
      rwa [hA] at this
    have q := has_p F (mKey e) hF
    dsimp only [mKey] at q
    have hx : (M.take (i + 1)).map (tellM F) ++ (M.drop (i + 1) ++ T) = (M.take i).map (tellM F) ++ tellM F e :: (M.drop (i + 1) ++ T) := by
      rw [takeSnoc he, List.map_append, List.append_assoc]; rfl
    rw [hx]
    obtain ⟨mk, ml, mn, mh, mf, mt', ⟨⟩⟩ := e
    dsimp only at q
    simp only [l17_0_13, lt_t hi, hb, Int.toNat_natCast, Nat.zero_add, at1, st1, q, hw, sumE, sS]
    cases mt' <;> simp only [st1, hw, tellM, mTold, mKey, Bool.true_or, Bool.false_or, sumE, sS]
  · rw [List.take_length, List.drop_length, List.nil_append]
    simp only [l17_0_13, lt_f, sumE, sS]

theorem open_p (l : List MbT) (hl : l.length ≤ 256) : ∃ j : Nat, loopT l17_7_2 (((0 : Int), l, (l.length : Int), ()), ()) = some (bif opnB l then .inl (((j : Int), ()), ()) else .inr ((), ())) := by
  have h := loop_list0 (f := l17_7_2) l (fun i (_ : Unit) => (((i : Int), l, (l.length : Int), ()), ())) (fun i _ e => bif !mTold e then .inr (.inl (((i : Int), ()), ())) else .inl ()) (fun _ => .inr ((), ())) ?_ ?_ ()
  · obtain ⟨j, _, hj⟩ := runL_any (fun e : MbT => !mTold e) (fun i : Nat => (Sum.inl (((i : Int), ()), ()) : ((Int × Unit) × Unit) ⊕ (Unit × Unit))) (.inr ((), ())) l 0
    exact ⟨j, h.trans (congrArg some hj)⟩
  · intro i e _ he hi
    have hw : w64 ((i : Int) + 1) = ((i + 1 : Nat) : Int) := w64_nat (by omega)
    have q : m54 ((e, ()), ()) = some ((!mTold e, ()), ()) := rfl
    simp only [l17_7_2, rowAt_G, rowG_nat he, lt_t hi, q, sumE, sS]
    cases mTold e <;> simp only [sumE, sS, hw]
  · intro _
    simp only [l17_7_2, lt_f, sumE, sS]

/-- The form of the program's result. -/
def LookOK (x : LkT) (o : Option ((Bool × Int × Unit) × ((PgT × Unit) × (NtC × Unit) × List MbT × List ByteArray × List ByteArray × Unit))) : Prop :=
  ∃ (n : Nat) (blk : List MbT), o = some ((x.1, 0, ()), (((x.2.1.1, x.2.1.2.1, (0, n), x.2.1.2.2.1, x.2.1.2.2.2.1, ()), ()), (x.2.2.1, ()), blk, x.2.2.2.2.1, x.2.2.2.2.2, ())) ∧ n ≤ blk.length ∧ blk.take n = x.2.2.2.1

theorem look_bind {A : Type} {y : LkT} {o : Option A} {f : A → Option ((Bool × Int × Unit) × ((PgT × Unit) × (NtC × Unit) × List MbT × List ByteArray × List ByteArray × Unit))} (x : A) (h : o = some x) (h2 : LookOK y (f x)) : LookOK y (o.bind f) := by
  rw [h]; exact h2

theorem look_ex {A : Type} {y : LkT} {o : Option A} {f : A → Option ((Bool × Int × Unit) × ((PgT × Unit) × (NtC × Unit) × List MbT × List ByteArray × List ByteArray × Unit))} (P : A → Prop) (h : ∃ x, o = some x ∧ P x) (h2 : ∀ x, P x → LookOK y (f x)) : LookOK y (o.bind f) := by
  obtain ⟨x, rfl, hp⟩ := h
  exact h2 x hp

theorem exb {A B : Type} {o : Option A} {f : A → Option B} {Q : B → Prop} (x : A) (h : o = some x) (h2 : ∃ b, f x = some b ∧ Q b) : ∃ b, o.bind f = some b ∧ Q b := by
  rw [h]; exact h2

theorem exP {A B : Type} {o : Option A} {f : A → Option B} {Q : B → Prop} (P : A → Prop) (h : ∃ x, o = some x ∧ P x) (h2 : ∀ x, P x → ∃ b, f x = some b ∧ Q b) : ∃ b, o.bind f = some b ∧ Q b := by
  obtain ⟨x, rfl, hp⟩ := h
  exact h2 x hp

theorem len0n (n : Nat) : (((n : Nat) : Int) == 0) = decide (n = 0) := by
  rw [beq_decide]; exact decide_eq_decide.2 (by omega)

theorem look_p {g : GpT} (h : VG g) {r : RtT} (hr : RR r) {t : Int} (ht : 0 ≤ t ∧ t ≤ 8589934592) {mu : List ByteArray} (hm : mu.length ≤ big) : LookOK (gLook g r t mu) (m17 ((g, r, t, mu, ()), ())) := by
  have q1 := m23_eq h
  have q2 := m36_eq r hr.z
  rw [hr.ok] at q2
  have q6 := copy41 h
  have dt : decide ((0 : Int) ≤ t ∧ t ≤ 8589934592) = true := decide_eq_true ht
  have hlen := h.len
  have hsent := h.sent
  have hdue := h.due
  have hir := hr.int
  have hwa := hr.wait
  have hrp := hr.rep
  have hmx := hr.max
  obtain ⟨rt, ky, ms, du, se, ⟨⟩⟩ := g
  obtain ⟨pa, mt, po, gb, wa, ir, rp, co, ⟨⟩⟩ := r
  dsimp only [gMem, gDue, gSent, rWait, rInt, rRep, cor] at *
  have qn := fun nc c => notice_p ms mu t nc (pa, mt, po, gb, wa, ir, rp, co, ()) c hlen hm
  unfold m17 gLook
  dsimp only [gMem, gDue, gSent, rInt, rRep, dueC]
  simp only [q1, q2, q6, m38_eq, dt, sumE, sS]
  have w1 : w64 (se + rp) = se + rp := w64_id (by omega) (by omega)
  have w2 : w64 (t + 1) = t + 1 := w64_id (by omega) (by omega)
  have w3 : w64 (t + ir) = t + ir := w64_id (by omega) (by omega)
  have w4 : w64 (t + rp) = t + rp := w64_id (by omega) (by omega)
  by_cases h1 : du = -1
  · subst h1
    rw [if_pos (.inl rfl)]
    simp only [beq_self_eq_true, sumE, sS]
    exact ⟨ms.length, ms, rfl, Nat.le_refl _, List.take_length⟩
  have b1 : (du == -1) = false := beq_eq_false_iff_ne.2 h1
  rw [b1]
  by_cases h2 : du > t
  · rw [if_pos (.inr h2)]
    simp only [decide_eq_true h2, sumE, sS]
    exact ⟨ms.length, ms, rfl, Nat.le_refl _, List.take_length⟩
  rw [if_neg (by rintro (h | h) <;> contradiction)]
  simp only [decide_eq_false h2, qn, sumE, sS]
  have fl := firL_len mu ms
  have rl := resL_len mu ms
  refine look_bind ((againB se rp t (firL mu ms), freB mu ms, ()), ms, (zeroN, ()), ((t, rt, po, ky, ()), ()), firL mu ms, resL mu ms, ()) ?_ ?_
  · unfold againB
    rw [show decide (((firL mu ms).length : Int) > 0) = decide (0 < (firL mu ms).length) from decide_eq_decide.2 (by omega), w1]
    cases decide (0 < (firL mu ms).length) <;> cases (se != -1) <;> simp only [sumE, sS]
  dsimp only
  refine look_bind ((newsB se rp t mu ms, ()), ms, ((t, rt, po, ky, ()), ()), firL mu ms, resL mu ms, ()) ?_ ?_
  · unfold newsB
    rw [show decide (((resL mu ms).length : Int) > 0) = decide (0 < (resL mu ms).length) from decide_eq_decide.2 (by omega)]
    cases freB mu ms <;> cases againB se rp t (firL mu ms) <;> simp only [Bool.true_or, Bool.false_or, sumE, sS]
  dsimp only
  rw [show decide (ms.length = ms.length) = true from decide_eq_true rfl, cond_true]
  refine look_ex (fun x => ∃ (ok : Bool) (se' : Int) (n : Nat) (blk : List MbT) (F' R' : List ByteArray) (nc : NtC) (c0 : Cor) (n0 : NtC), x = ((ok, t, ()), (c0, ()), (n0, ()), (nc, ()), ((rt, ky, (0, n), du, se', ()), ()), ((pa, mt, po, gb, wa, ir, rp, co, ()), ()), F', R', blk, ()) ∧
    n ≤ blk.length ∧ blk.length ≤ 256 ∧ (-1 ≤ se' ∧ se' ≤ 8589934592) ∧ (if newsB se rp t mu ms = true then
      ((true, (rt, ky, (if (aftL (firL mu ms) (resL mu ms) ms).length = 0 then -1 else nextD t ir rp t (opnB (aftL (firL mu ms) (resL mu ms) ms))), t, ()), (t, rt, po, ky, ()), aftL (firL mu ms) (resL mu ms) ms, firL mu ms, resL mu ms) : LkT)
      else (false, (rt, ky, (if ms.length = 0 then -1 else nextD se ir rp t (opnB ms)), se, ()), zeroN, ms, [], [])) = (ok, (rt, ky, (if (blk.take n).length = 0 then -1 else nextD se' ir rp t (opnB (blk.take n))), se', ()), nc, blk.take n, F', R')) ?_ ?_
  · cases newsB se rp t mu ms
    · refine ⟨_, rfl, false, se, ms.length, ms, [], [], zeroN, zeroC, zeroN, rfl, Nat.le_refl _, hlen, hsent, ?_⟩
      rw [List.take_length]
      rfl
    · rw [cond_true]
      refine exP (fun x => ∃ (n : Nat) (blk : List MbT), x = ((true, t, ()), ((t, rt, po, ky, ()), ()), ((rt, ky, (0, n), du, t, ()), ()), (zeroC, ()), (zeroN, ()), ((pa, mt, po, gb, wa, ir, rp, co, ()), ()), firL mu ms, resL mu ms, blk, ()) ∧ n ≤ blk.length ∧ blk.length = ms.length ∧ blk.take n = ms.filter (keepM (resL mu ms))) ?_ ?_
      · rcases index_p ms (t, rt, po, ky, ()) (firL mu ms) (resL mu ms) hlen (by unfold big; omega) with ⟨e, hf⟩ | ⟨j, hj, e, hf⟩
        · rw [e]
          simp only [eq_self, beq_self_eq_true, sumE, sS]
          exact ⟨_, rfl, ms.length, ms, rfl, Nat.le_refl _, rfl, by rw [List.take_length, hf]⟩
        · have bj : ((j : Int) == -1) = false := beq_eq_false_iff_ne.2 (by omega)
          have wj : w64 ((j : Int) + 1) = ((j + 1 : Nat) : Int) := w64_nat (by omega)
          rw [e]
          simp only [eq_self, bj, wj, sumE, sS]
          obtain ⟨dst, blk, e2, h3, h4, h5⟩ := strike_p ms (t, rt, po, ky, ()) (firL mu ms) (resL mu ms) hlen (by unfold big; omega) (ms.length - (j + 1)) (j + 1) j ms (by omega) (by omega) rfl hf.symm rfl
          refine exb _ e2 ?_
          have d1 : decide ((0 : Int) ≤ (dst : Int)) = true := decide_eq_true (by omega)
          have d2 : decide (dst ≤ blk.length ∧ True) = true := decide_eq_true ⟨by omega, trivial⟩
          have d3 : decide (dst + (blk.length - dst) ≤ blk.length) = true := decide_eq_true (by omega)
          have d0 : decide (dst ≤ blk.length ∧ blk.length ≤ blk.length) = true := decide_eq_true (by omega)
          have sl : (spliceL blk dst (List.replicate (blk.length - dst) ((ByteArray.empty, [], 0, 0, false, false, ()) : MbT))).length = blk.length := by
            unfold spliceL
            simp; omega
          have st : (spliceL blk dst (List.replicate (blk.length - dst) ((ByteArray.empty, [], 0, 0, false, false, ()) : MbT))).take dst = blk.take dst := by
            unfold spliceL
            rw [List.append_assoc, List.take_append_of_le_length (by rw [List.length_take]; omega), List.take_of_length_le (by rw [List.length_take]; omega)]
          have d4 : decide (0 ≤ dst ∧ dst ≤ blk.length) = true := decide_eq_true (by omega)
          have d5 : decide (blk.length = ms.length) = true := decide_eq_true h4
          simp only [d1, d0, d3, d4, d5, sl, Int.toNat_natCast, eq_self, sumE, sS]
          exact ⟨_, rfl, dst, _, rfl, by rw [sl]; omega, by rw [sl, h4], by rw [st, h5]⟩
      · rintro _ ⟨n, blk, rfl, h1, h2, h3⟩
        dsimp only
        have hMl : (blk.take n).length = n := by rw [List.length_take]; omega
        have q := tell_p (blk.take n) (blk.drop n) (t, rt, po, ky, ()) (rt, ky, (0, n), du, t, ()) zeroC zeroN (pa, mt, po, gb, wa, ir, rp, co, ()) (firL mu ms) (resL mu ms) true t (by rw [hMl]; omega) (by unfold big; omega) (by rw [hMl])
        rw [List.take_append_drop, hMl] at q
        refine exb _ q ?_
        have ht2 : (List.map (tellM (firL mu ms)) (List.take n blk) ++ List.drop n blk).take n = aftL (firL mu ms) (resL mu ms) ms := by
          rw [List.take_append_of_le_length (by rw [List.length_map, hMl]; exact Nat.le_refl _), List.take_of_length_le (by rw [List.length_map, hMl]; exact Nat.le_refl _), h3]
          rfl
        refine ⟨_, rfl, true, t, n, _, firL mu ms, resL mu ms, (t, rt, po, ky, ()), zeroC, zeroN, rfl, by simp; omega, by simp; omega, by omega, ?_⟩
        rw [ht2]
        rfl
  · rintro _ ⟨ok, se', n, blk, F', R', nc, c0, n0, rfl, h3, h4, h5, h6⟩
    rw [h6]
    dsimp only
    have w5 : w64 (se' + rp) = se' + rp := w64_id (by omega) (by omega)
    have d1 : decide (0 + n ≤ blk.length) = true := decide_eq_true (by omega)
    obtain ⟨j, ho⟩ := open_p (blk.take n) (by rw [List.length_take]; omega)
    have hl : (blk.take n).length = n := by rw [List.length_take]; omega
    rw [hl] at ho
    simp only [d1, List.drop_zero, hl, w2, w3, w5, sumE, sS]
    refine look_bind ((opnB (blk.take n), ()), ()) ?_ ?_
    · refine bind_of _ ho ?_
      have dj : decide ((j : Int) ≥ 0) = true := decide_eq_true (by omega)
      cases opnB (blk.take n) <;> simp only [dj, sumE, sS]
    dsimp only
    have mx : ∀ d : Int, (if t + 1 > d then t + 1 else d) = max d (t + 1) := fun d => by split <;> omega
    unfold nextD
    cases opnB (blk.take n)
    · by_cases hp : se' + rp ≤ t
      · simp only [decide_eq_true hp, w3, w2, mx, lim_p, len0n, hp, or_true, if_true, eq_self, sumE, sS]
        by_cases hn : n = 0
        · simp only [hn, eq_self, if_true, sumE, sS]
          exact ⟨0, blk, rfl, Nat.zero_le _, rfl⟩
        · simp only [hn, if_false, sumE, sS]
          exact ⟨n, blk, rfl, h3, rfl⟩
      · simp only [decide_eq_false hp, w3, w2, mx, lim_p, len0n, hp, or_self, Bool.false_eq_true, if_false, eq_self, sumE, sS]
        by_cases hn : n = 0
        · simp only [hn, eq_self, if_true, sumE, sS]
          exact ⟨0, blk, rfl, Nat.zero_le _, rfl⟩
        · simp only [hn, if_false, sumE, sS]
          exact ⟨n, blk, rfl, h3, rfl⟩
    · simp only [w3, w2, mx, lim_p, len0n, true_or, if_true, eq_self, sumE, sS]
      by_cases hn : n = 0
      · simp only [hn, eq_self, if_true, sumE, sS]
        exact ⟨0, blk, rfl, Nat.zero_le _, rfl⟩
      · simp only [hn, if_false, sumE, sS]
        exact ⟨n, blk, rfl, h3, rfl⟩

end Go.Proofs.Ytcblbcpnfidndaa

namespace Go.Proofs.Ytcblbcpnfidndaa
open Go Go.Abs Go.Lab
theorem aftL_len (F R : List ByteArray) (l : List MbT) : (aftL F R l).length ≤ l.length := by
  unfold aftL; rw [List.length_map]; exact List.length_filter_le _ _

end Go.Proofs.Ytcblbcpnfidndaa

namespace Go.Proofs.Ytcblbcpnfidndaa
open Go Go.Abs Go.Lab
def grp (c : Cor) (ms : List MbT) : GpT := (c.1, c.2.1, ms, c.2.2.1, c.2.2.2.1, ())

theorem vg_zero : VG (grp zeroC []) := ⟨by decide, by decide, by decide, by decide, fun m hm => (by cases hm), List.Pairwise.nil⟩

theorem key_inj {ms : List MbT} (h : (ms.map mKey).Pairwise Less) {a b : MbT} (ha : a ∈ ms) (hb : b ∈ ms) (e : mKey a = mKey b) : a = b := by
  obtain ⟨i, hi, rfl⟩ := List.mem_iff_getElem.1 ha
  obtain ⟨j, hj, rfl⟩ := List.mem_iff_getElem.1 hb
  have hp := List.pairwise_iff_getElem.1 h
  rcases Nat.lt_trichotomy i j with hij | hij | hij
  · have := hp i j (by rwa [List.length_map]) (by rwa [List.length_map]) hij
    rw [List.getElem_map, List.getElem_map, e] at this
    exact absurd (less_lt.1 this) (lt_irr _)
  · subst hij; rfl
  · have := hp j i (by rwa [List.length_map]) (by rwa [List.length_map]) hij
    rw [List.getElem_map, List.getElem_map, e] at this
    exact absurd (less_lt.1 this) (lt_irr _)

theorem set_keys {ms : List MbT} {i : Nat} {m x : MbT} (h : ms[i]? = some m) (e : mKey x = mKey m) : (ms.set i x).map mKey = ms.map mKey := by
  rw [List.map_set, e]
  obtain ⟨hi, rfl⟩ := List.getElem?_eq_some_iff.1 h
  have : mKey ms[i] = (ms.map mKey)[i]'(by rwa [List.length_map]) := by rw [List.getElem_map]
  rw [this, List.set_getElem_self]

theorem mem_set {A : Type} {l : List A} {i : Nat} {x y : A} (h : y ∈ l.set i x) : y ∈ l ∨ y = x := List.mem_or_eq_of_mem_set h

theorem wake_range {du se wa ir t : Int} (h1 : 0 ≤ t ∧ t ≤ 8589934592) (h2 : 0 ≤ wa) (h3 : -1 ≤ du ∧ du ≤ 8589934592) (h4 : -1 ≤ se) (h5 : 0 ≤ ir) : -1 ≤ wakeV du se wa ir t ∧ wakeV du se wa ir t ≤ 8589934592 := wake_b h1 h2 h3 h4 h5

theorem lim_range {t : Int} (h : -1 ≤ t) : -1 ≤ limE t ∧ limE t ≤ 8589934592 := by unfold limE; split <;> omega

theorem next_range {se ir rp t : Int} {o : Bool} (h : 0 ≤ t) : -1 ≤ nextD se ir rp t o ∧ nextD se ir rp t o ≤ 8589934592 := by
  unfold nextD
  exact lim_range (by omega)

theorem heard_ok {m : MbT} (h : MbOK m) {t : Int} (ht : 0 ≤ t ∧ t ≤ 8589934592) : MbOK (heardM m t) := ⟨h.lab, h.key, h.since, ht, h.told⟩

theorem step_ok {m : MbT} (h : MbOK m) {t : Int} (ht : 0 ≤ t ∧ t ≤ 8589934592) (on : Bool) : MbOK (stepM m on t) :=
  ⟨h.lab, h.key, ht, h.heard, by show on = true ∨ on = false; cases on <;> simp⟩

theorem new_ok {l : List LT} (hl : validL l = true) {t : Int} (ht : 0 ≤ t ∧ t ≤ 8589934592) : MbOK (mkB (textL l), l, t, t, true, false, ()) := ⟨hl, rfl, ht, ht, .inl rfl⟩

theorem add_vg {g : GpT} (h : VG g) {r : RtT} (hr : RR r) {l : List LT} (hl : validL l = true) (on : Bool) {t : Int} (ht : 0 ≤ t ∧ t ≤ 8589934592) : VG (grp (gAdd g r l on t).2.1 (gAdd g r l on t).2.2) := by
  have hw := wake_range ht hr.wait h.due h.sent.1 (by have := hr.wait; have := hr.int; omega : (0 : Int) ≤ rInt r)
  have hrest : ∀ ms, -1 ≤ restD g ms ∧ restD g ms ≤ 8589934592 := fun ms => by
    have := h.due
    unfold restD; split <;> omega
  have hlen := h.len
  unfold gAdd
  dsimp only
  by_cases hh : hit (mkB (textL l)) (gMem g) = true
  · rw [if_pos hh]
    obtain ⟨m, hm, hk⟩ := hit_some hh
    have hmo := h.mem m (List.mem_of_getElem? hm)
    rw [hm]
    dsimp only
    have hset : ∀ (x : MbT) (d : Int), mKey x = mKey m → MbOK x → (-1 ≤ d ∧ d ≤ 8589934592) → VG (grp (dueC g d) ((gMem g).set (pos (mkB (textL l)) (gMem g)) x)) := fun x d hx ho hd =>
      ⟨by show ((gMem g).set _ x).length ≤ 256; rw [List.length_set]; exact hlen, h.rt, hd, h.sent, fun y hy => by
        rcases mem_set hy with hy | rfl
        · exact h.mem y hy
        · exact ho, by show (((gMem g).set _ x).map mKey).Pairwise Less; rw [set_keys hm hx]; exact h.up⟩
    split
    · exact hset _ _ rfl (heard_ok hmo ht) h.due
    · split
      · exact hset _ _ rfl (step_ok (heard_ok hmo ht) ht true) h.due
      · split
        · exact hset _ _ rfl (step_ok (heard_ok hmo ht) ht false) hw
        · have hsub : ((gMem g).take (pos (mkB (textL l)) (gMem g)) ++ (gMem g).drop (pos (mkB (textL l)) (gMem g) + 1)).Sublist (gMem g) := by
            conv => rhs; rw [← List.take_append_drop (pos (mkB (textL l)) (gMem g)) (gMem g)]
            exact (List.Sublist.refl _).append (List.drop_sublist_drop_left _ (by omega))
          exact ⟨Nat.le_trans hsub.length_le hlen, h.rt, hrest _, h.sent, fun y hy => h.mem y (hsub.subset hy), h.up.sublist (hsub.map mKey)⟩
  · rw [if_neg hh]
    split
    · split
      · exact vg_zero
      · have hp := pos_le (mkB (textL l)) (gMem g)
        refine ⟨?_, h.rt, hw, h.sent, fun y hy => ?_, ?_⟩
        · show (List.take _ _ ++ _ ++ List.drop _ _).length ≤ 256
          simp; omega
        · have hy : y ∈ List.take _ _ ++ [_] ++ List.drop _ _ := hy
          simp only [List.mem_append, List.mem_singleton] at hy
          rcases hy with (hy | rfl) | hy
          · exact h.mem y (List.mem_of_mem_take hy)
          · exact new_ok hl ht
          · exact h.mem y (List.mem_of_mem_drop hy)
        · show ((List.take (pos (mkB (textL l)) (gMem g)) (gMem g) ++ [(mkB (textL l), l, t, t, true, false, ())] ++ List.drop (pos (mkB (textL l)) (gMem g)) (gMem g)).map mKey).Pairwise Less
          rw [List.append_assoc, List.map_append, List.map_append, List.pairwise_append]
          have hup := h.up
          rw [← List.take_append_drop (pos (mkB (textL l)) (gMem g)) (gMem g), List.map_append, List.pairwise_append] at hup
          have ha : ∀ m ∈ (gMem g).take (pos (mkB (textL l)) (gMem g)), Lt (mKey m) (mkB (textL l)) := pos_take
          have hb := pos_drop h.up (by simpa using hh : hit (mkB (textL l)) (gMem g) = false)
          refine ⟨hup.1, ?_, fun a ha' b hb' => ?_⟩
          · rw [List.map_cons, List.map_nil, List.singleton_append]
            refine List.pairwise_cons.2 ⟨fun k hk => ?_, hup.2.1⟩
            obtain ⟨m, hm, rfl⟩ := List.mem_map.1 hk
            exact less_lt.2 (hb m hm)
          · obtain ⟨m, hm, rfl⟩ := List.mem_map.1 ha'
            rw [List.map_cons, List.map_nil, List.singleton_append] at hb'
            rcases List.mem_cons.1 hb' with rfl | hb'
            · exact less_lt.2 (ha m hm)
            · obtain ⟨m', hm', rfl⟩ := List.mem_map.1 hb'
              exact less_lt.2 (lt_trans (ha m hm) (hb m' hm'))
    · exact ⟨hlen, h.rt, hrest _, h.sent, h.mem, h.up⟩

theorem muB_mem {mu : List ByteArray} {k : ByteArray} : muB mu k = true ↔ k ∈ mu := by
  unfold muB
  rw [List.any_eq_true]
  constructor
  · rintro ⟨x, hx, e⟩
    have : x = k := by simpa using e
    exact this ▸ hx
  · exact fun h => ⟨k, h, by simp⟩

theorem muB_not {mu : List ByteArray} {k : ByteArray} (h : k ∉ mu) : muB mu k = false := by
  cases hc : muB mu k
  · rfl
  · exact absurd (muB_mem.1 hc) h

theorem fir_mem {mu : List ByteArray} {ms : List MbT} {k : ByteArray} : k ∈ firL mu ms ↔ ∃ m ∈ ms, mKey m = k ∧ k ∉ mu ∧ mFire m = true := by
  unfold firL
  rw [List.mem_map]
  constructor
  · rintro ⟨m, hm, rfl⟩
    rw [List.mem_filter, Bool.and_eq_true, Bool.not_eq_true'] at hm
    exact ⟨m, hm.1, rfl, fun hc => by rw [muB_mem.2 hc] at hm; exact absurd hm.2.1 (by simp), hm.2.2⟩
  · rintro ⟨m, hm, rfl, h1, h2⟩
    refine ⟨m, List.mem_filter.2 ⟨hm, ?_⟩, rfl⟩
    rw [Bool.and_eq_true, Bool.not_eq_true']
    exact ⟨muB_not h1, h2⟩

theorem res_mem {mu : List ByteArray} {ms : List MbT} {k : ByteArray} : k ∈ resL mu ms ↔ ∃ m ∈ ms, mKey m = k ∧ k ∉ mu ∧ mFire m = false := by
  unfold resL
  rw [List.mem_map]
  constructor
  · rintro ⟨m, hm, rfl⟩
    rw [List.mem_filter, Bool.and_eq_true, Bool.not_eq_true'] at hm
    exact ⟨m, hm.1, rfl, fun hc => by rw [muB_mem.2 hc] at hm; exact absurd hm.2.1 (by simp), by simpa using hm.2.2⟩
  · rintro ⟨m, hm, rfl, h1, h2⟩
    refine ⟨m, List.mem_filter.2 ⟨hm, ?_⟩, rfl⟩
    rw [Bool.and_eq_true, Bool.not_eq_true']
    exact ⟨muB_not h1, by simpa using h2⟩

theorem aft_keys (F R : List ByteArray) (ms : List MbT) : (aftL F R ms).map mKey = (ms.filter fun m => !muB R (mKey m)).map mKey := by
  unfold aftL
  rw [List.map_map]
  rfl

theorem aft_mem {F R : List ByteArray} {ms : List MbT} {x : MbT} : x ∈ aftL F R ms ↔ ∃ m ∈ ms, mKey m ∉ R ∧ x = tellM F m := by
  unfold aftL
  rw [List.mem_map]
  constructor
  · rintro ⟨m, hm, rfl⟩
    rw [List.mem_filter, Bool.not_eq_true'] at hm
    exact ⟨m, hm.1, fun hc => by rw [muB_mem.2 hc] at hm; exact absurd hm.2 (by simp), rfl⟩
  · rintro ⟨m, hm, h1, rfl⟩
    refine ⟨m, List.mem_filter.2 ⟨hm, ?_⟩, rfl⟩
    cases hc : muB R (mKey m)
    · rfl
    · exact absurd (muB_mem.1 hc) h1

theorem aft_vg {g : GpT} (h : VG g) (mu : List ByteArray) (R : List ByteArray) (du se : Int) (hd : -1 ≤ du ∧ du ≤ 8589934592) (hs : -1 ≤ se ∧ se ≤ 8589934592) : VG (grp (g.1, g.2.1, du, se, ()) (aftL (firL mu (gMem g)) R (gMem g))) := by
  refine ⟨Nat.le_trans (aftL_len _ _ _) h.len, h.rt, hd, hs, fun x hx => ?_, ?_⟩
  · obtain ⟨m, hm, _, rfl⟩ := aft_mem.1 hx
    have ho := h.mem m hm
    refine ⟨ho.lab, ho.key, ho.since, ho.heard, ?_⟩
    show mFire m = true ∨ (mTold m || muB (firL mu (gMem g)) (mKey m)) = false
    rcases ho.told with hf | hf
    · exact .inl hf
    · cases hc : muB (firL mu (gMem g)) (mKey m)
      · exact .inr (by rw [hf]; rfl)
      · obtain ⟨m', hm', e, _, hf'⟩ := fir_mem.1 (muB_mem.1 hc)
        rw [key_inj h.up hm' hm e] at hf'
        exact .inl hf'
  · show ((aftL _ _ _).map mKey).Pairwise Less
    rw [aft_keys]
    exact h.up.sublist ((List.filter_sublist).map mKey)

theorem look_vg {g : GpT} (h : VG g) (r : RtT) {t : Int} (mu : List ByteArray) (ht : 0 ≤ t ∧ t ≤ 8589934592) : VG (grp (gLook g r t mu).2.1 (gLook g r t mu).2.2.2.1) := by
  have hn : ∀ (ms : List MbT) se o, -1 ≤ (if ms.length = 0 then -1 else nextD se (rInt r) (rRep r) t o) ∧ (if ms.length = 0 then -1 else nextD se (rInt r) (rRep r) t o) ≤ 8589934592 := fun ms se o => by
    have := next_range (se := se) (ir := rInt r) (rp := rRep r) (o := o) ht.1
    split <;> omega
  unfold gLook
  split
  · exact ⟨h.len, h.rt, h.due, h.sent, h.mem, h.up⟩
  · dsimp only
    split
    · exact aft_vg h mu _ _ _ (hn _ _ _) (by omega)
    · exact ⟨h.len, h.rt, hn _ _ _, h.sent, h.mem, h.up⟩

abbrev cSent (c : Cor) : Int := c.2.2.2.1

theorem look_sent (g : GpT) (r : RtT) (t : Int) (mu : List ByteArray) : cSent (gLook g r t mu).2.1 = gSent g ∨ cSent (gLook g r t mu).2.1 = t := by
  unfold gLook
  split
  · exact .inl rfl
  · dsimp only
    split
    · exact .inr rfl
    · exact .inl rfl

end Go.Proofs.Ytcblbcpnfidndaa

namespace Go.Proofs.Ytcblbcpnfidndaa
open Go Go.Abs Go.Lab
def Ens {A : Type} (o : Option A) (Q : A → Prop) : Prop := ∃ x, o = some x ∧ Q x

theorem ens_some {A : Type} {x : A} {Q : A → Prop} (h : Q x) : Ens (some x) Q := ⟨x, rfl, h⟩

theorem ens_bind {A B : Type} {o : Option A} {f : A → Option B} {Q : B → Prop} (h : Ens o fun x => Ens (f x) Q) : Ens (o.bind f) Q := by
  obtain ⟨x, rfl, y, h1, h2⟩ := h
  exact ⟨y, h1, h2⟩

theorem ens_call {A B : Type} {o : Option A} {R : A → Prop} {f : A → Option B} {Q : B → Prop} (h : Ens o R) (h2 : ∀ x, R x → Ens (f x) Q) : Ens (o.bind f) Q := by
  obtain ⟨x, rfl, hx⟩ := h
  exact h2 x hx

theorem ens_ite {A : Type} {P : Prop} [Decidable P] {x y : Option A} {Q : A → Prop} (h1 : P → Ens x Q) (h2 : ¬ P → Ens y Q) : Ens (bif decide P then x else y) Q := by
  by_cases h : P
  · rw [decide_eq_true h]; exact h1 h
  · rw [decide_eq_false h]; exact h2 h

theorem ens_need {A : Type} {P : Prop} [Decidable P] {x : Option A} {Q : A → Prop} (h : P) (h1 : Ens x Q) : Ens (bif decide P then x else none) Q := by
  rw [decide_eq_true h]; exact h1

theorem ens_bif {A : Type} {b : Bool} {x y : Option A} {Q : A → Prop} (h1 : b = true → Ens x Q) (h2 : b = false → Ens y Q) : Ens (bif b then x else y) Q := by
  cases b
  · exact h2 rfl
  · exact h1 rfl

/-- A loop: what holds at every round, a number that falls. -/
theorem ens_loop {A B : Type} {f : A → Option (A ⊕ B)} (I : A → Prop) (μ : A → Nat) {Q : B → Prop}
    (h : ∀ a, I a → Ens (f a) fun r => match r with | .inl a' => I a' ∧ μ a' < μ a | .inr b => Q b) : ∀ a, I a → Ens (loopT f a) Q := by
  have key : ∀ (n : Nat) a, μ a ≤ n → I a → Ens (loopT f a) Q := by
    intro n
    induction n with
    | zero =>
      intro a hn hi
      obtain ⟨r, h1, h2⟩ := h a hi
      cases r with
      | inl a' => exact absurd h2.2 (by omega)
      | inr b => exact ⟨b, loopT_inr h1, h2⟩
    | succ n ih =>
      intro a hn hi
      obtain ⟨r, h1, h2⟩ := h a hi
      cases r with
      | inl a' =>
        obtain ⟨b, h3, h4⟩ := ih a' (by omega) h2.1
        exact ⟨b, by rw [← h3]; exact loopT_inl h1, h4⟩
      | inr b => exact ⟨b, loopT_inr h1, h2⟩
  exact fun a hi => key (μ a) a (Nat.le_refl _) hi

/-! ### The dice -/
theorem c20 (n : Int) (d : Dice) (hd : DOK d) (hn : n ≤ 9223372036854775807) : Ens (m20 ((n, ()), ((d, ()), ()))) (fun r => DOK r.2.1.1 ∧ 0 ≤ r.1.1 ∧ (1 ≤ n → r.1.1 < n)) := by
  obtain ⟨r, d', e, h1, h2, h3⟩ := next_spec n d hd hn
  refine ⟨_, e, h1, ?_, fun h => (h2 h).2⟩
  by_cases h : 1 ≤ n
  · exact (h2 h).1
  · show 0 ≤ r; rw [h3 (by omega)]; exact Int.le_refl _

theorem c19 (l : List Int) (d : Dice) (hd : DOK d) (h0 : 0 < l.length) (h1 : l.length ≤ 1000) : Ens (m19 ((l, ()), ((d, ()), ()))) (fun r => DOK r.2.1.1 ∧ r.1.1 ∈ l) := by
  obtain ⟨r, d', e, h1, h2⟩ := pick_spec l d hd h0 (by omega)
  exact ⟨_, e, h1, h2⟩

theorem c18 (n : Int) (d : Dice) (hd : DOK d) (h1 : 1 ≤ n) (h2 : n ≤ 1000) : Ens (m18 ((n, ()), ((d, ()), ()))) (fun r => DOK r.2.1.1) := by
  obtain ⟨r, d', e, h⟩ := bool_spec n d hd h1 (by omega)
  exact ⟨_, e, h⟩

theorem c13 (d : Dice) (hd : DOK d) : Ens (m13 ((), ((d, ()), ()))) (fun r => DOK r.2.1.1 ∧ validL r.2.2.1 = true) := by
  obtain ⟨l, d', e, h1, h2⟩ := labels_spec d hd
  exact ⟨_, e, h1, from_valid h2⟩

/-- A route of the dice: its numbers, its keys. -/
abbrev RcT := Int × Int × Int × Int × Int × Bool × Unit

def rtOf (c : RcT) (ks : List ByteArray) : RtT := (c.1, [], c.2.1, ks, c.2.2.1, c.2.2.2.1, c.2.2.2.2.1, c.2.2.2.2.2.1, ())

theorem c11 (d : Dice) (hd : DOK d) : Ens (m11 ((), ((d, ()), ()))) (fun r => DOK r.2.1.1 ∧ RR (rtOf r.2.2.1.1 r.2.2.2.1) ∧ r.2.2.1.1.1 = -1 ∧ r.2.2.1.1.2.2.1 ≤ 60 ∧ r.2.2.1.1.2.2.2.1 ≤ 360 ∧ r.2.2.1.1.2.2.2.2.1 ≤ 3960) := by
  obtain ⟨a1, d1, e1, hd1, b1⟩ := pick_spec [0, 30, 10, 60] d hd (by simp) (by simp)
  obtain ⟨a2, d2, e2, hd2, b2⟩ := pick_spec [20, 300, 40] d1 hd1 (by simp) (by simp)
  obtain ⟨a3, d3, e3, hd3, b3, _⟩ := next_spec 3 d2 hd2 (by omega)
  have b3 := b3 (by omega)
  obtain ⟨ks, d4, e4, hd4, hk⟩ := keysD_spec d3 hd3
  obtain ⟨a5, d5, e5, hd5, b5⟩ := pick_spec [0, 3600, 100] d4 hd4 (by simp) (by simp)
  obtain ⟨c, d6, e6, hd6⟩ := bool_spec 2 d5 hd5 (by omega) (by omega)
  have b1 := mem4 b1
  have b2 := mem3 b2
  have b5 := mem3 b5
  have w1 : w64 (a1 + a2) = a1 + a2 := w64_id (by omega) (by omega)
  have w2 : w64 (a1 + a2 + a5) = a1 + a2 + a5 := w64_id (by omega) (by omega)
  have hg : GoodT (rtOf (-1, a3, a1, a1 + a2, a1 + a2 + a5, c, ()) ks) := ⟨⟨Nat.zero_le _, fun m hm => by cases hm⟩, hk, by
    show chkRange (-1, [], a3, ks, a1, a1 + a2, a1 + a2 + a5, c, ()) = false
    unfold chkRange
    simp only [Bool.or_eq_false_iff]
    exact ⟨decide_eq_false (by omega), decide_eq_false (by omega), decide_eq_false (by omega), decide_eq_false (by omega), decide_eq_false (by omega), beq_eq_false_iff_ne.2 (by omega)⟩, by show a1 + a2 ≤ 1000; omega, by show 0 ≤ a1 + a2; omega, by show 0 ≤ a1 + a2 + a5; omega, by show a1 + a2 + a5 ≤ 10000; omega⟩
  refine ⟨((), ((d6, ()), (((-1), a3, a1, a1 + a2, a1 + a2 + a5, c, ()), ()), ks, ())), ?_, hd6, rr_of hg.z ?_, rfl, ?_, ?_, ?_⟩
  · unfold m11
    simp only [e1, e2, e3, e4, e5, e6, w1, w2, sumE, sS]
  · unfold rightR
    have : strip (rtOf (-1, a3, a1, a1 + a2, a1 + a2 + a5, c, ()) ks) = rtOf (-1, a3, a1, a1 + a2, a1 + a2 + a5, c, ()) ks := rfl
    rw [this, hg.one]
    rfl
  · show a1 ≤ 60; omega
  · show a1 + a2 ≤ 360; omega
  · show a1 + a2 + a5 ≤ 3960; omega

theorem zero_vg (rt : Int) (ky : ByteArray) (h : 0 ≤ rt) : VG (rt, ky, [], -1, -1, ()) := ⟨Nat.zero_le _, h, by show (-1 : Int) ≤ -1 ∧ (-1 : Int) ≤ 8589934592; omega, by show (-1 : Int) ≤ -1 ∧ (-1 : Int) ≤ 8589934592; omega, fun m hm => (by cases hm), List.Pairwise.nil⟩

end Go.Proofs.Ytcblbcpnfidndaa

namespace Go.Proofs.Ytcblbcpnfidndaa
open Go Go.Abs Go.Lab
theorem sane23 : m9 ((), ()) = some ((true, ()), ()) := by kernel_rfl

abbrev YT : (Bool × Unit) × Unit := ((true, ()), ())

theorem ens_tt {o : Option ((Bool × Unit) × Unit)} (h : Ens o (fun r => r = YT)) : o = some YT := by
  obtain ⟨_, rfl, rfl⟩ := h
  rfl

end Go.Proofs.Ytcblbcpnfidndaa

namespace Go.Proofs.Ytcblbcpnfidndaa
open Go Go.Abs Go.Lab
theorem add_len (g : GpT) (r : RtT) (l : List LT) (on : Bool) (t : Int) (h : (gMem g).length < 256) : (gAdd g r l on t).1 = 0 ∧ (gAdd g r l on t).2.2.length ≤ (gMem g).length + 1 := by
  have hp := pos_le (mkB (textL l)) (gMem g)
  unfold gAdd
  dsimp only
  split
  · split
    · exact ⟨rfl, Nat.zero_le _⟩
    · split
      · exact ⟨rfl, by rw [List.length_set]; omega⟩
      · split
        · exact ⟨rfl, by rw [List.length_set]; omega⟩
        · split
          · exact ⟨rfl, by rw [List.length_set]; omega⟩
          · exact ⟨rfl, by simp; omega⟩
  · split
    · split
      · omega
      · exact ⟨rfl, by simp; omega⟩
    · exact ⟨rfl, Nat.le_succ _⟩

theorem look_len (g : GpT) (r : RtT) (t : Int) (mu : List ByteArray) : (gLook g r t mu).2.2.2.1.length ≤ (gMem g).length ∧ (gLook g r t mu).2.2.2.2.1.length ≤ (gMem g).length ∧ (gLook g r t mu).2.2.2.2.2.length ≤ (gMem g).length := by
  have a := firL_len mu (gMem g)
  have b := resL_len mu (gMem g)
  unfold gLook
  split
  · exact ⟨Nat.le_refl _, Nat.zero_le _, Nat.zero_le _⟩
  · dsimp only
    split
    · exact ⟨aftL_len _ _ _, a, b⟩
    · exact ⟨Nat.le_refl _, Nat.zero_le _, Nat.zero_le _⟩

end Go.Proofs.Ytcblbcpnfidndaa

namespace Go.Proofs.Ytcblbcpnfidndaa
open Go Go.Abs Go.Lab
/-- What is kept along a run: the next look is not ahead of the interval. -/
structure Spaced (r : RtT) (du se now : Int) : Prop where
  snt : se ≤ now
  nxt : du ≤ now + 4000
  gap : se ≠ -1 → du = -1 ∨ se + rInt r ≤ du

abbrev cDue (c : Cor) : Int := c.2.2.1

theorem wake_sp {r : RtT} (hr : RR r) (hi : rInt r ≤ 360) {du se now t : Int} (hs : Spaced r du se now) (h0 : -1 ≤ se) (h1 : 0 ≤ now) (ht : now ≤ t) (ht2 : t ≤ 1000000) : Spaced r (wakeV du se (rWait r) (rInt r) t) se t := by
  obtain ⟨a, b, c⟩ := hs
  have := hr.wait
  have := hr.int
  have e : ∀ x : Int, x ≤ 8589934592 → limE x = x := fun x h => lim_le h
  unfold wakeV wakeN
  by_cases h : se = -1
  · subst h
    rw [if_pos rfl]
    refine ⟨by omega, ?_, fun h => absurd rfl h⟩
    rw [e _ (by split <;> (try split) <;> omega)]
    split <;> (try split) <;> omega
  · rw [if_neg h]
    have c := c h
    refine ⟨by omega, ?_, fun _ => .inr ?_⟩
    · rw [e _ (by split <;> split <;> (try split) <;> omega)]
      split <;> split <;> (try split) <;> omega
    · rw [e _ (by split <;> split <;> (try split) <;> omega)]
      split <;> split <;> (try split) <;> omega

theorem same_sp {r : RtT} {du se now t : Int} (hs : Spaced r du se now) (ht : now ≤ t) : Spaced r du se t := ⟨by have := hs.snt; omega, by have := hs.nxt; omega, hs.gap⟩

theorem none_sp {r : RtT} {se now t : Int} (hs : se ≤ now) (h0 : -1 ≤ now) (ht : now ≤ t) : Spaced r (-1) se t := ⟨by omega, by omega, fun _ => .inl rfl⟩

theorem add_sp {g : GpT} {r : RtT} (hr : RR r) (hi : rInt r ≤ 360) (l : List LT) (on : Bool) {now t : Int} (hl : (gMem g).length < 256) (hs : Spaced r (gDue g) (gSent g) now) (h0 : -1 ≤ gSent g) (h1 : 0 ≤ now) (ht : now ≤ t) (ht2 : t ≤ 1000000) :
    cSent (gAdd g r l on t).2.1 = gSent g ∧ Spaced r (cDue (gAdd g r l on t).2.1) (gSent g) t := by
  have hw := wake_sp hr hi hs h0 h1 ht ht2
  have hk := same_sp hs ht
  have hrest : ∀ ms, Spaced r (restD g ms) (gSent g) t := fun ms => by
    unfold restD
    split
    · exact none_sp hs.snt (by omega) ht
    · exact hk
  unfold gAdd
  dsimp only
  split
  · rename_i hh
    obtain ⟨m, hm, _⟩ := hit_some hh
    rw [hm]
    dsimp only
    split
    · exact ⟨rfl, hk⟩
    · split
      · exact ⟨rfl, hk⟩
      · split
        · exact ⟨rfl, hw⟩
        · exact ⟨rfl, hrest _⟩
  · split
    · split
      · omega
      · exact ⟨rfl, hw⟩
    · exact ⟨rfl, hrest _⟩

theorem all_told {ms : List MbT} : opnB (aftL (firL [] ms) (resL [] ms) ms) = false := by
  unfold opnB
  rw [List.any_eq_false]
  intro n hn
  obtain ⟨m, hm, h1, rfl⟩ := aft_mem.1 hn
  have hf : mFire m = true := by
    cases hc : mFire m
    · exact absurd (res_mem.2 ⟨m, hm, rfl, by simp, hc⟩) h1
    · rfl
  have : muB (firL [] ms) (mKey m) = true := muB_mem.2 (fir_mem.2 ⟨m, hm, rfl, by simp, hf⟩)
  show ¬ (!(mTold m || muB (firL [] ms) (mKey m))) = true
  rw [this]; simp

theorem next_f {r : RtT} (hr : RR r) (hp : rRep r ≤ 3960) {se t : Int} (o : Bool) (h : se ≤ t) (h0 : -1 ≤ se) (h1 : 0 ≤ t) (h2 : t ≤ 1000000) :
    t + 1 ≤ nextD se (rInt r) (rRep r) t o ∧ nextD se (rInt r) (rRep r) t o ≤ t + 3961 ∧ (se + rInt r ≤ nextD se (rInt r) (rRep r) t o) ∧ (o = false → se = t → nextD se (rInt r) (rRep r) t o = max (t + rRep r) (t + 1)) := by
  have hwa := hr.wait
  have hir := hr.int
  have hrp := hr.rep
  have hps := hr.pos
  unfold nextD
  by_cases hc : o = true ∨ se + rRep r ≤ t
  · rw [if_pos hc, lim_le (by omega)]
    refine ⟨by omega, by omega, by omega, fun ho he => ?_⟩
    subst ho
    rcases hc with hc | hc
    · cases hc
    · omega
  · rw [if_neg hc, lim_le (by omega)]
    exact ⟨by omega, by omega, by omega, fun _ he => by rw [he]⟩

theorem look_sp {g : GpT} (hup : ((gMem g).map mKey).Pairwise Less) {r : RtT} (hr : RR r) (hp : rRep r ≤ 3960) {now t : Int} (hs : Spaced r (gDue g) (gSent g) now) (h0 : -1 ≤ gSent g) (h1 : 0 ≤ now) (hd : gDue g ≠ -1) (hn : now ≤ t) (hdt : gDue g ≤ t) (ht2 : t ≤ 1000000) :
    Spaced r (cDue (gLook g r t []).2.1) (cSent (gLook g r t []).2.1) t ∧ ((gLook g r t []).1 = true → (gLook g r t []).2.2.1.1 = t ∧ cSent (gLook g r t []).2.1 = t ∧ (gSent g ≠ -1 → gSent g + rInt r ≤ t) ∧
      (0 < (gLook g r t []).2.2.2.2.1.length → cDue (gLook g r t []).2.1 = max (t + rRep r) (t + 1))) ∧ ((gLook g r t []).1 = false → cSent (gLook g r t []).2.1 = gSent g) := by
  have hgap := hs.gap
  have hse := hs.snt
  unfold gLook
  rw [if_neg (by rintro (h | h); exact hd h; omega)]
  dsimp only
  split
  · obtain ⟨n1, n2, n3, n4⟩ := next_f hr hp (opnB (aftL (firL [] (gMem g)) (resL [] (gMem g)) (gMem g))) (Int.le_refl t) (by omega) (by omega) ht2
    generalize nextD t (rInt r) (rRep r) t (opnB (aftL (firL [] (gMem g)) (resL [] (gMem g)) (gMem g))) = N at *
    refine ⟨⟨Int.le_refl _, ?_, fun _ => ?_⟩, fun _ => ⟨rfl, rfl, fun h => ?_, fun hF => ?_⟩, fun h => (by cases h)⟩
    · show (if _ then (-1 : Int) else _) ≤ _
      split <;> omega
    · show (if _ then (-1 : Int) else _) = -1 ∨ t + rInt r ≤ (if _ then (-1 : Int) else _)
      split
      · exact .inl rfl
      · exact .inr n3
    · rcases hgap h with h | h
      · exact absurd h hd
      · omega
    · have hne : ¬ (aftL (firL [] (gMem g)) (resL [] (gMem g)) (gMem g)).length = 0 := fun hc => by
        have hF : 0 < (firL [] (gMem g)).length := hF
        obtain ⟨k, hk⟩ := List.exists_mem_of_length_pos hF
        obtain ⟨m, hm, _, _, hf⟩ := fir_mem.1 hk
        have : tellM (firL [] (gMem g)) m ∈ aftL (firL [] (gMem g)) (resL [] (gMem g)) (gMem g) := by
          refine aft_mem.2 ⟨m, hm, fun hc2 => ?_, rfl⟩
          obtain ⟨m', hm', e, _, hf'⟩ := res_mem.1 hc2
          rw [key_inj hup hm' hm e, hf] at hf'
          cases hf'
        rw [List.length_eq_zero_iff.1 hc] at this
        cases this
      show (if _ then (-1 : Int) else _) = _
      rw [if_neg hne]
      exact n4 all_told rfl
  · obtain ⟨n1, n2, n3, n4⟩ := next_f hr hp (opnB (gMem g)) (show gSent g ≤ t by omega) h0 (by omega) ht2
    generalize nextD (gSent g) (rInt r) (rRep r) t (opnB (gMem g)) = N at *
    refine ⟨⟨by show gSent g ≤ t; omega, ?_, fun h => ?_⟩, fun h => (by cases h), fun _ => rfl⟩
    · show (if _ then (-1 : Int) else _) ≤ _
      split <;> omega
    · show (if _ then (-1 : Int) else _) = -1 ∨ gSent g + rInt r ≤ (if _ then (-1 : Int) else _)
      split
      · exact .inl rfl
      · exact .inr n3

/-- What holds ahead of each round. -/
structure RunI (rc : RcT) (ks : List ByteArray) (v : (Int × Int × Int × Unit) × ((PgT × Unit) × (RcT × Unit) × (Dice × Unit) × List MbT × List ByteArray × Unit)) : Prop where
  hrc : v.2.2.1.1 = rc
  hks : v.2.2.2.2.2.1 = ks
  hd : DOK v.2.2.2.1.1
  off : v.2.1.1.2.2.1.1 = 0
  len : v.2.1.1.2.2.1.2 ≤ v.2.2.2.2.1.length
  vg : VG (v.2.1.1.1, v.2.1.1.2.1, v.2.2.2.2.1.take v.2.1.1.2.2.1.2, v.2.1.1.2.2.2.1, v.2.1.1.2.2.2.2.1, ())
  i0 : 0 ≤ v.1.1
  i1 : v.1.1 ≤ 14
  cnt : (v.2.1.1.2.2.1.2 : Int) ≤ v.1.1
  n0 : 0 ≤ v.1.2.2.1
  n1 : v.1.2.2.1 ≤ 5000 * v.1.1
  lst : v.1.2.1 = v.2.1.1.2.2.2.2.1
  sp : Spaced (rtOf rc ks) v.2.1.1.2.2.2.1 v.2.1.1.2.2.2.2.1 v.1.2.2.1

theorem law4c (x : List Int) : m4 ((x, ()), ()) = some ((true, ()), ()) := by
  unfold m4
  simp only [light, roll, sane23, sumE, sS]
  cases hx : decide (x.length ≤ 500)
  · simp only [sumE, sS]
  have hx := of_decide_eq_true hx
  simp only [sumE, sS]
  refine ens_tt ?_
  refine ens_call (c11 _ (dok0 hx)) ?_
  rintro ⟨⟨⟩, ⟨⟨d1, ⟨⟩⟩, ⟨rc, ⟨⟩⟩, ks, ⟨⟩⟩⟩ ⟨hd1, hr, _, hw, hi, hp⟩
  dsimp only at hd1 hr hw hi hp ⊢
  refine ens_bind ⟨((), (((0, bs [123, 125], -1, -1, ()), ()), ())), rfl, ?_⟩
  dsimp only
  refine ens_call (R := fun b => ∃ u, b = .inr u) ?_ ?_
  · refine ens_loop (fun v => RunI rc ks v) (fun v => (14 - v.1.1).toNat) ?_ _ ?_
    rotate_left
    · exact ⟨rfl, rfl, hd1, rfl, Nat.zero_le _, zero_vg 0 _ (by omega), by dsimp only; omega, by dsimp only; omega, by dsimp only; omega, by dsimp only; omega, by dsimp only; omega, rfl, ⟨by dsimp only; omega, by dsimp only; omega, fun h => absurd rfl h⟩⟩
    rintro ⟨⟨i, last, now, ⟨⟩⟩, ⟨⟨rt, ky, ⟨of, n⟩, du, se, ⟨⟩⟩, ⟨⟩⟩, ⟨rc0, ⟨⟩⟩, ⟨d, ⟨⟩⟩, blk, ks0, ⟨⟩⟩ ⟨hrc, hks, hd, hof, hlen, hg, hi0, hi1, hcnt, hn0, hn1, hlst, hsp⟩
    dsimp only at hrc hks hd hof hlen hg hi0 hi1 hcnt hn0 hn1 hlst hsp ⊢
    subst hrc; subst hks; subst hof; subst hlst
    have hse := hg.sent
    have hdu := hg.due
    dsimp only [gSent, gDue] at hse hdu
    have hml : (blk.take n).length = n := by rw [List.length_take]; omega
    unfold l4_0_8
    dsimp only
    refine ens_ite (fun hlt => ?_) (fun _ => ens_some ⟨_, rfl⟩)
    have wi : w64 (i + 1) = i + 1 := w64_id (by omega) (by omega)
    refine ens_call (R := fun z => ∃ (la nw : Int) (pg : PgT) (d' : Dice) (blk' : List MbT), z = .inl ((la, nw, i, ()), ((pg, ()), (rc0, ()), (d', ()), blk', ks0, ())) ∧ RunI rc0 ks0 ((i + 1, la, nw, ()), ((pg, ()), (rc0, ()), (d', ()), blk', ks0, ()))) ?_ ?_
    rotate_left
    · rintro _ ⟨la, nw, ⟨a, b, ⟨c1, c2⟩, e, f, ⟨⟩⟩, d', blk', rfl, hI⟩
      obtain ⟨pa, po, wa, ir, rp, co, ⟨⟩⟩ := rc0
      simp only [wi, sumE, sS]
      exact ens_some ⟨hI, by dsimp only; omega⟩
    refine ens_call (R := fun z => ∃ (o : Bool) (d' : Dice), z = ((o, i, last, now, ()), (((rt, ky, (0, n), du, last, ()), ()), (rc0, ()), (d', ()), blk, ks0, ())) ∧ DOK d' ∧ (o = true → du ≠ -1)) ?_ ?_
    · by_cases h1 : du = -1
      · subst h1
        simp only [bne_self_eq_false, sumE, sS]
        exact ens_some ⟨false, d, rfl, hd, fun h => by cases h⟩
      · rw [bne_iff_ne.2 h1, cond_true]
        refine ens_call (c18 2 d hd (by omega) (by omega)) ?_
        rintro ⟨⟨o, ⟨⟩⟩, ⟨⟨d2, ⟨⟩⟩, ⟨⟩⟩⟩ hd2
        exact ens_some ⟨o, d2, rfl, hd2, fun _ => h1⟩
    · rintro _ ⟨o, d', rfl, hd', ho⟩
      dsimp only
      refine ens_bif (fun hot => ?_) (fun _ => ?_)
      · have hdn := ho hot
        have ht : (if du > now then du else now) = max du now := by split <;> omega
        rw [ht]
        refine ens_need (by omega) ?_
        rw [List.drop_zero]
        obtain ⟨pa, po, wa, ir, rp, co, ⟨⟩⟩ := rc0
        have hsn := hsp.snt
        have hsx := hsp.nxt
        obtain ⟨n2, blk2, e, hn2, hb⟩ := look_p hg hr (t := max du now) (by omega) (mu := []) (Nat.zero_le _)
        have b1 := look_vg hg (rtOf (pa, po, wa, ir, rp, co, ()) ks0) [] (t := max du now) (by omega)
        have b2 := look_len (rt, ky, blk.take n, du, last, ()) (rtOf (pa, po, wa, ir, rp, co, ()) ks0) (max du now) []
        obtain ⟨b3, b4, b5⟩ := look_sp (g := (rt, ky, blk.take n, du, last, ())) hg.up hr hp hsp hse.1 hn0 hdn (t := max du now) (by omega) (by show du ≤ _; omega) (by omega)
        have b6 := look_sent (rt, ky, blk.take n, du, last, ()) (rtOf (pa, po, wa, ir, rp, co, ()) ks0) (max du now) []
        generalize gLook (rt, ky, blk.take n, du, last, ()) (rtOf (pa, po, wa, ir, rp, co, ()) ks0) (max du now) [] = z at *
        obtain ⟨ok, ⟨rt2, ky2, du2, se2, ⟨⟩⟩, ⟨at2, nr, np, nk, ⟨⟩⟩, MS, F, R⟩ := z
        dsimp only [grp, cSent, cDue, gSent, gDue, gMem] at b1 b2 b3 b4 b5 b6 hb e
        subst hb
        have hml2 : (blk2.take n2).length = n2 := by rw [List.length_take]; omega
        rw [hml, hml2] at b2
        have hsx2 := b3.snt
        refine ens_call ⟨_, e, rfl⟩ ?_
        rintro _ rfl
        have w1 : w64 (max du now - last) = max du now - last := w64_id (by omega) (by omega)
        dsimp only [rtOf, rInt, rRep] at hr b3 b4 hi hp
        have hrI := hr.int
        have hrW := hr.wait
        have hrR := hr.rep
        dsimp only [rInt, rWait, rRep] at hrI hrW hrR
        have w2 : w64 (max du now + rp) = max du now + rp := w64_id (by omega) (by omega)
        have w3 : w64 (max du now + 1) = max du now + 1 := w64_id (by omega) (by omega)
        cases ok
        · have b5 := b5 rfl
          subst b5
          simp only [show ((0 : Int) != 0) = false from rfl, sumE, sS]
          exact ens_some ⟨se2, max du now, _, _, _, rfl, ⟨rfl, rfl, hd', rfl, hn2, b1, by dsimp only; omega, by dsimp only; omega, by dsimp only; omega, by dsimp only; omega, by dsimp only; omega, rfl, b3⟩⟩
        · obtain ⟨c1, c2, c3, c4⟩ := b4 rfl
          subst c1
          subst c2
          have mx : (if max du now + rp > max du now + 1 then max du now + rp else max du now + 1) = max (max du now + rp) (max du now + 1) := by split <;> omega
          simp only [show ((0 : Int) != 0) = false from rfl, bne_self_eq_false, sumE, sS]
          have fin : RunI (pa, po, wa, ir, rp, co, ()) ks0 ((i + 1, max du now, max du now, ()), (((rt2, ky2, (0, n2), du2, max du now, ()), ()), ((pa, po, wa, ir, rp, co, ()), ()), (d', ()), blk2, ks0, ())) :=
            ⟨rfl, rfl, hd', rfl, hn2, b1, by dsimp only; omega, by dsimp only; omega, by dsimp only; omega, by dsimp only; omega, by dsimp only; omega, rfl, b3⟩
          have hx9 : (last ≥ 0 ∧ decide (w64 (max du now - last) < ir) = false) ∨ ¬ last ≥ 0 := by
            by_cases h9 : last ≥ 0
            · refine .inl ⟨h9, ?_⟩
              rw [w1]
              have := c3 (by omega)
              exact decide_eq_false (by omega)
            · exact .inr h9
          by_cases hF : (((F.length : Nat) : Int) > 0)
          · have c4 := c4 (by omega)
            subst c4
            rcases hx9 with ⟨h9, h8⟩ | h9
            · simp only [decide_eq_true h9, h8, decide_eq_true hF, w2, w3, mx, bne_self_eq_false, sumE, sS]
              exact ens_some ⟨max du now, max du now, _, _, _, rfl, fin⟩
            · simp only [decide_eq_false h9, decide_eq_true hF, w2, w3, mx, bne_self_eq_false, sumE, sS]
              exact ens_some ⟨max du now, max du now, _, _, _, rfl, fin⟩
          · rcases hx9 with ⟨h9, h8⟩ | h9
            · simp only [decide_eq_true h9, h8, decide_eq_false hF, sumE, sS]
              exact ens_some ⟨max du now, max du now, _, _, _, rfl, fin⟩
            · simp only [decide_eq_false h9, decide_eq_false hF, sumE, sS]
              exact ens_some ⟨max du now, max du now, _, _, _, rfl, fin⟩
      · refine ens_call (c19 [0, 1, 10, 30] d' hd' (by decide) (by decide)) ?_
        rintro ⟨⟨p, ⟨⟩⟩, ⟨⟨d2, ⟨⟩⟩, ⟨⟩⟩⟩ ⟨hd2, hpm⟩
        dsimp only at hd2 hpm ⊢
        simp only [List.mem_cons, List.not_mem_nil, or_false] at hpm
        have w1 : w64 (now + p) = now + p := w64_id (by omega) (by omega)
        refine ens_call (c13 d2 hd2) ?_
        rintro ⟨⟨⟩, ⟨⟨d3, ⟨⟩⟩, l, ⟨⟩⟩⟩ ⟨hd3, hl⟩
        dsimp only at hd3 hl ⊢
        refine ens_call (c20 3 d3 hd3 (by omega)) ?_
        rintro ⟨⟨q, ⟨⟩⟩, ⟨⟨d4, ⟨⟩⟩, ⟨⟩⟩⟩ ⟨hd4, _, _⟩
        dsimp only at hd4 ⊢
        rw [w1]
        refine ens_need (by omega) ?_
        rw [List.drop_zero]
        obtain ⟨pa, po, wa, ir, rp, co, ⟨⟩⟩ := rc0
        have ht : 0 ≤ now + p ∧ now + p ≤ 8589934592 := by omega
        obtain ⟨a1, a2⟩ := add_len (rt, ky, blk.take n, du, last, ()) (rtOf (pa, po, wa, ir, rp, co, ()) ks0) l (decide (q > 0)) (now + p) (by show (blk.take n).length < 256; omega)
        obtain ⟨a3, a4⟩ := add_sp (g := (rt, ky, blk.take n, du, last, ())) hr (by exact hi) l (decide (q > 0)) (now := now) (t := now + p) (by show (blk.take n).length < 256; omega) hsp hse.1 hn0 (by omega) (by omega)
        have a5 := add_vg hg hr hl (decide (q > 0)) ht
        have a6 := add_p hg hr hl (decide (q > 0)) ht
        generalize gAdd (rt, ky, blk.take n, du, last, ()) (rtOf (pa, po, wa, ir, rp, co, ()) ks0) l (decide (q > 0)) (now + p) = z at *
        obtain ⟨e0, ⟨rt2, ky2, du2, se2, ⟨⟩⟩, MS⟩ := z
        dsimp only [grp, cSent, cDue, gSent, gDue, gMem] at a1 a2 a3 a4 a5 a6
        subst a1
        subst a3
        rw [hml] at a2
        refine ens_call ⟨_, a6, rfl⟩ ?_
        rintro _ rfl
        simp only [show ((0 : Int) != 0) = false from rfl, sumE, sS]
        exact ens_some ⟨se2, now + p, _, _, _, rfl, ⟨rfl, rfl, hd4, rfl, Nat.le_refl _, by dsimp only; rw [List.take_length]; exact a5, by dsimp only; omega, by dsimp only; omega, by dsimp only; omega, by dsimp only; omega, by dsimp only; omega, rfl, a4⟩⟩
  · rintro _ ⟨u, rfl⟩
    exact ens_some rfl

theorem law4 : ∀ x, Abs.InRs [.row (.int .i64)] x → m4 (x, ()) = some ((true, ()), ()) := fun x _ => law4c x.1

end Go.Proofs.Ytcblbcpnfidndaa
