/- Lemmas for the statement of the last text of this claim. -/
import Derived.Test.YtcblbcpnfidndaaChecked
import Derived.Test.YtcblbcpnfidndaaPxS
import Derived.WalkKit
import Derived.ProofKit
import Derived.Deep.RegionLaw
import Derived.Deep.LoopGhost
import Derived.Lib.Walk
import Derived.Maps.Own
import Derived.Shelf.RegionOpenPlain
import Derived.Shelf.Spec.SlicesInsert
import Derived.Shelf.Strings.OnBuilder
import Derived.Test.YtcblbcpnfidndaaPxO
import Derived.Test.YtcblbcpnfidndaaPlD
import Derived.BigCall
import Derived.Lib.LazyBuf
import Derived.Test.YtcblbcpnfidndaaPxQ
import Derived.Test.YtcblbcpnfidndaaPxP
import Derived.Test.YtcblbcpnfidndaaV6B
set_option linter.unusedSimpArgs false
set_option linter.unusedVariables false
namespace Go.Proofs.Ytcblbcpnfidndaa
open Go Go.Abs Go.Lab
def Ens {A : Type} (o : Option A) (Q : A → Prop) : Prop := ∃ x, o = some x ∧ Q x

theorem ens_some {A : Type} {x : A} {Q : A → Prop} (h : Q x) : Ens (some x) Q := ⟨x, rfl, h⟩

theorem ens_bind {A B : Type} {o : Option A} {f : A → Option B} {Q : B → Prop} (h : Ens o fun x => Ens (f x) Q) : Ens (o.bind f) Q := by
  obtain ⟨x, rfl, y, h1, h2⟩ := h
  exact ⟨y, h1, h2⟩

theorem ens_call {A B : Type} {o : Option A} {R : A → Prop} {f : A → Option B} {Q : B → Prop} (h : Ens o R) (h2 : ∀ x, R x → Ens (f x) Q) : Ens (o.bind f) Q := by
  obtain ⟨x, rfl, hx⟩ := h
  exact h2 x hx

theorem ens_ite {A : Type} {P : Prop} [Decidable P] {x y : Option A} {Q : A → Prop} (h1 : P → Ens x Q) (h2 : ¬ P → Ens y Q) : Ens (bif decide P then x else y) Q := by
  by_cases h : P
  · rw [decide_eq_true h]; exact h1 h
  · rw [decide_eq_false h]; exact h2 h

theorem ens_need {A : Type} {P : Prop} [Decidable P] {x : Option A} {Q : A → Prop} (h : P) (h1 : Ens x Q) : Ens (bif decide P then x else none) Q := by
  rw [decide_eq_true h]; exact h1

theorem ens_bif {A : Type} {b : Bool} {x y : Option A} {Q : A → Prop} (h1 : b = true → Ens x Q) (h2 : b = false → Ens y Q) : Ens (bif b then x else y) Q := by
  cases b
  · exact h2 rfl
  · exact h1 rfl

theorem ens_row {A B : Type} {l : List A} {i : Int} {F : A → Option B} {Q : B → Prop} (h0 : 0 ≤ i) (h1 : i < l.length) (h : ∀ e, l[i.toNat]? = some e → e ∈ l → Ens (F e) Q) : Ens (Abs.rowAt l i fun e _ => F e) Q := by
  have hl : i.toNat < l.length := by omega
  have he : l[i.toNat]? = some l[i.toNat] := List.getElem?_eq_getElem hl
  have := h _ he (List.getElem_mem hl)
  rw [rowAt_G, rowG_int h0 he]
  exact this

theorem ens_at {A B : Type} {l : List A} {i : Nat} {f : A → Option B} {Q : B → Prop} (h1 : i < l.length) (h : ∀ e, l[i]? = some e → e ∈ l → Ens (f e) Q) : Ens ((l[i]?).bind f) Q := by
  have he : l[i]? = some l[i] := List.getElem?_eq_getElem h1
  rw [he]
  exact h _ he (List.getElem_mem h1)

/-- A loop: what holds at every round, a number that falls. -/
theorem ens_loop {A B : Type} {f : A → Option (A ⊕ B)} (I : A → Prop) (μ : A → Nat) {Q : B → Prop}
    (h : ∀ a, I a → Ens (f a) fun r => match r with | .inl a' => I a' ∧ μ a' < μ a | .inr b => Q b) : ∀ a, I a → Ens (loopT f a) Q := by
  have key : ∀ (n : Nat) a, μ a ≤ n → I a → Ens (loopT f a) Q := by
    intro n
    induction n with
    | zero =>
      intro a hn hi
      obtain ⟨r, h1, h2⟩ := h a hi
      cases r with
      | inl a' => exact absurd h2.2 (by omega)
      | inr b => exact ⟨b, loopT_inr h1, h2⟩
    | succ n ih =>
      intro a hn hi
      obtain ⟨r, h1, h2⟩ := h a hi
      cases r with
      | inl a' =>
        obtain ⟨b, h3, h4⟩ := ih a' (by omega) h2.1
        exact ⟨b, by rw [← h3]; exact loopT_inl h1, h4⟩
      | inr b => exact ⟨b, loopT_inr h1, h2⟩
  exact fun a hi => key (μ a) a (Nat.le_refl _) hi

/-! ### The dice -/
theorem c20 (n : Int) (d : Dice) (hd : DOK d) (hn : n ≤ 9223372036854775807) : Ens (m20 ((n, ()), ((d, ()), ()))) (fun r => DOK r.2.1.1 ∧ 0 ≤ r.1.1 ∧ (1 ≤ n → r.1.1 < n)) := by
  obtain ⟨r, d', e, h1, h2, h3⟩ := next_spec n d hd hn
  refine ⟨_, e, h1, ?_, fun h => (h2 h).2⟩
  by_cases h : 1 ≤ n
  · exact (h2 h).1
  · show 0 ≤ r; rw [h3 (by omega)]; exact Int.le_refl _

theorem c19 (l : List Int) (d : Dice) (hd : DOK d) (h0 : 0 < l.length) (h1 : l.length ≤ 1000) : Ens (m19 ((l, ()), ((d, ()), ()))) (fun r => DOK r.2.1.1 ∧ r.1.1 ∈ l) := by
  obtain ⟨r, d', e, h1, h2⟩ := pick_spec l d hd h0 (by omega)
  exact ⟨_, e, h1, h2⟩

theorem c18 (n : Int) (d : Dice) (hd : DOK d) (h1 : 1 ≤ n) (h2 : n ≤ 1000) : Ens (m18 ((n, ()), ((d, ()), ()))) (fun r => DOK r.2.1.1) := by
  obtain ⟨r, d', e, h⟩ := bool_spec n d hd h1 (by omega)
  exact ⟨_, e, h⟩

theorem c13 (d : Dice) (hd : DOK d) : Ens (m13 ((), ((d, ()), ()))) (fun r => DOK r.2.1.1 ∧ validL r.2.2.1 = true) := by
  obtain ⟨l, d', e, h1, h2⟩ := labels_spec d hd
  exact ⟨_, e, h1, from_valid h2⟩

/-- A route of the dice: its numbers, its keys. -/
abbrev RcT := Int × Int × Int × Int × Int × Bool × Unit

def rtOf (c : RcT) (ks : List ByteArray) : RtT := (c.1, [], c.2.1, ks, c.2.2.1, c.2.2.2.1, c.2.2.2.2.1, c.2.2.2.2.2.1, ())

theorem c11 (d : Dice) (hd : DOK d) : Ens (m11 ((), ((d, ()), ()))) (fun r => DOK r.2.1.1 ∧ RR (rtOf r.2.2.1.1 r.2.2.2.1) ∧ r.2.2.1.1.1 = -1 ∧ r.2.2.1.1.2.2.1 ≤ 60 ∧ r.2.2.1.1.2.2.2.1 ≤ 360 ∧ r.2.2.1.1.2.2.2.2.1 ≤ 3960) := by
  obtain ⟨a1, d1, e1, hd1, b1⟩ := pick_spec [0, 30, 10, 60] d hd (by simp) (by simp)
  obtain ⟨a2, d2, e2, hd2, b2⟩ := pick_spec [20, 300, 40] d1 hd1 (by simp) (by simp)
  obtain ⟨a3, d3, e3, hd3, b3, _⟩ := next_spec 3 d2 hd2 (by omega)
  have b3 := b3 (by omega)
  obtain ⟨ks, d4, e4, hd4, hk⟩ := keysD_spec d3 hd3
  obtain ⟨a5, d5, e5, hd5, b5⟩ := pick_spec [0, 3600, 100] d4 hd4 (by simp) (by simp)
  obtain ⟨c, d6, e6, hd6⟩ := bool_spec 2 d5 hd5 (by omega) (by omega)
  have b1 := mem4 b1
  have b2 := mem3 b2
  have b5 := mem3 b5
  have w1 : w64 (a1 + a2) = a1 + a2 := w64_id (by omega) (by omega)
  have w2 : w64 (a1 + a2 + a5) = a1 + a2 + a5 := w64_id (by omega) (by omega)
  have hg : GoodT (rtOf (-1, a3, a1, a1 + a2, a1 + a2 + a5, c, ()) ks) := ⟨⟨Nat.zero_le _, fun m hm => by cases hm⟩, hk, by
    show chkRange (-1, [], a3, ks, a1, a1 + a2, a1 + a2 + a5, c, ()) = false
    unfold chkRange
    simp only [Bool.or_eq_false_iff]
    exact ⟨decide_eq_false (by omega), decide_eq_false (by omega), decide_eq_false (by omega), decide_eq_false (by omega), decide_eq_false (by omega), beq_eq_false_iff_ne.2 (by omega)⟩, by show a1 + a2 ≤ 1000; omega, by show 0 ≤ a1 + a2; omega, by show 0 ≤ a1 + a2 + a5; omega, by show a1 + a2 + a5 ≤ 10000; omega⟩
  refine ⟨((), ((d6, ()), (((-1), a3, a1, a1 + a2, a1 + a2 + a5, c, ()), ()), ks, ())), ?_, hd6, rr_of hg.z ?_, rfl, ?_, ?_, ?_⟩
  · unfold m11
    simp only [e1, e2, e3, e4, e5, e6, w1, w2, sumE, sS]
  · unfold rightR
    have : strip (rtOf (-1, a3, a1, a1 + a2, a1 + a2 + a5, c, ()) ks) = rtOf (-1, a3, a1, a1 + a2, a1 + a2 + a5, c, ()) ks := rfl
    rw [this, hg.one]
    rfl
  · show a1 ≤ 60; omega
  · show a1 + a2 ≤ 360; omega
  · show a1 + a2 + a5 ≤ 3960; omega

theorem zero_vg (rt : Int) (ky : ByteArray) (h : 0 ≤ rt) : VG (rt, ky, [], -1, -1, ()) := ⟨Nat.zero_le _, h, by show (-1 : Int) ≤ -1 ∧ (-1 : Int) ≤ 8589934592; omega, by show (-1 : Int) ≤ -1 ∧ (-1 : Int) ≤ 8589934592; omega, fun m hm => (by cases hm), List.Pairwise.nil⟩

/-- The dice's groups. -/
theorem c21 {r : RtT} (hr : RR r) (n : Int) (hn : 0 ≤ n ∧ n ≤ 10) (d : Dice) (hd : DOK d) : Ens (m21 ((r, n, ()), ((d, ()), ()))) (fun x => DOK x.2.1.1 ∧ VG (grp x.2.2.1.1 x.2.2.2.1) ∧ 0 ≤ x.1.1 ∧ x.1.1 ≤ 4100 ∧ cSent x.2.2.1.1 ≤ x.1.1) := by
  unfold m21
  refine ens_bind ⟨((), (((0, bs [123, 125], -1, -1, ()), ()), ())), rfl, ?_⟩
  refine ens_call (c20 100 d hd (by omega)) ?_
  rintro ⟨⟨t, ⟨⟩⟩, ⟨⟨d1, ⟨⟩⟩, ⟨⟩⟩⟩ ⟨hd1, ht0, ht1⟩
  dsimp only at hd1 ht0 ht1 ⊢
  have ht1 := ht1 (by omega)
  refine ens_call (R := fun b => DOK b.2.1.1 ∧ VG (grp b.2.2.2.1.1 b.2.2.2.2.1) ∧ 0 ≤ b.1.1 ∧ b.1.1 ≤ 4100 ∧ cSent b.2.2.2.1.1 ≤ b.1.1) ?_ ?_
  · refine ens_loop (fun v => DOK v.2.1.1 ∧ VG (grp v.2.2.1.1 v.2.2.2.2.2.1) ∧ v.2.2.2.1.1 = r ∧ 0 ≤ v.1.2.1 ∧ 0 ≤ v.1.1 ∧ v.1.2.1 + 400 * v.1.1 ≤ 4100 ∧ cSent v.2.2.1.1 ≤ v.1.2.1) (fun v => v.1.1.toNat) ?_ _ ?_
    rotate_left
    · exact ⟨hd1, zero_vg 0 _ (by omega), rfl, ht0, hn.1, by dsimp only; omega, by show (-1 : Int) ≤ t; omega⟩
    rintro ⟨⟨k, t, ⟨⟩⟩, ⟨⟨d, ⟨⟩⟩, ⟨⟨rt, ky, du, se, ⟨⟩⟩, ⟨⟩⟩, ⟨r0, ⟨⟩⟩, ⟨⟨a, b, c, e, ⟨⟩⟩, ⟨⟩⟩, ms, ⟨⟩⟩⟩ ⟨hd, hg, hr0, h0, hk, h1, hsn⟩
    dsimp only [grp, cSent] at hd hg h0 h1 hk hr0 hsn ⊢
    subst hr0
    have hgl := hg.len
    dsimp only [gMem] at hgl
    unfold l21_0_3
    dsimp only
    by_cases hk0 : k > 0
    rotate_left
    · simp only [decide_eq_false hk0, sumE, sS]
      exact ens_some ⟨hd, hg, h0, by dsimp only; omega, hsn⟩
    simp only [decide_eq_true hk0, m56, sumE, sS]
    refine ens_bif (fun _ => ?_) (fun _ => ens_some ⟨hd, hg, h0, by dsimp only; omega, hsn⟩)
    refine ens_call (R := fun x => x.1.1 = k ∧ x.1.2.1 = t ∧ DOK x.2.1.1 ∧ VG (grp x.2.2.1.1 x.2.2.2.2.2.1) ∧ x.2.2.2.1.1 = r0 ∧ cSent x.2.2.1.1 ≤ t) ?_ ?_
    · refine ens_call (c20 4 d hd (by omega)) ?_
      rintro ⟨⟨q, ⟨⟩⟩, ⟨⟨d2, ⟨⟩⟩, ⟨⟩⟩⟩ ⟨hd2, hq0, hq1⟩
      dsimp only at hd2 hq0 hq1 ⊢
      have hq1 := hq1 (by omega)
      have hadd : Ens ((m13 ((), ((d2, ()), ()))).bind fun u167 => (m20 ((3, ()), ((u167.2.1.1, ()), ()))).bind fun u168 =>
          (m27 (((rt, ky, ms, du, se, ()), r0, u167.2.2.1, decide (u168.1.1 > 0), t, ()), ())).bind fun u169 =>
            some ((k, t, ()), ((u168.2.1.1, ()), ((u169.2.1.1.1, u169.2.1.1.2.1, u169.2.1.1.2.2.1, u169.2.1.1.2.2.2.1, ()), ()), (r0, ()), ((a, b, c, e, ()), ()), u169.2.2.1, ()))) (fun x => x.1.1 = k ∧ x.1.2.1 = t ∧ DOK x.2.1.1 ∧ VG (grp x.2.2.1.1 x.2.2.2.2.2.1) ∧ x.2.2.2.1.1 = r0 ∧ cSent x.2.2.1.1 ≤ t) := by
        refine ens_call (c13 d2 hd2) ?_
        rintro ⟨⟨⟩, ⟨⟨d3, ⟨⟩⟩, l, ⟨⟩⟩⟩ ⟨hd3, hl⟩
        refine ens_call (c20 3 d3 hd3 (by omega)) ?_
        rintro ⟨⟨o, ⟨⟩⟩, ⟨⟨d4, ⟨⟩⟩, ⟨⟩⟩⟩ ⟨hd4, _, _⟩
        have ht : 0 ≤ t ∧ t ≤ 8589934592 := ⟨h0, by omega⟩
        refine ens_call (R := fun y => y = (((gAdd (rt, ky, ms, du, se, ()) r0 l (decide (o > 0)) t).1, ()), (((gAdd (rt, ky, ms, du, se, ()) r0 l (decide (o > 0)) t).2.1, ()), ((gAdd (rt, ky, ms, du, se, ()) r0 l (decide (o > 0)) t).2.2, ())))) ⟨_, add_r hg hr hl _ ht, rfl⟩ ?_
        rintro _ rfl
        exact ens_some ⟨rfl, rfl, hd4, add_vg hg hr hl _ ht, rfl, by
          rcases add_sent (rt, ky, ms, du, se, ()) r0 l (decide (o > 0)) t with h | h
          · exact Int.le_trans (Int.le_of_eq h) hsn
          · exact Int.le_trans (Int.le_of_eq h) h0⟩
      have hcase : q = 0 ∨ q = 1 ∨ q = 2 ∨ q = 3 := by omega
      rcases hcase with rfl | rfl | rfl | rfl
      · exact hadd
      · exact hadd
      · simp only [show ((2 : Int) == 0) = false from rfl, show ((2 : Int) == 1) = false from rfl, show ((2 : Int) == 2) = true from rfl, sumE, sS]
        refine ens_call (R := fun x => x.1 = (k, t, ()) ∧ DOK x.2.1.1 ∧ x.2.2.1.1 = (rt, ky, du, se, ()) ∧ x.2.2.2.1.1 = r0 ∧ x.2.2.2.2.2.1.length ≤ 1 ∧ x.2.2.2.2.2.2.1 = ms) ?_ ?_
        · refine ens_call (R := fun x => x.1.2 = (k, t, ()) ∧ DOK x.2.1.1 ∧ x.2.2.1.1 = (rt, ky, du, se, ()) ∧ x.2.2.2.1.1 = r0 ∧ x.2.2.2.2.2.1 = [] ∧ x.2.2.2.2.2.2.1 = ms ∧ (x.1.1 = true → 0 < ms.length)) ?_ ?_
          · refine ens_ite (fun h => ?_) (fun h => ens_some ⟨rfl, hd2, rfl, rfl, rfl, rfl, fun h => by cases h⟩)
            refine ens_call (c18 2 d2 hd2 (by omega) (by omega)) ?_
            rintro ⟨⟨o, ⟨⟩⟩, ⟨⟨d3, ⟨⟩⟩, ⟨⟩⟩⟩ hd3
            exact ens_some ⟨rfl, hd3, rfl, rfl, rfl, rfl, fun _ => by omega⟩
          · rintro ⟨⟨o, k', t', ⟨⟩⟩, ⟨⟨d3, ⟨⟩⟩, ⟨⟨rt2, ky2, du2, se2, ⟨⟩⟩, ⟨⟩⟩, ⟨r1, ⟨⟩⟩, ⟨⟨a2, b2, c2, e2, ⟨⟩⟩, ⟨⟩⟩, mu, ms2, ⟨⟩⟩⟩ ⟨h5, hd3, h6, h7, h8, h9, h10⟩
            dsimp only at h5 hd3 h6 h7 h8 h9 h10 ⊢
            obtain ⟨⟩ := h5; obtain ⟨⟩ := h6; subst h7; subst h8; subst h9
            refine ens_bif (fun ho => ?_) (fun _ => ens_some ⟨rfl, hd3, rfl, rfl, Nat.zero_le _, rfl⟩)
            have hpos := h10 ho
            refine ens_call (c20 _ d3 hd3 (by omega)) ?_
            rintro ⟨⟨p, ⟨⟩⟩, ⟨⟨d4, ⟨⟩⟩, ⟨⟩⟩⟩ ⟨hd4, hp0, hp1⟩
            dsimp only at hd4 hp0 hp1 ⊢
            have hp1 := hp1 (by omega)
            refine ens_need ⟨hp0, hp1⟩ (ens_at (by omega) fun m _ _ => ens_some ⟨rfl, hd4, rfl, rfl, by simp, rfl⟩)
        · rintro ⟨⟨k', t', ⟨⟩⟩, ⟨⟨d3, ⟨⟩⟩, ⟨⟨rt2, ky2, du2, se2, ⟨⟩⟩, ⟨⟩⟩, ⟨r1, ⟨⟩⟩, ⟨⟨a2, b2, c2, e2, ⟨⟩⟩, ⟨⟩⟩, mu, ms2, ⟨⟩⟩⟩ ⟨h5, hd3, h6, h7, h8, h9⟩
          dsimp only at h5 hd3 h6 h7 h8 h9 ⊢
          obtain ⟨⟩ := h5; obtain ⟨⟩ := h6; subst h7; subst h9
          have ht : 0 ≤ t ∧ t ≤ 8589934592 := ⟨h0, by omega⟩
          refine ens_call ⟨_, look_r hg hr ht (by unfold big; omega), rfl⟩ ?_
          rintro _ rfl
          exact ens_some ⟨rfl, rfl, hd3, look_vg hg _ _ ht, rfl, by
            rcases look_sent (rt, ky, _, du, se, ()) _ t mu with h | h
            · exact Int.le_trans (Int.le_of_eq h) hsn
            · exact Int.le_of_eq h⟩
      · simp only [show ((3 : Int) == 0) = false from rfl, show ((3 : Int) == 1) = false from rfl, show ((3 : Int) == 2) = false from rfl, show ((3 : Int) == 3) = true from rfl, sumE, sS]
        refine ens_call (c19 [0, 50, 300] d2 hd2 (by decide) (by decide)) ?_
        rintro ⟨⟨p, ⟨⟩⟩, ⟨⟨d3, ⟨⟩⟩, ⟨⟩⟩⟩ ⟨hd3, hp⟩
        dsimp only at hd3 hp ⊢
        simp only [List.mem_cons, List.not_mem_nil, or_false] at hp
        have ht : 0 ≤ t ∧ t ≤ 8589934592 := ⟨h0, by omega⟩
        refine ens_call ⟨_, exp_r hg hr ht (by omega), rfl⟩ ?_
        rintro _ rfl
        exact ens_some ⟨rfl, rfl, hd3, exp_vg hg hr _ ht, rfl, Int.le_trans (Int.le_of_eq (exp_sent _ _ _ _)) hsn⟩
    · rintro ⟨⟨k', t', ⟨⟩⟩, ⟨⟨d3, ⟨⟩⟩, ⟨⟨rt2, ky2, du2, se2, ⟨⟩⟩, ⟨⟩⟩, ⟨r1, ⟨⟩⟩, ⟨⟨a2, b2, c2, e2, ⟨⟩⟩, ⟨⟩⟩, ms2, ⟨⟩⟩⟩ ⟨h5, h6, hd3, hg3, h7, hsn3⟩
      dsimp only [cSent] at h5 h6 hd3 hg3 h7 hsn3 ⊢
      subst h5; subst h6; subst h7
      refine ens_call (c19 [0, 1, 10, 30, 400] d3 hd3 (by decide) (by decide)) ?_
      rintro ⟨⟨p, ⟨⟩⟩, ⟨⟨d4, ⟨⟩⟩, ⟨⟩⟩⟩ ⟨hd4, hp⟩
      simp only [List.mem_cons, List.not_mem_nil, or_false] at hp
      have w1 : w64 (k' - 1) = k' - 1 := w64_id (by omega) (by omega)
      have w2 : w64 (t' + p) = t' + p := w64_id (by omega) (by omega)
      dsimp only
      rw [w1, w2]
      exact ens_some ⟨⟨hd4, hg3, rfl, by dsimp only; omega, by dsimp only; omega, by dsimp only; omega, by dsimp only [cSent]; omega⟩, by dsimp only; omega⟩
  · rintro ⟨⟨t', ⟨⟩⟩, ⟨⟨d2, ⟨⟩⟩, ⟨⟨a, b, c, e, ⟨⟩⟩, ⟨⟩⟩, ⟨⟨rt, ky, du, se, ⟨⟩⟩, ⟨⟩⟩, ms, ⟨⟩⟩⟩ ⟨h1, h2, h3, h4⟩
    exact ens_some ⟨h1, h2, h3, h4⟩

end Go.Proofs.Ytcblbcpnfidndaa

namespace Go.Proofs.Ytcblbcpnfidndaa
open Go Go.Abs Go.Lab
theorem sane23 : m9 ((), ()) = some ((true, ()), ()) := by kernel_rfl

abbrev YT : (Bool × Unit) × Unit := ((true, ()), ())

theorem ens_tt {o : Option ((Bool × Unit) × Unit)} (h : Ens o (fun r => r = YT)) : o = some YT := by
  obtain ⟨_, rfl, rfl⟩ := h
  rfl

end Go.Proofs.Ytcblbcpnfidndaa

namespace Go.Proofs.Ytcblbcpnfidndaa
open Go Go.Abs Go.Lab
theorem vg_sz {g : GpT} (h : VG g) : GSz g := ⟨by have := h.len; unfold big; omega, fun m hm => valid_ks (h.mem m hm).lab⟩

/-- Any group, route, labels and instant: what both make of an alert. -/
theorem addX {g : GpT} (hg : GSz g) {r : RtT} (hr : TrSz r) {l : List LT} (hl : KSz l) (on : Bool) (t : Int) :
    ∃ x : Int × Cor × List MbT, m14 ((g, r, l, on, t, ()), ()) = outA x ∧ m27 ((g, r, l, on, t, ()), ()) = outA x ∧ x.2.2.length ≤ big ∧ ∀ m ∈ x.2.2, (mLab m).length ≤ big := by
  have q1 := m23_all g hg
  have q2 := m24_all g hg
  have q3 := m36_eq r hr
  have q4 := m59_eq r hr
  have q5 := m37_eq l hl
  have q6 := m47_eq l hl
  by_cases h1 : validG g = true
  · by_cases h2 : rightR r = true
    · by_cases h3 : validL l = true
      · by_cases h4 : 0 ≤ t ∧ t ≤ 8589934592
        · have hv := valid_iff.1 h1
          have hrr := rr_of hr h2
          have hw := add_vg hv hrr h3 on h4
          exact ⟨_, add_p hv hrr h3 on h4, add_r hv hrr h3 on h4, by have := hw.len; unfold big; exact Nat.le_trans this (by omega), fun m hm => (valid_ks (hw.mem m hm).lab).1⟩
        · refine ⟨(1, zeroC, []), ?_, ?_, Nat.zero_le _, fun m hm => by cases hm⟩
          · unfold m14
            simp only [q1, q3, q5, h1, h2, h3, m38_eq, decide_eq_false h4, sumE, sS]
          · unfold m27
            simp only [q2, q4, q6, h1, h2, h3, m58_eq, inst, decide_eq_false h4, sumE, sS]
      · have h3 : validL l = false := by simpa using h3
        refine ⟨(8, zeroC, []), ?_, ?_, Nat.zero_le _, fun m hm => by cases hm⟩
        · unfold m14
          simp only [q1, q3, q5, h1, h2, h3, sumE, sS]
        · unfold m27
          simp only [q2, q4, q6, h1, h2, h3, sumE, sS]
    · have h2 : rightR r = false := by simpa using h2
      refine ⟨(8, zeroC, []), ?_, ?_, Nat.zero_le _, fun m hm => by cases hm⟩
      · unfold m14
        simp only [q1, q3, q5, h1, h2, sumE, sS]
      · unfold m27
        simp only [q2, q4, q6, h1, h2, sumE, sS]
  · have h1 : validG g = false := by simpa using h1
    refine ⟨(8, zeroC, []), ?_, ?_, Nat.zero_le _, fun m hm => by cases hm⟩
    · unfold m14
      simp only [q1, h1, sumE, sS]
    · unfold m27
      simp only [q2, h1, sumE, sS]

theorem expX {g : GpT} (hg : GSz g) {r : RtT} (hr : TrSz r) (t a : Int) :
    ∃ x : Int × Cor × List MbT, m29 ((g, r, t, a, ()), ()) = outA x ∧ m30 ((g, r, t, a, ()), ()) = outA x ∧ x.2.2.length ≤ big ∧ ∀ m ∈ x.2.2, (mLab m).length ≤ big := by
  have q1 := m23_all g hg
  have q2 := m24_all g hg
  have q3 := m36_eq r hr
  have q4 := m59_eq r hr
  by_cases h1 : validG g = true
  · by_cases h2 : rightR r = true
    · by_cases h4 : 0 ≤ t ∧ t ≤ 8589934592
      · by_cases h5 : 0 ≤ a ∧ a ≤ 604800
        · have hv := valid_iff.1 h1
          have hrr := rr_of hr h2
          have hw := exp_vg hv hrr a h4
          exact ⟨_, exp_p hv hrr h4 h5, exp_r hv hrr h4 h5, by have := hw.len; unfold big; exact Nat.le_trans this (by omega), fun m hm => (valid_ks (hw.mem m hm).lab).1⟩
        · refine ⟨(1, zeroC, []), ?_, ?_, Nat.zero_le _, fun m hm => by cases hm⟩
          · unfold m29
            simp only [q1, q3, h1, h2, m38_eq, decide_eq_true h4, decide_eq_false h5, sumE, sS]
          · unfold m30
            simp only [q2, q4, h1, h2, m58_eq, inst, decide_eq_true h4, sumE, sS]
            by_cases h6 : a < 0
            · simp only [decide_eq_true h6, sumE, sS]
            · simp only [decide_eq_false h6, decide_eq_true (show a > 604800 by omega), sumE, sS]
      · refine ⟨(1, zeroC, []), ?_, ?_, Nat.zero_le _, fun m hm => by cases hm⟩
        · unfold m29
          simp only [q1, q3, h1, h2, m38_eq, decide_eq_false h4, sumE, sS]
        · unfold m30
          simp only [q2, q4, h1, h2, m58_eq, inst, decide_eq_false h4, sumE, sS]
    · have h2 : rightR r = false := by simpa using h2
      refine ⟨(8, zeroC, []), ?_, ?_, Nat.zero_le _, fun m hm => by cases hm⟩
      · unfold m29
        simp only [q1, q3, h1, h2, sumE, sS]
      · unfold m30
        simp only [q2, q4, h1, h2, sumE, sS]
  · have h1 : validG g = false := by simpa using h1
    refine ⟨(8, zeroC, []), ?_, ?_, Nat.zero_le _, fun m hm => by cases hm⟩
    · unfold m29
      simp only [q1, h1, sumE, sS]
    · unfold m30
      simp only [q2, h1, sumE, sS]

theorem lookX {g : GpT} (hg : GSz g) {r : RtT} (hr : TrSz r) (t : Int) {mu : List ByteArray} (hm : mu.length ≤ big) :
    ∃ (ok : Bool) (e : Int) (c : Cor) (nc : NtC) (MS : List MbT) (F R : List ByteArray) (n : Nat) (blk : List MbT),
      m17 ((g, r, t, mu, ()), ()) = some ((ok, e, ()), (((c.1, c.2.1, (0, n), c.2.2.1, c.2.2.2.1, ()), ()), (nc, ()), blk, F, R, ())) ∧ n ≤ blk.length ∧ blk.take n = MS ∧
      m31 ((g, r, t, mu, ()), ()) = some ((ok, e, ()), ((c, ()), (nc, ()), MS, F, R, ())) ∧ MS.length ≤ big ∧ (∀ m ∈ MS, (mLab m).length ≤ big) ∧ F.length ≤ big ∧ R.length ≤ big := by
  have q1 := m23_all g hg
  have q2 := m24_all g hg
  have q3 := m36_eq r hr
  have q4 := m59_eq r hr
  by_cases h1 : validG g = true
  · by_cases h2 : rightR r = true
    · by_cases h4 : 0 ≤ t ∧ t ≤ 8589934592
      · have hv := valid_iff.1 h1
        have hrr := rr_of hr h2
        have hw := look_vg hv r mu h4
        obtain ⟨n, blk, e, h5, h6⟩ := look_p hv hrr h4 hm
        have b : (gLook g r t mu).2.2.2.2.1.length ≤ big ∧ (gLook g r t mu).2.2.2.2.2.length ≤ big := by
          have a := firL_len mu (gMem g)
          have b := resL_len mu (gMem g)
          have c := hv.len
          unfold big
          unfold gLook
          split
          · exact ⟨Nat.zero_le _, Nat.zero_le _⟩
          · dsimp only
            split
            · exact ⟨by dsimp only; omega, by dsimp only; omega⟩
            · exact ⟨Nat.zero_le _, Nat.zero_le _⟩
        exact ⟨_, _, _, _, _, _, _, n, blk, e, h5, h6, look_r hv hrr h4 hm, by have := hw.len; unfold big; exact Nat.le_trans this (by omega), fun m hm => (valid_ks (hw.mem m hm).lab).1, b.1, b.2⟩
      · refine ⟨false, 1, zeroC, zeroN, [], [], [], 0, [], ?_, Nat.le_refl _, rfl, ?_, Nat.zero_le _, fun m hm => (by cases hm), Nat.zero_le _, Nat.zero_le _⟩
        · unfold m17
          simp only [q1, q3, h1, h2, m38_eq, decide_eq_false h4, sumE, sS]
        · unfold m31
          simp only [q2, q4, h1, h2, m58_eq, inst, decide_eq_false h4, sumE, sS]
    · have h2 : rightR r = false := by simpa using h2
      refine ⟨false, 8, zeroC, zeroN, [], [], [], 0, [], ?_, Nat.le_refl _, rfl, ?_, Nat.zero_le _, fun m hm => (by cases hm), Nat.zero_le _, Nat.zero_le _⟩
      · unfold m17
        simp only [q1, q3, h1, h2, sumE, sS]
      · unfold m31
        simp only [q2, q4, h1, h2, sumE, sS]
  · have h1 : validG g = false := by simpa using h1
    refine ⟨false, 8, zeroC, zeroN, [], [], [], 0, [], ?_, Nat.le_refl _, rfl, ?_, Nat.zero_le _, fun m hm => (by cases hm), Nat.zero_le _, Nat.zero_le _⟩
    · unfold m17
      simp only [q1, h1, sumE, sS]
    · unfold m31
      simp only [q2, h1, sumE, sS]

abbrev RxT := Int × Int × List ByteArray × Int × Int × Int × Bool × Unit

abbrev NsT := Int × Int × Int × Int × Unit

abbrev PsT := RtT × RtT × Unit

abbrev YsT := GpT × GpT × GpT × Unit

theorem loop34 (af : Int) (lab : List LT) (hlab : KSz lab) (ns : NsT) (k5 k6 : Int) (ps : PsT) (ys : YsT) (k9 k10 : Int) (A B : RxT) {p : RtT} (hp : TrSz p) {y : GpT} (hy : GSz y) (d : Dice) (hd : DOK d) :
    Ens (loopT l6_0_34 (((0 : Int), af, lab, ns, k5, k6, ps, ys, k9, k10, ()), ((p, ()), (y, ()), (d, ()), (A, ()), (B, ()), ())))
      (fun b => ∃ d' : Dice, DOK d' ∧ b = .inr ((af, lab, k5, k6, ps, ys, k9, k10, ()), ((y, ()), (d', ()), (A, ()), (B, ()), ()))) := by
  refine ens_loop (fun v => ∃ (i : Int) (d' : Dice), DOK d' ∧ 0 ≤ i ∧ i ≤ 4 ∧ v = ((i, af, lab, ns, k5, k6, ps, ys, k9, k10, ()), ((p, ()), (y, ()), (d', ()), (A, ()), (B, ()), ()))) (fun v => (4 - v.1.1).toNat) ?_ _ ⟨0, d, hd, Int.le_refl _, by omega, rfl⟩
  rintro _ ⟨i, d, hd, hi0, hi1, rfl⟩
  unfold l6_0_34
  dsimp only
  refine ens_ite (fun hlt => ?_) (fun _ => ens_some ⟨d, hd, rfl⟩)
  have wi : w64 (i + 1) = i + 1 := w64_id (by omega) (by omega)
  refine ens_row hi0 (by show i < 4; omega) fun n _ _ => ?_
  refine ens_call (c13 d hd) ?_
  rintro ⟨⟨⟩, ⟨⟨d2, ⟨⟩⟩, l, ⟨⟩⟩⟩ ⟨hd2, hl⟩
  dsimp only at hd2 hl ⊢
  refine ens_call (c20 2 d2 hd2 (by omega)) ?_
  rintro ⟨⟨q, ⟨⟩⟩, ⟨⟨d3, ⟨⟩⟩, ⟨⟩⟩⟩ ⟨hd3, hq0, hq1⟩
  dsimp only at hd3 hq0 hq1 ⊢
  have hq1 := hq1 (by omega)
  refine ens_need (by show 0 ≤ q ∧ q < 2; omega) (ens_at (by show q.toNat < 2; omega) fun l2 _ hl2 => ?_)
  have hl2 : KSz l2 := by
    simp only [List.mem_cons, List.not_mem_nil, or_false] at hl2
    rcases hl2 with rfl | rfl
    · exact valid_ks hl
    · exact hlab
  refine ens_call (c18 2 d3 hd3 (by omega) (by omega)) ?_
  rintro ⟨⟨on, ⟨⟩⟩, ⟨⟨d4, ⟨⟩⟩, ⟨⟩⟩⟩ hd4
  dsimp only at hd4 ⊢
  obtain ⟨⟨e1, ⟨a1, a2, a3, a4, ⟨⟩⟩, ms1⟩, x1, x2, x3, x4⟩ := addX hy hp hl2 on n
  have s1 := same_g (a1, a2, ms1, a3, a4, ()) x3 x4
  simp only [x1, x2, outA, s1, sumE, sS]
  refine ens_call (c19 [0, 1, 50, af] d4 hd4 (by simp) (by simp)) ?_
  rintro ⟨⟨a, ⟨⟩⟩, ⟨⟨d5, ⟨⟩⟩, ⟨⟩⟩⟩ ⟨hd5, _⟩
  dsimp only at hd5 ⊢
  obtain ⟨⟨e2, ⟨b1, b2, b3, b4, ⟨⟩⟩, ms2⟩, y1, y2, y3, y4⟩ := expX hy hp n a
  have s2 := same_g (b1, b2, ms2, b3, b4, ()) y3 y4
  simp only [y1, y2, outA, s2, sumE, sS]
  refine ens_call (R := fun z => ∃ (d' : Dice) (mu : List ByteArray), DOK d' ∧ mu.length ≤ 2 ∧ z.2.1 = (p, ()) ∧ z.2.2.1 = (y, ()) ∧ z.2.2.2.1 = (d', ()) ∧ z.2.2.2.2.1 = (A, ()) ∧ z.2.2.2.2.2.1 = (B, ()) ∧ z.2.2.2.2.2.2.2.2.1 = mu ∧ z.1 = (af, lab, ns, k5, k6, ps, ys, k9, k10, i, n, ())) ?_ ?_
  · refine ens_call (R := fun z => ∃ (d' : Dice), DOK d' ∧ z.2.1 = (p, ()) ∧ z.2.2.1 = (y, ()) ∧ z.2.2.2.1 = (d', ()) ∧ z.2.2.2.2.1 = (A, ()) ∧ z.2.2.2.2.2.1 = (B, ()) ∧ z.2.2.2.2.2.2.2.2.1 = [] ∧ z.1.2 = (af, lab, ns, k5, k6, ps, ys, k9, k10, i, n, ()) ∧ (z.1.1 = true → 0 < (gMem y).length)) ?_ ?_
    · refine ens_ite (fun h => ?_) (fun _ => ens_some ⟨d5, hd5, rfl, rfl, rfl, rfl, rfl, rfl, rfl, fun h => by cases h⟩)
      refine ens_call (c18 2 d5 hd5 (by omega) (by omega)) ?_
      rintro ⟨⟨o, ⟨⟩⟩, ⟨⟨d6, ⟨⟩⟩, ⟨⟩⟩⟩ hd6
      exact ens_some ⟨d6, hd6, rfl, rfl, rfl, rfl, rfl, rfl, rfl, fun _ => by show 0 < y.2.2.1.length; omega⟩
    · rintro ⟨⟨o, r1⟩, ⟨p1, ⟨⟩⟩, ⟨y1', ⟨⟩⟩, ⟨d6', ⟨⟩⟩, ⟨A1, ⟨⟩⟩, ⟨B1, ⟨⟩⟩, u1, u2, mu, u3, u4, ⟨⟩⟩ ⟨d6, hd6, z1, z2, z3, z4, z5, z6, z7, z8⟩
      dsimp only at z1 z2 z3 z4 z5 z6 z7 z8 ⊢
      injection z1 with z1; injection z2 with z2; injection z3 with z3; injection z4 with z4; injection z5 with z5
      subst z1; subst z2; subst z3; subst z4; subst z5; subst z6; subst z7
      refine ens_bif (fun ho => ?_) (fun _ => ens_some ⟨d6', [], hd6, Nat.zero_le _, rfl, rfl, rfl, rfl, rfl, rfl, rfl⟩)
      have hpos := z8 ho
      have hgl := hy.1
      dsimp only [gMem] at hpos hgl
      unfold big at hgl
      refine ens_call (c20 _ d6' hd6 (by omega)) ?_
      rintro ⟨⟨k, ⟨⟩⟩, ⟨⟨d7, ⟨⟩⟩, ⟨⟩⟩⟩ ⟨hd7, hk0, hk1⟩
      dsimp only at hd7 hk0 hk1 ⊢
      have hk1 := hk1 (by omega)
      refine ens_row hk0 hk1 fun m _ _ => ens_some ⟨d7, _, hd7, by simp, rfl, rfl, rfl, rfl, rfl, rfl, rfl⟩
  · rintro ⟨r1, ⟨p1, ⟨⟩⟩, ⟨y1', ⟨⟩⟩, ⟨d6', ⟨⟩⟩, ⟨A1, ⟨⟩⟩, ⟨B1, ⟨⟩⟩, u1, u2, mu, u3, u4, ⟨⟩⟩ ⟨d6, mu', hd6, hmu, z1, z2, z3, z4, z5, z6, z7⟩
    dsimp only at z1 z2 z3 z4 z5 z6 z7 ⊢
    injection z1 with z1; injection z2 with z2; injection z3 with z3; injection z4 with z4; injection z5 with z5
    subst z1; subst z2; subst z3; subst z4; subst z5; subst z6; subst z7
    obtain ⟨ok, e3, ⟨c1, c2, c3, c4, ⟨⟩⟩, ⟨n1, n2, n3, n4, ⟨⟩⟩, MS, F, R, nn, blk, w1, w2, w3, w4, w5, w6, w7, w8⟩ := lookX hy hp n (mu := mu) (by unfold big; omega)
    subst w3
    have s3 := same_g (c1, c2, blk.take nn, c3, c4, ()) w5 w6
    have s4 := same_n (n1, n2, n3, n4, ()) F R w7 w8
    have dn : decide (0 + nn ≤ blk.length) = true := decide_eq_true (by omega)
    dsimp only at w1 w4 s4 ⊢
    simp only [w1, w4, dn, List.drop_zero, s3, s4, wi, sumE, sS]
    exact ens_some ⟨⟨i + 1, d6', hd6, by omega, by omega, rfl⟩, by dsimp only; omega⟩

theorem loop31 (af : Int) (lab : List LT) (hlab : KSz lab) (now x : Int) (p0 p1 : RtT) (h0 : TrSz p0) (h1 : TrSz p1) (ys : YsT) (yi : Int) (A B : RxT) {y : GpT} (hy : GSz y) (d : Dice) (hd : DOK d) :
    Ens (loopT l6_0_31 ((af, lab, 0, now, x, ((p0, p1, ()) : PsT), ys, yi, ()), ((y, ()), (d, ()), (A, ()), (B, ()), ())))
      (fun b => ∃ d' : Dice, DOK d' ∧ b = .inr ((af, lab, now, x, ys, yi, ()), ((d', ()), (A, ()), (B, ()), ()))) := by
  refine ens_loop (fun v => ∃ (i : Int) (d' : Dice), DOK d' ∧ 0 ≤ i ∧ i ≤ 2 ∧ v = ((af, lab, i, now, x, ((p0, p1, ()) : PsT), ys, yi, ()), ((y, ()), (d', ()), (A, ()), (B, ()), ()))) (fun v => (2 - v.1.2.2.1).toNat) ?_ _ ⟨0, d, hd, Int.le_refl _, by omega, rfl⟩
  rintro _ ⟨i, d, hd, hi0, hi1, rfl⟩
  unfold l6_0_31
  dsimp only
  refine ens_ite (fun hlt => ?_) (fun _ => ens_some ⟨d, hd, rfl⟩)
  have wi : w64 (i + 1) = i + 1 := w64_id (by omega) (by omega)
  refine ens_row hi0 (by show i < 2; omega) fun p _ hp => ?_
  have hp : TrSz p := by
    simp only [List.mem_cons, List.not_mem_nil, or_false] at hp
    rcases hp with rfl | rfl
    · exact h0
    · exact h1
  refine ens_call (c19 [0, 1, 30, 300, 4000] d hd (by decide) (by decide)) ?_
  rintro ⟨⟨a, ⟨⟩⟩, ⟨⟨d2, ⟨⟩⟩, ⟨⟩⟩⟩ ⟨hd2, _⟩
  dsimp only at hd2 ⊢
  refine ens_call (loop34 af lab hlab _ now x _ _ yi i A B hp hy d2 hd2) ?_
  rintro _ ⟨d3, hd3, rfl⟩
  simp only [wi, sumE, sS]
  exact ens_some ⟨⟨i + 1, d3, hd3, by omega, by omega, rfl⟩, by dsimp only; omega⟩

def rtX (c : RxT) : RtT := (c.1, [], c.2)

theorem loop26 (af : Int) (lab : List LT) (hlab : KSz lab) (now x : Int) (A B : RxT) (hA : TrSz (rtX A)) (hB : TrSz (rtX B)) (y0 y1 y2 : GpT) (g0 : GSz y0) (g1 : GSz y1) (g2 : GSz y2) (d : Dice) (hd : DOK d) :
    Ens (loopT l6_0_26 ((af, lab, now, x, 0, ((y0, y1, y2, ()) : YsT), ()), ((d, ()), (A, ()), (B, ()), ())))
      (fun b => b = .inr ((x, ()), ())) := by
  refine ens_loop (fun v => ∃ (i : Int) (d' : Dice), DOK d' ∧ 0 ≤ i ∧ i ≤ 3 ∧ v = ((af, lab, now, x, i, ((y0, y1, y2, ()) : YsT), ()), ((d', ()), (A, ()), (B, ()), ()))) (fun v => (3 - v.1.2.2.2.2.1).toNat) ?_ _ ⟨0, d, hd, Int.le_refl _, by omega, rfl⟩
  rintro _ ⟨i, d, hd, hi0, hi1, rfl⟩
  unfold l6_0_26
  dsimp only
  refine ens_ite (fun hlt => ?_) (fun _ => ens_some rfl)
  have wi : w64 (i + 1) = i + 1 := w64_id (by omega) (by omega)
  refine ens_row hi0 (by show i < 3; omega) fun y _ hy => ?_
  have hy : GSz y := by
    simp only [List.mem_cons, List.not_mem_nil, or_false] at hy
    rcases hy with rfl | rfl | rfl
    · exact g0
    · exact g1
    · exact g2
  have q1 := m23_all y hy
  have q2 := m24_all y hy
  have q3 : m25 ((y, ()), ()) = some (((((y.2.2.1.length : Int) : Int) == 0), ()), ()) := rfl
  have q4 : m26 ((y, ()), ()) = some (((((y.2.2.1.length : Int) : Int) == 0), ()), ()) := rfl
  have b1 : (validG y == validG y) = true := beq_self_eq_true _
  have b2 : ((((y.2.2.1.length : Int) : Int) == 0) == (((y.2.2.1.length : Int) : Int) == 0)) = true := beq_self_eq_true _
  simp only [q1, q2, q3, q4, b1, b2, sumE, sS]
  refine ens_call (loop31 af lab hlab now x (B.1, [], B.2) (A.1, [], A.2) hB hA _ i A B hy d hd) ?_
  rintro _ ⟨d3, hd3, rfl⟩
  simp only [wi, sumE, sS]
  exact ens_some ⟨⟨i + 1, d3, hd3, by omega, by omega, rfl⟩, by dsimp only; omega⟩

theorem key_small {m : MbT} (h : MbOK m) : (mKey m).size + 1 ≤ 4294967296 := by
  have h1 := parts_len h.lab ((mLab m).map partL).length
  rw [List.take_length] at h1
  rw [h.key, size_mk]
  unfold textL
  simp
  omega

theorem set_sz {ms : List MbT} (hl : ms.length ≤ 256) (hk : ∀ m ∈ ms, KSz (mLab m)) (i : Nat) {x : MbT} (hx : KSz (mLab x)) : (ms.set i x).length ≤ 256 ∧ ∀ m ∈ ms.set i x, KSz (mLab m) :=
  ⟨by rw [List.length_set]; exact hl, fun m hm => by
    rcases mem_set hm with h | rfl
    · exact hk m h
    · exact hx⟩

theorem nil_k : KSz [] := ⟨Nat.zero_le _, fun x hx => by cases hx⟩

theorem gsz_of {rt : Int} {ky : ByteArray} {ms : List MbT} {du se : Int} (h : ms.length ≤ 256 ∧ ∀ m ∈ ms, KSz (mLab m)) : GSz (rt, ky, ms, du, se, ()) := ⟨by show ms.length ≤ big; unfold big; omega, h.2⟩

theorem law6c (t : List Int) (raw : GpT) (labels : List LT) (x after : Int) (hraw : ∀ m ∈ gMem raw, KSz (mLab m)) (hlab : ∀ l ∈ labels, l.1.size ≤ big ∧ l.2.1.size ≤ big) : m6 ((t, raw, labels, x, after, ()), ()) = some ((true, ()), ()) := by
  unfold m6
  simp only [light, roll, sane23, sumE, sS]
  cases hx : decide (t.length ≤ 500)
  · simp only [sumE, sS]
  have hx := of_decide_eq_true hx
  simp only [sumE, sS]
  by_cases hr40 : ((raw.2.2.1.length : Int) > 40)
  · simp only [decide_eq_true hr40, sumE, sS]
  simp only [decide_eq_false hr40, sumE, sS]
  by_cases hl20 : ((labels.length : Int) > 20)
  · simp only [decide_eq_true hl20, sumE, sS]
  simp only [decide_eq_false hl20, sumE, sS]
  have hgr : GSz raw := ⟨by show raw.2.2.1.length ≤ big; unfold big; omega, hraw⟩
  have hlb : KSz labels := ⟨by unfold big; omega, hlab⟩
  refine ens_tt ?_
  refine ens_call (c11 _ (dok0 hx)) ?_
  rintro ⟨⟨⟩, ⟨⟨d1, ⟨⟩⟩, ⟨⟨pa, po, wa, ir, rp, co, ⟨⟩⟩, ⟨⟩⟩, ks, ⟨⟩⟩⟩ ⟨hd1, hr, hpa, hw, hi, hp⟩
  dsimp only [rtOf] at hd1 hr hw hi hp hpa ⊢
  refine ens_call (c21 hr 8 (by omega) d1 hd1) ?_
  rintro ⟨⟨now, ⟨⟩⟩, ⟨⟨d2, ⟨⟩⟩, ⟨⟨rt, ky, du, se, ⟨⟩⟩, ⟨⟩⟩, ms, ⟨⟩⟩⟩ ⟨hd2, hg, h0, h1, hsn⟩
  dsimp only [grp, cSent] at hd2 hg h0 h1 hsn ⊢
  have hml := hg.len
  have hmk : ∀ m ∈ ms, KSz (mLab m) := fun m hm => valid_ks (hg.mem m hm).lab
  dsimp only [gMem] at hml
  refine ens_need (by omega) ?_
  refine ens_call (R := fun z => ∃ (d' : Dice) (oc : Cor) (oms : List MbT), DOK d' ∧ (oms.length ≤ 256 ∧ ∀ m ∈ oms, KSz (mLab m)) ∧ z = ((after, labels, now, x, ()), ((d', ()), ((pa, po, wa, ir, rp, co, ()), ()), (raw, ()), (oc, ()), ((rt, ky, du, se, ()), ()), ks, oms, ms, ()))) ?_ ?_
  · refine ens_ite (fun hpos => ?_) (fun _ => ?_)
    · refine ens_call (c20 _ d2 hd2 (by omega)) ?_
      rintro ⟨⟨q, ⟨⟩⟩, ⟨⟨d3, ⟨⟩⟩, ⟨⟩⟩⟩ ⟨hd3, hq0, hq1⟩
      dsimp only at hd3 hq0 hq1 ⊢
      have hq1 := hq1 (by omega)
      refine ens_need ⟨hq0, hq1⟩ ?_
      refine ens_call (c20 5 d3 hd3 (by omega)) ?_
      rintro ⟨⟨k, ⟨⟩⟩, ⟨⟨d4, ⟨⟩⟩, ⟨⟩⟩⟩ ⟨hd4, hk0, hk1⟩
      dsimp only at hd4 hk0 hk1 ⊢
      have hk1 := hk1 (by omega)
      have hqn : q.toNat < ms.length := by omega
      have hcase : k = 0 ∨ k = 1 ∨ k = 2 ∨ k = 3 ∨ k = 4 := by omega
      rcases hcase with rfl | rfl | rfl | rfl | rfl
      · simp only [beq_self_eq_true, sumE, sS]
        refine ens_at hqn fun m _ hm => ?_
        refine ens_need (key_small (hg.mem m hm)) ?_
        refine ens_at hqn fun m2 _ hm2 => ?_
        exact ens_some ⟨d4, _, _, hd4, set_sz hml hmk _ (x := ((m.1 ++ bs [32], m2.2) : MbT)) (hmk m2 hm2), rfl⟩
      · simp only [show ((1 : Int) == 0) = false from rfl, beq_self_eq_true, sumE, sS]
        refine ens_at hqn fun m _ hm => ?_
        refine ens_at (by rw [List.length_set]; exact hqn) fun m2 hm1 hm2 => ?_
        have hs1 := set_sz hml hmk q.toNat (x := ((m.1, m.2.1, m.2.2.1, m.2.2.2.1, false, m.2.2.2.2.2) : MbT)) (hmk m hm)
        exact ens_some ⟨d4, _, _, hd4, set_sz hs1.1 hs1.2 _ (x := ((m2.1, m2.2.1, m2.2.2.1, m2.2.2.2.1, m2.2.2.2.2.1, true, ()) : MbT)) (hs1.2 m2 hm2), rfl⟩
      · simp only [show ((2 : Int) == 0) = false from rfl, show ((2 : Int) == 1) = false from rfl, beq_self_eq_true, sumE, sS]
        refine ens_call (c19 [-1, 0, 8589934592, 8589934593] d4 hd4 (by decide) (by decide)) ?_
        rintro ⟨⟨a, ⟨⟩⟩, ⟨⟨d5, ⟨⟩⟩, ⟨⟩⟩⟩ ⟨hd5, _⟩
        dsimp only at hd5 ⊢
        refine ens_at hqn fun m _ hm => ?_
        exact ens_some ⟨d5, _, _, hd5, set_sz hml hmk _ (x := ((m.1, m.2.1, a, m.2.2.2) : MbT)) (hmk m hm), rfl⟩
      · simp only [show ((3 : Int) == 0) = false from rfl, show ((3 : Int) == 1) = false from rfl, show ((3 : Int) == 2) = false from rfl, beq_self_eq_true, sumE, sS]
        refine ens_at hqn fun m _ hm => ?_
        exact ens_some ⟨d4, _, _, hd4, set_sz hml hmk _ (x := ((m.1, [], m.2.2) : MbT)) nil_k, rfl⟩
      · simp only [show ((4 : Int) == 0) = false from rfl, show ((4 : Int) == 1) = false from rfl, show ((4 : Int) == 2) = false from rfl, show ((4 : Int) == 3) = false from rfl, sumE, sS]
        refine ens_call (c19 [-2, -1, 0, 8589934593] d4 hd4 (by decide) (by decide)) ?_
        rintro ⟨⟨a, ⟨⟩⟩, ⟨⟨d5, ⟨⟩⟩, ⟨⟩⟩⟩ ⟨hd5, _⟩
        dsimp only at hd5 ⊢
        exact ens_some ⟨d5, (rt, ky, a, se, ()), _, hd5, ⟨hml, hmk⟩, rfl⟩
    · refine ens_call (c19 [-1, 0] d2 hd2 (by decide) (by decide)) ?_
      rintro ⟨⟨a, ⟨⟩⟩, ⟨⟨d5, ⟨⟩⟩, ⟨⟩⟩⟩ ⟨hd5, _⟩
      dsimp only at hd5 ⊢
      exact ens_some ⟨d5, (a, ky, du, se, ()), _, hd5, ⟨hml, hmk⟩, rfl⟩
  · rintro _ ⟨d3, ⟨o1, o2, o3, o4, ⟨⟩⟩, oms, hd3, hos, rfl⟩
    dsimp only
    refine ens_call (c20 2 d3 hd3 (by omega)) ?_
    rintro ⟨⟨w, ⟨⟩⟩, ⟨⟨d4, ⟨⟩⟩, ⟨⟩⟩⟩ ⟨hd4, _, _⟩
    dsimp only at hd4 ⊢
    have hz : ∀ (a b : Int) (c : Bool) (p q : Int), TrSz (rtX (p, q, ks, a, b, rp, c, ())) := fun a b c p q => ⟨⟨Nat.zero_le _, fun m hm => by cases hm⟩, hr.z.2⟩
    refine ens_call (R := fun z => ∃ (d' : Dice) (A B : RxT), DOK d' ∧ TrSz (rtX A) ∧ TrSz (rtX B) ∧ z = ((after, labels, now, x, ()), ((d', ()), (A, ()), (B, ()), (raw, ()), ((o1, o2, o3, o4, ()), ()), ((rt, ky, du, se, ()), ()), oms, ms, ()))) ?_ ?_
    · refine ens_call (c18 2 d4 hd4 (by omega) (by omega)) ?_
      rintro ⟨⟨o, ⟨⟩⟩, ⟨⟨d5, ⟨⟩⟩, ⟨⟩⟩⟩ hd5
      dsimp only at hd5 ⊢
      refine ens_bif (fun _ => ?_) (fun _ => ?_)
      · refine ens_call (c20 2 d5 hd5 (by omega)) ?_
        rintro ⟨⟨w2, ⟨⟩⟩, ⟨⟨d6, ⟨⟩⟩, ⟨⟩⟩⟩ ⟨hd6, _, _⟩
        exact ens_some ⟨d6, (-1, 0, [], 0, 0, _, false, ()), (pa, po, ks, wa, ir, rp, co, ()), hd6, ⟨⟨Nat.zero_le _, fun m hm => by cases hm⟩, Nat.zero_le _, fun k hk => by cases hk⟩, hz _ _ _ _ _, rfl⟩
      · exact ens_some ⟨d5, (pa, po, ks, _, ir, rp, co, ()), (pa, po, ks, wa, ir, rp, co, ()), hd5, hz _ _ _ _ _, hz _ _ _ _ _, rfl⟩
    · rintro _ ⟨d5, ⟨A1, A2, A3, A4, A5, A6, A7, ⟨⟩⟩, ⟨B1, B2, B3, B4, B5, B6, B7, ⟨⟩⟩, hd5, hA, hB, rfl⟩
      dsimp only
      refine ens_call (loop26 after labels hlb now x (A1, A2, A3, A4, A5, A6, A7, ()) (B1, B2, B3, B4, B5, B6, B7, ()) hA hB _ _ raw (vg_sz hg) (gsz_of hos) hgr d5 hd5) ?_
      rintro _ rfl
      have s1 := same_g (x, bs [107], [], -1, -1, ()) (Nat.zero_le _) (fun m hm => by cases hm)
      simp only [m15, m33, s1, sane23, sumE, sS]
      exact ens_some rfl

theorem law6 : ∀ x, Abs.InBs 1048576 [.row (.int .i64), .cons (.int .i64) (.cons .str (.cons (.row (.cons .str (.cons (.row (.cons .str (.cons .str .unit))) (.cons (.int .i64) (.cons (.int .i64) (.cons .bool (.cons .bool .unit))))))) (.cons (.int .i64) (.cons (.int .i64) .unit)))), .row (.cons .str (.cons .str .unit)), .int .i64, .int .i64] x → m6 (x, ()) = some ((true, ()), ()) := by
  intro x h
  obtain ⟨_, ⟨_, _, h1, _⟩, h2, _⟩ := h
  exact law6c x.1 x.2.1 x.2.2.1 x.2.2.2.1 x.2.2.2.2.1 (fun m hm => by
    obtain ⟨_, ⟨h3, h4⟩, _⟩ := h1.2 m hm
    exact ⟨Nat.le_trans h3 (by unfold big; omega), fun y hy => by
      obtain ⟨h5, h6, _⟩ := h4 y hy
      exact ⟨Nat.le_trans h5 (by unfold big; omega), Nat.le_trans h6 (by unfold big; omega)⟩⟩) (fun l hl => by
    obtain ⟨h5, h6, _⟩ := h2.2 l hl
    exact ⟨Nat.le_trans h5 (by unfold big; omega), Nat.le_trans h6 (by unfold big; omega)⟩)

end Go.Proofs.Ytcblbcpnfidndaa
