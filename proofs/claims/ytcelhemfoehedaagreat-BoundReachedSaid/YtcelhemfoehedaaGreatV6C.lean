/- Lemmas for the statement of the last text of this claim. -/
import Derived.Test.YtcelhemfoehedaaGreatPxR
import Derived.Test.YtcelhemfoehedaaGreatChecked
import Derived.Test.YtcelhemfoehedaaGreatPxQ
import Derived.ProofKit
import Derived.Test.YtcelhemfoehedaaGreatV6B
set_option linter.unusedSimpArgs false
set_option linter.unusedVariables false
namespace Go.Proofs.YtcelhemfoehedaaGreat
open Go Go.Abs Go.Bnd Go.Plain
abbrev ChT := Int × Int × Int × Int × Unit

abbrev PfT := Int × List ChT × Unit

abbrev FtT := Bool × Int × Int × Int × Unit

abbrev AtT := Int × Int × Int × Unit

def ChOK (c : ChT) : Prop := (0 ≤ c.1 ∧ c.1 ≤ 2) ∧ (0 ≤ c.2.1 ∧ c.2.1 ≤ 3600) ∧ (1 ≤ c.2.2.1 ∧ c.2.2.1 ≤ 4) ∧ (1 ≤ c.2.2.2.1 ∧ c.2.2.2.1 ≤ 120)

def PfOK (f : PfT) : Prop := (0 ≤ f.1 ∧ f.1 ≤ 3) ∧ f.2.1.length ≤ 3 ∧ ∀ c ∈ f.2.1, ChOK c

theorem c110 (a b c : Int) : m110 ((a, b, c, ()), ()) = some ((decide (b ≤ a ∧ a ≤ c), ()), ()) := by
  unfold m110
  by_cases h1 : a ≥ b <;> by_cases h2 : a ≤ c <;> simp [h1, h2]

theorem c108 (a b c : Int) : m108 ((a, b, c, ()), ()) = some ((decide (b ≤ a ∧ a ≤ c), ()), ()) := by
  unfold m108
  by_cases h1 : a ≥ b <;> by_cases h2 : a ≤ c <;> simp [h1, h2]

theorem valid62 {c : ChT} (h : ChOK c) : m62 ((c, ()), ()) = some ((true, ()), ()) := by
  obtain ⟨k, l, t, p, ⟨⟩⟩ := c
  obtain ⟨h1, h2, h3, h4⟩ := h
  dsimp only at h1 h2 h3 h4
  have d1 : decide (0 ≤ k ∧ k ≤ 2) = true := decide_eq_true h1
  have d2 : decide (0 ≤ l ∧ l ≤ 3600) = true := decide_eq_true h2
  have d3 : decide (1 ≤ t ∧ t ≤ 6) = true := decide_eq_true (by omega)
  have d4 : decide (1 ≤ p ∧ p ≤ 3600) = true := decide_eq_true (by omega)
  unfold m62
  simp only [c56, d1, d2, d3, d4, sumE, sS]

theorem valid97 {c : ChT} (h : ChOK c) : m97 ((c, ()), ()) = some ((true, ()), ()) := by
  obtain ⟨k, l, t, p, ⟨⟩⟩ := c
  obtain ⟨h1, h2, h3, h4⟩ := h
  dsimp only at h1 h2 h3 h4
  have d1 : decide (0 ≤ k ∧ k ≤ 2) = true := decide_eq_true h1
  have d2 : decide (0 ≤ l ∧ l ≤ 3600) = true := decide_eq_true h2
  have d3 : decide (1 ≤ t ∧ t ≤ 6) = true := decide_eq_true (by omega)
  have d4 : decide (1 ≤ p ∧ p ≤ 3600) = true := decide_eq_true (by omega)
  unfold m97
  simp only [c110, d1, d2, d3, d4, sumE, sS]

def worst (c : ChT) : Int := (c.2.2.1 - 1) * c.2.2.2.1 + c.2.1

theorem mul_le {t p : Int} (h3 : 1 ≤ t ∧ t ≤ 4) (h4 : 1 ≤ p ∧ p ≤ 120) : 0 ≤ (t - 1) * p ∧ (t - 1) * p ≤ 360 := by
  have : t = 1 ∨ t = 2 ∨ t = 3 ∨ t = 4 := by omega
  rcases this with rfl | rfl | rfl | rfl <;> omega

theorem worst_le {c : ChT} (h : ChOK c) : 0 ≤ worst c ∧ worst c ≤ 3960 := by
  have := mul_le h.2.2.1 h.2.2.2
  have := h.2.1
  unfold worst
  omega

theorem m98_eq {c : ChT} (h : ChOK c) : m98 ((c, ()), ()) = some ((worst c, ()), ()) := by
  have q := valid97 h
  have h1 := mul_le h.2.2.1 h.2.2.2
  have h2 := h.2.1
  have h3 := h.2.2.1
  obtain ⟨k, l, t, p, ⟨⟩⟩ := c
  dsimp only at h1 h2 h3
  have w1 : w64 (t - 1) = t - 1 := w64_id (by omega) (by omega)
  have w2 : w64 ((t - 1) * p) = (t - 1) * p := w64_id (by omega) (by omega)
  have w3 : w64 ((t - 1) * p + l) = (t - 1) * p + l := w64_id (by omega) (by omega)
  unfold m98
  simp only [q, w1, w2, w3, sumE, sS]
  rfl

theorem m76_eq {f : PfT} (h : PfOK f) : m76 ((f, ()), ()) = some ((true, ()), ()) := by
  obtain ⟨h1, h2, h3⟩ := h
  have d1 : decide (0 ≤ f.1 ∧ f.1 ≤ 31) = true := decide_eq_true (by omega)
  have d2 : decide ((f.2.1.length : Int) > 4) = false := decide_eq_false (by omega)
  have hl : loopT l76_0_4 ((((0 : Nat) : Int), ()), ((f, ()), ())) = some (.inr ((), ())) := loop_thru f.2.1 (fun i => (((i : Int), ()), ((f, ()), ()))) _ (fun i e he hi => by
    have q := valid62 (h3 e (List.mem_of_getElem? he))
    have w := w64_nat (i := i) (by omega)
    simp only [l76_0_4, lt_t hi, rowAt_G, rowG_nat he, q, w, sumE, sS]) (by simp only [l76_0_4, lt_f, sumE, sS])
  unfold m76
  simp only [c56, d1, d2, sumE, sS]
  refine bind_of _ hl ?_
  simp only [sumE, sS]

theorem m68_eq {f : PfT} (h : PfOK f) : m68 ((f, ()), ()) = some ((true, ()), ()) := by
  obtain ⟨h1, h2, h3⟩ := h
  have d1 : decide (0 ≤ f.1 ∧ f.1 ≤ 31) = true := decide_eq_true (by omega)
  have d2 : decide ((f.2.1.length : Int) ≤ 4) = true := decide_eq_true (by omega)
  have hl : loopT l68_2_2 ((((0 : Nat) : Int), f.2.1, (f.2.1.length : Int), ()), ()) = some (.inr ((), ())) := loop_thru f.2.1 (fun i => (((i : Int), f.2.1, (f.2.1.length : Int), ()), ())) _ (fun i e he hi => by
    have q := valid97 (h3 e (List.mem_of_getElem? he))
    have w := w64_nat (i := i) (by omega)
    simp only [l68_2_2, m96, lt_t hi, rowAt_G, rowG_nat he, q, w, sumE, sS]) (by simp only [l68_2_2, lt_f, sumE, sS])
  have q94 : m94 ((f.1, ()), ()) = some ((true, ()), ()) := by unfold m94; simp only [c108, d1, sumE, sS]
  have hl' : loopT l68_2_2 ((0, f.2.1, (f.2.1.length : Int), ()), ()) = some (.inr ((), ())) := hl
  unfold m68
  simp only [q94, d2, hl', sumE, sS]

/-- The bound of a profile. -/
def bd (f : PfT) : Int := f.2.1.foldl (fun n c => max n (worst c)) 0

theorem fold_ge (l : List ChT) : ∀ n : Int, n ≤ l.foldl (fun n c => max n (worst c)) n := by
  induction l with
  | nil => intro n; exact Int.le_refl _
  | cons c r ih => intro n; exact Int.le_trans (Int.le_max_left _ _) (ih _)

theorem fold_mem (l : List ChT) : ∀ n : Int, ∀ c ∈ l, worst c ≤ l.foldl (fun n c => max n (worst c)) n := by
  induction l with
  | nil => intro n c h; cases h
  | cons x r ih =>
    intro n c h
    rcases List.mem_cons.1 h with rfl | h
    · exact Int.le_trans (Int.le_max_right _ _) (fold_ge r _)
    · exact ih _ c h

theorem fold_le (l : List ChT) (h : ∀ c ∈ l, ChOK c) : ∀ n : Int, n ≤ 3960 → l.foldl (fun n c => max n (worst c)) n ≤ 3960 := by
  induction l with
  | nil => intro n hn; exact hn
  | cons x r ih =>
    intro n hn
    have := (worst_le (h x (List.mem_cons_self ..))).2
    exact ih (fun c hc => h c (List.mem_cons_of_mem _ hc)) _ (by show max n (worst x) ≤ 3960; omega)

theorem bd_le {f : PfT} (h : PfOK f) : 0 ≤ bd f ∧ bd f ≤ 3960 := ⟨fold_ge _ _, fold_le _ h.2.2 _ (by omega)⟩

theorem max_if' (a b : Int) : (if (b : Int) > a then b else a) = max a b := by split <;> omega

theorem m69_eq {f : PfT} (h : PfOK f) : m69 ((f, ()), ()) = some ((bd f, ()), ()) := by
  have hl := loop_list0 (f := l69_0_3) f.2.1 (fun i (s : Int) => (((i : Int), s, f.2.1, (f.2.1.length : Int), ()), ((f, ()), ()))) (fun _ s e => .inl (max s (worst e))) (fun s => ((s, ()), ())) (fun i e s he hi => by
    have q := m98_eq (h.2.2 e (List.mem_of_getElem? he))
    have hn := h.2.1
    have w := w64_nat (i := i) (by omega)
    simp only [l69_0_3, lt_t hi, rowAt_G, rowG_nat he, m68_eq h, q, w, max_if', sumE, sS]) (fun s => by simp only [l69_0_3, lt_f, sumE, sS]) 0
  rw [runL_fold] at hl
  unfold m69
  refine bind_of _ hl ?_
  rfl

/-- Profiles: each is right, each is another person's. -/
structure PsOK (l : List PfT) : Prop where
  len : l.length ≤ 4
  ok : ∀ f ∈ l, PfOK f
  up : l.Pairwise (fun a b => a.1 < b.1)

theorem PsOK.one {l : List PfT} (h : PsOK l) {f g : PfT} (hf : f ∈ l) (hg : g ∈ l) (e : f.1 = g.1) : f = g := by
  obtain ⟨i, hi, rfl⟩ := List.mem_iff_getElem.1 hf
  obtain ⟨j, hj, rfl⟩ := List.mem_iff_getElem.1 hg
  have := List.pairwise_iff_getElem.1 h.up
  rcases Nat.lt_trichotomy i j with hij | hij | hij
  · have := this i j hi hj hij; omega
  · subst hij; rfl
  · have := this j i hj hi hij; omega

theorem m29_eq {l : List PfT} (h : PsOK l) (k : Int) : Ens (m29 ((l, k, ()), ())) (fun r => (∀ f ∈ l, f.1 = k → r = ((bd f, true, ()), ())) ∧ (r.1.2.1 = true → 0 ≤ r.1.1 ∧ r.1.1 ≤ 3960)) := by
  have key : Ens (loopT l29_0_2 ((0, k, l, (l.length : Int), ()), ())) (fun r => match r with | .inl r => (∃ f ∈ l, f.1 = k ∧ r = ((bd f, true, ()), ())) | .inr _ => ∀ f ∈ l, f.1 ≠ k) := by
    refine ens_loop (fun v => ∃ i : Nat, i ≤ l.length ∧ (∀ f ∈ l.take i, f.1 ≠ k) ∧ v = (((i : Int), k, l, (l.length : Int), ()), ())) (fun v => (l.length - v.1.1).toNat) ?_ _ ⟨0, Nat.zero_le _, fun f hf => by simp at hf, rfl⟩
    rintro _ ⟨i, hi, hne, rfl⟩
    unfold l29_0_2
    dsimp only
    refine ens_ite (fun hlt => ?_) (fun hge => ?_)
    · have hi' : i < l.length := by omega
      obtain ⟨e, he⟩ := getD_some hi'
      have hm := List.mem_of_getElem? he
      have hf := h.ok e hm
      have hn := h.len
      have w := w64_nat (i := i) (by omega)
      simp only [rowAt_G, rowG_nat he, m68_eq hf, m69_eq hf, w, sumE, sS]
      by_cases hk : e.1 = k
      · have hk' : (e.1 == k) = true := beq_iff_eq.2 hk
        simp only [hk', m69_eq hf, sumE, sS]
        refine ens_some ?_
        exact ⟨e, hm, hk, rfl⟩
      · have hk' : (e.1 == k) = false := beq_false_of_ne hk
        simp only [hk', w, sumE, sS]
        refine ens_some ⟨⟨i + 1, hi', fun f hf => ?_, rfl⟩, by dsimp only; omega⟩
        rw [List.take_add_one, he] at hf
        rcases List.mem_append.1 hf with hf | hf
        · exact hne f hf
        · simp only [Option.toList_some, List.mem_singleton] at hf; subst hf; exact hk
    · refine ens_some ?_
      have : i = l.length := by omega
      subst this
      rw [List.take_length] at hne
      exact hne
  unfold m29
  refine ens_call key ?_
  rintro (r | r) hr
  · obtain ⟨f, hf, hk, rfl⟩ := hr
    refine ens_some ⟨fun g hg hgk => ?_, fun _ => bd_le (h.ok f hf)⟩
    rw [h.one hf hg (hk.trans hgk.symm)]
  · exact ens_some ⟨fun g hg hgk => absurd hgk (hr g hg), fun e => by cases e⟩

end Go.Proofs.YtcelhemfoehedaaGreat

namespace Go.Proofs.YtcelhemfoehedaaGreat
open Go Go.Abs Go.Bnd Go.Plain
theorem mem_take_succ {A : Type} {l : List A} {i : Nat} {e x : A} (he : l[i]? = some e) (h : x ∈ l.take (i + 1)) : x ∈ l.take i ∨ x = e := by
  rw [List.take_add_one, he] at h
  rcases List.mem_append.1 h with h | h
  · exact .inl h
  · simp only [Option.toList_some, List.mem_singleton] at h; exact .inr h

theorem SL_at {nx : Int} : ∀ {l : List StT} {at' k : Int}, SL nx at' k l → ∀ s ∈ l, at' ≤ s.2.1 ∧ s.2.1 ≤ lastAt at' l
  | [], _, _, _, s, hs => by cases hs
  | x :: r, at', k, h, s, hs => by
    rcases List.mem_cons.1 hs with rfl | hs
    · exact ⟨h.1, lastAt_ge (l := r) h.2.2.2⟩
    · have := SL_at (l := r) h.2.2.2 s hs
      exact ⟨Int.le_trans h.1 this.1, this.2⟩

theorem loop25 {l : List PfT} (hl : PsOK l) (s : StT) (hs : 0 ≤ s.2.1 ∧ s.2.1 ≤ 9000000000) (hn : s.2.2.1.length ≤ 1000) (sts : List StT) (nst si last : Int) :
    Ens (loopT l25_0_8 ((0, last, l, s.2.2.1, sts, nst, si, (s.2.2.1.length : Int), ()), ((s, ()), ()))) (fun r => ∃ m : Int, r = ((m, l, sts, nst, si, ()), ()) ∧ last ≤ m ∧ ∀ k ∈ s.2.2.1, ∀ f ∈ l, f.1 = k → s.2.1 + bd f ≤ m) := by
  refine ens_loop (fun v => ∃ (i : Nat) (m : Int), i ≤ s.2.2.1.length ∧ last ≤ m ∧ (∀ k ∈ s.2.2.1.take i, ∀ f ∈ l, f.1 = k → s.2.1 + bd f ≤ m) ∧ v = (((i : Int), m, l, s.2.2.1, sts, nst, si, (s.2.2.1.length : Int), ()), ((s, ()), ()))) (fun v => (s.2.2.1.length - v.1.1).toNat) ?_ _ ⟨0, last, Nat.zero_le _, Int.le_refl _, fun k hk => by simp at hk, rfl⟩
  rintro _ ⟨i, m, hi, hm, hk, rfl⟩
  unfold l25_0_8
  dsimp only
  refine ens_ite (fun hlt => ?_) (fun hge => ?_)
  · have hi' : i < s.2.2.1.length := by omega
    obtain ⟨e, he⟩ := getD_some hi'
    have w := w64_nat (i := i) (by omega)
    simp only [rowAt_G, rowG_nat he]
    obtain ⟨⟨⟨n, o, ⟨⟩⟩, ⟨⟩⟩, q, q1, q2⟩ := m29_eq hl e
    dsimp only at q1 q2
    simp only [q, sS]
    cases o
    · simp only [w, sS]
      refine ens_some ⟨⟨i + 1, m, hi', hm, fun k hk' f hf hfk => ?_, rfl⟩, by dsimp only; omega⟩
      rcases mem_take_succ he hk' with h | rfl
      · exact hk k h f hf hfk
      · have := q1 f hf hfk
        cases this
    · have hb := q2 rfl
      have q52 := m52_two (a := s.2.1) (b := n) (by omega) (by omega)
      simp only [q52, max_if', w, sS]
      refine ens_some ⟨⟨i + 1, max m (s.2.1 + n), hi', by omega, fun k hk' f hf hfk => ?_, rfl⟩, by dsimp only; omega⟩
      rcases mem_take_succ he hk' with h | rfl
      · have := hk k h f hf hfk; omega
      · have := q1 f hf hfk
        injection this with this _
        injection this with this _
        subst this
        omega
  · have : i = s.2.2.1.length := by omega
    subst this
    rw [List.take_length] at hk
    exact ens_some ⟨m, rfl, hm, hk⟩

theorem m25_spec {b : BookT} {l : List PfT} (hl : PsOK l) (hbl : b.2.1.length ≤ 1000) {pol : Pol} {n : Nat} {p : PgT} (h : PG b.2.1 pol n p) :
    Ens (m25 ((b, l, p, ()), ())) (fun r => ∀ s ∈ pSts p, ∀ k ∈ s.2.2.1, ∀ f ∈ l, f.1 = k → s.2.1 + bd f ≤ r.1.1) := by
  have hs : ∀ s ∈ pSts p, 0 ≤ s.2.1 ∧ s.2.1 ≤ 9000000000 ∧ s.2.2.1.length ≤ 1000 := fun s hs => by
    have a := SL_at h.sts s hs
    have b := h.start; have c := h.stl; have d := h.last
    have e := set_len (SL_sets h.sts s hs)
    omega
  have hf := h.few
  have key : Ens (loopT l25_0_5 ((0, l, 0, pSts p, ((pSts p).length : Int), ()), ())) (fun r => ∀ s ∈ pSts p, ∀ k ∈ s.2.2.1, ∀ f ∈ l, f.1 = k → s.2.1 + bd f ≤ r.1.1) := by
    refine ens_loop (fun v => ∃ (i : Nat) (m : Int), i ≤ (pSts p).length ∧ (∀ s ∈ (pSts p).take i, ∀ k ∈ s.2.2.1, ∀ f ∈ l, f.1 = k → s.2.1 + bd f ≤ m) ∧ v = ((m, l, (i : Int), pSts p, ((pSts p).length : Int), ()), ())) (fun v => ((pSts p).length - v.1.2.2.1).toNat) ?_ _ ⟨0, 0, Nat.zero_le _, fun s hs => by simp at hs, rfl⟩
    rintro _ ⟨i, m, hi, hk, rfl⟩
    unfold l25_0_5
    dsimp only
    refine ens_ite (fun hlt => ?_) (fun hge => ?_)
    · have hi' : i < (pSts p).length := by omega
      obtain ⟨e, he⟩ := getD_some hi'
      have w := w64_nat (i := i) (by omega)
      have he2 := hs e (List.mem_of_getElem? he)
      simp only [rowAt_G, rowG_nat he]
      refine ens_call (loop25 hl e ⟨he2.1, he2.2.1⟩ he2.2.2 (pSts p) _ _ m) ?_
      rintro _ ⟨m2, rfl, hm2, hk2⟩
      dsimp only
      simp only [w]
      refine ens_some ⟨⟨i + 1, m2, hi', fun s hs' => ?_, rfl⟩, by dsimp only; omega⟩
      rcases mem_take_succ he hs' with h | rfl
      · exact fun k hk' f hf hfk => Int.le_trans (hk s h k hk' f hf hfk) hm2
      · exact hk2
    · have : i = (pSts p).length := by omega
      subst this
      rw [List.take_length] at hk
      exact ens_some hk
  unfold m25
  simp only [check60 h hbl, sS]
  refine ens_call key ?_
  intro r hr
  exact ens_some hr

/-! ### The dice -/
theorem c70 (d : Dice) (hd : DOK d) : Ens (m70 ((), ((d, ()), ()))) (fun r => DOK r.2.1.1 ∧ ChOK r.2.2.1.1) := by
  have hw1 : ∀ x : Int, 0 ≤ x → x < 9 → w64 (1 + x) = 1 + x := fun x h0 h1 => w64_id (by omega) (by omega)
  unfold m70
  dsimp only
  repeat' first | (rw [hw1 _ (by omega) (by omega)]) | (with_reducible refine ens_tail (c19 _ _ (by assumption) (by omega)) ?_; rintro ⟨⟨_, ⟨⟩⟩, ⟨⟨_, ⟨⟩⟩, ⟨⟩⟩⟩ ⟨hdd, hlo, hhi⟩; dsimp only at hdd hlo hhi; try dsimp only) | (with_reducible refine ens_tail (c22 _ _ (by assumption) (by decide) (by decide)) ?_; rintro ⟨⟨_, ⟨⟩⟩, ⟨⟨_, ⟨⟩⟩, ⟨⟩⟩⟩ ⟨hdd, hm⟩; dsimp only at hdd; simp only [List.mem_cons, List.not_mem_nil, or_false] at hm; try dsimp only) | with_reducible exact True.intro | (with_reducible refine ens_at (by omega) ?_; intro _ _ _; try dsimp only) | with_reducible refine ens_bind ?_ | with_reducible refine ens_t ?_ | with_reducible refine ens_f ?_ | with_reducible refine ens_nt ?_ | with_reducible refine ens_nf ?_ | (with_reducible refine ens_need ?_ ?_; first | exact And.intro (by omega) (by omega) | omega | (simp only [List.length_append, List.length_cons, List.length_nil]; omega)) | (with_reducible refine ens_ite ?_ ?_ <;> intro _) | (with_reducible refine ens_bif ?_ ?_ <;> intro _) | (with_reducible refine ens_some ?_; try dsimp only) | (with_reducible refine ens_row (by omega) (by omega) ?_; intro _ _ _; try dsimp only) | (with_reducible refine ens_sum ?_ ?_ <;> (intro _ e; subst e; try dsimp only))
  all_goals refine ⟨by assumption, ⟨?_, ?_⟩, ⟨?_, ?_⟩, ⟨?_, ?_⟩, ⟨?_, ?_⟩⟩
  all_goals (dsimp only; omega)

theorem c30 (k : Int) (d : Dice) (hd : DOK d) : Ens (m30 ((k, ()), ((d, ()), ()))) (fun r => DOK r.2.1.1 ∧ r.2.2.1.1.1 = k ∧ r.2.2.2.1.length ≤ 3 ∧ ∀ c ∈ r.2.2.2.1, ChOK c) := by
  unfold m30
  dsimp only
  refine ens_call (c19 _ _ hd (by omega)) ?_
  rintro ⟨⟨n, ⟨⟩⟩, ⟨⟨d1, ⟨⟩⟩, ⟨⟩⟩⟩ ⟨hd1, n0, n1⟩
  dsimp only at hd1 n0 n1 ⊢
  have n1 := n1 (by omega)
  refine ens_call (R := fun r => DOK r.2.1.1 ∧ r.2.2.2.1.1.1 = k ∧ r.2.2.2.2.1.length ≤ 3 ∧ ∀ c ∈ r.2.2.2.2.1, ChOK c) ?_ ?_
  · refine ens_loop (fun v => DOK v.2.1.1 ∧ v.2.2.1.1.1 = k ∧ 0 ≤ v.1.1 ∧ v.1.1 + (v.2.2.2.2.1.length : Int) ≤ 3 ∧ ∀ c ∈ v.2.2.2.2.1, ChOK c) (fun v => v.1.1.toNat) ?_ _ ⟨hd1, rfl, n0, by simp only [List.length_nil]; omega, fun c hc => by cases hc⟩
    rintro ⟨⟨j, ⟨⟩⟩, ⟨⟨d, ⟨⟩⟩, ⟨⟨a, ⟨⟩⟩, ⟨⟩⟩, ⟨⟨b, ⟨⟩⟩, ⟨⟩⟩, cs, ⟨⟩⟩⟩ ⟨hd, ha, h0, h1, h2⟩
    dsimp only at hd ha h0 h1 h2
    subst ha
    unfold l30_0_3
    dsimp only
    refine ens_ite (fun hj => ?_) (fun hj => ens_some ⟨hd, rfl, by dsimp only; omega, h2⟩)
    have hw := w64_dn h0 (by omega)
    refine ens_call (c70 _ hd) ?_
    rintro ⟨⟨⟩, ⟨⟨d2, ⟨⟩⟩, ⟨c, ⟨⟩⟩, ⟨⟩⟩⟩ ⟨hd2, hc⟩
    dsimp only at hd2 hc ⊢
    refine ens_need (by rw [List.length_singleton]; omega) ?_
    rw [hw]
    refine ens_some ⟨⟨hd2, rfl, by dsimp only; omega, ?_, fun x hx => ?_⟩, by dsimp only; omega⟩
    · dsimp only; rw [List.length_append, List.length_singleton]; omega
    · rcases List.mem_append.1 hx with hx | hx
      · exact h2 x hx
      · simp only [List.mem_singleton] at hx; subst hx; exact hc
  · rintro ⟨⟨⟩, ⟨⟨d2, ⟨⟩⟩, _, ⟨⟨a, ⟨⟩⟩, ⟨⟩⟩, cs, ⟨⟩⟩⟩ ⟨hd2, ha, h1, h2⟩
    exact ens_some ⟨hd2, ha, h1, h2⟩

theorem c24 (d : Dice) (hd : DOK d) : Ens (m24 ((), ((d, ()), ()))) (fun r => DOK r.2.1.1 ∧ PsOK r.2.2.1) := by
  unfold m24
  dsimp only
  refine ens_call (R := fun r => DOK r.2.1.1 ∧ PsOK r.2.2.1) ?_ ?_
  · refine ens_loop (fun v => DOK v.2.1.1 ∧ 0 ≤ v.1.1 ∧ v.1.1 ≤ 4 ∧ (v.2.2.1.length : Int) ≤ v.1.1 ∧ (∀ f ∈ v.2.2.1, f.1 < v.1.1) ∧ PsOK v.2.2.1) (fun v => (4 - v.1.1).toNat) ?_ _ ⟨hd, Int.le_refl _, by dsimp only; omega, Int.le_refl _, fun f hf => (by cases hf), ⟨Nat.zero_le _, fun f hf => (by cases hf), List.Pairwise.nil⟩⟩
    rintro ⟨⟨i, ⟨⟩⟩, ⟨⟨d, ⟨⟩⟩, l, ⟨⟩⟩⟩ ⟨hd, h0, h1, h2, h3, h4⟩
    dsimp only at hd h0 h1 h2 h3 h4
    unfold l24_0_3
    dsimp only
    refine ens_ite (fun hi => ?_) (fun hi => ens_some ⟨hd, h4⟩)
    have hw : w64 (i + 1) = i + 1 := w64_up h0 (by omega)
    refine ens_bind ?_
    refine ens_tail (R := fun v => v.1.1 = i ∧ DOK v.2.1.1 ∧ (v.2.2.1.length : Int) ≤ i + 1 ∧ (∀ f ∈ v.2.2.1, f.1 < i + 1) ∧ PsOK v.2.2.1) ?_ ?_
    · refine ens_call (c19 _ _ hd (by omega)) ?_
      rintro ⟨⟨n, ⟨⟩⟩, ⟨⟨d1, ⟨⟩⟩, ⟨⟩⟩⟩ ⟨hd1, n0, n1⟩
      dsimp only at hd1 n0 n1 ⊢
      refine ens_ite (fun _ => ?_) (fun _ => ens_some ⟨rfl, hd1, by dsimp only; omega, fun f hf => by have := h3 f hf; omega, h4⟩)
      refine ens_call (c30 i _ hd1) ?_
      rintro ⟨⟨⟩, ⟨⟨d2, ⟨⟩⟩, ⟨⟨a, ⟨⟩⟩, ⟨⟩⟩, cs, ⟨⟩⟩⟩ ⟨hd2, ha, hcl, hc⟩
      dsimp only at hd2 ha hcl hc ⊢
      subst ha
      refine ens_need (by rw [List.length_singleton]; omega) ?_
      refine ens_some ⟨rfl, hd2, by dsimp only; rw [List.length_append, List.length_singleton]; omega, fun f hf => ?_, ⟨by dsimp only; rw [List.length_append, List.length_singleton]; omega, fun f hf => ?_, ?_⟩⟩
      · rcases List.mem_append.1 hf with hf | hf
        · have := h3 f hf; omega
        · simp only [List.mem_singleton] at hf; subst hf; dsimp only; omega
      · rcases List.mem_append.1 hf with hf | hf
        · exact h4.ok f hf
        · simp only [List.mem_singleton] at hf; subst hf; exact ⟨by dsimp only; omega, hcl, hc⟩
      · refine List.pairwise_append.2 ⟨h4.up, List.pairwise_singleton _ _, fun x hx y hy => ?_⟩
        simp only [List.mem_singleton] at hy; subst hy
        exact h3 x hx
    · rintro ⟨⟨j, ⟨⟩⟩, ⟨⟨d2, ⟨⟩⟩, l2, ⟨⟩⟩⟩ ⟨e, hd2, g1, g2, g3⟩
      dsimp only at e g1 g2 ⊢
      subst e
      rw [hw]
      exact ens_some ⟨⟨hd2, by dsimp only; omega, by dsimp only; omega, g1, g2, g3⟩, by dsimp only; omega⟩
  · intro r hr
    exact ens_some hr

theorem c61 (d : Dice) (hd : DOK d) : Ens (m61 ((), ((d, ()), ()))) (fun r => DOK r.2.1.1) := by
  unfold m61
  dsimp only
  repeat' first | (with_reducible refine ens_tail (c19 _ _ (by assumption) (by omega)) ?_; rintro ⟨⟨_, ⟨⟩⟩, ⟨⟨_, ⟨⟩⟩, ⟨⟩⟩⟩ ⟨hdd, hlo, hhi⟩; dsimp only at hdd hlo hhi; try dsimp only) | (with_reducible refine ens_tail (c22 _ _ (by assumption) (by decide) (by decide)) ?_; rintro ⟨⟨_, ⟨⟩⟩, ⟨⟨_, ⟨⟩⟩, ⟨⟩⟩⟩ ⟨hdd, hm⟩; dsimp only at hdd; simp only [List.mem_cons, List.not_mem_nil, or_false] at hm; try dsimp only) | with_reducible exact True.intro | (with_reducible refine ens_at (by omega) ?_; intro _ _ _; try dsimp only) | with_reducible refine ens_bind ?_ | with_reducible refine ens_t ?_ | with_reducible refine ens_f ?_ | with_reducible refine ens_nt ?_ | with_reducible refine ens_nf ?_ | (with_reducible refine ens_need ?_ ?_; first | exact And.intro (by omega) (by omega) | omega | (simp only [List.length_append, List.length_cons, List.length_nil]; omega)) | (with_reducible refine ens_ite ?_ ?_ <;> intro _) | (with_reducible refine ens_bif ?_ ?_ <;> intro _) | (with_reducible refine ens_some ?_; try dsimp only) | (with_reducible refine ens_row (by omega) (by omega) ?_; intro _ _ _; try dsimp only) | (with_reducible refine ens_sum ?_ ?_ <;> (intro _ e; subst e; try dsimp only))
  all_goals assumption

theorem c26 (d : Dice) (hd : DOK d) : Ens (m26 ((), ((d, ()), ()))) (fun r => DOK r.2.1.1 ∧ r.2.2.1.length ≤ 5) := by
  unfold m26
  dsimp only
  refine ens_call (c19 _ _ hd (by omega)) ?_
  rintro ⟨⟨n, ⟨⟩⟩, ⟨⟨d1, ⟨⟩⟩, ⟨⟩⟩⟩ ⟨hd1, n0, n1⟩
  dsimp only at hd1 n0 n1 ⊢
  have n1 := n1 (by omega)
  refine ens_call (R := fun r => DOK r.2.1.1 ∧ r.2.2.1.length ≤ 5) ?_ (fun r hr => ens_some hr)
  refine ens_loop (fun v => DOK v.2.1.1 ∧ 0 ≤ v.1.1 ∧ v.1.1 + (v.2.2.1.length : Int) ≤ 5) (fun v => v.1.1.toNat) ?_ _ ⟨hd1, n0, by simp only [List.length_nil]; omega⟩
  rintro ⟨⟨j, ⟨⟩⟩, ⟨⟨d, ⟨⟩⟩, l, ⟨⟩⟩⟩ ⟨hd, h0, h1⟩
  dsimp only at hd h0 h1
  unfold l26_0_3
  dsimp only
  refine ens_ite (fun hj => ?_) (fun hj => ens_some ⟨hd, by dsimp only; omega⟩)
  have hw := w64_dn h0 (by omega)
  refine ens_call (c61 _ hd) ?_
  rintro ⟨⟨⟩, ⟨⟨d2, ⟨⟩⟩, ⟨f, ⟨⟩⟩, ⟨⟩⟩⟩ hd2
  dsimp only at hd2 ⊢
  refine ens_need (by rw [List.length_singleton]; omega) ?_
  rw [hw]
  exact ens_some ⟨⟨hd2, by dsimp only; omega, by dsimp only; rw [List.length_append, List.length_singleton]; omega⟩, by dsimp only; omega⟩

end Go.Proofs.YtcelhemfoehedaaGreat

namespace Go.Proofs.YtcelhemfoehedaaGreat
open Go Go.Abs Go.Bnd Go.Plain
def FOK (f : FtT) : Prop := (0 ≤ f.2.1 ∧ f.2.1 ≤ 86400) ∧ (0 ≤ f.2.2.1 ∧ f.2.2.1 ≤ 86400) ∧ (-1 ≤ f.2.2.2.1 ∧ f.2.2.2.1 ≤ 86400)

instance (f : FtT) : Decidable (FOK f) := inferInstanceAs (Decidable (_ ∧ _ ∧ _))

def lostF : FtT := (true, 0, 0, 0, ())

def fateF (l : List FtT) (i : Int) : FtT := if 0 ≤ i then match l[i.toNat]? with | some f => if FOK f then f else lostF | none => lostF else lostF

theorem fateF_ok (l : List FtT) (i : Int) : FOK (fateF l i) := by
  have hL : FOK lostF := by decide
  unfold fateF
  split
  · split
    · split
      · assumption
      · exact hL
    · exact hL
  · exact hL

theorem m92_eq (f : FtT) : m92 ((f, ()), ()) = some ((decide (FOK f), ()), ()) := by
  obtain ⟨a, b, c, d, ⟨⟩⟩ := f
  unfold m92 FOK
  by_cases h1 : 0 ≤ b ∧ b ≤ 86400 <;> by_cases h2 : 0 ≤ c ∧ c ≤ 86400 <;> by_cases h3 : -1 ≤ d ∧ d ≤ 86400 <;> simp [c56, h1, h2, h3]

theorem m63_eq (l : List FtT) (i : Int) : m63 ((l, i, ()), ()) = some ((), ((fateF l i, ()), ())) := by
  unfold m63 fateF
  by_cases h0 : i < 0
  · have h0' : ¬ 0 ≤ i := by omega
    simp only [h0, h0', if_false, sS]
    rfl
  · have h0' : 0 ≤ i := by omega
    by_cases h1 : i ≥ (l.length : Int)
    · have : l[i.toNat]? = none := List.getElem?_eq_none (by omega)
      simp only [h0, h0', h1, this, if_true, sS]
      rfl
    · obtain ⟨e, he⟩ := getD_some (l := l) (i := i.toNat) (by omega)
      by_cases hf : FOK e
      · simp only [h0, h0', h1, rowAt_G, rowG_int h0' he, m92_eq, hf, he, if_true, sS]
      · simp only [h0, h0', h1, rowAt_G, rowG_int h0' he, m92_eq, hf, he, if_true, if_false, sS]
        rfl

theorem c27 {c : ChT} (hc : ChOK c) (fs : List FtT) : Ens (m27 ((c, fs, ()), ())) (fun r => r.1.1 = true → ∃ i : Int, 0 ≤ i ∧ i < c.2.2.1 ∧ (fateF fs i).1 = false ∧ (fateF fs i).2.1 ≤ c.2.1) := by
  have h3 := hc.2.2.1
  have key : Ens (loopT l27_0_4 ((0, fs, ()), ((c, ()), ()))) (fun r => match r with | .inl r => r.1.1 = true ∧ ∃ i : Int, 0 ≤ i ∧ i < c.2.2.1 ∧ (fateF fs i).1 = false ∧ (fateF fs i).2.1 ≤ c.2.1 | .inr _ => True) := by
    refine ens_loop (fun v => ∃ i : Int, 0 ≤ i ∧ v = ((i, fs, ()), ((c, ()), ()))) (fun v => (4 - v.1.1).toNat) ?_ _ ⟨0, Int.le_refl _, rfl⟩
    rintro _ ⟨i, h0, rfl⟩
    unfold l27_0_4
    dsimp only
    refine ens_ite (fun hlt => ?_) (fun hge => ?_)
    · have w : w64 (i + 1) = i + 1 := w64_up h0 (by omega)
      simp only [m63_eq, sS]
      cases hl : (fateF fs i).1
      · simp only [sS]
        refine ens_ite (fun hle => ?_) (fun hgt => ?_)
        · refine ens_some ?_
          exact ⟨rfl, i, h0, hlt, hl, hle⟩
        · rw [w]
          refine ens_some ?_
          exact ⟨⟨i + 1, by omega, rfl⟩, by dsimp only; omega⟩
      · simp only [w, sS]
        refine ens_some ?_
        exact ⟨⟨i + 1, by omega, rfl⟩, by dsimp only; omega⟩
    · refine ens_some ?_
      exact trivial
  unfold m27
  simp only [valid62 hc, sS]
  refine ens_call key ?_
  rintro (r | r) hr
  · exact ens_some fun _ => hr.2
  · exact ens_some fun e => by cases e

def arr (t : Int) (x : FtT) : List Int := if x.1 = true then [] else if x.2.2.1 ≠ 0 then [t + x.2.1, t + x.2.1 + x.2.2.1] else [t + x.2.1]

theorem arr_len (t : Int) (x : FtT) : (arr t x).length ≤ 2 := by
  unfold arr
  split
  · exact Nat.zero_le _
  · split <;> simp

theorem arr_mem {t : Int} {x : FtT} (h : x.1 = false) : t + x.2.1 ∈ arr t x := by
  unfold arr
  rw [if_neg (by rw [h]; decide)]
  split <;> simp

theorem arr_le {t : Int} {x : FtT} (ht : 0 ≤ t ∧ t ≤ 2000000) (hx : FOK x) : ∀ y ∈ arr t x, 0 ≤ y ∧ y ≤ 3000000 := by
  obtain ⟨h1, h2, h3⟩ := hx
  intro y hy
  unfold arr at hy
  split at hy
  · cases hy
  · split at hy
    · simp only [List.mem_cons, List.not_mem_nil, or_false] at hy; omega
    · simp only [List.mem_cons, List.not_mem_nil, or_false] at hy; omega

theorem m65_eq {t : Int} {x : FtT} (ht : 0 ≤ t ∧ t ≤ 2000000) (hx : FOK x) : m65 ((t, x, ()), ()) = some ((), (arr t x, ())) := by
  have hx' := m92_eq x
  rw [decide_eq_true hx] at hx'
  obtain ⟨h1, h2, h3⟩ := hx
  have d1 : decide (0 ≤ t ∧ t ≤ 8589956192) = true := decide_eq_true (by omega)
  have w1 : w64 (t + x.2.1) = t + x.2.1 := w64_id (by omega) (by omega)
  have w2 : w64 (t + x.2.1 + x.2.2.1) = t + x.2.1 + x.2.2.1 := w64_id (by omega) (by omega)
  obtain ⟨l, a, b, c, ⟨⟩⟩ := x
  dsimp only at w1 w2
  unfold m65 arr
  cases l
  · by_cases hb : b = 0
    · subst hb
      simp only [c56, d1, hx', w1, sS]
      rfl
    · have hb' : (b != 0) = true := bne_iff_ne.2 hb
      have d5 : decide (([t + a] : List Int).length + [t + a + b].length ≤ 4294967296) = true := decide_eq_true (by rw [List.length_singleton, List.length_singleton]; omega)
      simp only [c56, d1, hx', w1, w2, hb', d5, sS]
      rw [if_neg (by decide), if_pos hb]
      rfl
  · simp only [c56, d1, hx', sS]
    rfl

theorem c66 {t : Int} {x : FtT} (ht : 0 ≤ t ∧ t ≤ 2000000) (hx : FOK x) : Ens (m66 ((t, x, ()), ())) (fun r => r.2.1.length ≤ 2 ∧ ∀ y ∈ r.2.1, ∃ a ∈ arr t x, a ≤ y) := by
  have hal := arr_len t x
  have hle := arr_le ht hx
  unfold m66
  simp only [m65_eq ht hx, sS]
  refine ens_call (R := fun r => r.2.1.length ≤ 2 ∧ ∀ y ∈ r.2.1, ∃ a ∈ arr t x, a ≤ y) ?_ (fun r hr => ens_some hr)
  refine ens_loop (fun v => ∃ (i : Nat) (o : List Int), i ≤ (arr t x).length ∧ o.length = i ∧ (∀ y ∈ o, ∃ a ∈ arr t x, a ≤ y) ∧ v = (((i : Int), ()), ((x, ()), arr t x, o, ()))) (fun v => ((arr t x).length - v.1.1).toNat) ?_ _ ⟨0, [], Nat.zero_le _, rfl, fun y hy => (by cases hy), rfl⟩
  rintro _ ⟨i, o, hi, ho, hm, rfl⟩
  unfold l66_0_4
  dsimp only
  by_cases hlt : i < (arr t x).length
  · obtain ⟨e, he⟩ := getD_some hlt
    have hem := List.mem_of_getElem? he
    have he2 := hle e hem
    by_cases hr : x.2.2.2.1 ≥ 0
    · have d1 : decide ((i : Int) < ((arr t x).length : Int)) = true := decide_eq_true (by omega)
      have d2 : decide ((0 : Int) ≤ (i : Int) ∧ (i : Int) < ((arr t x).length : Int)) = true := decide_eq_true (by omega)
      have w := w64_nat (i := i) (by omega)
      simp only [d1, d2, hr, Int.toNat_natCast, he, w, sS]
      refine ens_need (by rw [List.length_singleton]; omega) ?_
      have w2 : w64 (e + x.2.2.2.1) = e + x.2.2.2.1 := by have := hx.2.2; exact w64_id (by omega) (by omega)
      rw [w2]
      refine ens_some ⟨⟨i + 1, o ++ [e + x.2.2.2.1], hlt, by rw [List.length_append, List.length_singleton, ho], fun y hy => ?_, rfl⟩, by dsimp only; omega⟩
      rcases List.mem_append.1 hy with hy | hy
      · exact hm y hy
      · simp only [List.mem_singleton] at hy; subst hy; exact ⟨e, hem, by omega⟩
    · have d1 : decide ((i : Int) < ((arr t x).length : Int)) = true := decide_eq_true (by omega)
      simp only [d1, hr, sS]
      refine ens_some ?_
      exact ⟨by dsimp only; omega, hm⟩
  · have d1 : decide ((i : Int) < ((arr t x).length : Int)) = false := decide_eq_false (by omega)
    simp only [d1, sS]
    refine ens_some ?_
    exact ⟨by dsimp only; omega, hm⟩

/-! ### Insertion -/
theorem ins_up {A : Type} (key : A → Int) {l : List A} (h : l.Pairwise (fun a b => key a ≤ key b)) {k : Nat} {x : A} (h1 : ∀ y ∈ l.take k, key y ≤ key x) (h2 : ∀ y ∈ l.drop k, key x ≤ key y) :
    (l.take k ++ x :: l.drop k).Pairwise (fun a b => key a ≤ key b) := by
  have hs : (l.take k ++ l.drop k).Pairwise (fun a b => key a ≤ key b) := by rw [List.take_append_drop]; exact h
  obtain ⟨a1, a2, a3⟩ := List.pairwise_append.1 hs
  refine List.pairwise_append.2 ⟨a1, List.pairwise_cons.2 ⟨h2, a2⟩, fun a ha b hb => ?_⟩
  rcases List.mem_cons.1 hb with rfl | hb
  · exact h1 a ha
  · exact a3 a ha b hb

theorem ins_mem {A : Type} {l : List A} {k : Nat} {x y : A} : y ∈ l.take k ++ x :: l.drop k ↔ y = x ∨ y ∈ l := by
  rw [List.mem_append, List.mem_cons]
  have : y ∈ l ↔ y ∈ l.take k ∨ y ∈ l.drop k := by rw [← List.mem_append, List.take_append_drop]
  rw [this]
  constructor
  · rintro (h | h | h)
    · exact .inr (.inl h)
    · exact .inl h
    · exact .inr (.inr h)
  · rintro (h | h | h)
    · exact .inr (.inl h)
    · exact .inl h
    · exact .inr (.inr h)

theorem ins_len {A : Type} {l : List A} {k : Nat} (h : k ≤ l.length) (x : A) : (l.take k ++ x :: l.drop k).length = l.length + 1 := by
  rw [List.length_append, List.length_cons, List.length_take, List.length_drop]; omega

theorem take_le {A : Type} (key : A → Int) {l : List A} (h : l.Pairwise (fun a b => key a ≤ key b)) {k : Nat} {e x : A} (he : l[k]? = some e) (hx : key e ≤ key x) : ∀ y ∈ l.take (k + 1), key y ≤ key x := by
  intro y hy
  obtain ⟨j, hj, rfl⟩ := List.mem_iff_getElem.1 hy
  rw [List.length_take] at hj
  rw [List.getElem_take]
  have hk : k < l.length := (List.getElem?_eq_some_iff.1 he).1
  have hek := (List.getElem?_eq_some_iff.1 he).2
  by_cases hjk : j = k
  · subst hjk; rw [hek]; exact hx
  · have := List.pairwise_iff_getElem.1 h j k (by omega) hk (by omega)
    rw [hek] at this
    omega

theorem drop_ge {A : Type} (key : A → Int) {l : List A} {k : Nat} {e x : A} (he : l[k]? = some e) (hx : key x ≤ key e) (h2 : ∀ y ∈ l.drop (k + 1), key x ≤ key y) : ∀ y ∈ l.drop k, key x ≤ key y := by
  have hk : k < l.length := (List.getElem?_eq_some_iff.1 he).1
  have hek := (List.getElem?_eq_some_iff.1 he).2
  rw [List.drop_eq_getElem_cons hk, hek]
  intro y hy
  rcases List.mem_cons.1 hy with rfl | hy
  · exact hx
  · exact h2 y hy

theorem c67 {l : List Int} (hl : l.Pairwise (· ≤ ·)) (hn : l.length ≤ 1000) (x : Int) : Ens (m67 ((l, x, ()), ())) (fun r => r.2.1.Pairwise (· ≤ ·) ∧ r.2.1.length = l.length + 1 ∧ ∀ y, y ∈ r.2.1 ↔ y = x ∨ y ∈ l) := by
  have key : Ens (loopT l67_0_2 (((l.length : Int), l, x, ()), ())) (fun r => ∃ k : Nat, k ≤ l.length ∧ (∀ y ∈ l.take k, y ≤ x) ∧ (∀ y ∈ l.drop k, x ≤ y) ∧ r = (((k : Int), l, x, ()), ())) := by
    refine ens_loop (fun v => ∃ k : Nat, k ≤ l.length ∧ (∀ y ∈ l.drop k, x ≤ y) ∧ v = (((k : Int), l, x, ()), ())) (fun v => v.1.1.toNat) ?_ _ ⟨l.length, Nat.le_refl _, fun y hy => (by rw [List.drop_length] at hy; cases hy), rfl⟩
    rintro _ ⟨k, hk, hd, rfl⟩
    unfold l67_0_2
    dsimp only
    cases k with
    | zero =>
      simp only [show decide (((0 : Nat) : Int) > 0) = false from rfl, sS]
      exact ens_some ⟨0, hk, fun y hy => by simp at hy, hd, rfl⟩
    | succ k =>
      have d1 : decide (((k + 1 : Nat) : Int) > 0) = true := decide_eq_true (by omega)
      have w : w64 (((k + 1 : Nat) : Int) - 1) = (k : Int) := by rw [w64_id (by omega) (by omega)]; omega
      obtain ⟨e, he⟩ := getD_some (l := l) (i := k) (by omega)
      simp only [d1, w, rowAt_G, rowG_nat he, sS]
      by_cases hx : x < e
      · simp only [hx, w, sS]
        exact ens_some ⟨⟨k, by omega, drop_ge id he (by show x ≤ e; omega) hd, rfl⟩, by dsimp only; omega⟩
      · simp only [hx, sS]
        exact ens_some ⟨k + 1, hk, take_le id hl he (by show e ≤ x; omega), hd, rfl⟩
  unfold m67
  refine ens_call key ?_
  rintro _ ⟨k, hk, h1, h2, rfl⟩
  dsimp only
  have ht : (l.drop k).take (l.length - k) = l.drop k := List.take_of_length_le (by rw [List.length_drop]; omega)
  simp only [Int.toNat_natCast, ht]
  refine ens_need (by omega) ?_
  refine ens_need ⟨Nat.zero_le _, hk⟩ ?_
  refine ens_need (by rw [List.length_take]; omega) ?_
  refine ens_need (by rw [List.length_take, List.length_singleton]; omega) ?_
  refine ens_need (by omega) ?_
  refine ens_need ⟨hk, Nat.le_refl _⟩ ?_
  refine ens_need (by rw [List.length_append, List.length_take, List.length_singleton, List.length_drop]; omega) ?_
  have he : l.take k ++ [x] ++ l.drop k = l.take k ++ x :: l.drop k := by rw [List.append_assoc]; rfl
  rw [he]
  exact ens_some ⟨ins_up id hl h1 h2, ins_len hk x, fun y => ins_mem⟩

end Go.Proofs.YtcelhemfoehedaaGreat

namespace Go.Proofs.YtcelhemfoehedaaGreat
open Go Go.Abs Go.Bnd Go.Plain
abbrev atK (a : AtT) : Int := a.2.2.1

theorem c93 (a b : AtT) : Ens (m93 ((a, b, ()), ())) (fun r => (r.1.1 = true → atK a ≤ atK b) ∧ (r.1.1 = false → atK b ≤ atK a)) := by
  obtain ⟨a1, a2, a3, ⟨⟩⟩ := a
  obtain ⟨b1, b2, b3, ⟨⟩⟩ := b
  unfold m93
  dsimp only [atK]
  refine ens_bif (fun h => ens_some ⟨fun h => ?_, fun h => ?_⟩) (fun h => ?_)
  · have := of_decide_eq_true h; omega
  · have := of_decide_eq_false h; omega
  · have he : a3 = b3 := by simpa using h
    refine ens_bif (fun h => ens_some ⟨fun h => ?_, fun h => ?_⟩) (fun h => ens_some ⟨fun h => ?_, fun h => ?_⟩) <;> omega

abbrev UpA (l : List AtT) : Prop := l.Pairwise (fun a b => atK a ≤ atK b)

theorem loop64 {f : PfT} {l : List AtT} (hl : UpA l) (hn : l.length ≤ 1000) (x : AtT) (c s i : Int) :
    Ens (loopT l64_0_12 (((l.length : Int), c, s, i, ()), ((f, ()), ((x, ()), (l, ()))))) (fun r => ∃ k : Nat, k ≤ l.length ∧ (∀ y ∈ l.take k, atK y ≤ atK x) ∧ (∀ y ∈ l.drop k, atK x ≤ atK y) ∧ r = ((c, s, i, (k : Int), ()), ((f, ()), ((x, ()), (l, ()))))) := by
  refine ens_loop (fun v => ∃ k : Nat, k ≤ l.length ∧ (∀ y ∈ l.drop k, atK x ≤ atK y) ∧ v = (((k : Int), c, s, i, ()), ((f, ()), ((x, ()), (l, ()))))) (fun v => v.1.1.toNat) ?_ _ ⟨l.length, Nat.le_refl _, fun y hy => (by rw [List.drop_length] at hy; cases hy), rfl⟩
  rintro _ ⟨k, hk, hd, rfl⟩
  unfold l64_0_12
  dsimp only
  cases k with
  | zero =>
    simp only [show decide (((0 : Nat) : Int) > 0) = false from rfl, sS]
    exact ens_some ⟨0, hk, fun y hy => by simp at hy, hd, rfl⟩
  | succ k =>
    have d1 : decide (((k + 1 : Nat) : Int) > 0) = true := decide_eq_true (by omega)
    have w : w64 (((k + 1 : Nat) : Int) - 1) = (k : Int) := by rw [w64_id (by omega) (by omega)]; omega
    have d2 : decide ((0 : Int) ≤ (k : Int) ∧ (k : Int) < (l.length : Int)) = true := decide_eq_true (by omega)
    obtain ⟨e, he⟩ := getD_some (l := l) (i := k) (by omega)
    obtain ⟨⟨⟨o, ⟨⟩⟩, ⟨⟩⟩, q, q1, q2⟩ := c93 x e
    dsimp only at q1 q2
    simp only [d1, w, d2, Int.toNat_natCast, he, q, sS]
    cases o
    · simp only [sS]
      exact ens_some ⟨k + 1, hk, take_le atK hl he (q2 rfl), hd, rfl⟩
    · simp only [w, sS]
      exact ens_some ⟨⟨k, by omega, drop_ge atK he (q1 rfl) hd, rfl⟩, by dsimp only; omega⟩

/-- A plan that is made up to a channel and a try. -/
structure PO (f : PfT) (s : Int) (l : List AtT) (c : Nat) (i : Int) : Prop where
  up : UpA l
  ok : ∀ a ∈ l, 0 ≤ a.1 ∧ s ≤ atK a ∧ atK a ≤ s + 480
  len : (l.length : Int) ≤ 4 * c + i
  has : ∀ (c' : Nat) (ch : ChT), f.2.1[c']? = some ch → ∀ j : Int, 0 ≤ j → j < ch.2.2.1 → (c' < c ∨ c' = c ∧ j < i) → ((c' : Int), j, s + j * ch.2.2.2.1, ()) ∈ l

theorem mul_le' {i p : Int} (h3 : 0 ≤ i ∧ i ≤ 4) (h4 : 1 ≤ p ∧ p ≤ 120) : 0 ≤ i * p ∧ i * p ≤ 480 := by
  have : i = 0 ∨ i = 1 ∨ i = 2 ∨ i = 3 ∨ i = 4 := by omega
  rcases this with rfl | rfl | rfl | rfl | rfl <;> omega

theorem splice_ins {A : Type} {l : List A} {k : Nat} (h : k ≤ l.length) (x : A) :
    (spliceL (l ++ [x]) (k + 1) ((((l ++ [x]).drop k).take ((l ++ [x]).length - k)).take ((l ++ [x]).length - (k + 1)))).set k x = l.take k ++ x :: l.drop k := by
  have e1 : ((l ++ [x]).drop k).take ((l ++ [x]).length - k) = l.drop k ++ [x] := by
    rw [List.take_of_length_le (by rw [List.length_drop]; omega), List.drop_append_of_le_length h]
  have e2 : (l.drop k ++ [x]).take ((l ++ [x]).length - (k + 1)) = l.drop k := by
    rw [List.length_append, List.length_singleton, show l.length + 1 - (k + 1) = (l.drop k).length by rw [List.length_drop]; omega]
    rw [List.take_append_of_le_length (Nat.le_refl _), List.take_length]
  rw [e1, e2]
  unfold spliceL
  have e3 : (l ++ [x]).drop (k + 1 + (l.drop k).length) = [] := by
    rw [List.length_drop]
    exact List.drop_eq_nil_of_le (by rw [List.length_append, List.length_singleton]; omega)
  rw [e3, List.append_nil]
  refine List.ext_getElem? (fun j => ?_)
  rw [List.getElem?_set, List.getElem?_append, List.getElem?_append, List.length_take, List.length_take, show (l ++ [x]).length = l.length + 1 by rw [List.length_append]; rfl]
  by_cases hj : k = j
  · subst hj
    rw [if_pos rfl, if_pos (by rw [List.length_append, List.length_take, show (l ++ [x]).length = l.length + 1 by (rw [List.length_append]; rfl), List.length_drop]; omega), if_neg (by omega), show k - min k l.length = 0 by omega]
    rfl
  · rw [if_neg hj]
    by_cases hlt : j < k
    · rw [if_pos (by omega), if_pos (by omega), List.getElem?_take, if_pos (by omega), List.getElem?_take, if_pos (by omega), List.getElem?_append, if_pos (by omega)]
    · rw [if_neg (by omega), if_neg (by omega)]
      rw [show min (k + 1) (l.length + 1) = k + 1 by omega, show min k l.length = k by omega]
      rw [show j - k = (j - (k + 1)) + 1 by omega]
      rfl

theorem loop64b {f : PfT} (hf : PfOK f) {s : Int} (hs : 0 ≤ s ∧ s ≤ 2000000) {c : Nat} {ch : ChT} (hch : f.2.1[c]? = some ch) {l : List AtT} (hl : PO f s l c 0) :
    Ens (loopT l64_0_8 ((0, (c : Int), s, ()), (l, ((f, ()), ())))) (fun r => ∃ l', PO f s l' (c + 1) 0 ∧ r = ((s, (c : Int), ()), (l', ((f, ()), ())))) := by
  have hck := hf.2.2 ch (List.mem_of_getElem? hch)
  have hcn : c < f.2.1.length := (List.getElem?_eq_some_iff.1 hch).1
  have hfn := hf.2.1
  obtain ⟨_, _, h3, h4⟩ := hck
  refine ens_loop (fun v => ∃ (i : Int) (l : List AtT), 0 ≤ i ∧ i ≤ ch.2.2.1 ∧ PO f s l c i ∧ v = ((i, (c : Int), s, ()), (l, ((f, ()), ())))) (fun v => (4 - v.1.1).toNat) ?_ _ ⟨0, l, Int.le_refl _, by omega, hl, rfl⟩
  clear hl l
  rintro _ ⟨i, l, h0, h1, hl, rfl⟩
  have hlen := hl.len
  obtain ⟨fp, chs, ⟨⟩⟩ := f
  dsimp only at hch hcn hfn
  unfold l64_0_8
  dsimp only
  simp only [rowAt_G, rowG_nat hch]
  refine ens_ite (fun hlt => ?_) (fun hge => ?_)
  · have hm := mul_le' (i := i) ⟨h0, by omega⟩ h4
    have w1 : w64 (i * ch.2.2.2.1) = i * ch.2.2.2.1 := w64_id (by omega) (by omega)
    have w2 : w64 (s + i * ch.2.2.2.1) = s + i * ch.2.2.2.1 := w64_id (by omega) (by omega)
    have w3 : w64 (i + 1) = i + 1 := w64_up h0 (by omega)
    rw [w1, w2]
    refine ens_call (loop64 hl.up (by omega) _ _ _ _) ?_
    rintro _ ⟨k, hk, g1, g2, rfl⟩
    dsimp only
    have w4 : w64 ((k : Int) + 1) = ((k + 1 : Nat) : Int) := w64_nat (by omega)
    have hx : (l ++ [((c : Int), i, s + i * ch.2.2.2.1, ())]).length = l.length + 1 := by rw [List.length_append]; rfl
    have hsp := splice_ins hk ((c : Int), i, s + i * ch.2.2.2.1, ())
    have hsl : (spliceL (l ++ [((c : Int), i, s + i * ch.2.2.2.1, ())]) (k + 1) ((((l ++ [((c : Int), i, s + i * ch.2.2.2.1, ())]).drop k).take ((l ++ [((c : Int), i, s + i * ch.2.2.2.1, ())]).length - k)).take ((l ++ [((c : Int), i, s + i * ch.2.2.2.1, ())]).length - (k + 1)))).length = l.length + 1 := by
      have := congrArg List.length hsp
      rw [List.length_set, ins_len hk] at this
      exact this
    simp only [w3, w4, Int.toNat_natCast]
    refine ens_need (by rw [List.length_singleton]; omega) ?_
    refine ens_need (by omega) ?_
    refine ens_need (by rw [hx]; omega) ?_
    refine ens_need (by omega) ?_
    refine ens_need (by rw [hx]; omega) ?_
    refine ens_need (by rw [hx]; omega) ?_
    refine ens_need (by rw [hx]; omega) ?_
    refine ens_need (by rw [hsl]; omega) ?_
    refine ens_need (by rw [hsl]; omega) ?_
    rw [hsp]
    refine ens_some ⟨⟨i + 1, _, by omega, by omega, ⟨ins_up atK hl.up g1 g2, fun a ha => ?_, by rw [ins_len hk]; omega, fun c' ch' hc' j hj0 hj1 hj => ?_⟩, rfl⟩, by dsimp only; omega⟩
    · rcases ins_mem.1 ha with rfl | ha
      · exact ⟨by dsimp only; omega, by dsimp only [atK]; omega, by dsimp only [atK]; omega⟩
      · exact hl.ok a ha
    · rw [ins_mem]
      by_cases hcj : c' = c ∧ j = i
      · obtain ⟨rfl, rfl⟩ := hcj
        rw [hch] at hc'
        injection hc' with hc'
        subst hc'
        exact .inl rfl
      · exact .inr (hl.has c' ch' hc' j hj0 hj1 (by omega))
  · have : i = ch.2.2.1 := by omega
    subst this
    refine ens_some ⟨l, ⟨hl.up, hl.ok, by omega, fun c' ch' hc' j hj0 hj1 hj => hl.has c' ch' hc' j hj0 hj1 ?_⟩, rfl⟩
    by_cases hcc : c' = c
    · subst hcc
      dsimp only at hc'
      rw [hch] at hc'
      injection hc' with hc'
      subst hc'
      exact .inr ⟨rfl, hj1⟩
    · exact .inl (by omega)

theorem c64 {f : PfT} (hf : PfOK f) {s : Int} (hs : 0 ≤ s ∧ s ≤ 2000000) : Ens (m64 ((f, s, ()), ())) (fun r => PO f s r.2.1 f.2.1.length 0) := by
  have d1 : decide (0 ≤ s ∧ s ≤ 8589934592) = true := decide_eq_true (by omega)
  have hfn := hf.2.1
  unfold m64
  simp only [m76_eq hf, c56, d1, sS]
  refine ens_call (R := fun r => PO f s r.2.1 f.2.1.length 0) ?_ (fun r hr => ens_some hr)
  refine ens_loop (fun v => ∃ (c : Nat) (l : List AtT), c ≤ f.2.1.length ∧ PO f s l c 0 ∧ v = (((c : Int), s, ()), (l, ((f, ()), ())))) (fun v => (f.2.1.length - v.1.1).toNat) ?_ _ ⟨0, [], Nat.zero_le _, ⟨List.Pairwise.nil, fun a ha => (by cases ha), by rw [List.length_nil]; omega, fun c' ch hc j h0 h1 h => by omega⟩, rfl⟩
  rintro _ ⟨c, l, hc, hl, rfl⟩
  obtain ⟨fp, chs, ⟨⟩⟩ := f
  dsimp only at hc hfn ⊢
  unfold l64_0_5
  dsimp only
  refine ens_ite (fun hlt => ?_) (fun hge => ?_)
  · have hi : c < chs.length := by omega
    obtain ⟨ch, hch⟩ := getD_some hi
    have w := w64_nat (i := c) (by omega)
    refine ens_call (loop64b hf hs hch hl) ?_
    rintro _ ⟨l', hl', rfl⟩
    dsimp only
    rw [w]
    exact ens_some ⟨⟨c + 1, l', hi, hl', rfl⟩, by dsimp only; omega⟩
  · have : c = chs.length := by omega
    subst this
    exact ens_some hl

end Go.Proofs.YtcelhemfoehedaaGreat

namespace Go.Proofs.YtcelhemfoehedaaGreat
open Go Go.Abs Go.Bnd Go.Plain
abbrev UpI (l : List Int) : Prop := l.Pairwise (· ≤ ·)

theorem loop28a (fates : List (List FtT)) (i n : Int) (A R Rs : List Int) (pl : List AtT) (hA : A.length ≤ 2) {As : List Int} (hs : UpI As) (hn : As.length ≤ 500) :
    Ens (loopT l28_0_12 ((0, fates, i, n, ()), (A, (As, (R, (Rs, (pl, ()))))))) (fun r => ∃ As', r = ((fates, i, n, ()), (R, (Rs, (As', (pl, ()))))) ∧ UpI As' ∧ As'.length ≤ As.length + 2 ∧ ∀ y, y ∈ As' ↔ y ∈ A ∨ y ∈ As) := by
  refine ens_loop (fun v => ∃ (k : Nat) (As' : List Int), k ≤ A.length ∧ UpI As' ∧ As'.length = As.length + k ∧ (∀ y, y ∈ As' ↔ y ∈ A.take k ∨ y ∈ As) ∧ v = (((k : Int), fates, i, n, ()), (A, (As', (R, (Rs, (pl, ()))))))) (fun v => (2 - v.1.1).toNat) ?_ _ ⟨0, As, Nat.zero_le _, hs, rfl, fun y => by simp, rfl⟩
  rintro _ ⟨k, As', hk, g1, g2, g3, rfl⟩
  unfold l28_0_12
  dsimp only
  refine ens_ite (fun hlt => ?_) (fun hge => ?_)
  · have hk' : k < A.length := by omega
    obtain ⟨e, he⟩ := getD_some hk'
    have d2 : decide ((0 : Int) ≤ (k : Int) ∧ (k : Int) < (A.length : Int)) = true := decide_eq_true (by omega)
    have w := w64_nat (i := k) (by omega)
    simp only [d2, Int.toNat_natCast, he, w, sS]
    refine ens_call (c67 g1 (by omega) e) ?_
    rintro ⟨⟨⟩, l, ⟨⟩⟩ ⟨f1, f2, f3⟩
    dsimp only at f1 f2 f3 ⊢
    refine ens_some ⟨⟨k + 1, l, hk', f1, by omega, fun y => ?_, rfl⟩, by dsimp only; omega⟩
    rw [f3, g3, List.take_add_one, he, List.mem_append]
    simp only [Option.toList_some, List.mem_singleton]
    constructor
    · rintro (h | h | h)
      · exact .inl (.inr h)
      · exact .inl (.inl h)
      · exact .inr h
    · rintro ((h | h) | h)
      · exact .inr (.inl h)
      · exact .inl h
      · exact .inr (.inr h)
  · have : k = A.length := by omega
    subst this
    rw [List.take_length] at g3
    exact ens_some ⟨As', rfl, g1, by omega, g3⟩

theorem loop28b (fates : List (List FtT)) (i n : Int) (R As : List Int) (pl : List AtT) (hA : R.length ≤ 2) {Rs : List Int} (hs : UpI Rs) (hn : Rs.length ≤ 500) :
    Ens (loopT l28_0_16 ((0, fates, i, n, ()), (R, (Rs, (As, (pl, ())))))) (fun r => ∃ Rs', r = ((fates, i, n, ()), (Rs', (As, (pl, ())))) ∧ UpI Rs' ∧ Rs'.length ≤ Rs.length + 2 ∧ ∀ y, y ∈ Rs' ↔ y ∈ R ∨ y ∈ Rs) := by
  refine ens_loop (fun v => ∃ (k : Nat) (Rs' : List Int), k ≤ R.length ∧ UpI Rs' ∧ Rs'.length = Rs.length + k ∧ (∀ y, y ∈ Rs' ↔ y ∈ R.take k ∨ y ∈ Rs) ∧ v = (((k : Int), fates, i, n, ()), (R, (Rs', (As, (pl, ())))))) (fun v => (2 - v.1.1).toNat) ?_ _ ⟨0, Rs, Nat.zero_le _, hs, rfl, fun y => by simp, rfl⟩
  rintro _ ⟨k, Rs', hk, g1, g2, g3, rfl⟩
  unfold l28_0_16
  dsimp only
  refine ens_ite (fun hlt => ?_) (fun hge => ?_)
  · have hk' : k < R.length := by omega
    obtain ⟨e, he⟩ := getD_some hk'
    have d2 : decide ((0 : Int) ≤ (k : Int) ∧ (k : Int) < (R.length : Int)) = true := decide_eq_true (by omega)
    have w := w64_nat (i := k) (by omega)
    simp only [d2, Int.toNat_natCast, he, w, sS]
    refine ens_call (c67 g1 (by omega) e) ?_
    rintro ⟨⟨⟩, l, ⟨⟩⟩ ⟨f1, f2, f3⟩
    dsimp only at f1 f2 f3 ⊢
    refine ens_some ⟨⟨k + 1, l, hk', f1, by omega, fun y => ?_, rfl⟩, by dsimp only; omega⟩
    rw [f3, g3, List.take_add_one, he, List.mem_append]
    simp only [Option.toList_some, List.mem_singleton]
    constructor
    · rintro (h | h | h)
      · exact .inl (.inr h)
      · exact .inl (.inl h)
      · exact .inr h
    · rintro ((h | h) | h)
      · exact .inr (.inl h)
      · exact .inl h
      · exact .inr (.inr h)
  · have : k = R.length := by omega
    subst this
    rw [List.take_length] at g3
    exact ens_some ⟨Rs', rfl, g1, by omega, g3⟩

/-- What the fate of an attempt is. -/
def fateA (fates : List (List FtT)) (a : AtT) : FtT := fateF (if a.1 < fates.length then (fates[a.1.toNat]?).getD [] else []) a.2.1

theorem loop28 {pl : List AtT} (hpl : UpA pl) (hok : ∀ a ∈ pl, 0 ≤ a.1 ∧ 0 ≤ atK a ∧ atK a ≤ 2000000) (hn : pl.length ≤ 100) (fates : List (List FtT)) :
    Ens (loopT l28_0_3 ((0, (0, (fates, ()))), ([], ([], (pl, ()))))) (fun r => UpI r.2.2.1 ∧ ∀ a ∈ pl, (fateA fates a).1 = false → ∃ t ∈ r.2.2.1, t ≤ atK a + (fateA fates a).2.1) := by
  refine ens_loop (fun v => ∃ (i : Nat) (As Rs : List Int), i ≤ pl.length ∧ UpI As ∧ UpI Rs ∧ As.length ≤ 2 * i ∧ Rs.length ≤ 2 * i ∧ (∀ r ∈ Rs, ∃ t ∈ As, t ≤ r) ∧ (∀ a ∈ pl.take i, (fateA fates a).1 = false → ∃ t ∈ As, t ≤ atK a + (fateA fates a).2.1) ∧ v = (((i : Int), (i : Int), fates, ()), (Rs, (As, (pl, ()))))) (fun v => (pl.length - v.1.2.1).toNat) ?_ _ ⟨0, [], [], Nat.zero_le _, List.Pairwise.nil, List.Pairwise.nil, Nat.zero_le _, Nat.zero_le _, fun r hr => (by cases hr), fun a ha => by simp at ha, rfl⟩
  rintro _ ⟨i, As, Rs, hi, hAs, hRs, nA, nR, hr, hdone, rfl⟩
  unfold l28_0_3
  dsimp only
  refine ens_ite (fun hlt => ?_) (fun hge => ?_)
  · have hi' : i < pl.length := by omega
    obtain ⟨e, he⟩ := getD_some hi'
    have hem := List.mem_of_getElem? he
    have heok := hok e hem
    have d2 : decide ((0 : Int) ≤ (i : Int) ∧ (i : Int) < (pl.length : Int)) = true := decide_eq_true (by omega)
    have w := w64_nat (i := i) (by omega)
    simp only [d2, Int.toNat_natCast, he, sS]
    -- does it end here?
    have chk : ∀ (o : Option ((Bool × Int × (List (List FtT)) × Int × Unit) × ((List Int) × (List Int) × (List AtT) × Unit))), o = (bif decide (((Rs.length : Nat) : Int) > 0) then (bif (decide ((0 : Int) ≤ 0 ∧ (0 : Int) < Rs.length)) then (Rs[0]?).bind fun e193 => some (((decide ((e193 : Int) ≤ e.2.2.1)), ((i : Int), (fates, ((i : Int), ())))), (Rs, (As, (pl, ())))) else none) else (some ((false, ((i : Int), (fates, ((i : Int), ())))), (Rs, (As, (pl, ())))))) →
        Ens o (fun v => ∃ q : Bool, v = ((q, ((i : Int), (fates, ((i : Int), ())))), (Rs, (As, (pl, ())))) ∧ (q = true → ∃ r ∈ Rs, r ≤ atK e)) := by
      rintro _ rfl
      refine ens_ite (fun hgt => ?_) (fun _ => ens_some ⟨false, rfl, fun e => by cases e⟩)
      refine ens_need (by omega) ?_
      refine ens_at (by omega) (fun r hr1 hr2 => ?_)
      exact ens_some ⟨_, rfl, fun hq => ⟨r, hr2, of_decide_eq_true hq⟩⟩
    refine ens_call (R := fun v => ∃ q : Bool, v = ((q, ((i : Int), (fates, ((i : Int), ())))), (Rs, (As, (pl, ())))) ∧ (q = true → ∃ r ∈ Rs, r ≤ atK e)) ?_ ?_
    · cases i with
      | zero => exact chk _ rfl
      | succ j =>
        have hz : (((j + 1 : Nat) : Int) == 0) = false := beq_false_of_ne (by omega)
        have w1 : w64 (((j + 1 : Nat) : Int) - 1) = (j : Int) := by rw [w64_id (by omega) (by omega)]; omega
        have d3 : decide ((0 : Int) ≤ (j : Int) ∧ (j : Int) < (pl.length : Int)) = true := decide_eq_true (by omega)
        obtain ⟨e0, he0⟩ := getD_some (l := pl) (i := j) (by omega)
        simp only [hz, w1, d3, Int.toNat_natCast, he0, sS]
        refine ens_ite (fun _ => ?_) (fun _ => ens_some ⟨false, rfl, fun e => by cases e⟩)
        exact chk _ rfl
    · rintro _ ⟨q, rfl, hq⟩
      dsimp only
      refine ens_bif (fun hqt => ?_) (fun _ => ?_)
      · -- a receipt has come
        obtain ⟨r, hr1, hr2⟩ := hq hqt
        obtain ⟨t, ht1, ht2⟩ := hr r hr1
        refine ens_some ?_
        refine ⟨hAs, fun a ha hfa => ?_⟩
        obtain ⟨j, hj, rfl⟩ := List.mem_iff_getElem.1 ha
        by_cases hji : j < i
        · exact hdone _ (List.mem_take_iff_getElem.2 ⟨j, by omega, rfl⟩) hfa
        · have hle : atK e ≤ atK pl[j] := by
            have hee := (List.getElem?_eq_some_iff.1 he).2
            by_cases hji' : i = j
            · subst hji'; rw [hee]; exact Int.le_refl _
            · have := List.pairwise_iff_getElem.1 hpl i j hi' hj (by omega)
              rw [hee] at this
              exact this
          have hf0 := (fateF_ok (if pl[j].1 < fates.length then (fates[pl[j].1.toNat]?).getD [] else []) pl[j].2.1).1.1
          refine ⟨t, ht1, ?_⟩
          unfold fateA
          omega
      · have hfa : fateA fates e = fateF (if e.1 < fates.length then (fates[e.1.toNat]?).getD [] else []) e.2.1 := rfl
        generalize hfs : (if e.1 < (fates.length : Int) then (fates[e.1.toNat]?).getD [] else []) = fs at hfa
        simp only [d2, Int.toNat_natCast, he, sS]
        refine ens_call (R := fun v => v = ((fates, (i : Int), (i : Int), fs, ()), (As, (Rs, (pl, ()))))) ?_ ?_
        · refine ens_ite (fun hlt2 => ?_) (fun hge2 => ?_)
          · rw [if_pos hlt2] at hfs
            obtain ⟨fl, hfl⟩ := getD_some (l := fates) (i := e.1.toNat) (by omega)
            rw [hfl] at hfs
            simp only [Option.getD_some] at hfs
            subst hfs
            rw [rowAt_G, rowG_int heok.1 hfl]
            exact ens_some rfl
          · rw [if_neg hge2] at hfs
            subst hfs
            exact ens_some rfl
        · rintro _ rfl
          dsimp only
          have hF := fateF_ok fs e.2.1
          simp only [d2, Int.toNat_natCast, he, m63_eq, sS]
          simp only [m65_eq ⟨heok.2.1, heok.2.2⟩ hF, sS]
          refine ens_call (c66 ⟨heok.2.1, heok.2.2⟩ hF) ?_
          rintro ⟨⟨⟩, R, ⟨⟩⟩ ⟨hR1, hR2⟩
          dsimp only at hR1 hR2 ⊢
          refine ens_call (loop28a fates _ _ _ _ _ _ (arr_len _ _) hAs (by omega)) ?_
          rintro _ ⟨As', rfl, a1, a2, a3⟩
          dsimp only
          refine ens_call (loop28b fates _ _ _ _ _ hR1 hRs (by omega)) ?_
          rintro _ ⟨Rs', rfl, b1, b2, b3⟩
          dsimp only
          simp only [w]
          refine ens_some ⟨⟨i + 1, As', Rs', hi', a1, b1, by omega, by omega, fun r hr' => ?_, fun a ha hfa' => ?_, rfl⟩, by dsimp only; omega⟩
          · rcases (b3 r).1 hr' with h | h
            · obtain ⟨t, ht, hle⟩ := hR2 r h
              exact ⟨t, (a3 t).2 (.inl ht), hle⟩
            · obtain ⟨t, ht, hle⟩ := hr r h
              exact ⟨t, (a3 t).2 (.inr ht), hle⟩
          · rcases mem_take_succ he ha with h | rfl
            · obtain ⟨t, ht, hle⟩ := hdone a h hfa'
              exact ⟨t, (a3 t).2 (.inr ht), hle⟩
            · rw [hfa] at hfa' ⊢
              exact ⟨_, (a3 _).2 (.inl (arr_mem hfa')), Int.le_refl _⟩
  · have : i = pl.length := by omega
    subst this
    rw [List.take_length] at hdone
    exact ens_some ⟨hAs, hdone⟩

theorem c28 {f : PfT} (hf : PfOK f) {s : Int} (hs : 0 ≤ s ∧ s ≤ 1500000) (fates : List (List FtT)) : Ens (m28 ((f, s, fates, ()), ())) (fun r => UpI r.2.1 ∧
    ∀ (c : Nat) (ch : ChT) (fs : List FtT), f.2.1[c]? = some ch → fates[c]? = some fs → ∀ j : Int, 0 ≤ j → j < ch.2.2.1 → (fateF fs j).1 = false → ∃ t ∈ r.2.1, t ≤ s + j * ch.2.2.2.1 + (fateF fs j).2.1) := by
  have hfn := hf.2.1
  unfold m28
  refine ens_call (c64 hf ⟨hs.1, by dsimp only; omega⟩) ?_
  rintro ⟨⟨⟩, pl, ⟨⟩⟩ hpl
  dsimp only at hpl ⊢
  have hln := hpl.len
  refine ens_call (loop28 hpl.up (fun a ha => by have := hpl.ok a ha; omega) (by omega) fates) ?_
  rintro ⟨⟨n, ⟨⟩⟩, Rs, As, ⟨⟩⟩ ⟨h1, h2⟩
  refine ens_some ⟨h1, fun c ch fs hc hfs j hj0 hj1 hl => ?_⟩
  have hm := hpl.has c ch hc j hj0 hj1 (.inl (List.getElem?_eq_some_iff.1 hc).1)
  have hlt := (List.getElem?_eq_some_iff.1 hfs).1
  have he : fateA fates ((c : Int), j, s + j * ch.2.2.2.1, ()) = fateF fs j := by
    unfold fateA
    dsimp only
    rw [if_pos (by omega), Int.toNat_natCast, hfs]
    rfl
  have := h2 _ hm (by rw [he]; exact hl)
  rw [he] at this
  exact this

end Go.Proofs.YtcelhemfoehedaaGreat

namespace Go.Proofs.YtcelhemfoehedaaGreat
open Go Go.Abs Go.Bnd Go.Plain
/-- That a channel works with fates. -/
def WorksAt (ch : ChT) (fs : List FtT) : Prop := ∃ j : Int, 0 ≤ j ∧ j < ch.2.2.1 ∧ (fateF fs j).1 = false ∧ (fateF fs j).2.1 ≤ ch.2.1

theorem loop6a {f : PfT} (hf : PfOK f) (by' k : Int) (pe : List Int) (a1 a2 a3 a4 a5 a6 : Int) (d : Dice) (hd : DOK d) (s : StT) (l : List PfT) (sts : List StT) :
    Ens (loopT l6_0_24 ((0, false, f.2.1, by', k, pe, a1, a2, a3, a4, a5, a6, (f.2.1.length : Int), ()), ([], ((d, ()), ((s, ()), (l, (sts, ((f, ()), ()))))))))
      (fun r => ∃ (w : Bool) (fates : List (List FtT)) (d' : Dice), DOK d' ∧ r = ((by', k, pe, a1, a2, a3, a4, a5, a6, w, ()), ((d', ()), ((s, ()), (l, (sts, (fates, ((f, ()), ()))))))) ∧ (w = true → ∃ (c : Nat) (ch : ChT) (fs : List FtT), f.2.1[c]? = some ch ∧ fates[c]? = some fs ∧ WorksAt ch fs)) := by
  have hfn := hf.2.1
  refine ens_loop (fun v => ∃ (i : Nat) (w : Bool) (fates : List (List FtT)) (d' : Dice), i ≤ f.2.1.length ∧ fates.length = i ∧ DOK d' ∧ (w = true → ∃ (c : Nat) (ch : ChT) (fs : List FtT), f.2.1[c]? = some ch ∧ fates[c]? = some fs ∧ WorksAt ch fs) ∧ v = (((i : Int), w, f.2.1, by', k, pe, a1, a2, a3, a4, a5, a6, (f.2.1.length : Int), ()), (fates, ((d', ()), ((s, ()), (l, (sts, ((f, ()), ())))))))) (fun v => (f.2.1.length - v.1.1).toNat) ?_ _ ⟨0, false, [], d, Nat.zero_le _, rfl, hd, fun e => (by cases e), rfl⟩
  clear hd d
  rintro _ ⟨i, w, fates, d, hi, hl, hd, hw, rfl⟩
  unfold l6_0_24
  dsimp only
  refine ens_ite (fun hlt => ?_) (fun _ => ens_some ⟨w, fates, d, hd, rfl, hw⟩)
  have hi' : i < f.2.1.length := by omega
  obtain ⟨ch, hch⟩ := getD_some hi'
  have w1 := w64_nat (i := i) (by omega)
  simp only [rowAt_G, rowG_nat hch]
  refine ens_call (c26 d hd) ?_
  rintro ⟨⟨⟩, ⟨⟨d1, ⟨⟩⟩, fs, ⟨⟩⟩⟩ ⟨hd1, hfs⟩
  dsimp only at hd1 hfs ⊢
  refine ens_need (by rw [List.length_singleton]; omega) ?_
  have hget : (fates ++ [fs])[i]? = some fs := by rw [List.getElem?_append, if_neg (by omega), hl, Nat.sub_self]; rfl
  have hold : ∀ (c : Nat) (x : List FtT), fates[c]? = some x → (fates ++ [fs])[c]? = some x := fun c x hx => by
    have := (List.getElem?_eq_some_iff.1 hx).1
    rw [List.getElem?_append, if_pos this]; exact hx
  refine ens_call (R := fun v => ∃ w' : Bool, v = ((w', f.2.1, by', k, pe, a1, a2, a3, a4, a5, a6, (f.2.1.length : Int), (i : Int), ()), (fates ++ [fs], ((d1, ()), ((s, ()), (l, (sts, ((f, ()), ()))))))) ∧ (w' = true → ∃ (c : Nat) (ch : ChT) (fs' : List FtT), f.2.1[c]? = some ch ∧ (fates ++ [fs])[c]? = some fs' ∧ WorksAt ch fs')) ?_ ?_
  · refine ens_bif (fun hwt => ens_some ⟨true, rfl, fun _ => ?_⟩) (fun _ => ?_)
    · obtain ⟨c, x, y, g1, g2, g3⟩ := hw hwt
      exact ⟨c, x, y, g1, hold c y g2, g3⟩
    · refine ens_call (c27 (hf.2.2 ch (List.mem_of_getElem? hch)) fs) ?_
      rintro ⟨⟨o, ⟨⟩⟩, ⟨⟩⟩ ho
      exact ens_some ⟨o, rfl, fun e => ⟨i, ch, fs, hch, hget, ho e⟩⟩
  · rintro _ ⟨w', rfl, hw'⟩
    dsimp only
    rw [w1]
    exact ens_some ⟨⟨i + 1, w', _, d1, hi', by rw [List.length_append, List.length_singleton, hl], hd1, hw', rfl⟩, by dsimp only; omega⟩

theorem loop6b {l : List PfT} (hl : PsOK l) {s : StT} (hs : 0 ≤ s.2.1 ∧ s.2.1 ≤ 1500000) {by' k : Int} (hby : ∀ f ∈ l, f.1 = k → s.2.1 + bd f ≤ by') (pe : List Int) (a1 a2 a3 a4 : Int) (d : Dice) (hd : DOK d) (sts : List StT) :
    Ens (loopT l6_0_18 ((0, by', k, pe, a1, a2, a3, a4, (l.length : Int), ()), ((d, ()), ((s, ()), (l, (sts, ()))))))
      (fun r => ∃ d' : Dice, DOK d' ∧ r = .inr ((by', pe, a1, a2, a3, a4, ()), ((d', ()), ((s, ()), (l, (sts, ())))))) := by
  have hln := hl.len
  refine ens_loop (fun v => ∃ (i : Nat) (d' : Dice), i ≤ l.length ∧ DOK d' ∧ v = (((i : Int), by', k, pe, a1, a2, a3, a4, (l.length : Int), ()), ((d', ()), ((s, ()), (l, (sts, ())))))) (fun v => (l.length - v.1.1).toNat) ?_ _ ⟨0, d, Nat.zero_le _, hd, rfl⟩
  clear hd d
  rintro _ ⟨i, d, hi, hd, rfl⟩
  unfold l6_0_18
  dsimp only
  refine ens_ite (fun hlt => ?_) (fun _ => ens_some ⟨d, hd, rfl⟩)
  have hi' : i < l.length := by omega
  obtain ⟨f, hf⟩ := getD_some hi'
  have hfm := List.mem_of_getElem? hf
  have w1 := w64_nat (i := i) (by omega)
  have d2 : decide ((0 : Int) ≤ (i : Int) ∧ (i : Int) < (l.length : Int)) = true := decide_eq_true (by omega)
  simp only [d2, Int.toNat_natCast, hf, sS]
  refine ens_call (R := fun r => ∃ d' : Dice, DOK d' ∧ r = .inl ((by', k, pe, a1, a2, a3, a4, (l.length : Int), (i : Int), ()), ((d', ()), ((s, ()), (l, (sts, ())))))) ?_ ?_
  · refine ens_bif (fun _ => ens_some ⟨d, hd, rfl⟩) (fun hk => ?_)
    have hk : f.1 = k := by simpa using hk
    have hfo := hl.ok f hfm
    have hb := hby f hfm hk
    have hbd := bd_le hfo
    refine ens_call (loop6a hfo _ _ _ _ _ _ _ _ _ _ hd _ _ _) ?_
    rintro _ ⟨w, fates, d1, hd1, rfl, hw⟩
    dsimp only
    refine ens_call (c28 hfo hs fates) ?_
    rintro ⟨⟨n, ⟨⟩⟩, As, Rs, ⟨⟩⟩ ⟨hA1, hA2⟩
    dsimp only at hA1 hA2 ⊢
    obtain ⟨x, q29, q1, _⟩ := m29_eq hl k
    have := q1 f hfm hk
    subst this
    have w2 : w64 (s.2.1 + bd f) = s.2.1 + bd f := w64_id (by omega) (by omega)
    have hgt : ¬ s.2.1 + bd f > by' := by omega
    simp only [q29, w2, hgt, sS]
    refine ens_call (R := fun v => v = ((false, by', k, pe, a1, a2, a3, a4, (l.length : Int), (i : Int), ()), ((d1, ()), ((s, ()), (l, (sts, ())))))) ?_ ?_
    · cases w
      · exact ens_some rfl
      · obtain ⟨c, ch, fs, g1, g2, j, j0, j1, j2, j3⟩ := hw rfl
        obtain ⟨t, ht1, ht2⟩ := hA2 c ch fs g1 g2 j j0 j1 j2
        have hch := hfo.2.2 ch (List.mem_of_getElem? g1)
        have hwo : worst ch ≤ bd f := fold_mem _ _ _ (List.mem_of_getElem? g1)
        have hmul : j * ch.2.2.2.1 ≤ (ch.2.2.1 - 1) * ch.2.2.2.1 := Int.mul_le_mul_of_nonneg_right (by omega) (by have := hch.2.2.2; omega)
        unfold worst at hwo
        cases As with
        | nil => cases ht1
        | cons a As =>
          have ha : a ≤ t := by
            rcases List.mem_cons.1 ht1 with h | h
            · omega
            · exact (List.pairwise_cons.1 hA1).1 t h
          have hz : (((((a :: As).length : Nat) : Int) : Int) == 0) = false := beq_false_of_ne (by rw [List.length_cons]; omega)
          have d3 : decide ((0 : Int) ≤ 0 ∧ (0 : Int) < ((a :: As).length : Int)) = true := decide_eq_true (by rw [List.length_cons]; omega)
          have hgt2 : ¬ a > by' := by omega
          simp only [hz, d3, sS, List.getElem?_cons_zero, hgt2]
          exact ens_some rfl
    · rintro _ rfl
      exact ens_some ⟨d1, hd1, rfl⟩
  · rintro _ ⟨d', hd', rfl⟩
    dsimp only [sumE]
    rw [w1]
    exact ens_some ⟨⟨i + 1, d', hi', hd', rfl⟩, by dsimp only; omega⟩

theorem loop6c {l : List PfT} (hl : PsOK l) {s : StT} (hs : 0 ≤ s.2.1 ∧ s.2.1 ≤ 1500000) (hn : s.2.2.1.length ≤ 1000) {by' : Int} (hby : ∀ k ∈ s.2.2.1, ∀ f ∈ l, f.1 = k → s.2.1 + bd f ≤ by') (a1 a2 : Int) (d : Dice) (hd : DOK d) (sts : List StT) :
    Ens (loopT l6_0_15 ((by', 0, s.2.2.1, a1, a2, (s.2.2.1.length : Int), ()), ((d, ()), ((s, ()), (l, (sts, ()))))))
      (fun r => ∃ d' : Dice, DOK d' ∧ r = .inr ((by', a1, a2, ()), ((d', ()), (l, (sts, ()))))) := by
  refine ens_loop (fun v => ∃ (i : Nat) (d' : Dice), i ≤ s.2.2.1.length ∧ DOK d' ∧ v = ((by', (i : Int), s.2.2.1, a1, a2, (s.2.2.1.length : Int), ()), ((d', ()), ((s, ()), (l, (sts, ())))))) (fun v => (s.2.2.1.length - v.1.2.1).toNat) ?_ _ ⟨0, d, Nat.zero_le _, hd, rfl⟩
  clear hd d
  rintro _ ⟨i, d, hi, hd, rfl⟩
  unfold l6_0_15
  dsimp only
  refine ens_ite (fun hlt => ?_) (fun _ => ens_some ⟨d, hd, rfl⟩)
  have hi' : i < s.2.2.1.length := by omega
  obtain ⟨k, hk⟩ := getD_some hi'
  have w1 := w64_nat (i := i) (by omega)
  simp only [rowAt_G, rowG_nat hk]
  refine ens_call (loop6b hl hs (hby k (List.mem_of_getElem? hk)) _ _ _ _ _ _ hd _) ?_
  rintro _ ⟨d', hd', rfl⟩
  dsimp only [sumE]
  rw [w1]
  exact ens_some ⟨⟨i + 1, d', hi', hd', rfl⟩, by dsimp only; omega⟩

theorem loop6d {l : List PfT} (hl : PsOK l) {sts : List StT} (hs : ∀ s ∈ sts, (0 ≤ s.2.1 ∧ s.2.1 ≤ 1500000) ∧ s.2.2.1.length ≤ 1000) (hn : sts.length ≤ 1000) {by' : Int} (hby : ∀ s ∈ sts, ∀ k ∈ s.2.2.1, ∀ f ∈ l, f.1 = k → s.2.1 + bd f ≤ by') (d : Dice) (hd : DOK d) :
    Ens (loopT l6_0_12 ((by', 0, (sts.length : Int), ()), ((d, ()), (l, (sts, ()))))) (fun r => r = .inr ((), ())) := by
  refine ens_loop (fun v => ∃ (i : Nat) (d' : Dice), i ≤ sts.length ∧ DOK d' ∧ v = ((by', (i : Int), (sts.length : Int), ()), ((d', ()), (l, (sts, ()))))) (fun v => (sts.length - v.1.2.1).toNat) ?_ _ ⟨0, d, Nat.zero_le _, hd, rfl⟩
  clear hd d
  rintro _ ⟨i, d, hi, hd, rfl⟩
  unfold l6_0_12
  dsimp only
  refine ens_ite (fun hlt => ?_) (fun _ => ens_some rfl)
  have hi' : i < sts.length := by omega
  obtain ⟨s, hs'⟩ := getD_some hi'
  have hsm := List.mem_of_getElem? hs'
  have w1 := w64_nat (i := i) (by omega)
  have d2 : decide ((0 : Int) ≤ (i : Int) ∧ (i : Int) < (sts.length : Int)) = true := decide_eq_true (by omega)
  simp only [d2, Int.toNat_natCast, hs', sS]
  refine ens_call (loop6c hl (hs s hsm).1 (hs s hsm).2 (hby s hsm) _ _ _ hd _) ?_
  rintro _ ⟨d', hd', rfl⟩
  dsimp only [sumE]
  rw [w1]
  exact ens_some ⟨⟨i + 1, d', hi', hd', rfl⟩, by dsimp only; omega⟩

theorem law6' (x : List Int) : m6 ((x, ()), ()) = some ((true, ()), ()) := by
  refine ens_tt ?_
  unfold m6
  simp only [m8, m10, m9_true, sS]
  refine ens_bif (fun _ => ens_some rfl) (fun hx => ?_)
  have hx' : (x.length : Int) ≤ 500 := by simpa using hx
  clear hx
  refine ens_call (crew_spec _ (dok_start hx')) ?_
  rintro ⟨⟨⟩, ⟨⟨d1, ⟨⟩⟩, _, c1, c2, c3, ⟨⟩⟩⟩ ⟨hd1, hc⟩
  dsimp only at hd1 hc
  refine ens_call (book_spec _ hd1) ?_
  rintro ⟨⟨⟩, ⟨⟨d2, ⟨⟩⟩, _, b1, b2, ⟨⟩⟩⟩ ⟨hd2, hb, hbl⟩
  dsimp only at hd2 hb hbl
  obtain ⟨now, p, d3, e13, hd3, ⟨⟨pol, n, hp⟩, hl, hs⟩, hn0, hn1⟩ := page_spec hc hb hbl 5 (by omega) _ hd2
  have hbl' : b2.length ≤ 1000 := by have := hbl.2; omega
  have w1 : w64 (now + 1000) = now + 1000 := w64_id (by omega) (by omega)
  obtain ⟨p', n', e14, r⟩ := run14 hc hb hbl' hp (now + 1000)
  have hlast := r.last
  obtain ⟨_, _, _, _, _, _, _, _, _, _, _, _, _, _, ⟨⟩⟩ := p
  have hst : ∀ s ∈ pSts p', (0 ≤ s.2.1 ∧ s.2.1 ≤ 1500000) ∧ s.2.2.1.length ≤ 1000 := fun s hs => by
    have a := SL_at r.pg.sts s hs
    have b := r.pg.start; have c := r.pg.stl
    have e := set_len (SL_sets r.pg.sts s hs)
    exact ⟨⟨by omega, by omega⟩, by omega⟩
  have hfew := r.pg.few
  have q25 := fun l (hl : PsOK l) => m25_spec (b := (b1, b2, ())) hl hbl' r.pg
  obtain ⟨i, po, st, nx, du, s, by', un, la, sn, hd', sts, dec, seen, ⟨⟩⟩ := p'
  dsimp only [core, pSts, pDec, pSeen, ret] at e13 e14 hst hfew q25 ⊢
  simp only [e13, w1, sS]
  simp only [e14, ne_zero, sS]
  refine ens_call (c24 _ hd3) ?_
  rintro ⟨⟨⟩, ⟨⟨d4, ⟨⟩⟩, l, ⟨⟩⟩⟩ ⟨hd4, hl⟩
  dsimp only at hd4 hl ⊢
  refine ens_call (q25 l hl) ?_
  rintro ⟨⟨by2, ⟨⟩⟩, ⟨⟩⟩ hby
  dsimp only at hby ⊢
  refine ens_call (loop6d hl hst (by omega) hby _ hd4) ?_
  rintro _ rfl
  exact ens_some rfl

theorem law6 : ∀ x, Abs.InRs [.row (.int .i64)] x → m6 (x, ()) = some ((true, ()), ()) := fun x _ => law6' x.1

end Go.Proofs.YtcelhemfoehedaaGreat
