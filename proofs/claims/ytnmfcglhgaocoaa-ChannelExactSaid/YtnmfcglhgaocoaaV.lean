/- Chapter 26, law 6 (Exact): the plain law. -/
import Derived.Test.YtnmfcglhgaocoaaS
namespace Go.Proofs.Ytnmfcglhgaocoaa
open Go Go.Abs

theorem bind_cases {A B : Type} {x : Option A} {k : A → Option B} {r : Option B} (P : A → Prop) (hx : ∃ a, x = some a ∧ P a) (hk : ∀ a, P a → k a = r) : x.bind k = r := by
  obtain ⟨a, e, h⟩ := hx
  rw [e]
  exact hk a h

theorem loop25 {l : List Int} (hl : l.length ≤ 1000) : ∀ (n i : Nat), i + n = l.length → loopT l25_0_4 (((i : Int), l, l, ()), ()) = some (.inr ((), ())) := by
  intro n
  induction n with
  | zero =>
    intro i h
    refine loopT_inr ?_
    have : ¬ ((i : Int) < l.length) := by omega
    simp [l25_0_4, this]
  | succ n ih =>
    intro i h
    have hi' : i < l.length := by omega
    have hlt : (i : Int) < l.length := by omega
    have hx : l[(i : Int).toNat]? = some l[i] := by rw [Int.toNat_natCast]; exact List.getElem?_eq_getElem hi'
    have hw : w64 ((i : Int) + 1) = ((i + 1 : Nat) : Int) := by rw [w64_id (by omega) (by omega)]; omega
    have hs : l25_0_4 (((i : Int), l, l, ()), ()) = some (.inl ((((i + 1 : Nat) : Int), l, l, ()), ())) := by
      unfold l25_0_4
      simp only [hlt, decide_true, cond_true]
      rw [rowAt_some' _ (by omega) hx, rowAt_some' _ (by omega) hx]
      simp only [bne_self_eq_false, cond_false, hw]
    rw [loopT_inl hs]
    exact ih (i + 1) (by omega)

theorem m25_refl {l : List Int} (hl : l.length ≤ 1000) : m25 ((l, l, ()), ()) = some ((true, ()), ()) := by
  unfold m25
  have := loop25 hl l.length 0 (by omega)
  simp only [bne_self_eq_false, cond_false]
  rw [show loopT l25_0_4 ((0, (l, (l, ()))), ()) = _ from this]
  rfl

theorem rcp_len (t : Int) (f : Fate) : (rcp t f).length ≤ 1000 := by
  unfold rcp
  have := arr_len t f
  split
  · simp
  · simp; omega

theorem m28_eq (t : Int) (f : Fate) : m28 ((t, f, ()), ()) = some ((), (rcp t f, ())) := by
  unfold m28 rcp
  simp only [m26_eq, Option.bind_some]
  rcases arr_cases t f with e | ⟨hv, _, ht, hh⟩
  · rw [e]
    rw [loopT_inr (d := ((), ([], ()))) (by unfold l28_0_4; simp)]
    by_cases h : f.2.2.2.1 = -1 <;> simp [h]
  · have b2 := validF_iff.1 hv
    by_cases h : f.2.2.2.1 = -1
    · rw [loopT_inr (d := ((), ([], ()))) (by
        unfold l28_0_4
        rcases hh with e | ⟨_, e⟩ <;> simp [e, h])]
      simp [h]
    · have h0 : 0 ≤ f.2.2.2.1 := by omega
      rw [if_neg h]
      rcases hh with e | ⟨_, e⟩
      · rw [e]
        rw [loopT_inl (a' := ((1, ()), ((f, ()), ([t + f.2.1], ([t + f.2.1 + f.2.2.2.1], ()))))) (by unfold l28_0_4; simp [h0, w64_id (x := t + f.2.1 + f.2.2.2.1) (by omega) (by omega), w64_id (x := 1) (by omega) (by omega)])]
        rw [loopT_inr (d := ((), ([t + f.2.1 + f.2.2.2.1], ()))) (by unfold l28_0_4; simp)]
        simp
      · rw [e]
        rw [loopT_inl (a' := ((1, ()), ((f, ()), ([t + f.2.1, t + f.2.1 + f.2.2.1], ([t + f.2.1 + f.2.2.2.1], ()))))) (by unfold l28_0_4; simp [h0, w64_id (x := t + f.2.1 + f.2.2.2.1) (by omega) (by omega), w64_id (x := 1) (by omega) (by omega)])]
        rw [loopT_inl (a' := ((2, ()), ((f, ()), ([t + f.2.1, t + f.2.1 + f.2.2.1], ([t + f.2.1 + f.2.2.2.1, t + f.2.1 + f.2.2.1 + f.2.2.2.1], ()))))) (by unfold l28_0_4; simp [h0, w64_id (x := t + f.2.1 + f.2.2.1 + f.2.2.2.1) (by omega) (by omega), w64_id (x := 2) (by omega) (by omega)])]
        rw [loopT_inr (d := ((), ([t + f.2.1 + f.2.2.2.1, t + f.2.1 + f.2.2.1 + f.2.2.2.1], ()))) (by unfold l28_0_4; simp)]
        simp

theorem loop622 {c : Chan} {f : Fate} {F l : List Fate} {ls : List (List Fate)} {cs : List Chan} {ns : List Int} {at_ a b n19 i19 : Int} (hF : F.length ≤ 1000) (hns : ns.length ≤ 1000) :
    ∀ (n i : Nat) (d : Dice), i + n = ns.length → DOK d →
    ∃ d', loopT l6_0_22 (((i : Int), F, at_, l, a, b, n19, i19, (ns.length : Int), ()), ((c, ()), ((d, ()), (ns, (ls, (cs, ((f, ()), ()))))))) = some (.inr ((at_, l, a, b, n19, i19, ()), ((c, ()), ((d', ()), (ls, (cs, ((f, ()), ()))))))) ∧ DOK d' := by
  intro n
  induction n with
  | zero =>
    intro i d h hd
    refine ⟨d, loopT_inr ?_, hd⟩
    have : ¬ ((i : Int) < ns.length) := by omega
    simp [l6_0_22, this]
  | succ n ih =>
    intro i d h hd
    have hi' : i < ns.length := by omega
    have hlt : (i : Int) < ns.length := by omega
    have hr : (0 : Int) ≤ i ∧ (i : Int) < ns.length := by omega
    have hx : ns[(i : Int).toNat]? = some ns[i] := by rw [Int.toNat_natCast]; exact List.getElem?_eq_getElem hi'
    have hw : w64 ((i : Int) + 1) = ((i + 1 : Nat) : Int) := by rw [w64_id (by omega) (by omega)]; omega
    obtain ⟨k, d1, e1, hd1, _⟩ := next_spec 6 d hd (by omega)
    obtain ⟨d', e2, hd'⟩ := ih (i + 1) d1 (by omega) hd1
    refine ⟨d', ?_, hd'⟩
    have hs : l6_0_22 (((i : Int), F, at_, l, a, b, n19, i19, (ns.length : Int), ()), ((c, ()), ((d, ()), (ns, (ls, (cs, ((f, ()), ()))))))) = some (.inl ((((i + 1 : Nat) : Int), F, at_, l, a, b, n19, i19, (ns.length : Int), ()), ((c, ()), ((d1, ()), (ns, (ls, (cs, ((f, ()), ())))))))) := by
      unfold l6_0_22
      have ha : (arr ns[i] (fates F (w64 (k - 1)))).length ≤ 1000 := Nat.le_trans (arr_len _ _) (by omega)
      simp only [hlt, decide_true, cond_true, hr, and_self, hx, Option.bind_some, m14_eq c _ F (by omega), m22_eq, e1, bne_self_eq_false, beq_self_eq_true, Bool.not_true, cond_false, Bool.and_self,
        m17_eq c F (by omega), m23_eq, m21_eq F _ (by omega), m24_eq, m20_eq, m26_eq, m25_refl ha, m27_eq, m28_eq, m25_refl (rcp_len _ _), hw]
    rw [loopT_inl hs]
    exact e2

theorem loop619 {c : Chan} {f : Fate} {l : List Fate} {ls : List (List Fate)} {cs : List Chan} {at_ a b : Int} (hls : ∀ F ∈ ls, F.length ≤ 1000) (hlen : ls.length ≤ 1000) :
    ∀ (n i : Nat) (d : Dice), i + n = ls.length → DOK d →
    ∃ d', loopT l6_0_19 (((i : Int), at_, l, a, b, (ls.length : Int), ()), ((c, ()), ((d, ()), (ls, (cs, ((f, ()), ())))))) = some (.inr ((at_, l, a, b, ()), ((d', ()), (cs, ((f, ()), ((c, ()), ())))))) ∧ DOK d' := by
  intro n
  induction n with
  | zero =>
    intro i d h hd
    refine ⟨d, loopT_inr ?_, hd⟩
    have : ¬ ((i : Int) < ls.length) := by omega
    simp [l6_0_19, this]
  | succ n ih =>
    intro i d h hd
    have hi' : i < ls.length := by omega
    have hlt : (i : Int) < ls.length := by omega
    have hr : (0 : Int) ≤ i ∧ (i : Int) < ls.length := by omega
    have hx : ls[(i : Int).toNat]? = some ls[i] := by rw [Int.toNat_natCast]; exact List.getElem?_eq_getElem hi'
    have hw : w64 ((i : Int) + 1) = ((i + 1 : Nat) : Int) := by rw [w64_id (by omega) (by omega)]; omega
    obtain ⟨d1, e1, hd1⟩ := loop622 (c := c) (f := f) (F := ls[i]) (l := l) (ls := ls) (cs := cs) (ns := [at_, 864000, 0, 8589934592, 8589956192, 8589934593, (-1)]) (at_ := at_) (a := a) (b := b) (n19 := (ls.length : Int)) (i19 := (i : Int)) (hls _ (List.getElem_mem hi')) (by simp) 7 0 d (by simp) hd
    obtain ⟨d', e2, hd'⟩ := ih (i + 1) d1 (by omega) hd1
    refine ⟨d', ?_, hd'⟩
    have hs : l6_0_19 (((i : Int), at_, l, a, b, (ls.length : Int), ()), ((c, ()), ((d, ()), (ls, (cs, ((f, ()), ())))))) = some (.inl ((((i + 1 : Nat) : Int), at_, l, a, b, (ls.length : Int), ()), ((c, ()), ((d1, ()), (ls, (cs, ((f, ()), ()))))))) := by
      unfold l6_0_19
      simp only [hlt, decide_true, cond_true, hr, and_self, hx, Option.bind_some]
      rw [show ((0 : Nat) : Int) = 0 from rfl] at e1
      rw [e1]
      simp only [Option.bind_some, sumE, hw]
    rw [loopT_inl hs]
    exact e2

theorem loop616 {f : Fate} {l : List Fate} {cs : List Chan} {at_ : Int} (hl : l.length ≤ 1000) (hlen : cs.length ≤ 1000) :
    ∀ (n i : Nat) (d : Dice), i + n = cs.length → DOK d →
    ∃ d', loopT l6_0_16 ((at_, (i : Int), l, (cs.length : Int), ()), ((d, ()), (cs, ((f, ()), ())))) = some (.inr ((at_, ()), ((f, ()), ((d', ()), ())))) ∧ DOK d' := by
  intro n
  induction n with
  | zero =>
    intro i d h hd
    refine ⟨d, loopT_inr ?_, hd⟩
    have : ¬ ((i : Int) < cs.length) := by omega
    simp [l6_0_16, this]
  | succ n ih =>
    intro i d h hd
    have hi' : i < cs.length := by omega
    have hlt : (i : Int) < cs.length := by omega
    have hr : (0 : Int) ≤ i ∧ (i : Int) < cs.length := by omega
    have hx : cs[(i : Int).toNat]? = some cs[i] := by rw [Int.toNat_natCast]; exact List.getElem?_eq_getElem hi'
    have hw : w64 ((i : Int) + 1) = ((i + 1 : Nat) : Int) := by rw [w64_id (by omega) (by omega)]; omega
    obtain ⟨d1, l1, e1, hd1, hl1⟩ := m18_spec d hd
    obtain ⟨d2, l2, e2, hd2, hl2⟩ := m18_spec d1 hd1
    obtain ⟨d3, e3, hd3⟩ := loop619 (c := cs[i]) (f := f) (l := l) (ls := [l, l1, l2]) (cs := cs) (at_ := at_) (a := (cs.length : Int)) (b := (i : Int)) (by
      intro F hF
      simp only [List.mem_cons, List.not_mem_nil, or_false] at hF
      rcases hF with h | h | h <;> subst h <;> omega) (by simp) 3 0 d2 (by simp) hd2
    obtain ⟨d', e4, hd'⟩ := ih (i + 1) d3 (by omega) hd3
    refine ⟨d', ?_, hd'⟩
    have hs : l6_0_16 ((at_, (i : Int), l, (cs.length : Int), ()), ((d, ()), (cs, ((f, ()), ())))) = some (.inl ((at_, ((i + 1 : Nat) : Int), l, (cs.length : Int), ()), ((d3, ()), (cs, ((f, ()), ()))))) := by
      unfold l6_0_16
      simp only [hlt, decide_true, cond_true, hr, and_self, hx, Option.bind_some, e1, e2]
      rw [show ((0 : Nat) : Int) = 0 from rfl] at e3
      rw [e3]
      simp only [Option.bind_some, sumE, hw, m29_eq, m30_eq, m15_eq, m31_eq, beq_self_eq_true, bne_self_eq_false, Bool.not_true, cond_false]
    rw [loopT_inl hs]
    exact e4

theorem law6c (t : List Int) (ch : Chan) (f : Fate) (l : List Fate) (at_ : Int) : m6 ((t, ch, f, l, at_, ()), ()) = some ((true, ()), ()) := by
  unfold m6
  simp only [m8_eq, Option.bind_some]
  by_cases hlen : (t.length : Int) ≤ 500
  · by_cases h30 : (l.length : Int) > 30
    · simp only [hlen, decide_true, Bool.not_true, cond_false, h30, Option.bind_some, cond_true, m9_eq]
    · simp only [hlen, decide_true, Bool.not_true, cond_false, h30, decide_false, Option.bind_some, m10_eq]
      obtain ⟨c, d1, e1, hd1, _⟩ := channel_spec (t, 0, ()) (dice0 hlen)
      simp only [e1, Option.bind_some]
      refine bind_cases (fun v => ∃ odd d5, DOK d5 ∧ v = ((at_, l, ()), ((d5, ()), ((f, ()), ((odd, ()), ((c, ()), ((ch, ()), ()))))))) ?_ ?_
      · obtain ⟨n, d2, e2, hd2, _⟩ := next_spec 4 d1 hd1 (by omega)
        rw [e2]
        simp only [Option.bind_some]
        cases h0 : (n == 0) with
        | true =>
          obtain ⟨r, d3, e3, hd3, _⟩ := one_spec [(-1), 3] d2 hd2 (by simp) (by simp)
          simp only [cond_true, e3, Option.bind_some]
          exact ⟨_, rfl, _, _, hd3, rfl⟩
        | false =>
          cases h1 : (n == 1) with
          | true =>
            obtain ⟨r, d3, e3, hd3, _⟩ := one_spec [(-1), 3601] d2 hd2 (by simp) (by simp)
            simp only [cond_true, cond_false, e3, Option.bind_some]
            exact ⟨_, rfl, _, _, hd3, rfl⟩
          | false =>
            cases h2 : (n == 2) with
            | true =>
              obtain ⟨r, d3, e3, hd3, _⟩ := one_spec [0, 6, 7] d2 hd2 (by simp) (by simp)
              simp only [cond_true, cond_false, e3, Option.bind_some]
              exact ⟨_, rfl, _, _, hd3, rfl⟩
            | false =>
              cases h3 : (n == 3) with
              | true =>
                obtain ⟨r, d3, e3, hd3, _⟩ := one_spec [0, 3600, 3601] d2 hd2 (by simp) (by simp)
                simp only [cond_true, cond_false, e3, Option.bind_some]
                exact ⟨_, rfl, _, _, hd3, rfl⟩
              | false =>
                simp only [cond_false]
                exact ⟨_, rfl, _, _, hd2, rfl⟩
      · rintro v ⟨odd, d5, hd5, rfl⟩
        obtain ⟨d6, e6, hd6⟩ := loop616 (f := f) (l := l) (cs := [ch, c, odd]) (at_ := at_) (by omega) (by simp) 3 0 d5 (by simp) hd5
        rw [show ((0 : Nat) : Int) = 0 from rfl] at e6
        simp only
        rw [e6]
        obtain ⟨g, d7, e7, hd7, _⟩ := fate_spec d6 hd6
        simp only [Option.bind_some, sumE, e7, m32_eq, m19_eq, beq_self_eq_true, cond_true, m20_eq, m26_eq, m25_refl (Nat.le_trans (arr_len at_ f) (by omega)), m9_eq]
  · simp only [hlen, decide_false, Bool.not_false, cond_true, Option.bind_some, m9_eq]

theorem law6 : ∀ x, Abs.InRs [(.row (.int .i64)), (.cons (.int .i64) (.cons (.int .i64) (.cons (.int .i64) (.cons (.int .i64) .unit)))), (.cons .bool (.cons (.int .i64) (.cons (.int .i64) (.cons (.int .i64) .unit)))), (.row (.cons .bool (.cons (.int .i64) (.cons (.int .i64) (.cons (.int .i64) .unit))))), (.int .i64)] x → m6 (x, ()) = some ((true, ()), ()) :=
  fun x _ => law6c x.1 x.2.1 x.2.2.1 x.2.2.2.1 x.2.2.2.2.1
end Go.Proofs.Ytnmfcglhgaocoaa
