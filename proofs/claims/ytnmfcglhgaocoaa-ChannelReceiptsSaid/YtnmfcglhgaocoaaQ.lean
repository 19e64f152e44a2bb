import Derived.Test.YtnmfcglhgaocoaaP
open Go Go.Abs
namespace Go.Proofs.Ytnmfcglhgaocoaa
/-! ### The laws -/

theorem m8_eq (l : List Int) : m8 ((l, ()), ()) = some ((decide ((l.length : Int) ≤ 500), ()), ()) := rfl
theorem m10_eq (l : List Int) : m10 ((l, ()), ()) = some ((), (((l, 0, ()), ()), ())) := rfl

theorem dice0 {l : List Int} (h : (l.length : Int) ≤ 500) : DOK (l, 0, ()) := ⟨by simp, by simp, by simp; omega⟩

/-- Each receipt comes so long behind its arrival. -/
theorem loop7 {f : Fate} {t : Int} {rs : List Int} {av : List Int} (n : Int) (hn : n = av.length) (hlen : av.length ≤ 2) (ht : w64 t = t)
    (ha : ∀ (i : Nat) (x : Int), av[i]? = some x → t ≤ x ∧ x ≤ 8590137393 ∧ ∀ y, 0 < i → av[i - 1]? = some y → y < x) (hr : rs = [] ∨ (rs.length = av.length ∧ ∀ (i : Nat) (x r : Int), av[i]? = some x → rs[i]? = some r → r = w64 (x + f.2.2.2.1))) :
    ∀ (k : Nat) (i : Nat), i + k = av.length → loopT l7_0_10 ((i, t, n, ()), ((f, ()), (av, (rs, ())))) = some (.inr ((), ())) := by
  intro k
  induction k with
  | zero =>
    intro i h
    refine loopT_inr ?_
    have : ¬ ((i : Int) < n) := by omega
    simp [l7_0_10, this]
  | succ k ih =>
    intro i h
    have hlt : (i : Int) < n := by omega
    have hi' : i < av.length := by omega
    have hx : av[i]? = some av[i] := List.getElem?_eq_getElem hi'
    obtain ⟨a1, a2, a3⟩ := ha i _ hx
    have hrange : (0 : Int) ≤ i ∧ (i : Int) < av.length := by omega
    have hw : w64 ((i : Int) + 1) = ((i + 1 : Nat) : Int) := by rw [w64_id (by omega) (by omega)]; omega
    have hlow : ¬ (av[i] < t) := by omega
    have hs : l7_0_10 ((i, t, n, ()), ((f, ()), (av, (rs, ())))) = some (.inl ((((i + 1 : Nat) : Int), t, n, ()), ((f, ()), (av, (rs, ()))))) := by
      unfold l7_0_10
      by_cases h0 : (i : Int) > 0
      · have hp : i - 1 < av.length := by omega
        have hy : av[i - 1]? = some av[i - 1] := List.getElem?_eq_getElem hp
        have hlt2 := a3 _ (by omega) hy
        have hw1 : w64 ((i : Int) - 1) = ((i - 1 : Nat) : Int) := by rw [w64_id (by omega) (by omega)]; omega
        have hr1 : (0 : Int) ≤ ((i - 1 : Nat) : Int) ∧ ((i - 1 : Nat) : Int) < av.length := by omega
        have hle : ¬ (av[i] ≤ av[i - 1]) := by omega
        rcases hr with rfl | ⟨hl, hr⟩
        · simp [hlt, hrange, hx, ht, hlow, h0, hw1, hr1, hy, hle, hw]
        · have hri : i < rs.length := by omega
          have hrx : rs[i]? = some rs[i] := List.getElem?_eq_getElem hri
          have he := hr i _ _ hx hrx
          have hpos : ((rs.length : Nat) : Int) > 0 := by omega
          have hrr : (0 : Int) ≤ i ∧ (i : Int) < rs.length := by omega
          simp [hlt, hrange, hx, ht, hlow, h0, hw1, hr1, hy, hle, hw, hpos, hrr, hrx, he]
      · have h0' : ¬ (0 < i) := by omega
        rcases hr with rfl | ⟨hl, hr⟩
        · simp [hlt, hrange, hx, ht, hlow, h0', hw]
        · have hri : i < rs.length := by omega
          have hrx : rs[i]? = some rs[i] := List.getElem?_eq_getElem hri
          have he := hr i _ _ hx hrx
          have hpos : ((rs.length : Nat) : Int) > 0 := by omega
          have hrr : (0 : Int) ≤ i ∧ (i : Int) < rs.length := by omega
          simp [hlt, hrange, hx, ht, hlow, h0', hw, hpos, hrr, hrx, he]
    rw [loopT_inl hs]
    exact ih (i + 1) (by omega)

theorem law7c (l : List Int) (t : Int) (t1 : 0 ≤ t) (t2 : t ≤ 4294967295) : m7 ((l, t, ()), ()) = some ((true, ()), ()) := by
  unfold m7
  simp only [m8_eq, Option.bind_some]
  by_cases hlen : (l.length : Int) ≤ 500
  · simp only [hlen, decide_true, Bool.not_true, cond_false, m10_eq, Option.bind_some]
    obtain ⟨f, d', e1, hd', f1, f2, f3⟩ := fate_spec (l, 0, ()) (dice0 hlen)
    have ht : w64 t = t := w64_id (by omega) (by omega)
    simp only [e1, Option.bind_some, ht, m20_eq, m27_eq, m19_eq]
    have hin : inB t 0 8589956192 = true := inB_iff.2 ⟨t1, by omega⟩
    cases hv : validF f with
    | false =>
      have h1 : arr t f = [] := by simp [arr, hv]
      have h2 : rcp t f = [] := by simp [rcp, h1]
      simp [h1, h2, m9_eq]
    | true =>
      cases hlo : f.1 with
      | true =>
        have h1 : arr t f = [] := by simp [arr, hlo]
        have h2 : rcp t f = [] := by simp [rcp, h1]
        simp [h1, h2, m9_eq]
      | false =>
        have b2 := validF_iff.1 hv
        -- arrivals
        have hlen2 : 0 < (arr t f).length ∧ (arr t f).length ≤ 2 := by
          simp only [arr, hin, hv, hlo, and_self, if_true]
          split <;> simp
        have ha : ∀ (i : Nat) (x : Int), (arr t f)[i]? = some x → t ≤ x ∧ x ≤ 8590137393 ∧ ∀ y, 0 < i → (arr t f)[i - 1]? = some y → y < x := by
          intro i x hx
          simp only [arr, hin, hv, hlo, and_self, if_true] at hx ⊢
          split at hx
          · rename_i h4
            rw [if_pos h4]
            cases i with
            | zero => simp at hx; subst hx; exact ⟨by omega, by omega, fun y h => by omega⟩
            | succ i => simp at hx
          · rename_i h4
            rw [if_neg h4]
            match i, hx with
            | 0, hx => simp at hx; subst hx; exact ⟨by omega, by omega, fun y h => by omega⟩
            | 1, hx => simp at hx; subst hx; exact ⟨by omega, by omega, fun y _ hy => by simp at hy; omega⟩
            | i + 2, hx => simp at hx
        have hr : rcp t f = [] ∨ ((rcp t f).length = (arr t f).length ∧ ∀ (i : Nat) (x r : Int), (arr t f)[i]? = some x → (rcp t f)[i]? = some r → r = w64 (x + f.2.2.2.1)) := by
          by_cases h4 : f.2.2.2.1 = -1
          · exact .inl (by simp [rcp, h4])
          · refine .inr ⟨by simp [rcp, h4], fun i x r hx hr => ?_⟩
            obtain ⟨g1, g2, _⟩ := ha i x hx
            simp only [rcp, if_neg h4, List.getElem?_map, hx, Option.map_some, Option.some.injEq] at hr
            rw [← hr, w64_id (by omega) (by omega)]
        have hloop := loop7 (f := f) (t := t) (rs := rcp t f) (av := arr t f) ((arr t f).length : Int) rfl hlen2.2 ht ha hr (arr t f).length 0 (by omega)
        have hne : (((arr t f).length : Int) == 0) = false := by
          have : ((arr t f).length : Int) ≠ 0 := by omega
          simpa using this
        have hne' : ¬ (arr t f = []) := by intro h; simp [h] at hlen2
        by_cases h4 : f.2.2.2.1 = -1
        · have h5 : rcp t f = [] := by simp [rcp, h4]
          rw [h5] at hloop
          simp [hlo, hne, hne', h4, h5, m9_eq]
          rw [show loopT l7_0_10 ((0, t, ((arr t f).length : Int), ()), ((f, ()), (arr t f, ([], ())))) = _ from hloop]
          simp [sumE, m9_eq]
        · have h5 : (rcp t f).length = (arr t f).length := by simp [rcp, h4]
          have h6 : (f.2.2.2.1 == -1) = false := by simpa using h4
          have h7 : f.2.2.2.1 ≥ 0 := by omega
          simp [hlo, hne, hne', h6, h5, h7, m9_eq]
          rw [show loopT l7_0_10 ((0, t, ((arr t f).length : Int), ()), ((f, ()), (arr t f, (rcp t f, ())))) = _ from hloop]
          simp [sumE, m9_eq]
  · simp [hlen, m9_eq]

theorem law7 : ∀ x, Abs.InRs [(.row (.int .i64)), (.int .u32)] x → m7 (x, ()) = some ((true, ()), ()) :=
  fun x h => law7c x.1 x.2.1 h.2.1.1 h.2.1.2
end Go.Proofs.Ytnmfcglhgaocoaa
