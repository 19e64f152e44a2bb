/- Chapter 26, law 3 (Worse): the plain law. -/
import Derived.Test.YtnmfcglhgaocoaaR
namespace Go.Proofs.Ytnmfcglhgaocoaa
open Go Go.Abs

theorem loop37 {c : Chan} {t m : Int} (hc : c.2.2.1 ≤ 6) : ∀ (n : Nat) (i : Int) (d : Dice) (l : List Fate), 0 ≤ i → i + n = c.2.2.1 → DOK d → (l.length : Int) = i → (∀ f ∈ l, validF f = true ∧ f.2.1 ≤ 200) →
    ∃ d' l', loopT l3_0_7 ((i, m, t, ()), ((d, ()), (l, ((c, ()), ())))) = some ((m, t, ()), ((c, ()), (l', ((d', ()), ())))) ∧ DOK d' ∧ (l'.length : Int) = c.2.2.1 ∧ (∀ f ∈ l', validF f = true ∧ f.2.1 ≤ 200) := by
  intro n
  induction n with
  | zero =>
    intro i d l h0 h1 hd hl hv
    refine ⟨d, l, loopT_inr ?_, hd, by omega, hv⟩
    have : ¬ i < c.2.2.1 := by omega
    simp [l3_0_7, this]
  | succ n ih =>
    intro i d l h0 h1 hd hl hv
    have hlt : i < c.2.2.1 := by omega
    have hi : w64 (i + 1) = i + 1 := w64_id (by omega) (by omega)
    obtain ⟨r, d1, e1, hd1, _⟩ := next_spec 3 d hd (by omega)
    obtain ⟨s, d2, e2, hd2, hs2⟩ := one_spec [0, 5, 30, 200] d1 hd1 (by simp) (by simp)
    simp only [List.mem_cons, List.not_mem_nil, or_false] at hs2
    have hnew : validF (r == 0, s, 0, 0, ()) = true := validF_iff.2 ⟨by simp only; omega, by simp, by simp⟩
    obtain ⟨d', l', e3, h⟩ := ih (i + 1) d2 (l ++ [(r == 0, s, 0, 0, ())]) (by omega) (by omega) hd2 (by simp; omega) (by
      intro f hf
      rcases List.mem_append.1 hf with h | h
      · exact hv f h
      · rw [List.mem_singleton.1 h]; exact ⟨hnew, by simp only; omega⟩)
    refine ⟨d', l', ?_, h⟩
    have hlen : l.length + 1 ≤ 4294967296 := by omega
    have hs : l3_0_7 ((i, m, t, ()), ((d, ()), (l, ((c, ()), ())))) = some (.inl ((i + 1, m, t, ()), ((d2, ()), (l ++ [(r == 0, s, 0, 0, ())], ((c, ()), ()))))) := by
      unfold l3_0_7
      simp only [hlt, decide_true, cond_true, e1, e2, Option.bind_some, hi, List.length_cons, List.length_nil, Nat.zero_add, hlen]
    rw [loopT_inl hs]
    exact e3

/-- What more attempts, or better ones, make of the first arrival. -/
theorem reach_mono {c c' : Chan} (hc : validC c = true) (hc' : validC c' = true) (hp : c'.2.2.2.1 = c.2.2.2.1) (hn : c.2.2.1 ≤ c'.2.2.1) {t : Int} (ht : 0 ≤ t ∧ t ≤ 8589934592) {l l' : List Fate}
    (h : ∀ j, 0 ≤ j → j < c.2.2.1 → (fates l j).1 = false → (fates l' j).1 = false ∧ (fates l' j).2.1 ≤ (fates l j).2.1) (hr : (reach c t l).2 = true) :
    (reach c' t l').2 = true ∧ (reach c' t l').1 ≤ (reach c t l).1 := by
  obtain ⟨a1, a2, a3⟩ := reach_spec hc ht l
  obtain ⟨b1, b2, b3⟩ := reach_spec hc' ht l'
  obtain ⟨j, j0, j1, j2, j3⟩ := a3 hr
  obtain ⟨h1, h2⟩ := h j j0 j1 j2
  refine ⟨b1.2 ⟨j, j0, by omega, h1⟩, ?_⟩
  have := b2 j j0 (by omega) h1
  rw [hp] at this
  omega

theorem fates_set {l : List Fate} {k : Int} (hk : 0 ≤ k) (hkl : k < l.length) {f : Fate} (hv : validF f = true) (j : Int) (hj : 0 ≤ j) : fates (l.set k.toNat f) j = if j = k then f else fates l j := by
  split
  · rename_i h
    have hkn : k.toNat < l.length := by omega
    rw [h]
    exact fates_of hk (by simp [hkn]) hv
  · rename_i h
    unfold fates
    have : j.toNat ≠ k.toNat := by omega
    simp only [List.length_set, List.getD_eq_getElem?_getD, List.getElem?_set_ne this.symm]

theorem fates_app {l : List Fate} {f : Fate} (j : Int) (hj : j < l.length) : fates (l ++ [f]) j = fates l j := by
  unfold fates
  by_cases h0 : 0 ≤ j
  · have hjn : j.toNat < l.length := by omega
    simp only [List.getD_eq_getElem?_getD, List.getElem?_append_left hjn]
    have : j < ((l ++ [f]).length : Int) := by simp; omega
    simp only [this, hj]
  · rw [if_neg (fun h => h0 h.1), if_neg (fun h => h0 h.1)]

/-- What comes behind the choice of the worse list. -/
theorem tail3 {c : Chan} (hc : validC c = true) (h4 : c.2.2.1 ≤ 4) {t m : Int} (ht : 0 ≤ t ∧ t ≤ 4294967295) {l bad : List Fate} (hl : (l.length : Int) = c.2.2.1)
    (hb : ∀ j, 0 ≤ j → j < c.2.2.1 → (fates bad j).1 = false → (fates l j).1 = false ∧ (fates l j).2.1 ≤ (fates bad j).2.1) :
    ((reach c t bad).2 = true → (reach c t l).2 = true ∧ (reach c t l).1 ≤ (reach c t bad).1) ∧
    ((reach c t l).2 = true → (reach (c.1, c.2.1, c.2.2.1 + 1, c.2.2.2.1, ()) t (l ++ [(false, m, 0, 0, ())])).2 = true ∧ (reach (c.1, c.2.1, c.2.2.1 + 1, c.2.2.2.1, ()) t (l ++ [(false, m, 0, 0, ())])).1 ≤ (reach c t l).1) ∧
    worst c ≤ worst (c.1, c.2.1, c.2.2.1 + 1, c.2.2.2.1, ()) := by
  obtain ⟨c1, c2, c3, c4⟩ := validC_iff.1 hc
  have hc' : validC (c.1, c.2.1, c.2.2.1 + 1, c.2.2.2.1, ()) = true := validC_iff.2 ⟨c1, c2, ⟨by simp only; omega, by simp only; omega⟩, c4⟩
  refine ⟨fun h => reach_mono hc hc rfl (Int.le_refl _) (by omega) hb h, fun h => reach_mono hc hc' rfl (by simp only; omega) (by omega) (fun j j0 j1 j2 => ?_) h, ?_⟩
  · rw [fates_app j (by omega)]; exact ⟨j2, Int.le_refl _⟩
  · simp only [worst, hc, hc', if_true]
    have : (c.2.2.1 - 1) * c.2.2.2.1 ≤ (c.2.2.1 + 1 - 1) * c.2.2.2.1 := Int.mul_le_mul_of_nonneg_right (by omega) (by omega)
    omega

theorem law3c (l : List Int) (t m : Int) (t1 : 0 ≤ t) (t2 : t ≤ 4294967295) (m1 : 0 ≤ m) (m2 : m ≤ 255) : m3 ((l, t, m, ()), ()) = some ((true, ()), ()) := by
  unfold m3
  simp only [m8_eq, Option.bind_some]
  by_cases hlen : (l.length : Int) ≤ 500
  · simp only [hlen, decide_true, Bool.not_true, cond_false, m10_eq, Option.bind_some]
    obtain ⟨c, d1, e1, hd1, hcs⟩ := channel_spec (l, 0, ()) (dice0 hlen)
    have hc := channel_valid hcs
    obtain ⟨c1, c2, c3, c4⟩ := validC_iff.1 hc
    have c3' := hcs.2.2.1
    simp only [e1, Option.bind_some]
    obtain ⟨d2, fs, e2, hd2, hfs, hfv⟩ := loop37 (c := c) (t := t) (m := m) (by omega) c.2.2.1.toNat 0 d1 [] (by omega) (by omega) hd1 (by simp) (by simp)
    rw [e2]
    have ht : w64 t = t := w64_id (by omega) (by omega)
    have hm : w64 m = m := w64_id (by omega) (by omega)
    have hl0 : 0 + fs.length ≤ 4294967296 := by omega
    have hl1 : fs.length + 1 ≤ 4294967296 := by omega
    simp only [Option.bind_some, ht, hm, m14_eq c t fs (by omega), hl0, decide_true, cond_true]
    obtain ⟨k, d3, e3, hd3, hk, _⟩ := next_spec c.2.2.1 d2 hd2 (by omega)
    have hk := hk (by omega)
    obtain ⟨n, d4, e4, hd4, _⟩ := next_spec 2 d3 hd3 (by omega)
    rw [e3]
    simp only [Option.bind_some]
    rw [e4]
    simp only [Option.bind_some]
    have hkl : (0 : Int) ≤ k ∧ k < fs.length := by omega
    have hkn : k.toNat < fs.length := by omega
    have hx : fs[k.toNat]? = some fs[k.toNat] := List.getElem?_eq_getElem hkn
    obtain ⟨hv, h200⟩ := hfv _ (List.getElem_mem hkn)
    have hvv := validF_iff.1 hv
    have hff := fates_of hkl.1 hx hv
    have hw1 : w64 (c.2.2.1 + 1) = c.2.2.1 + 1 := w64_id (by omega) (by omega)
    have hmin : ¬ ((6 : Int) < c.2.2.1 + 1) := by omega
    have hws : w64 (fs[k.toNat].2.1 + m) = fs[k.toNat].2.1 + m := w64_id (by omega) (by omega)
    cases hn : (n == 0) with
    | true =>
      have hv' : validF (true, fs[k.toNat].2) = true := hv
      obtain ⟨g1, g2, g3⟩ := tail3 hc c3'.2 (t := t) (m := m) ⟨t1, t2⟩ (l := fs) (bad := fs.set k.toNat (true, fs[k.toNat].2)) hfs (fun j j0 j1 j2 => by
        rw [fates_set hkl.1 hkl.2 hv' j j0] at j2 ⊢
        split at j2
        · cases j2
        · rename_i h; rw [if_neg h]; exact ⟨j2, Int.le_refl _⟩)
      simp only [hkl, and_self, decide_true, cond_true, hx, Option.bind_some, ht, hm, hl0, hl1, hw1, hmin, if_false, List.length_cons, List.length_nil, Nat.zero_add,
        m14_eq c t (fs.set k.toNat (true, fs[k.toNat].2)) (by simp; omega), m14_eq (c.1, c.2.1, c.2.2.1 + 1, c.2.2.2.1, ()) t (fs ++ [(false, m, 0, 0, ())]) (by simp; omega), m15_eq]
      cases h1 : (reach c t (fs.set k.toNat (true, fs[k.toNat].2))).2 <;> cases h2 : (reach c t fs).2 <;> simp_all [m9_eq]
    | false =>
      have hv' : validF (fs[k.toNat].1, fs[k.toNat].2.1 + m, fs[k.toNat].2.2) = true := validF_iff.2 ⟨by simp only; omega, hvv.2.1, hvv.2.2⟩
      obtain ⟨g1, g2, g3⟩ := tail3 hc c3'.2 (t := t) (m := m) ⟨t1, t2⟩ (l := fs) (bad := fs.set k.toNat (fs[k.toNat].1, fs[k.toNat].2.1 + m, fs[k.toNat].2.2)) hfs (fun j j0 j1 j2 => by
        rw [fates_set hkl.1 hkl.2 hv' j j0] at j2 ⊢
        split at j2
        · rename_i h; subst h; rw [if_pos rfl, hff]; exact ⟨j2, by simp only; omega⟩
        · rename_i h; rw [if_neg h]; exact ⟨j2, Int.le_refl _⟩)
      simp only [hkl, and_self, decide_true, cond_true, cond_false, hx, Option.bind_some, ht, hm, hl0, hl1, hw1, hws, hmin, if_false, List.length_cons, List.length_nil, Nat.zero_add,
        m14_eq c t (fs.set k.toNat (fs[k.toNat].1, fs[k.toNat].2.1 + m, fs[k.toNat].2.2)) (by simp; omega), m14_eq (c.1, c.2.1, c.2.2.1 + 1, c.2.2.2.1, ()) t (fs ++ [(false, m, 0, 0, ())]) (by simp; omega), m15_eq]
      cases h1 : (reach c t (fs.set k.toNat (fs[k.toNat].1, fs[k.toNat].2.1 + m, fs[k.toNat].2.2))).2 <;> cases h2 : (reach c t fs).2 <;> simp_all [m9_eq]
  · simp [hlen, m9_eq]

theorem law3 : ∀ x, Abs.InRs [(.row (.int .i64)), (.int .u32), (.int .u8)] x → m3 (x, ()) = some ((true, ()), ()) :=
  fun x h => law3c x.1 x.2.1 x.2.2.1 h.2.1.1 h.2.1.2 h.2.2.1.1 h.2.2.1.2
end Go.Proofs.Ytnmfcglhgaocoaa
