/- Chapter 26: what the first arrival is; the lists that the dice make. -/
import Derived.Test.YtnmfcglhgaocoaaP
namespace Go.Proofs.Ytnmfcglhgaocoaa
open Go Go.Abs

theorem reachL_spec (t p : Int) (l : List Fate) : ∀ (n : Nat) (i : Int) (fo : Bool) (fi : Int),
    ((reachL t p l n i fo fi).1 = true ↔ fo = true ∨ ∃ j, i ≤ j ∧ j < i + n ∧ (fates l j).1 = false) ∧
    ((fo = true → (reachL t p l n i fo fi).2 ≤ fi) ∧ ∀ j, i ≤ j → j < i + n → (fates l j).1 = false → (reachL t p l n i fo fi).2 ≤ t + j * p + (fates l j).2.1) ∧
    (((reachL t p l n i fo fi).2 = fi ∧ (fo = false → (reachL t p l n i fo fi).1 = false)) ∨ ∃ j, i ≤ j ∧ j < i + n ∧ (fates l j).1 = false ∧ (reachL t p l n i fo fi).2 = t + j * p + (fates l j).2.1) := by
  intro n
  induction n with
  | zero =>
    intro i fo fi
    refine ⟨⟨.inl, fun h => h.elim id (fun ⟨j, h1, h2, _⟩ => by omega)⟩, ⟨fun _ => Int.le_refl _, fun j h1 h2 => by omega⟩, .inl ⟨rfl, id⟩⟩
  | succ n ih =>
    intro i fo fi
    simp only [reachL]
    split
    · rename_i hl
      obtain ⟨h1, ⟨h2, h3⟩, h4⟩ := ih (i + 1) fo fi
      refine ⟨h1.trans ⟨fun h => h.elim .inl (fun ⟨j, a, b, c⟩ => .inr ⟨j, by omega, by omega, c⟩), fun h => h.elim .inl (fun ⟨j, a, b, c⟩ => .inr ⟨j, ?_, by omega, c⟩)⟩, ⟨h2, fun j a b c => h3 j ?_ (by omega) c⟩, h4.imp id (fun ⟨j, a, b, c⟩ => ⟨j, by omega, by omega, c⟩)⟩
      · have : j ≠ i := fun h => by rw [h, hl] at c; cases c
        omega
      · have : j ≠ i := fun h => by rw [h, hl] at c; cases c
        omega
    · rename_i hl
      have hl' : (fates l i).1 = false := by simpa using hl
      split
      · rename_i hc
        obtain ⟨h1, ⟨h2, h3⟩, h4⟩ := ih (i + 1) true (t + i * p + (fates l i).2.1)
        refine ⟨⟨fun _ => .inr ⟨i, by omega, by omega, hl'⟩, fun _ => h1.2 (.inl rfl)⟩, ⟨fun hf => ?_, fun j a b c => ?_⟩, .inr ?_⟩
        · have := h2 rfl
          rcases hc with h | h
          · rw [hf] at h; cases h
          · omega
        · by_cases hj : j = i
          · rw [hj]; exact h2 rfl
          · exact h3 j (by omega) (by omega) c
        · rcases h4 with h | ⟨j, a, b, c⟩
          · exact ⟨i, by omega, by omega, hl', h.1⟩
          · exact ⟨j, by omega, by omega, c⟩
      · rename_i hc
        have hf : fo = true := by cases fo with | true => rfl | false => exact absurd (.inl rfl) hc
        have hn : ¬ (t + i * p + (fates l i).2.1 < fi) := fun h => hc (.inr h)
        obtain ⟨h1, ⟨h2, h3⟩, h4⟩ := ih (i + 1) fo fi
        refine ⟨⟨fun _ => .inl hf, fun _ => h1.2 (.inl hf)⟩, ⟨h2, fun j a b c => ?_⟩, h4.imp id (fun ⟨j, a, b, c⟩ => ⟨j, by omega, by omega, c⟩)⟩
        by_cases hj : j = i
        · have := h2 hf; rw [hj]; omega
        · exact h3 j (by omega) (by omega) c

theorem reach_spec {c : Chan} (hc : validC c = true) {t : Int} (ht : 0 ≤ t ∧ t ≤ 8589934592) (l : List Fate) :
    ((reach c t l).2 = true ↔ ∃ j, 0 ≤ j ∧ j < c.2.2.1 ∧ (fates l j).1 = false) ∧
    (∀ j, 0 ≤ j → j < c.2.2.1 → (fates l j).1 = false → (reach c t l).1 ≤ t + j * c.2.2.2.1 + (fates l j).2.1) ∧
    ((reach c t l).2 = true → ∃ j, 0 ≤ j ∧ j < c.2.2.1 ∧ (fates l j).1 = false ∧ (reach c t l).1 = t + j * c.2.2.2.1 + (fates l j).2.1) := by
  obtain ⟨c1, c2, c3, c4⟩ := validC_iff.1 hc
  obtain ⟨h1, ⟨h2, h3⟩, h4⟩ := reachL_spec t c.2.2.2.1 l c.2.2.1.toNat 0 false 0
  have hin : inB t 0 8589934592 = true := inB_iff.2 ht
  simp only [reach, hc, hin, and_self, if_true]
  refine ⟨h1.trans ⟨fun h => h.elim (fun h => by cases h) (fun ⟨j, a, b, e⟩ => ⟨j, a, by omega, e⟩), fun ⟨j, a, b, e⟩ => .inr ⟨j, a, by omega, e⟩⟩, fun j a b e => h3 j a (by omega) e, fun hh => ?_⟩
  rcases h4 with h | ⟨j, a, b, e⟩
  · rw [h.2 rfl] at hh; cases hh
  · exact ⟨j, a, by omega, e⟩

theorem worksL_iff (lat : Int) (l : List Fate) : ∀ (n : Nat) (i : Int), worksL lat l n i = true ↔ ∃ j, i ≤ j ∧ j < i + n ∧ (fates l j).1 = false ∧ (fates l j).2.1 ≤ lat := by
  intro n
  induction n with
  | zero => intro i; exact ⟨fun h => (by cases h), fun ⟨j, a, b, _⟩ => (by omega)⟩
  | succ n ih =>
    intro i
    simp only [worksL, Bool.or_eq_true, Bool.and_eq_true, Bool.not_eq_true', decide_eq_true_eq, ih]
    constructor
    · rintro (⟨a, b⟩ | ⟨j, a, b, e⟩)
      · exact ⟨i, by omega, by omega, a, b⟩
      · exact ⟨j, by omega, by omega, e⟩
    · rintro ⟨j, a, b, e⟩
      by_cases hj : j = i
      · exact .inl (hj ▸ e)
      · exact .inr ⟨j, by omega, by omega, e⟩

theorem mul_bound {j p : Int} (h0 : 0 ≤ j) (h1 : j ≤ 6) (p0 : 0 ≤ p) (p1 : p ≤ 3600) : 0 ≤ j * p ∧ j * p ≤ 21600 :=
  ⟨Int.mul_nonneg h0 p0, Int.le_trans (Int.mul_le_mul_of_nonneg_right h1 p0) (Int.mul_le_mul_of_nonneg_left p1 (show (0 : Int) ≤ 6 by omega))⟩

theorem channel_valid {c : Chan} (h : (0 ≤ c.1 ∧ c.1 < 3) ∧ c.2.1 ∈ [0, 30, 60, 3600] ∧ (1 ≤ c.2.2.1 ∧ c.2.2.1 ≤ 4) ∧ c.2.2.2.1 ∈ [1, 30, 60, 120]) : validC c = true := by
  obtain ⟨h1, h2, h3, h4⟩ := h
  simp only [List.mem_cons, List.not_mem_nil, or_false] at h2 h4
  exact validC_iff.2 ⟨by omega, by omega, by omega, by omega⟩

theorem fates_of {l : List Fate} {k : Int} {f : Fate} (h0 : 0 ≤ k) (he : l[k.toNat]? = some f) (hv : validF f = true) : fates l k = f := by
  have hk : k.toNat < l.length := by
    rcases Nat.lt_or_ge k.toNat l.length with h | h
    · exact h
    · rw [List.getElem?_eq_none h] at he; cases he
  unfold fates
  rw [getD_of he, if_pos ⟨h0, by omega, hv⟩]

/-! ### Law 4 -/
theorem loop4 {c : Chan} {t : Int} (hc : c.2.2.1 ≤ 6) : ∀ (n : Nat) (i : Int) (d : Dice) (l : List Fate), 0 ≤ i → i + n = c.2.2.1 → DOK d → (l.length : Int) = i →
    ∃ d' l', loopT l4_0_7 ((i, t, ()), ((d, ()), (l, ((c, ()), ())))) = some ((t, ()), (l', ((c, ()), ((d', ()), ())))) ∧ DOK d' ∧ (l'.length : Int) = c.2.2.1 := by
  intro n
  induction n with
  | zero =>
    intro i d l h0 h1 hd hl
    refine ⟨d, l, loopT_inr ?_, hd, by omega⟩
    have : ¬ i < c.2.2.1 := by omega
    simp [l4_0_7, this]
  | succ n ih =>
    intro i d l h0 h1 hd hl
    have hlt : i < c.2.2.1 := by omega
    have hi : w64 (i + 1) = i + 1 := w64_id (by omega) (by omega)
    obtain ⟨f, d1, e1, hd1, _⟩ := fate_spec d hd
    obtain ⟨d', l', e2, h⟩ := ih (i + 1) d1 (l ++ [f]) (by omega) (by omega) hd1 (by simp; omega)
    refine ⟨d', l', ?_, h⟩
    have hlen : l.length + 1 ≤ 4294967296 := by omega
    have hs : l4_0_7 ((i, t, ()), ((d, ()), (l, ((c, ()), ())))) = some (.inl ((i + 1, t, ()), ((d1, ()), (l ++ [f], ((c, ()), ()))))) := by
      unfold l4_0_7
      simp [hlt, e1, hi, hlen]
    rw [loopT_inl hs]
    exact e2

theorem law4c (l : List Int) (t : Int) (t1 : 0 ≤ t) (t2 : t ≤ 4294967295) : m4 ((l, t, ()), ()) = some ((true, ()), ()) := by
  unfold m4
  simp only [m8_eq, Option.bind_some]
  by_cases hlen : (l.length : Int) ≤ 500
  · simp only [hlen, decide_true, Bool.not_true, cond_false, m10_eq, Option.bind_some]
    obtain ⟨c, d1, e1, hd1, hcs⟩ := channel_spec (l, 0, ()) (dice0 hlen)
    have hc := channel_valid hcs
    obtain ⟨c1, c2, c3, c4⟩ := validC_iff.1 hc
    simp only [e1, Option.bind_some]
    obtain ⟨d2, fs, e2, hd2, hfs⟩ := loop4 (c := c) (t := t) (by omega) c.2.2.1.toNat 0 d1 [] (by omega) (by omega) hd1 (by simp)
    rw [e2]
    simp only [Option.bind_some]
    obtain ⟨k, d3, e3, hd3, hk, _⟩ := next_spec c.2.2.1 d2 hd2 (by omega)
    have hk := hk (by omega)
    rw [e3]
    simp only [Option.bind_some]
    have hw1 : w64 (c.2.1 + 1) = c.2.1 + 1 := w64_id (by omega) (by omega)
    obtain ⟨de, d4, e4, hd4, hde, _⟩ := next_spec (c.2.1 + 1) d3 hd3 (by omega)
    have hde := hde (by omega)
    rw [hw1, e4]
    simp only [Option.bind_some]
    have ht : w64 t = t := w64_id (by omega) (by omega)
    have hkl : (0 : Int) ≤ k ∧ k < fs.length := by omega
    have hkn : k.toNat < fs.length := by omega
    rw [ht]
    simp only [hkl, hkn, and_self, decide_true, cond_true]
    generalize hg : fs.set k.toNat (false, de, 0, -1, ()) = gs
    have hgl : gs.length = fs.length := by rw [← hg]; simp
    have hge : gs[k.toNat]? = some (false, de, 0, -1, ()) := by rw [← hg]; simp [hkn]
    have hv : validF (false, de, 0, -1, ()) = true := validF_iff.2 ⟨by simp only; omega, by simp, by simp⟩
    have hf := fates_of hkl.1 hge hv
    rw [m14_eq c t gs (by omega)]
    obtain ⟨r1, r2, r3⟩ := reach_spec hc (t := t) ⟨t1, by omega⟩ gs
    have hok : (reach c t gs).2 = true := r1.2 ⟨k, hk.1, hk.2, by rw [hf]⟩
    have hle := r2 k hk.1 hk.2 (by rw [hf])
    rw [hf] at hle
    simp only at hle
    obtain ⟨j, j1, j2, j3, j4⟩ := r3 hok
    have hjv := validF_iff.1 (fates_valid j3)
    have hjb := mul_bound (p := c.2.2.2.1) j1 (by omega) (by omega) (by omega)
    have hkb := mul_bound (p := c.2.2.2.1) hk.1 (by omega) (by omega) (by omega)
    have hwo : worst c = (c.2.2.1 - 1) * c.2.2.2.1 + c.2.1 := by simp [worst, hc]
    have hwb := mul_bound (j := c.2.2.1 - 1) (p := c.2.2.2.1) (by omega) (by omega) (by omega) (by omega)
    have hkw : k * c.2.2.2.1 ≤ (c.2.2.1 - 1) * c.2.2.2.1 := Int.mul_le_mul_of_nonneg_right (by omega) (by omega)
    have hworks : works c gs = true := by
      simp only [works, hc, Bool.true_and]
      exact (worksL_iff _ _ _ _).2 ⟨k, hk.1, by omega, by rw [hf], by rw [hf]; simp only; omega⟩
    have g1 : t ≤ (reach c t gs).1 := by omega
    have hkl' : (0 : Int) ≤ k ∧ k < gs.length := by omega
    have hkn' : k.toNat < gs.length := by omega
    have hgg : gs[k.toNat] = (false, de, 0, -1, ()) := by
      have h := List.getElem?_eq_getElem hkn'
      rw [hge] at h
      exact (Option.some.inj h).symm
    have w1 : w64 (k * c.2.2.2.1) = k * c.2.2.2.1 := w64_id (by omega) (by omega)
    have w2 : w64 (t + k * c.2.2.2.1) = t + k * c.2.2.2.1 := w64_id (by omega) (by omega)
    have w3 : w64 (t + k * c.2.2.2.1 + de) = t + k * c.2.2.2.1 + de := w64_id (by omega) (by omega)
    have w4 : w64 (t + worst c) = t + worst c := w64_id (by omega) (by omega)
    have g2 : (reach c t gs).1 ≤ t + worst c := by omega
    simp [hok, g1, g2, hkl', hkn', hgg, w1, w2, w3, w4, hle, m15_eq, m17_eq c gs (by omega), hworks, m9_eq]
  · simp [hlen, m9_eq]

theorem law4 : ∀ x, Abs.InRs [(.row (.int .i64)), (.int .u32)] x → m4 (x, ()) = some ((true, ()), ()) :=
  fun x h => law4c x.1 x.2.1 h.2.1.1 h.2.1.2
end Go.Proofs.Ytnmfcglhgaocoaa
