/- Chapter 26, law 5 (First): the plain law. -/
import Derived.Test.YtnmfcglhgaocoaaR
namespace Go.Proofs.Ytnmfcglhgaocoaa
open Go Go.Abs

theorem loop18 : ∀ (n : Nat) (d : Dice) (l : List Fate), l.length + n ≤ 1000 → DOK d →
    ∃ d' l', loopT l18_0_3 (((n : Int), ()), ((d, ()), (l, ()))) = some ((), ((d', ()), (l', ()))) ∧ DOK d' ∧ l'.length = l.length + n := by
  intro n
  induction n with
  | zero =>
    intro d l h0 hd
    exact ⟨d, l, loopT_inr (by simp [l18_0_3]), hd, rfl⟩
  | succ n ih =>
    intro d l h0 hd
    have hgt : ((n + 1 : Nat) : Int) > 0 := by omega
    have hi : w64 (((n + 1 : Nat) : Int) - 1) = (n : Int) := by rw [w64_id (by omega) (by omega)]; omega
    obtain ⟨f, d1, e1, hd1, _⟩ := fate_spec d hd
    have hlen : l.length + 1 ≤ 4294967296 := by omega
    have hs : l18_0_3 ((((n + 1 : Nat) : Int), ()), ((d, ()), (l, ()))) = some (.inl (((n : Int), ()), ((d1, ()), (l ++ [f], ())))) := by
      unfold l18_0_3
      simp only [hgt, decide_true, cond_true, e1, Option.bind_some, hi, List.length_cons, List.length_nil, Nat.zero_add, hlen]
    rw [loopT_inl hs]
    obtain ⟨d', l', e2, h, hh⟩ := ih d1 (l ++ [f]) (by simp; omega) hd1
    exact ⟨d', l', e2, h, by rw [hh]; simp; omega⟩

theorem m18_spec (d : Dice) (hd : DOK d) : ∃ d' l, m18 ((), ((d, ()), ())) = some ((), ((d', ()), (l, ()))) ∧ DOK d' ∧ l.length ≤ 4 := by
  obtain ⟨n, d1, e1, h1, b1, _⟩ := next_spec 5 d hd (by omega)
  have b1 := b1 (by omega)
  obtain ⟨d2, l, e2, h2, b2⟩ := loop18 n.toNat d1 [] (by simp; omega) h1
  refine ⟨d2, l, ?_, h2, by rw [b2]; simp; omega⟩
  unfold m18
  rw [show ((n.toNat : Nat) : Int) = n by omega] at e2
  simp only [e1, Option.bind_some, e2]

def plainF (f : Fate) : Fate := if validF f = true then (f.1, f.2.1, 0, -1, ()) else (true, 0, 0, -1, ())

theorem loop57 {c : Chan} {t : Int} {l : List Fate} (hl : l.length ≤ 1000) : ∀ (n : Nat) (i : Nat) (ps : List Fate), i + n = l.length → ps.length = i →
    loopT l5_0_7 (((i : Int), t, (l.length : Int), ()), (ps, (l, ((c, ()), ())))) = some ((t, ()), (l, ((c, ()), (ps ++ (l.drop i).map plainF, ())))) := by
  intro n
  induction n with
  | zero =>
    intro i ps h hp
    have hd : l.drop i = [] := List.drop_eq_nil_of_le (by omega)
    rw [hd]
    refine loopT_inr ?_
    have : ¬ ((i : Int) < l.length) := by omega
    simp [l5_0_7, this]
  | succ n ih =>
    intro i ps h hp
    have hi' : i < l.length := by omega
    have hlt : (i : Int) < l.length := by omega
    have hr : (0 : Int) ≤ i ∧ (i : Int) < l.length := by omega
    have hx : l[i]? = some l[i] := List.getElem?_eq_getElem hi'
    have hw : w64 ((i : Int) + 1) = ((i + 1 : Nat) : Int) := by rw [w64_id (by omega) (by omega)]; omega
    have hlen : ps.length ≤ 4294967295 := by omega
    have hs : l5_0_7 (((i : Int), t, (l.length : Int), ()), (ps, (l, ((c, ()), ())))) = some (.inl ((((i + 1 : Nat) : Int), t, (l.length : Int), ()), (ps ++ [plainF l[i]], (l, ((c, ()), ()))))) := by
      unfold l5_0_7
      cases hv : validF l[i] with
      | true => simp [hlt, hr, hx, m19_eq, hv, hlen, hw, plainF]
      | false => simp [hlt, hr, hx, m19_eq, hv, hlen, hw, plainF]
    rw [loopT_inl hs, ih (i + 1) (ps ++ [plainF l[i]]) (by omega) (by simp; omega)]
    rw [List.drop_eq_getElem_cons hi', List.map_cons, List.append_assoc]
    rfl

theorem plain_fates (l : List Fate) (j : Int) : (fates (l.map plainF) j).1 = (fates l j).1 ∧ (fates (l.map plainF) j).2.1 = (fates l j).2.1 := by
  by_cases h : 0 ≤ j ∧ j < l.length
  · have hj : j.toNat < l.length := by omega
    have he : l[j.toNat]? = some l[j.toNat] := List.getElem?_eq_getElem hj
    have he' : (l.map plainF)[j.toNat]? = some (plainF l[j.toNat]) := by simp [he]
    have hp : validF (plainF l[j.toNat]) = true := by
      unfold plainF
      split
      · rename_i hv
        have := validF_iff.1 hv
        exact validF_iff.2 ⟨this.1, by simp, by simp⟩
      · exact validF_iff.2 ⟨by simp, by simp, by simp⟩
    rw [fates_of h.1 he' hp]
    cases hv : validF l[j.toNat] with
    | true => rw [fates_of h.1 he hv]; simp [plainF, hv]
    | false =>
      have : fates l j = lost := by
        unfold fates
        rw [getD_of he, if_neg (by simp [hv])]
      rw [this]; simp [plainF, hv, lost]
  · unfold fates
    rw [if_neg (fun hh => h ⟨hh.1, by have h2 := hh.2.1; rw [List.length_map] at h2; exact h2⟩), if_neg (fun hh => h ⟨hh.1, hh.2.1⟩)]
    exact ⟨rfl, rfl⟩

theorem reachL_congr {t p : Int} {l l' : List Fate} (h : ∀ j, (fates l' j).1 = (fates l j).1 ∧ (fates l' j).2.1 = (fates l j).2.1) : ∀ (n : Nat) (i : Int) (fo : Bool) (fi : Int),
    reachL t p l' n i fo fi = reachL t p l n i fo fi := by
  intro n
  induction n with
  | zero => intro i fo fi; rfl
  | succ n ih =>
    intro i fo fi
    simp only [reachL, (h i).1, (h i).2, ih]

theorem loop520 {c : Chan} {t y k x : Int} {ok is : Bool} {l : List Fate} {av : List Int} (hlen : av.length ≤ 2) (hge : ∀ a ∈ av, x ≤ a) : ∀ (n i : Nat) (b : Bool), i + n = av.length →
    loopT l5_0_20 (((i : Int), x, b, t, ok, is, y, k, (av.length : Int), ()), (av, (l, ((c, ()), ())))) = some (.inr ((x, b || (av.drop i).any (fun a => a == x), t, ok, is, y, k, ()), (l, ((c, ()), ())))) := by
  intro n
  induction n with
  | zero =>
    intro i b h
    have hd : av.drop i = [] := List.drop_eq_nil_of_le (by omega)
    rw [hd]
    refine loopT_inr ?_
    have : ¬ ((i : Int) < av.length) := by omega
    simp [l5_0_20, this]
  | succ n ih =>
    intro i b h
    have hi' : i < av.length := by omega
    have hlt : (i : Int) < av.length := by omega
    have hr : (0 : Int) ≤ i ∧ (i : Int) < av.length := by omega
    have hx : av[i]? = some av[i] := List.getElem?_eq_getElem hi'
    have hw : w64 ((i : Int) + 1) = ((i + 1 : Nat) : Int) := by rw [w64_id (by omega) (by omega)]; omega
    have hxx : ¬ (av[i] < x) := by
      have := hge av[i] (List.getElem_mem hi')
      omega
    have hs : l5_0_20 (((i : Int), x, b, t, ok, is, y, k, (av.length : Int), ()), (av, (l, ((c, ()), ())))) = some (.inl ((((i + 1 : Nat) : Int), x, (b || av[i] == x), t, ok, is, y, k, (av.length : Int), ()), (av, (l, ((c, ()), ()))))) := by
      unfold l5_0_20
      cases b with
      | true => simp [hlt, hr, hx, hxx, hw]
      | false => simp [hlt, hr, hx, hxx, hw]
    rw [loopT_inl hs, ih (i + 1) _ (by omega)]
    rw [List.drop_eq_getElem_cons hi', List.any_cons, Bool.or_assoc]

theorem arr_len (t : Int) (f : Fate) : (arr t f).length ≤ 2 := by
  rcases arr_cases t f with e | ⟨_, _, _, e | ⟨_, e⟩⟩ <;> rw [e] <;> simp

theorem loop517 {c : Chan} (hc : validC c = true) {t y x : Int} (ht : 0 ≤ t ∧ t ≤ 8589934592) {ok is : Bool} {l : List Fate} (hl : l.length ≤ 1000)
    (hge : ∀ j, 0 ≤ j → j < c.2.2.1 → ∀ a ∈ arr (t + j * c.2.2.2.1) (fates l j), x ≤ a) : ∀ (n : Nat) (i : Int) (b : Bool), 0 ≤ i → i + n = c.2.2.1 →
    ∃ b', loopT l5_0_17 ((x, b, i, t, ok, is, y, ()), (l, ((c, ()), ()))) = some (.inr ((b', ok, is, y, x, ()), ())) ∧
      (b' = true ↔ b = true ∨ ∃ j, i ≤ j ∧ j < i + n ∧ x ∈ arr (t + j * c.2.2.2.1) (fates l j)) := by
  obtain ⟨c1, c2, c3, c4⟩ := validC_iff.1 hc
  intro n
  induction n with
  | zero =>
    intro i b h0 h1
    refine ⟨b, loopT_inr ?_, fun h => .inl h, fun h => h.elim id (fun ⟨j, a, e, _⟩ => by omega)⟩
    have : ¬ i < c.2.2.1 := by omega
    simp [l5_0_17, this]
  | succ n ih =>
    intro i b h0 h1
    have hlt : i < c.2.2.1 := by omega
    have hi : w64 (i + 1) = i + 1 := w64_id (by omega) (by omega)
    have hm := mul_bound (j := i) (p := c.2.2.2.1) h0 (by omega) (by omega) (by omega)
    have w1 : w64 (i * c.2.2.2.1) = i * c.2.2.2.1 := w64_id (by omega) (by omega)
    have w2 : w64 (t + i * c.2.2.2.1) = t + i * c.2.2.2.1 := w64_id (by omega) (by omega)
    have w3 : w64 t = t := w64_id (by omega) (by omega)
    have hin := loop520 (c := c) (t := t) (y := y) (k := i) (x := x) (ok := ok) (is := is) (l := l) (arr_len (t + i * c.2.2.2.1) (fates l i)) (hge i h0 hlt) (arr (t + i * c.2.2.2.1) (fates l i)).length 0 b (by omega)
    obtain ⟨b', e, hb⟩ := ih (i + 1) (b || (arr (t + i * c.2.2.2.1) (fates l i)).any (fun a => a == x)) (by omega) (by omega)
    refine ⟨b', ?_, hb.trans ?_⟩
    · have hs : l5_0_17 ((x, b, i, t, ok, is, y, ()), (l, ((c, ()), ()))) = some (.inl ((x, (b || (arr (t + i * c.2.2.2.1) (fates l i)).any (fun a => a == x)), i + 1, t, ok, is, y, ()), (l, ((c, ()), ())))) := by
        unfold l5_0_17
        simp only [hlt, decide_true, cond_true, w3, w1, w2, m21_eq l i (by omega), m20_eq, Option.bind_some]
        rw [show ((0 : Nat) : Int) = 0 from rfl, List.drop_zero] at hin
        rw [hin]
        simp [sumE, hi]
      rw [loopT_inl hs]
      exact e
    · simp only [Bool.or_eq_true, List.any_eq_true, beq_iff_eq, exists_eq_right]
      constructor
      · rintro ((h | h) | ⟨j, a, e, g⟩)
        · exact .inl h
        · exact .inr ⟨i, by omega, by omega, h⟩
        · exact .inr ⟨j, by omega, by omega, g⟩
      · rintro (h | ⟨j, a, e, g⟩)
        · exact .inl (.inl h)
        · by_cases hj : j = i
          · exact .inl (.inr (hj ▸ g))
          · exact .inr ⟨j, by omega, by omega, g⟩

theorem arr_mem {t : Int} {f : Fate} (ht : 0 ≤ t ∧ t ≤ 8589956192) (hv : validF f = true) (hl : f.1 = false) : t + f.2.1 ∈ arr t f := by
  unfold arr
  rw [if_pos ⟨inB_iff.2 ht, hv, hl⟩]
  split <;> simp

theorem law5c (l : List Int) (t : Int) (t1 : 0 ≤ t) (t2 : t ≤ 4294967295) : m5 ((l, t, ()), ()) = some ((true, ()), ()) := by
  unfold m5
  simp only [m8_eq, Option.bind_some]
  by_cases hlen : (l.length : Int) ≤ 500
  · simp only [hlen, decide_true, Bool.not_true, cond_false, m10_eq, Option.bind_some]
    obtain ⟨c, d1, e1, hd1, hcs⟩ := channel_spec (l, 0, ()) (dice0 hlen)
    have hc := channel_valid hcs
    obtain ⟨c1, c2, c3, c4⟩ := validC_iff.1 hc
    obtain ⟨d2, fs, e2, hd2, hfs⟩ := m18_spec d1 hd1
    simp only [e1, e2, Option.bind_some]
    have h57 := loop57 (c := c) (t := t) (l := fs) (by omega) fs.length 0 [] (by omega) rfl
    rw [show ((0 : Nat) : Int) = 0 from rfl, List.drop_zero, List.nil_append] at h57
    rw [h57]
    simp only [Option.bind_some]
    have ht : w64 t = t := w64_id (by omega) (by omega)
    rw [ht, m14_eq c t fs (by omega), m14_eq c t (fs.map plainF) (by simp; omega)]
    have hreq : reach c t (fs.map plainF) = reach c t fs := by
      simp only [reach, reachL_congr (plain_fates fs)]
    rw [hreq]
    simp only [Option.bind_some]
    have ht' : 0 ≤ t ∧ t ≤ 8589934592 := by omega
    obtain ⟨r1, r2, r3⟩ := reach_spec hc ht' fs
    obtain ⟨b, e3, hb⟩ := loop517 hc (y := (reach c t fs).1) (x := (reach c t fs).1) ht' (ok := (reach c t fs).2) (is := (reach c t fs).2) (l := fs) (by omega)
      (fun j h0 h1 a ha => by
        rcases arr_cases (t + j * c.2.2.2.1) (fates fs j) with e | ⟨hv, hlo, _, e | ⟨hne, e⟩⟩
        · rw [e] at ha; cases ha
        · have := r2 j h0 h1 hlo
          rw [e] at ha
          simp only [List.mem_cons, List.not_mem_nil, or_false] at ha
          omega
        · have := r2 j h0 h1 hlo
          have hvv := validF_iff.1 hv
          rw [e] at ha
          simp only [List.mem_cons, List.not_mem_nil, or_false] at ha
          omega) c.2.2.1.toNat 0 false (by omega) (by omega)
    rw [e3]
    have hbb : b = (reach c t fs).2 := by
      rw [Bool.eq_iff_iff, hb, r1]
      constructor
      · rintro (h | ⟨j, a, e, g⟩)
        · cases h
        · refine ⟨j, a, by omega, ?_⟩
          rcases arr_cases (t + j * c.2.2.2.1) (fates fs j) with e | ⟨hv, hlo, _⟩
          · rw [e] at g; cases g
          · exact hlo
      · intro h
        obtain ⟨j, a, e, g, gg⟩ := r3 (r1.2 h)
        have hm := mul_bound (j := j) (p := c.2.2.2.1) a (by omega) (by omega) (by omega)
        exact .inr ⟨j, a, by omega, gg ▸ arr_mem ⟨by omega, by omega⟩ (fates_valid g) g⟩
    simp [sumE, hbb, m9_eq]
  · simp [hlen, m9_eq]

theorem law5 : ∀ x, Abs.InRs [(.row (.int .i64)), (.int .u32)] x → m5 (x, ()) = some ((true, ()), ()) :=
  fun x h => law5c x.1 x.2.1 h.2.1.1 h.2.1.2
end Go.Proofs.Ytnmfcglhgaocoaa
