/- A state brought into a shape says less than before: boxes, names, the whole. -/
import Derived.Test.YtcblbcpnfidndaaPwW
set_option linter.unusedSimpArgs false
set_option linter.unusedVariables false
namespace Go.Abs
open Go

section
variable {ℓ ℓ' : Lens} {A B C H H' K : SHeap} {v v' : SV}

theorem HW.box {H K : Heap} (hw : HW H K) {g : Nm} {sz : Nat} {x y : AV} (h1 : get H g = some ⟨sz, [x], 0, true⟩) (h2 : get K g = some ⟨sz, [x], 0, true⟩) (hc : CW H K x y) :
    HW H (set K g (some ⟨sz, [y], 0, true⟩)) := by
  intro Y w ρ hr
  obtain ⟨hk, hst⟩ := hw Y w ρ hr
  rcases hr.blk g _ h1 with ⟨_, a2, _⟩ | ⟨b, hρ, ⟨a0, cs, T, hcs, he⟩ | ⟨_, a2, _⟩⟩
  · cases a2
  · have hw1 := hk.write (w1 := w) (k1 := ⟨sz, [y], 0, true⟩) h2 hρ a0 rfl rfl rfl rfl (fun _ _ => rfl) hcs hcs rfl (fun _ _ => rfl) rfl (Nat.le_refl _) ⟨he.1, fun i z hz => by
      cases i with
      | succ i => simp at hz
      | zero =>
        simp at hz
        subst hz
        obtain ⟨b1, b2⟩ := he.2 0 x rfl
        refine ⟨by rw [← hc.len]; exact b1, fun j u hu => ?_⟩
        have hj : j < x.cells.length := by rw [hc.len]; exact (List.getElem?_eq_some_iff.1 hu).1
        obtain ⟨b3, b4⟩ := b2 j _ (List.getElem?_eq_getElem hj)
        exact ⟨b3, hc.cell j _ u (List.getElem?_eq_getElem hj) hu Y w ρ _ hr b4⟩⟩
    exact ⟨hw1.1, hst.trans hw1.2⟩
  · cases a2

theorem convB_spec : ∀ (bk : Bks) (j : Nat) (H H' : SHeap), (convB bk j H).mean = some H' → Agr ℓ H' → Agr ℓ H ∧ HW (dH ℓ H) (dH ℓ H') := by
  intro bk
  induction bk with
  | nil => intro j H H' h ha; have := Tr.mean_ret h; subst this; exact ⟨ha, HW.refl _⟩
  | box sz s r ih =>
    intro j H H' h ha
    simp only [convB] at h
    split at h
    · rename_i sz' v hg
      obtain ⟨⟨l, K⟩, h1, h2⟩ := Tr.mean_bind h
      simp only at h2
      split at h2
      · rename_i v'
        obtain ⟨a1, a2⟩ := ih _ _ _ h2 ha
        -- the box is there still
        have hkeep : ∀ ha' : Agr ℓ K, getS K (j, 0) = some (.box sz' v) := fun ha' => (convL_spec (ℓ := ℓ) s [v] H _ K h1 ha').box _ _ _ hg
        have hagr : Agr ℓ K := by
          cases hk : getS K (j, 0) with
          | none =>
            intro g b hb
            refine a1 g b ?_
            rw [getS_setS, if_neg (fun hh => by rw [hk] at hh; simp at hh)]
            exact hb
          | some b0 =>
            -- whatever it is, its length is that of a box
            have hb0 := (convL_spec (ℓ := lenS K) s [v] H _ K h1 (lenS_agr K)).box _ _ _ hg
            exact Agr.setS (b := .box sz' v') hb0 rfl a1
        have hc := convL_spec (ℓ := ℓ) s [v] H _ K h1 hagr
        have hv : CV ℓ H K v v' := by
          have := hc.vals
          cases this with
          | cons h _ => exact h
        refine ⟨hc.agr, (HW.box hc.hw (g := (j, 0)) (sz := sz') ?_ ?_ hv.a).trans ?_⟩
        · rw [get_dH, hg]; rfl
        · rw [get_dH, hc.box _ _ _ hg]; rfl
        · rw [dH_setS] at a2; exact a2
      · exact (Tr.mean_fail h2).elim
    · exact (Tr.mean_fail h).elim
  | arr t z r ih =>
    intro j H H' h ha
    simp only [convB] at h
    obtain ⟨a1, a2⟩ := ih _ _ _ h ha
    cases z with
    | false => exact ⟨a1, a2⟩
    | true =>
      simp only at a1 a2
      split at a1
      · rename_i t' l z hg
        have hs : ∀ g ∈ [((j, 0) : Nm)], IsArr H g := fun g hg' => by simp at hg'; subst hg'; exact ⟨_, _, _, hg⟩
        rw [hg] at a2
        exact ⟨a1.stopS, (HW.stopS hs).trans a2⟩
      · rename_i hn
        split at a2
        · rename_i t' l z hg; exact absurd hg (hn _ _ _)
        · exact ⟨a1, a2⟩
  | mp t r ih =>
    intro j H H' h ha
    exact ih _ _ _ h ha
  | dead n r ih =>
    intro j H H' h ha
    exact ih _ _ _ h ha

/-! ### Compaction -/

theorem mapM_get {α β : Type} {f : α → Option β} {l : List α} {l' : List β} (h : l.mapM f = some l') {i : Nat} {a : α} (ha : l[i]? = some a) : ∃ b, l'[i]? = some b ∧ f a = some b := (mapM_some _ _ _ h).2 i a ha

theorem tidyS_spec {m : Nat} {s s' : SSt} (h : tidyS m s = some s') (ha : Agr ℓ s.hp) (ha' : Agr ℓ' s'.hp) : Abs.tidy m (dS ℓ s) = dS ℓ' s' := by
  unfold tidyS at h
  simp only at h
  split at h
  · rename_i hp hm
    simp only [Option.some.injEq] at h
    subst h
    have hroots : ((dS ℓ s).fr.flatMap fun p => refsV p.2) = s.fr.flatMap fun p => refsVS p.2 := by
      simp only [dS, dF, List.flatMap_map, refsV_d]
    have hR : reached (dS ℓ s).hp m ((dS ℓ s).fr.flatMap fun p => refsV p.2) = reachedS s.hp m (s.fr.flatMap fun p => refsVS p.2) := by
      rw [hroots]; exact reached_d ℓ s.hp m _
    unfold Abs.tidy
    simp only
    rw [hR]
    generalize reachedS s.hp m (s.fr.flatMap fun p => refsVS p.2) = R at hm ⊢
    have hgoes : Goes (renTo m R) ℓ ℓ' := by
      intro g g' hg
      have key : ∀ i, (firstNames m ++ R)[i]? = some g → g' = (i, 0) → ℓ' g' = ℓ g := by
        intro i hi e
        obtain ⟨b, h1, h2⟩ := mapM_get hm hi
        obtain ⟨b0, h3, rfl⟩ := Option.map_eq_some_iff.1 h2
        subst e
        rw [ha' (i, 0) (renBS (renTo m R) b0) (by simp [getS, h1]), ha g b0 h3, renBS_len]
      unfold renTo at hg
      split at hg
      · rename_i hlt
        split at hg
        · rename_i h0
          cases hg
          refine key g.1 ?_ (by rw [← h0])
          rw [List.getElem?_append_left (by simpa [firstNames] using hlt)]
          simp [firstNames, hlt, ← h0]
        · cases hg
      · cases hi : idxOf g R 0 with
        | none => simp [hi] at hg
        | some i =>
          simp [hi] at hg
          obtain ⟨_, hR⟩ := idxOf_spec g R 0 i hi
          refine key (m + i) ?_ hg.symm
          rw [List.getElem?_append_right (by simp [firstNames])]
          simpa [firstNames] using hR
    simp only [dS, dF, List.map_map]
    congr 1
    · refine List.map_congr_left fun p _ => ?_
      simp only [Function.comp, renV_d hgoes]
    · unfold packH
      simp only [dH]
      apply List.ext_getElem?
      intro i
      simp only [List.getElem?_map]
      cases hi : (firstNames m ++ R)[i]? with
      | none =>
        have : hp[i]? = none := by
          rw [List.getElem?_eq_none_iff, (mapM_some _ _ _ hm).1]
          exact List.getElem?_eq_none_iff.1 hi
        rw [this]; rfl
      | some g =>
        obtain ⟨b, h1, h2⟩ := mapM_get hm hi
        obtain ⟨b0, h3, rfl⟩ := Option.map_eq_some_iff.1 h2
        rw [h1]
        simp only [Option.map_some, List.map_cons, List.map_nil]
        rw [show get (List.map (fun l => List.map (dB ℓ) l) s.hp) g = _ from get_dH ℓ s.hp g, h3, Option.bind_some, renB_d hgoes]
  · cases h

/-! ### Out of the shape -/

theorem castL_spec {t t' : Ty} {l : List t.den} {l' : List t'.den} (h : castL l = some l') (tight : Bool) : rowAV t l tight = rowAV t' l' tight := by
  unfold castL at h
  split at h
  · rename_i e; subst e; cases h; rfl
  · split at h
    · cases h; rfl
    · cases h

theorem paC_spec : ∀ (t : Ty) (cs : List SV) (x : t.den) (r : List SV), paC t cs = some (x, r) → ∃ pre, cs = pre ++ r ∧ F2 (fun c c' => CV ℓ H H c c') pre (unC t x) := by
  intro t
  induction t with
  | int k =>
    intro cs x r h
    cases cs with
    | nil => cases h
    | cons c cs =>
      cases c <;> first | (cases h; done) | skip
      simp only [paC] at h
      split at h
      · rename_i e; subst e; cases h; exact ⟨[_], rfl, .cons (CV.refl (HW.refl _) _) .nil⟩
      · cases h
  | bool =>
    intro cs x r h
    cases cs with
    | nil => cases h
    | cons c cs =>
      cases c <;> first | (cases h; done) | skip
      cases h
      exact ⟨[_], rfl, .cons (CV.refl (HW.refl _) _) .nil⟩
  | str =>
    intro cs x r h
    cases cs with
    | nil => cases h
    | cons c cs =>
      cases c <;> first | (cases h; done) | skip
      cases h
      exact ⟨[_], rfl, .cons (CV.refl (HW.refl _) _) .nil⟩
  | row t ih =>
    intro cs x r h
    cases cs with
    | nil => cases h
    | cons c cs =>
      cases c <;> first | cases h | skip
      rename_i t' l tg
      simp only [paC] at h
      split at h
      · rename_i l' hl
        cases h
        refine ⟨[_], rfl, .cons ?_ .nil⟩
        have hv : VW (dH ℓ H) (dH ℓ H) (rowAV t' l tg) (rowAV t x false) := by
          rw [← castL_spec hl false]
          exact VW.row (HW.refl _)
        exact ⟨CW.of _ _ rfl rfl hv, hv⟩
      · cases h
  | unit => intro cs x r h; cases h; exact ⟨[], rfl, .nil⟩
  | cons a b iha ihb =>
    intro cs x r h
    simp only [paC] at h
    split at h
    · rename_i y r1 h1
      split at h
      · rename_i z r2 h2
        cases h
        obtain ⟨p1, rfl, f1⟩ := iha _ _ _ h1
        obtain ⟨p2, rfl, f2⟩ := ihb _ _ _ h2
        refine ⟨p1 ++ p2, by simp, ?_⟩
        simp only [unC]
        have app : ∀ {l m : List SV}, F2 (fun c c' => CV ℓ H H c c') l m → F2 (fun c c' => CV ℓ H H c c') (l ++ p2) (m ++ unC b z) := by
          intro l m f
          induction f with
          | nil => exact f2
          | cons h _ ih => exact .cons h ih
        exact app f1
      · cases h
    · cases h

theorem paT_spec {t : Ty} {v : SV} {x : t.den} (h : paT t v = some x) : CV ℓ H H v (unT t x) := by
  unfold paT at h
  split at h
  · rename_i hagg
    split at h
    · rename_i y hy
      cases h
      obtain ⟨pre, h1, h2⟩ := paC_spec (ℓ := ℓ) (H := H) t _ _ _ hy
      rw [List.append_nil] at h1
      subst h1
      have hu : (unT t x).cells = unC t x := cells_unT t x
      have ha : v.isAgg = (unT t x).isAgg := by rw [hagg, isAgg_unT]
      refine ⟨⟨by rw [isAgg_dA, isAgg_dA, ha], ?_, fun j u u' e1 e2 => ?_⟩, ?_⟩
      · rw [cells_dA, cells_dA, hu, List.length_map, List.length_map]; exact h2.length
      · rw [cells_dA] at e1 e2
        rw [List.getElem?_map] at e1 e2
        rw [hu] at e2
        obtain ⟨a, b1, rfl⟩ := Option.map_eq_some_iff.1 e1
        obtain ⟨a', b2, rfl⟩ := Option.map_eq_some_iff.1 e2
        exact (h2.get j a a' b1 b2).c
      · cases hv : v.isAgg with
        | true =>
          rw [hv] at ha
          have e : dC ℓ (unT t x) = .undef := by
            generalize unT t x = z at ha
            cases z <;> first | rfl | cases ha
          rw [e]; exact VW.undef
        | false =>
          rw [hv] at ha
          have e1 : v.cells = [v] := by cases v <;> first | rfl | cases hv
          have e2 : (unT t x).cells = [unT t x] := by
            generalize unT t x = z at ha
            cases z <;> first | rfl | cases ha
          rw [e1, ← hu, e2] at h2
          cases h2 with
          | cons h _ => exact h.c
    · cases h
  · cases h

theorem ptrsEq_spec : ∀ (caps : List (Nm × Nat × Nat × Nat)) (cs : List SV), ptrsEq caps cs = true → cs = caps.map fun c => .ptr c.1 c.2.1 c.2.2.1 c.2.2.2 := by
  intro caps
  induction caps with
  | nil => intro cs h; cases cs with
    | nil => rfl
    | cons _ _ => cases h
  | cons c r ih =>
    intro cs h
    cases cs with
    | nil => cases h
    | cons v vs =>
      simp only [ptrsEq, Bool.and_eq_true] at h
      obtain ⟨h1, h2⟩ := h
      rw [ih vs h2]
      cases v <;> first | (cases h1; done) | skip
      simp only [ptrEq, decide_eq_true_eq] at h1
      subst h1
      rfl

theorem fits_spec {x : Stt} {v : SV} (h : x.fits v = true) : CV ℓ H H v x.un := by
  have eq : v = x.un → CV ℓ H H v x.un := fun e => by rw [← e]; exact CV.refl (HW.refl _) v
  cases x with
  | undef => exact CV.undef (HW.refl _) (by simpa [Stt.fits] using h)
  | nil =>
    cases v <;> first | (cases h; done) | skip
    rename_i t l tg
    cases l <;> first | (cases h; done) | skip
    cases tg <;> first | (cases h; done) | skip
    have : dC ℓ (.row t [] true) = dC ℓ (.row .unit [] true) := rfl
    refine ⟨CW.of _ _ rfl rfl ?_, ?_⟩
    · exact VW.refl _ _
    · exact VW.refl _ _
  | nilp => cases v <;> first | (cases h; done) | exact eq rfl
  | nilf => cases v <;> first | (cases h; done) | exact eq rfl
  | own t g =>
    cases v <;> first | (cases h; done) | skip
    simp only [Stt.fits, decide_eq_true_eq] at h
    obtain ⟨rfl, rfl⟩ := h
    exact eq rfl
  | ptr g sz i off =>
    cases v <;> first | (cases h; done) | skip
    simp only [Stt.fits, decide_eq_true_eq] at h
    obtain ⟨rfl, rfl, rfl, rfl⟩ := h
    exact eq rfl
  | clo f caps =>
    cases v <;> first | (cases h; done) | skip
    simp only [Stt.fits, Bool.and_eq_true, decide_eq_true_eq] at h
    obtain ⟨rfl, h2⟩ := h
    exact eq (by rw [ptrsEq_spec _ _ h2]; rfl)
  | fm l =>
    cases v <;> first | (cases h; done) | skip
    simp only [Stt.fits, decide_eq_true_eq] at h
    subst h
    exact eq rfl
  | fp g =>
    cases v <;> first | (cases h; done) | skip
    simp only [Stt.fits, decide_eq_true_eq] at h
    subst h
    exact eq rfl

theorem pa_spec : ∀ (s : Sh) (vs : List SV) (x : s.den), s.pa vs = some x → F2 (CV ℓ H H) vs (s.un x) := by
  intro s
  induction s with
  | nil => intro vs x h; cases vs with
    | nil => exact .nil
    | cons _ _ => cases h
  | st y r ih =>
    intro vs x h
    cases vs with
    | nil => cases h
    | cons v vs =>
      replace h : (if y.fits v = true then r.pa vs else none) = (some x : Option r.den) := h
      split at h
      · rename_i hf; exact .cons (fits_spec hf) (ih _ _ h)
      · cases h
  | dat t r ih =>
    intro vs x h
    cases vs with
    | nil => cases h
    | cons v vs =>
      simp only [Sh.pa] at h
      split at h
      · rename_i a b h1 h2; cases h; exact .cons (paT_spec h1) (ih _ _ h2)
      · cases h
  | part t g r ih =>
    intro vs x h
    cases vs with
    | nil => cases h
    | cons v vs =>
      simp only [Sh.pa] at h
      split at h
      · rename_i t' g' off len b h2
        split at h
        · rename_i e; obtain ⟨rfl, rfl⟩ := e; cases h; exact .cons (CV.refl (HW.refl _) _) (ih _ _ h2)
        · cases h
      · cases h
  | eptr g sz off r ih =>
    intro vs x h
    cases vs with
    | nil => cases h
    | cons v vs =>
      simp only [Sh.pa] at h
      split at h
      · rename_i g' sz' i off' b h2
        split at h
        · rename_i e; obtain ⟨rfl, rfl, rfl⟩ := e; cases h; exact .cons (CV.refl (HW.refl _) _) (ih _ _ h2)
        · cases h
      · cases h
  | agg i r ihi ih =>
    intro vs x h
    cases vs with
    | nil => cases h
    | cons v vs =>
      simp only [Sh.pa] at h
      split at h
      · rename_i cs b h2
        split at h
        · rename_i a h1
          cases h
          have f := ihi _ _ h1
          refine .cons ⟨⟨rfl, ?_, fun j u u' e1 e2 => ?_⟩, VW.undef⟩ (ih _ _ h2)
          · simp only [dA, AV.cells, List.length_map]; exact f.length
          · simp only [dA, AV.cells, List.getElem?_map] at e1 e2
            obtain ⟨p, b1, rfl⟩ := Option.map_eq_some_iff.1 e1
            obtain ⟨q, b2, rfl⟩ := Option.map_eq_some_iff.1 e2
            exact (f.get j p q b1 b2).c
        · cases h
      · cases h

end
end Go.Abs
