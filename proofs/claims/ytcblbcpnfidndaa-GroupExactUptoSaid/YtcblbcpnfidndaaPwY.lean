/- A state brought into a shape says less than before: the whole. -/
import Derived.Test.YtcblbcpnfidndaaPwX
set_option linter.unusedSimpArgs false
set_option linter.unusedVariables false
namespace Go.Abs
open Go

section
variable {ℓ : Lens} {H H0 : SHeap}

/-- Two blocks of which the second says less. -/
def RB (ℓ : Lens) (H : SHeap) (b b' : SB) : Prop := b = b' ∨ ∃ sz v v', b = .box sz v ∧ b' = .box sz v' ∧ CV ℓ H H v v'
def RG (ℓ : Lens) (H : SHeap) (l l' : List SB) : Prop := ∃ b b', l = [b] ∧ l' = [b'] ∧ RB ℓ H b b'

theorem RB.len {b b' : SB} (h : RB ℓ H b b') : b.len = b'.len := by
  rcases h with rfl | ⟨sz, v, v', rfl, rfl, _⟩ <;> rfl

theorem F2.getR {α β : Type} {R : α → β → Prop} {l : List α} {m : List β} (k : F2 R l m) {i : Nat} {b : β} (h : m[i]? = some b) : ∃ a, l[i]? = some a ∧ R a b := by
  have hi : i < l.length := by rw [k.length]; exact (List.getElem?_eq_some_iff.1 h).1
  exact ⟨l[i], List.getElem?_eq_getElem hi, k.get i _ _ (List.getElem?_eq_getElem hi) h⟩
theorem F2.getL {α β : Type} {R : α → β → Prop} {l : List α} {m : List β} (k : F2 R l m) {i : Nat} {a : α} (h : l[i]? = some a) : ∃ b, m[i]? = some b ∧ R a b := by
  have hi : i < m.length := by rw [← k.length]; exact (List.getElem?_eq_some_iff.1 h).1
  exact ⟨m[i], List.getElem?_eq_getElem hi, k.get i _ _ h (List.getElem?_eq_getElem hi)⟩

theorem groups_agr {H' : SHeap} (h : F2 (RG ℓ H0) H H') (ha : Agr ℓ H') : Agr ℓ H := by
  intro g b hg
  simp only [getS] at hg
  cases hl : H[g.1]? with
  | none => simp [hl] at hg
  | some l =>
    rw [hl] at hg
    obtain ⟨l', h1, b1, b2, rfl, rfl, h2⟩ := h.getL hl
    cases hc : g.2 with
    | succ c => rw [hc] at hg; simp at hg
    | zero =>
      rw [hc] at hg
      simp at hg
      subst hg
      rw [ha g b2 (by simp [getS, h1, hc]), h2.len]

theorem groups_hw {H' : SHeap} (h : F2 (RG ℓ H) H H') : HW (dH ℓ H) (dH ℓ H') := by
  refine HW.pw (fun g k' hg => ?_) (fun i => ?_)
  · rw [get_dH] at hg
    obtain ⟨b', h1, h2⟩ := Option.bind_eq_some_iff.1 hg
    simp only [getS] at h1
    cases hl : H'[g.1]? with
    | none => simp [hl] at h1
    | some l' =>
      rw [hl] at h1
      obtain ⟨l, h3, b1, b2, rfl, rfl, h4⟩ := h.getR hl
      cases hc : g.2 with
      | succ c => rw [hc] at h1; simp at h1
      | zero =>
        rw [hc] at h1
        simp at h1
        subst h1
        have hb : getS H g = some b1 := by simp [getS, h3, hc]
        rcases h4 with rfl | ⟨sz, v, v', rfl, rfl, hv⟩
        · exact ⟨k', by rw [get_dH, hb]; exact h2, rfl, rfl, Nat.le_refl _, .inl rfl⟩
        · simp only [dB, Option.some.injEq] at h2
          subst h2
          refine ⟨⟨sz, [dA ℓ v], 0, true⟩, by rw [get_dH, hb]; rfl, rfl, rfl, Nat.le_refl _, .inr ⟨rfl, rfl, fun i x y h5 h6 => ?_⟩⟩
          cases i with
          | succ i => simp at h5
          | zero => simp at h5 h6; subst h5; subst h6; exact hv.a
  · simp only [dH, List.getD_eq_getElem?_getD, List.getElem?_map]
    cases hl : H[i]? with
    | none =>
      have : H'[i]? = none := by rw [List.getElem?_eq_none_iff, ← h.length]; exact List.getElem?_eq_none_iff.1 hl
      rw [this]
    | some l =>
      obtain ⟨l', h1, b1, b2, rfl, rfl, _⟩ := h.getL hl
      rw [h1]; rfl

theorem bks_spec : ∀ (bk : Bks) (H : SHeap) (x : bk.den), bk.pa H = some x → F2 (RG ℓ H0) H (bk.un x) := by
  intro bk
  induction bk with
  | nil => intro H x h; cases H with
    | nil => exact .nil
    | cons _ _ => cases h
  | box sz s r ih =>
    intro H x h
    cases H with
    | nil => cases h
    | cons g H' =>
    cases g with
    | nil => cases h
    | cons b bs =>
    cases bs with
    | cons _ _ => cases b <;> cases h
    | nil =>
    cases b <;> first | (cases h; done) | skip
    rename_i sz' v
    replace h : (if sz = sz' then (match s.pa [v], r.pa H' with
      | some a, some b => some (a, b)
      | _, _ => none) else none) = (some x : Option (s.den × r.den)) := h
    split at h
    · rename_i e
      subst e
      split at h
      · rename_i a b h1 h2
        cases h
        have f := pa_spec (ℓ := ℓ) (H := H0) s _ _ h1
        refine .cons ⟨_, _, rfl, rfl, .inr ⟨sz, v, _, rfl, rfl, ?_⟩⟩ (ih _ _ h2)
        simp only
        generalize s.un a = us at f
        cases f with
        | cons h t => exact h
      · cases h
    · cases h
  | arr t z r ih =>
    intro H x h
    cases H with
    | nil => cases h
    | cons g H' =>
    cases g with
    | nil => cases h
    | cons b bs =>
    cases bs with
    | cons _ _ => cases b <;> cases h
    | nil =>
    cases b <;> first | (cases h; done) | skip
    rename_i t' l f
    replace h : (if e : t' = t then (if fzIs z f = true then (match r.pa H' with
      | some b => some (e ▸ l, b)
      | none => none) else none) else none) = (some x : Option (List t.den × r.den)) := h
    split at h
    · rename_i e
      subst e
      split at h
      · rename_i hz
        split at h
        · rename_i b h2
          cases h
          refine .cons ⟨_, _, rfl, rfl, .inl ?_⟩ (ih _ _ h2)
          congr 1
          cases z <;> cases f <;> first | rfl | cases hz
        · cases h
      · cases h
    · cases h
  | mp t r ih =>
    intro H x h
    cases H with
    | nil => cases h
    | cons g H' =>
    cases g with
    | nil => cases h
    | cons b bs =>
    cases bs with
    | cons _ _ => cases b <;> cases h
    | nil =>
    cases b <;> first | (cases h; done) | skip
    rename_i t' l
    replace h : (if e : t' = t then (match r.pa H' with
      | some b => some (e ▸ l, b)
      | none => none) else none) = (some x : Option (List (Int × t.den) × r.den)) := h
    split at h
    · rename_i e
      subst e
      split at h
      · rename_i b h2
        cases h
        exact .cons ⟨_, _, rfl, rfl, .inl rfl⟩ (ih _ _ h2)
      · cases h
    · cases h
  | dead n r ih =>
    intro H x h
    cases H with
    | nil => cases h
    | cons g H' =>
    cases g with
    | nil => cases h
    | cons b bs =>
    cases bs with
    | cons _ _ => cases b <;> cases h
    | nil =>
    cases b <;> first | (cases h; done) | skip
    rename_i n'
    replace h : (if n = n' then r.pa H' else none) = (some x : Option r.den) := h
    split at h
    · rename_i e
      subst e
      exact .cons ⟨_, _, rfl, rfl, .inl rfl⟩ (ih _ _ h)
    · cases h

/-! ### Frames -/

theorem dV_untup (v : SV) : dV ℓ (untup v) = dA ℓ v := by cases v <;> rfl
theorem VW.untup {A B : SHeap} (hw : HW (dH ℓ A) (dH ℓ B)) (v : SV) : VW (dH ℓ A) (dH ℓ B) (dV ℓ v) (dA ℓ v) := by
  cases v with
  | tup vs => exact VW.undef
  | _ => exact hw.vw _

theorem look_zip : ∀ (slots : List Nat) (ws : List SV) (t : Nat), lookS (zipFr slots ws) t = .undef ∨ ∃ (i : Nat) (w : SV), slots[i]? = some t ∧ ws[i]? = some w ∧ lookS (zipFr slots ws) t = w := by
  intro slots
  induction slots with
  | nil => intro ws t; exact .inl rfl
  | cons s r ih =>
    intro ws t
    cases ws with
    | nil => exact .inl rfl
    | cons w ws =>
      simp only [zipFr, lookS]
      by_cases e : s = t
      · subst e
        rw [if_pos rfl]
        exact .inr ⟨0, w, rfl, rfl, rfl⟩
      · rw [if_neg e]
        rcases ih ws t with h | ⟨i, w', h1, h2, h3⟩
        · exact .inl h
        · exact .inr ⟨i + 1, w', by simpa using h1, by simpa using h2, h3⟩

theorem dV_un (s : Sh) : ∀ (x : s.den), ∀ w ∈ s.un x, dV ℓ w = dA ℓ w := by
  induction s with
  | nil => intro x w h; cases h
  | st y r ih =>
    intro x w h
    rcases List.mem_cons.1 h with rfl | h
    · cases y <;> rfl
    · exact ih _ _ h
  | dat t r ih =>
    intro x w h
    rcases List.mem_cons.1 h with rfl | h
    · cases t <;> rfl
    · exact ih _ _ h
  | part t g r ih =>
    intro x w h
    rcases List.mem_cons.1 h with rfl | h
    · rfl
    · exact ih _ _ h
  | eptr g sz off r ih =>
    intro x w h
    rcases List.mem_cons.1 h with rfl | h
    · rfl
    · exact ih _ _ h
  | agg i r ihi ih =>
    intro x w h
    rcases List.mem_cons.1 h with rfl | h
    · rfl
    · exact ih _ _ h

/-- A state brought into a shape. -/
theorem fit_spec {nt m : Nat} {σ : Sg} {s : SSt} {v : σ.den} (h : (fit m σ s).mean = some v) {ℓ2 : Lens} (ha : Agr ℓ2 (σ.un v).hp) : ∃ ℓ, Agr ℓ s.hp ∧ Weak nt m (dS ℓ s) (dS ℓ2 (σ.un v)) := by
  unfold fit at h
  obtain ⟨⟨vs', K⟩, h1, h⟩ := Tr.mean_bind h
  obtain ⟨s1, h2, h⟩ := Tr.mean_bind h
  obtain ⟨H2, h3, h⟩ := Tr.mean_bind h
  obtain ⟨s1b, h4, h⟩ := Tr.mean_bind h
  obtain ⟨H3, h3b, h⟩ := Tr.mean_bind h
  obtain ⟨s2, h4b, h⟩ := Tr.mean_bind h
  have h2 := Tr.mean_of h2
  have h4 := Tr.mean_of h4
  have h4b := Tr.mean_of h4b
  split at h
  · rename_i a b h5 h6
    have := Tr.mean_ret h
    subst this
    have hb := bks_spec (ℓ := ℓ2) (H0 := s2.hp) _ _ _ h6
    have ha2 : Agr ℓ2 s2.hp := groups_agr hb ha
    have e4b := tidyS_spec h4b (lenS_agr H3) ha2
    obtain ⟨a1b, hw3b⟩ := convB_spec (ℓ := lenS H3) _ _ _ _ h3b (lenS_agr H3)
    have e4 := tidyS_spec h4 (lenS_agr H2) a1b
    obtain ⟨a1, hw3⟩ := convB_spec (ℓ := lenS H2) _ _ _ _ h3 (lenS_agr H2)
    have e2 := tidyS_spec h2 (lenS_agr K) a1
    have hc := convL_spec (ℓ := lenS K) _ _ _ _ _ h1 (lenS_agr K)
    refine ⟨lenS K, hc.agr, ?_⟩
    -- the frame is narrowed, its values are converted
    have w1 : Weak nt m (dS (lenS K) s) (dS (lenS K) { fr := zipFr σ.slots (vs'.map untup), hp := K }) := by
      refine Weak.of hc.hw (fun t => ?_)
      simp only [dS, look_dF]
      rcases look_zip σ.slots (vs'.map untup) t with e | ⟨i, w, i1, i2, i3⟩
      · rw [e]; exact VW.undef
      · rw [i3]
        rw [List.getElem?_map] at i2
        obtain ⟨w0, i4, rfl⟩ := Option.map_eq_some_iff.1 i2
        rw [dV_untup]
        have i5 : (σ.slots.map fun t => untup (lookS s.fr t))[i]? = some (untup (lookS s.fr t)) := by rw [List.getElem?_map, i1]; rfl
        have hv := (hc.vals.get i _ _ i5 i4).a.vw
        refine VW.trans (B := dH (lenS K) s.hp) (HW.refl _) (VW.untup (HW.refl _) (lookS s.fr t)) ?_
        have : dA (lenS K) (untup (lookS s.fr t)) = dA (lenS K) (lookS s.fr t) := by cases lookS s.fr t <;> rfl
        rw [← this]
        exact hv
    have w2 : Weak nt m (dS (lenS K) { fr := zipFr σ.slots (vs'.map untup), hp := K }) (dS (lenS H2) s1) := by
      rw [← e2]; exact Weak.tidy _
    have w3 : Weak nt m (dS (lenS H2) s1) (dS (lenS H2) { fr := s1.fr, hp := H2 }) := Weak.of hw3 fun t => hw3.vw _
    have w4a : Weak nt m (dS (lenS H2) { fr := s1.fr, hp := H2 }) (dS (lenS H3) s1b) := by
      rw [← e4]; exact Weak.tidy _
    have w4b : Weak nt m (dS (lenS H3) s1b) (dS (lenS H3) { fr := s1b.fr, hp := H3 }) := Weak.of hw3b fun t => hw3b.vw _
    have w4 : Weak nt m (dS (lenS H3) { fr := s1b.fr, hp := H3 }) (dS ℓ2 s2) := by
      rw [← e4b]; exact Weak.tidy _
    have w5 : Weak nt m (dS ℓ2 s2) (dS ℓ2 (σ.un (a, b))) := by
      have hwb := groups_hw (bks_spec (ℓ := ℓ2) (H0 := s2.hp) _ _ _ h6)
      refine Weak.of hwb (fun t => ?_)
      simp only [dS, look_dF, Sg.un]
      rcases look_zip σ.slots (σ.sh.un a) t with e | ⟨i, w, i1, i2, i3⟩
      · rw [e]; exact VW.undef
      · rw [i3]
        have i5 : (σ.slots.map (lookS s2.fr))[i]? = some (lookS s2.fr t) := by rw [List.getElem?_map, i1]; rfl
        have hv := (pa_spec (ℓ := ℓ2) (H := s2.hp) _ _ _ h5).get i _ _ i5 i2
        rw [dV_un _ _ w (List.mem_of_getElem? i2)]
        exact VW.trans (HW.refl _) (VW.untup (HW.refl _) _) (hv.a.vw.trans (HW.refl _) (hwb.vw _))
    exact (((((w1.trans w2).trans w3).trans w4a).trans w4b).trans w4).trans w5
  · exact (Tr.mean_fail h).elim

end
end Go.Abs
