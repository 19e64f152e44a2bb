/- The typed values and the abstract ones: how their parts go together. -/
import Derived.Test.YtcblbcpnfidndaaPwS
set_option linter.unusedSimpArgs false
set_option linter.unusedVariables false
namespace Go.Abs
open Go

theorem look_dF (ℓ : Lens) : ∀ (fr : SFr) (t : Nat), look (dF ℓ fr) t = dV ℓ (lookS fr t) := by
  intro fr
  induction fr with
  | nil => intro t; rfl
  | cons p r ih =>
    intro t
    obtain ⟨s, x⟩ := p
    simp only [dF, List.map_cons, look, lookS]
    split
    · rfl
    · exact ih t

theorem ins_dF (ℓ : Lens) (s : Nat) (x : SV) : ∀ (fr : SFr), dF ℓ (insS s x fr) = ins s (dV ℓ x) (dF ℓ fr) := by
  intro fr
  induction fr with
  | nil => rfl
  | cons p r ih =>
    obtain ⟨t, y⟩ := p
    simp only [dF, List.map_cons, ins, insS] at ih ⊢
    split
    · rfl
    · split
      · rfl
      · simp only [List.map_cons, ih]

theorem get_dH (ℓ : Lens) (H : SHeap) (g : Nm) : get (dH ℓ H) g = (getS H g).bind (dB ℓ) := by
  simp only [get, getS, dH, List.getElem?_map]
  cases H[g.1]? with
  | none => rfl
  | some l =>
    simp only [Option.map_some, List.getElem?_map]
    cases l[g.2]? with
    | none => rfl
    | some b => rfl

theorem dH_setS (ℓ : Lens) (H : SHeap) (g : Nm) (b : SB) : dH ℓ (setS H g b) = set (dH ℓ H) g (dB ℓ b) := by
  simp only [dH, setS, set]
  apply List.ext_getElem?
  intro i
  simp only [List.getElem?_map, List.getElem?_modify]
  cases H[i]? with
  | none => rfl
  | some l =>
    simp only [Option.map_some]
    split
    · simp [List.map_set]
    · rfl

theorem dH_append (ℓ : Lens) (H K : SHeap) : dH ℓ (H ++ K) = dH ℓ H ++ dH ℓ K := List.map_append ..
theorem length_dH (ℓ : Lens) (H : SHeap) : (dH ℓ H).length = H.length := by simp [dH]

theorem getS_setS (H : SHeap) (g g' : Nm) (b : SB) : getS (setS H g b) g' = if g' = g ∧ (getS H g).isSome then some b else getS H g' := by
  obtain ⟨a, c⟩ := g
  obtain ⟨a', c'⟩ := g'
  simp only [getS, setS, List.getElem?_modify, Prod.mk.injEq]
  by_cases ha : a = a'
  · subst ha
    cases hl : H[a]? with
    | none => simp
    | some l =>
      simp only [if_true, Option.map_some, List.getElem?_set, true_and]
      by_cases hc : c = c'
      · subst hc
        by_cases hlt : c < l.length
        · simp [hlt]
        · simp [hlt]
      · simp [hc, Ne.symm hc]
  · have : ¬ a' = a := fun h => ha h.symm
    cases hl : H[a']? <;> simp [ha, this]

theorem getS_append {H K : SHeap} {g : Nm} {b : SB} (h : getS H g = some b) : getS (H ++ K) g = some b := by
  simp only [getS] at h ⊢
  cases hl : H[g.1]? with
  | none => simp [hl] at h
  | some l =>
    rw [hl] at h
    rw [List.getElem?_append_left (List.getElem?_eq_some_iff.1 hl).1, hl]
    exact h

theorem Agr.append {ℓ : Lens} {H K : SHeap} (h : Agr ℓ (H ++ K)) : Agr ℓ H := fun g b hg => h g b (getS_append hg)

theorem Agr.setS {ℓ : Lens} {H : SHeap} {g : Nm} {b b0 : SB} (h0 : getS H g = some b0) (hl : b.len = b0.len) (h : Agr ℓ (setS H g b)) : Agr ℓ H := by
  intro g' x hx
  by_cases e : g' = g
  · subst e
    rw [h0] at hx
    cases hx
    rw [← hl]
    exact h _ b (by rw [getS_setS]; simp [h0])
  · exact h g' x (by rw [getS_setS, if_neg (fun hh => e hh.1)]; exact hx)

theorem lenS_agr (H : SHeap) : Agr (lenS H) H := fun g b h => by simp [lenS, h]

/-! ### Names -/

theorem refs1_d (ℓ : Lens) (v : SV) : refs1 (d1 ℓ v) = refs1S v := by cases v <;> rfl
theorem flatMap_d {f : AV → List Nm} {g : SV → List Nm} {d : SV → AV} (h : ∀ v, f (d v) = g v) (l : List SV) : (l.map d).flatMap f = l.flatMap g := by
  simp only [List.flatMap_map, h]
theorem refsC_d (ℓ : Lens) (v : SV) : refsC (dC ℓ v) = refsCS v := by
  cases v <;> first | rfl | exact flatMap_d (refs1_d ℓ) _
theorem refsV_dA (ℓ : Lens) (v : SV) : refsV (dA ℓ v) = refsAS v := by
  cases v <;> first | rfl | exact flatMap_d (refsC_d ℓ) _ | exact flatMap_d (refs1_d ℓ) _
theorem refsV_d (ℓ : Lens) (v : SV) : refsV (dV ℓ v) = refsVS v := by
  cases v with
  | tup vs =>
    simp only [dV, refsV, refsVS]
    refine flatMap_d (fun v => ?_) vs
    have := refsV_dA ℓ v
    cases v <;> first | rfl | exact this
  | agg cs => exact refsV_dA ℓ (.agg cs)
  | clo f cs => exact refsV_dA ℓ (.clo f cs)
  | _ => rfl

theorem seeds1_d (ℓ : Lens) (v : SV) : seeds1 (dC ℓ v) = seeds1S v := by
  cases v <;> first | rfl | exact flatMap_d (refs1_d ℓ) _
theorem seedsV_d (ℓ : Lens) (v : SV) : seedsV (dA ℓ v) = seedsVS v := by
  cases v with
  | agg cs => exact flatMap_d (seeds1_d ℓ) _
  | clo f cs => exact flatMap_d (refs1_d ℓ) _
  | _ => rfl

theorem refsB_d (ℓ : Lens) (H : SHeap) (g : Nm) : refsB (dH ℓ H) g = refsBS H g := by
  simp only [refsB, refsBS, get_dH]
  cases getS H g with
  | none => rfl
  | some b =>
    cases b with
    | box sz v => simp [dB, refsV_dA]
    | arr t l z => simp [dB]
    | mp t l => simp [dB]
    | dead n => simp [dB]

theorem grow_d (ℓ : Lens) (H : SHeap) (l : List Nm) : grow (dH ℓ H) l = growS H l := by
  simp only [grow, growS]
  congr 1
  exact congrArg (fun f => l.flatMap f) (funext (refsB_d ℓ H))
theorem reach_d (ℓ : Lens) (H : SHeap) (l : List Nm) : reach (dH ℓ H) l = reachS H l := by simp only [reach, reachS, grow_d]
theorem reached_d (ℓ : Lens) (H : SHeap) (m : Nat) (l : List Nm) : reached (dH ℓ H) m l = reachedS H m l := by simp only [reached, reachedS, reach_d]

/-! ### Names anew -/

/-- The lengths go with the names. -/
def Goes (f : Ren) (ℓ ℓ' : Lens) : Prop := ∀ g g', f g = some g' → ℓ' g' = ℓ g

section
variable {f : Ren} {ℓ ℓ' : Lens}

theorem ren1_d (h : Goes f ℓ ℓ') (v : SV) : ren1 f (d1 ℓ v) = d1 ℓ' (ren1S f v) := by
  cases v with
  | own t g =>
    simp only [d1, ren1, ren1S]
    cases e : f g with
    | none => rfl
    | some g' => simp only [d1, h g g' e]
  | part t g off len =>
    simp only [d1, ren1, ren1S]
    cases e : f g <;> rfl
  | ptr g sz i off =>
    simp only [d1, ren1, ren1S]
    cases e : f g <;> rfl
  | row t l tight => rfl
  | _ => rfl
theorem map_d {F : AV → AV} {G : SV → SV} {d d' : SV → AV} (h : ∀ v, F (d v) = d' (G v)) (l : List SV) : (l.map d).map F = (l.map G).map d' := by
  simp only [List.map_map]
  exact List.map_congr_left fun v _ => h v
theorem renC_d (h : Goes f ℓ ℓ') (v : SV) : renC f (dC ℓ v) = dC ℓ' (renCS f v) := by
  cases v with
  | clo fn cs => simp only [dC, renC, renCS, map_d (ren1_d h)]
  | row t l tight => rfl
  | own t g => exact (ren1_d h (.own t g)).trans (by simp only [renCS, ren1S]; cases f g <;> rfl)
  | part t g off len => exact (ren1_d h (.part t g off len)).trans (by simp only [renCS, ren1S]; cases f g <;> rfl)
  | ptr g sz i off => exact (ren1_d h (.ptr g sz i off)).trans (by simp only [renCS, ren1S]; cases f g <;> rfl)
  | _ => rfl
theorem renA_d (h : Goes f ℓ ℓ') (v : SV) : renA f (dA ℓ v) = dA ℓ' (renAS f v) := by
  cases v with
  | agg cs => simp only [dA, renA, renAS, map_d (renC_d h)]
  | clo fn cs => exact renC_d h (.clo fn cs)
  | row t l tight => rfl
  | own t g => exact (renC_d h (.own t g)).trans (by simp only [renAS, renCS, ren1S]; cases f g <;> rfl)
  | part t g off len => exact (renC_d h (.part t g off len)).trans (by simp only [renAS, renCS, ren1S]; cases f g <;> rfl)
  | ptr g sz i off => exact (renC_d h (.ptr g sz i off)).trans (by simp only [renAS, renCS, ren1S]; cases f g <;> rfl)
  | _ => rfl
theorem renV_d (h : Goes f ℓ ℓ') (v : SV) : renV f (dV ℓ v) = dV ℓ' (renVS f v) := by
  cases v with
  | tup vs => simp only [dV, renV, renVS, map_d (renA_d h)]
  | agg cs => exact renA_d h (.agg cs)
  | clo fn cs => exact renA_d h (.clo fn cs)
  | row t l tight => rfl
  | own t g => exact (renA_d h (.own t g)).trans (by simp only [renVS, renAS, renCS, ren1S]; cases f g <;> rfl)
  | part t g off len => exact (renA_d h (.part t g off len)).trans (by simp only [renVS, renAS, renCS, ren1S]; cases f g <;> rfl)
  | ptr g sz i off => exact (renA_d h (.ptr g sz i off)).trans (by simp only [renVS, renAS, renCS, ren1S]; cases f g <;> rfl)
  | _ => rfl

theorem renB_d (h : Goes f ℓ ℓ') (b : SB) : (dB ℓ b).map (renB f) = dB ℓ' (renBS f b) := by
  cases b with
  | box sz v => simp [dB, renB, renBS, renA_d h]
  | arr t l z => simp [dB, renB, renBS]
  | mp t l => simp [dB, renB, renBS]
  | dead n => rfl
theorem renBS_len (f : Ren) (b : SB) : (renBS f b).len = b.len := by cases b <;> rfl
end

/-! ### Data -/

theorem enc_cells (t : Ty) (x : t.den) (ℓ : Lens) : (unC t x).map (d1 ℓ) = encC t x ∧ (unC t x).map (dC ℓ) = encC t x := by
  induction t with
  | int k => exact ⟨rfl, rfl⟩
  | bool => exact ⟨rfl, rfl⟩
  | str => exact ⟨rfl, rfl⟩
  | row t ih => exact ⟨rfl, rfl⟩
  | unit => exact ⟨rfl, rfl⟩
  | cons a b iha ihb =>
    simp only [unC, encC, List.map_append]
    exact ⟨by rw [(iha x.1).1, (ihb x.2).1], by rw [(iha x.1).2, (ihb x.2).2]⟩

theorem length_encC (t : Ty) (x : t.den) : (encC t x).length = t.size := by
  induction t with
  | cons a b iha ihb => simp only [encC, List.length_append, Ty.size, iha, ihb]
  | _ => rfl
theorem length_unC (t : Ty) (x : t.den) : (unC t x).length = t.size := by
  have := congrArg List.length (enc_cells t x (fun _ => 0)).1
  rw [List.length_map] at this
  rw [this, length_encC]

theorem size_one {t : Ty} (h : t.agg = false) : t.size = 1 := by cases t <;> first | rfl | cases h

theorem cells_enc (t : Ty) (x : t.den) : (enc t x).cells = encC t x := by
  unfold enc wrap
  cases h : t.agg with
  | true => rfl
  | false =>
    have hl := length_encC t x
    rw [size_one h] at hl
    cases t <;> first | rfl | cases h

theorem isAgg_enc (t : Ty) (x : t.den) : (enc t x).isAgg = t.agg := by
  cases t <;> rfl

theorem okV_enc (t : Ty) (x : t.den) : okV (enc t x) = true := by cases t <;> rfl

theorem unT_enc (t : Ty) (x : t.den) (ℓ : Lens) : dA ℓ (unT t x) = enc t x := by
  cases t with
  | unit => rfl
  | cons a b => simp only [unT, Ty.agg, dA, enc, wrap, (enc_cells (.cons a b) x ℓ).2]
  | _ => rfl

theorem cells_unT (t : Ty) (x : t.den) : (unT t x).cells = unC t x := by cases t <;> rfl
theorem isAgg_unT (t : Ty) (x : t.den) : (unT t x).isAgg = t.agg := by cases t <;> rfl

theorem cells_dA (ℓ : Lens) (v : SV) : (dA ℓ v).cells = v.cells.map (dC ℓ) := by
  cases v <;> rfl
theorem isAgg_dA (ℓ : Lens) (v : SV) : (dA ℓ v).isAgg = v.isAgg := by cases v <;> rfl
theorem okV_dA (ℓ : Lens) (v : SV) : okV (dA ℓ v) = okSV v := by cases v <;> rfl

end Go.Abs
