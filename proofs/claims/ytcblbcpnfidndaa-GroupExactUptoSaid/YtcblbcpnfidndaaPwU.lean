/- A state of which less is said; a state brought into a shape. -/
import Derived.Test.YtcblbcpnfidndaaPwT
set_option linter.unusedSimpArgs false
set_option linter.unusedVariables false
namespace Go.Abs
open Go

/-! ### Memory of which less is said -/

def HW (H H' : Heap) : Prop := ∀ (Y : XT) (w : World) (ρ : Rho), HR Y w ρ H → HR Y w ρ H' ∧ Stable w (XX ρ H) w (XX ρ H')
def VW (H H' : Heap) (x y : AV) : Prop := ∀ (Y : XT) (w : World) (ρ : Rho) (v : Value), HR Y w ρ H → VR w (XU Y ρ H) ρ v x → VR w (XU Y ρ H') ρ v y

theorem HW.refl (H : Heap) : HW H H := fun _ _ _ h => ⟨h, Stable.refl _ _⟩
theorem HW.trans {A B C : Heap} (h : HW A B) (k : HW B C) : HW A C := fun Y w ρ hr => by
  obtain ⟨h1, h2⟩ := h Y w ρ hr
  obtain ⟨h3, h4⟩ := k Y w ρ h1
  exact ⟨h3, h2.trans h4⟩
theorem HW.vw {H H' : Heap} (h : HW H H') (x : AV) : VW H H' x x := fun Y w ρ _ hr hv => hv.mono ((h Y w ρ hr).2.xu Y) (fun _ _ e => e)
theorem VW.refl (H : Heap) (x : AV) : VW H H x x := fun _ _ _ _ _ h => h
theorem VW.trans {A B C : Heap} {x y z : AV} (hw : HW A B) (h : VW A B x y) (k : VW B C y z) : VW A C x z := fun Y w ρ v hr hv =>
  k Y w ρ v (hw Y w ρ hr).1 (h Y w ρ v hr hv)
theorem VW.undef {H H' : Heap} {x : AV} : VW H H' x .undef := fun _ _ _ _ _ _ => .undef _

/-- Cell by cell. -/
structure CW (H H' : Heap) (x y : AV) : Prop where
  agg : x.isAgg = y.isAgg
  len : x.cells.length = y.cells.length
  cell : ∀ (j : Nat) (u u' : AV), x.cells[j]? = some u → y.cells[j]? = some u' → VW H H' u u'

theorem cells_not {x : AV} (h : x.isAgg = false) : x.cells = [x] := by cases x <;> first | rfl | cases h

theorem CW.of (H H' : Heap) {x y : AV} (hx : x.isAgg = false) (hy : y.isAgg = false) (h : VW H H' x y) : CW H H' x y := by
  refine ⟨by rw [hx, hy], by rw [cells_not hx, cells_not hy]; rfl, fun j u u' h1 h2 => ?_⟩
  rw [cells_not hx] at h1
  rw [cells_not hy] at h2
  cases j with
  | zero => simp at h1 h2; subst h1; subst h2; exact h
  | succ j => simp at h1

theorem CW.vw {H H' : Heap} {x y : AV} (h : CW H H' x y) : VW H H' x y := by
  cases hx : x.isAgg with
  | true =>
    cases x <;> first | cases hx | skip
    rename_i cs
    have hy := h.agg
    cases y <;> first | cases hy | skip
    rename_i cs'
    intro Y w ρ v hr hv
    obtain ⟨as, rfl, hn, h1, hc⟩ := hv.aggInv
    have hl := h.len
    simp only [AV.cells] at hl
    refine .agg _ _ (by omega) h1 (fun i y hy => ?_)
    have hi : i < cs.length := by rw [hl]; exact (List.getElem?_eq_some_iff.1 hy).1
    exact h.cell i cs[i] y (by simp [AV.cells, hi]) hy Y w ρ _ hr (hc i cs[i] (by simp [hi]))
  | false =>
    have hy := h.agg
    rw [hx] at hy
    refine h.cell 0 x y ?_ ?_
    · rw [cells_not hx]; rfl
    · rw [cells_not hy.symm]; rfl

theorem CW.refl (H H' : Heap) (hw : HW H H') (x : AV) : CW H H' x x := ⟨rfl, rfl, fun j u u' h1 h2 => by rw [h1] at h2; cases h2; exact hw.vw u⟩
theorem CW.trans {A B C : Heap} {x y z : AV} (hw : HW A B) (h : CW A B x y) (k : CW B C y z) : CW A C x z := by
  refine ⟨h.agg.trans k.agg, h.len.trans k.len, fun j u u' h1 h2 => ?_⟩
  have hj : j < y.cells.length := by rw [← h.len]; exact (List.getElem?_eq_some_iff.1 h1).1
  exact (h.cell j u _ h1 (List.getElem?_eq_getElem hj)).trans hw (k.cell j _ u' (List.getElem?_eq_getElem hj) h2)

/-- Block by block. -/
theorem HW.pw {H H' : Heap} (h : ∀ g k', get H' g = some k' → ∃ k, get H g = some k ∧ k'.sz = k.sz ∧ k'.box = k.box ∧ k.frz ≤ k'.frz ∧
      (k'.elems = k.elems ∨ (k.box = true ∧ k'.elems.length = k.elems.length ∧ ∀ (i : Nat) (x y : AV), k.elems[i]? = some x → k'.elems[i]? = some y → CW H H x y)))
    (hlen : ∀ i, (H'.getD i []).length = (H.getD i []).length) : HW H H' := by
  intro Y w ρ hr
  have hx : ∀ b o, XX ρ H' b o → XX ρ H b o := by
    rintro b o ⟨g, k', hg, hρ, ho⟩
    obtain ⟨k, hk, h1, _, h4, _⟩ := h g k' hg
    exact ⟨g, k, hk, hρ, Nat.le_trans (by rw [h1]; exact Nat.mul_le_mul_right _ h4) ho⟩
  have hst : Stable w (XX ρ H) w (XX ρ H') := (Stable.refl w _).less fun b o _ e => hx b o e
  refine ⟨⟨fun g k' hg => ?_, fun g g' k k' b hg hg' h1 h2 => ?_, fun g b hb => ?_, hr.lt, fun g k' b o hg hb => ?_, hr.ylt⟩, hst⟩
  · obtain ⟨k, hk, h1, h2, h3, h4⟩ := h g k' hg
    rcases hr.blk g k hk with ⟨a1, a2, a3⟩ | ⟨b, a1, a2⟩
    · rcases h4 with h4 | ⟨h4, _⟩
      · exact .inl ⟨a1, h4.trans a2, h2.trans a3⟩
      · rw [h4] at a3; cases a3
    · refine .inr ⟨b, a1, ?_⟩
      rcases a2 with ⟨a0, cs, T, a2, a3⟩ | ⟨m1, m2, es, cl, m3, m4⟩
      case inr =>
        rcases h4 with h4 | ⟨h4, _⟩
        · exact .inr ⟨h1.trans m1, h2.trans m2, es, cl, m3, by rw [h4]; exact m4⟩
        · rw [h4] at m2; cases m2
      refine .inl ⟨by rw [h1]; exact a0, cs, T, a2, ?_⟩
      rcases h4 with h4 | ⟨h4, h5, h6⟩
      · rw [h1, h4, h2]
        exact a3.mono (hst.xu Y) (fun _ _ h => h)
      · rw [h1, h2, h4]
        rw [h4] at a3
        refine ElemsAt.mono (hst.xu Y) (fun _ _ h => h) ⟨by rw [h5]; exact a3.1, fun i y hy => ?_⟩
        have hi : i < k.elems.length := by rw [← h5]; exact (List.getElem?_eq_some_iff.1 hy).1
        have hxe := List.getElem?_eq_getElem hi
        have hc := h6 i _ y hxe hy
        obtain ⟨b1, b2⟩ := a3.2 i _ hxe
        refine ⟨by rw [← hc.len]; exact b1, fun j u hu => ?_⟩
        have hj : j < k.elems[i].cells.length := by rw [hc.len]; exact (List.getElem?_eq_some_iff.1 hu).1
        obtain ⟨b3, b4⟩ := b2 j _ (List.getElem?_eq_getElem hj)
        exact ⟨b3, hc.cell j _ u (List.getElem?_eq_getElem hj) hu Y w ρ _ hr b4⟩
  · obtain ⟨x, hx, _⟩ := h g k hg
    obtain ⟨y, hy, _⟩ := h g' k' hg'
    exact hr.inj g g' x y b hx hy h1 h2
  · rw [hlen]; exact hr.dom g b hb
  · obtain ⟨x, hx, _⟩ := h g k' hg
    exact hr.sep g x b o hx hb

theorem HW.less {H H' : Heap} (h : Less H' H) : HW H H' := fun _ _ _ hr => ⟨hr.less h, h.st⟩

theorem HW.grow (H : Heap) (sz : Nat) : HW H (H ++ [[some ⟨sz, [], 0, false⟩]]) := by
  intro Y w ρ hr
  have h1 := hr.more 1
  obtain ⟨h2, h3⟩ := h1.virt (slot := H.length) (Free.more (Nat.le_refl _) (by omega)) ⟨sz, [], 0, false⟩ rfl rfl
  have e : (H ++ List.replicate 1 []).set H.length [some ⟨sz, [], 0, false⟩] = H ++ [[some ⟨sz, [], 0, false⟩]] := by
    rw [List.set_append_right _ _ (Nat.le_refl _)]
    simp
  rw [e] at h2 h3
  rw [XX_more] at h3
  exact ⟨h2, h3⟩

/-! ### Values of which less is said -/

theorem VW.row {H H' : Heap} (hw : HW H H') {sz : Nat} {xs : List AV} {t : Bool} : VW H H' (.lst sz xs t) (.lst sz xs false) := by
  intro Y w ρ v hr hv
  obtain ⟨a, cap, rfl, h1, h2, hp⟩ := hv.lstInv
  have hp := hp.mono ((hw Y w ρ hr).2.xu Y)
  refine .pur _ _ ?_
  generalize hn : xs.length = n at hp
  cases hp with
  | lst0 a cap sz t ht => exact .lst0 _ _ _ _ (fun e => by cases e)
  | lst b o n cap sz t xs f hn hc ht hsz hx hr => exact .lst b o _ cap sz _ xs f hn hc (fun e => by cases e) hsz hx hr

theorem VW.nil {H H' : Heap} {sz sz' : Nat} {t t' : Bool} (h : t = true ∨ t' = false) : VW H H' (.lst sz [] t) (.lst sz' [] t') := by
  intro Y w ρ v hr hv
  obtain ⟨a, cap, rfl, h1, h2, hp⟩ := hv.lstInv
  refine .pur _ _ (.lst0 _ _ _ _ (fun e => ?_))
  rcases h with h | h
  · exact h2 h
  · rw [h] at e; cases e

theorem VW.virt {H H' : Heap} {sz sz' off : Nat} {g : Nm} : VW H H' (.lst sz [] true) (.own g sz' off 0) := by
  intro Y w ρ v hr hv
  obtain ⟨a, cap, rfl, h1, h2, hp⟩ := hv.lstInv
  have := h2 rfl
  subst this
  exact .own0 _ _ _ _

/-! ### The state -/

variable {nt m : Nat}

theorem Weak.of {s s' : St} (hw : HW s.hp s'.hp) (hf : ∀ t, VW s.hp s'.hp (look s.fr t) (look s'.fr t)) : Weak nt m s s' := by
  intro Y w ρ a hr
  obtain ⟨h1, h2⟩ := hw Y w ρ hr.hp
  exact ⟨ρ, ⟨hr.tsz, hr.dfr, fun t => hf t Y w ρ _ hr.hp (hr.fr t), h1⟩, h2, fun _ _ _ e => e⟩

theorem Weak.tidy (s : St) : Weak nt m s (Abs.tidy m s) := fun _ _ _ _ hr => hr.tidy

end Go.Abs
