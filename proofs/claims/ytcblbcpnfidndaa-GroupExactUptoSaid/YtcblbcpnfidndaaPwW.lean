/- A state brought into a shape says less than before: the proof. -/
import Derived.Test.YtcblbcpnfidndaaPwV
set_option linter.unusedSimpArgs false
set_option linter.unusedVariables false
namespace Go.Abs
open Go

/-- Two lists, one by one. -/
inductive F2 {α β : Type} (R : α → β → Prop) : List α → List β → Prop where
  | nil : F2 R [] []
  | cons {a : α} {b : β} {l : List α} {m : List β} (h : R a b) (t : F2 R l m) : F2 R (a :: l) (b :: m)

theorem F2.imp {α β : Type} {R S : α → β → Prop} (h : ∀ a b, R a b → S a b) {l : List α} {m : List β} (k : F2 R l m) : F2 S l m := by
  induction k with
  | nil => exact .nil
  | cons h1 _ ih => exact .cons (h _ _ h1) ih
theorem F2.refl {α : Type} {R : α → α → Prop} (h : ∀ a, R a a) : ∀ l, F2 R l l
  | [] => .nil
  | a :: l => .cons (h a) (F2.refl h l)
theorem F2.length {α β : Type} {R : α → β → Prop} {l : List α} {m : List β} (k : F2 R l m) : l.length = m.length := by
  induction k with
  | nil => rfl
  | cons _ _ ih => simp [ih]
theorem F2.get {α β : Type} {R : α → β → Prop} {l : List α} {m : List β} (k : F2 R l m) : ∀ (i : Nat) (a : α) (b : β), l[i]? = some a → m[i]? = some b → R a b := by
  induction k with
  | nil => intro i a b h; simp at h
  | cons h _ ih =>
    intro i x y h1 h2
    cases i with
    | zero => simp at h1 h2; subst h1; subst h2; exact h
    | succ i => exact ih i x y (by simpa using h1) (by simpa using h2)

structure CV (ℓ : Lens) (H H' : SHeap) (v v' : SV) : Prop where
  a : CW (dH ℓ H) (dH ℓ H') (dA ℓ v) (dA ℓ v')
  c : VW (dH ℓ H) (dH ℓ H') (dC ℓ v) (dC ℓ v')

section
variable {ℓ : Lens} {A B C H H' : SHeap} {v v' : SV}

theorem CV.refl (hw : HW (dH ℓ H) (dH ℓ H')) (v : SV) : CV ℓ H H' v v := ⟨CW.refl _ _ hw _, hw.vw _⟩
theorem CV.then (hw : HW (dH ℓ A) (dH ℓ B)) (hw' : HW (dH ℓ B) (dH ℓ C)) (h : CV ℓ A B v v') : CV ℓ A C v v' := ⟨h.a.trans hw (CW.refl _ _ hw' _), h.c.trans hw (hw'.vw _)⟩
theorem CV.behind (hw : HW (dH ℓ A) (dH ℓ B)) (h : CV ℓ B C v v') : CV ℓ A C v v' := ⟨(CW.refl _ _ hw _).trans hw h.a, (hw.vw _).trans hw h.c⟩

/-- What a conversion gives. -/
structure Conv (ℓ : Lens) (vs vs' : List SV) (H H' : SHeap) : Prop where
  agr : Agr ℓ H
  hw : HW (dH ℓ H) (dH ℓ H')
  vals : F2 (CV ℓ H H') vs vs'
  box : ∀ g sz v, getS H g = some (.box sz v) → getS H' g = some (.box sz v)

theorem Conv.refl (h : Agr ℓ H) (vs : List SV) : Conv ℓ vs vs H H := ⟨h, HW.refl _, F2.refl (fun v => CV.refl (HW.refl _) v) vs, fun _ _ _ h => h⟩

theorem Conv.cons {vs vs' : List SV} {v' : SV} (h1 : Agr ℓ B → Agr ℓ A ∧ HW (dH ℓ A) (dH ℓ B) ∧ CV ℓ A B v v' ∧ ∀ g sz v, getS A g = some (.box sz v) → getS B g = some (.box sz v)) (h : Conv ℓ vs vs' B C) : Conv ℓ (v :: vs) (v' :: vs') A C := by
  obtain ⟨a1, a2, a3, a4⟩ := h1 h.agr
  exact ⟨a1, a2.trans h.hw, .cons (a3.then a2 h.hw) (h.vals.imp fun _ _ k => k.behind a2), fun g sz v e => h.box g sz v (a4 g sz v e)⟩

theorem Conv.same {vs vs' : List SV} (h : Conv ℓ vs vs' A C) (v : SV) : Conv ℓ (v :: vs) (v :: vs') A C :=
  h.cons fun ha => ⟨ha, HW.refl _, CV.refl (HW.refl _) v, fun _ _ _ e => e⟩

theorem CV.undef (hw : HW (dH ℓ H) (dH ℓ H')) (h : v.isAgg = false) : CV ℓ H H' v .undef :=
  ⟨CW.of _ _ (by rw [isAgg_dA]; exact h) rfl VW.undef, VW.undef⟩

theorem getS_box_stopS {l : List Nm} (h : ∀ g ∈ l, IsArr H g) {g : Nm} {sz : Nat} {v : SV} (hg : getS H g = some (.box sz v)) : getS (stopS H l) g = some (.box sz v) := by
  have key : ∀ (wr : List (Nm × SB)) (K : SHeap), (∀ p ∈ wr, p.1 ≠ g) → getS K g = some (.box sz v) → getS (putAllS K wr) g = some (.box sz v) := by
    intro wr
    induction wr with
    | nil => intro K _ hk; exact hk
    | cons p r ih =>
      intro K hp hk
      obtain ⟨a, c⟩ := p
      refine ih _ (fun q hq => hp q (by simp [hq])) ?_
      rw [getS_setS, if_neg (fun hh => hp (a, c) (by simp) hh.1.symm)]
      exact hk
  refine key _ _ (fun p hp e => ?_) hg
  simp only [stopsS, List.mem_map] at hp
  obtain ⟨g', hg', rfl⟩ := hp
  simp only at e
  subst e
  obtain ⟨t, l', z, e⟩ := h _ hg'
  rw [hg] at e
  cases e

theorem getS_new (H : SHeap) (b : SB) : getS (H ++ [[b]]) (H.length, 0) = some b := by simp [getS]

theorem pureVS_one (h : v.isAgg = false) (ht : ∀ vs, v ≠ .tup vs) : pureVS H v = pure1S H v := by
  cases v <;> first | rfl | cases h | exact absurd rfl (ht _)

theorem convL_spec : ∀ (sh : Sh) (vs : List SV) (H : SHeap) (vs' : List SV) (H' : SHeap), (convL sh vs H).mean = some (vs', H') → Agr ℓ H' → Conv ℓ vs vs' H H' := by
  intro sh
  induction sh with
  | nil =>
    intro vs H vs' H' h ha
    have := Tr.mean_ret h
    simp only [Prod.mk.injEq] at this
    obtain ⟨rfl, rfl⟩ := this
    exact .refl ha _
  | st x r ih =>
    intro vs H vs' H' h ha
    cases vs with
    | nil =>
      have := Tr.mean_ret h
      simp only [Prod.mk.injEq] at this
      obtain ⟨rfl, rfl⟩ := this
      exact .refl ha _
    | cons v vs =>
      have plain : ∀ {K : SHeap} {u : SV}, ((convL r vs K).bind fun q => .ret (u :: q.1, q.2)).mean = some (vs', H') → ∃ us, vs' = u :: us ∧ Conv ℓ vs us K H' := by
        intro K u hk
        obtain ⟨q, h1, h2⟩ := Tr.mean_bind hk
        have := Tr.mean_ret h2
        simp only [Prod.mk.injEq] at this
        obtain ⟨rfl, rfl⟩ := this
        exact ⟨q.1, rfl, ih _ _ _ _ h1 ha⟩
      simp only [convL] at h
      split at h
      · rename_i t g t'
        obtain ⟨us, rfl, hc⟩ := plain h
        refine hc.cons fun hb => ⟨hb.append, ?_, ?_, fun _ _ _ e => getS_append e⟩
        · rw [dH_append]; exact HW.grow _ _
        · have hl := hb _ _ (getS_new H (.arr t [] .zero))
          have : VW (dH ℓ H) (dH ℓ (H ++ [[.arr t [] .zero]])) (dA ℓ (.row t' [] true)) (dA ℓ (.own t (H.length, 0))) := by
            simp only [dA, dC, d1, rowAV, hl, SB.len, List.map_nil, List.length_nil]
            exact VW.virt
          exact ⟨CW.of _ _ rfl rfl this, this⟩
      · split at h
        · obtain ⟨us, rfl, hc⟩ := plain h
          refine hc.cons fun hb => ⟨hb, HW.refl _, ?_, fun _ _ _ e => e⟩
          exact .undef (HW.refl _) (by assumption)
        · exact (Tr.mean_fail h).elim
      · obtain ⟨us, rfl, hc⟩ := plain h
        exact hc.same _
  | dat t r ih =>
    intro vs H vs' H' h ha
    cases vs with
    | nil =>
      have := Tr.mean_ret h
      simp only [Prod.mk.injEq] at this
      obtain ⟨rfl, rfl⟩ := this
      exact .refl ha _
    | cons v vs =>
      simp only [convL] at h
      obtain ⟨⟨u, l⟩, h1, h2⟩ := Tr.mean_bind h
      obtain ⟨q, h3, h4⟩ := Tr.mean_bind h2
      have := Tr.mean_ret h4
      simp only [Prod.mk.injEq] at this
      obtain ⟨rfl, rfl⟩ := this
      refine (ih _ _ _ _ h3 ha).cons fun hb => ?_
      have ha0 := hb.stopS
      obtain ⟨e1, e2⟩ := pureVS_spec ha0 h1
      have hcw := pureV_cw e1
      rw [← dH_stopS e2] at hcw
      refine ⟨ha0, HW.stopS e2, ⟨hcw, ?_⟩, fun g sz v e => getS_box_stopS e2 e⟩
      cases v with
      | agg cs =>
        obtain ⟨p, h5, h6⟩ := Tr.mean_bind h1
        have := Tr.mean_ret h6
        simp only [Prod.mk.injEq] at this
        rw [← this.1]
        exact VW.undef
      | tup vs => exact (Tr.mean_fail h1).elim
      | _ =>
        rw [pureVS_one rfl (fun _ e => by cases e)] at h1
        obtain ⟨f1, _, f3, f4, f5, f6⟩ := pure1S_spec ha0 h1
        have := hcw.vw
        cases u <;> first | exact this | cases f4
  | part t g r ih =>
    intro vs H vs' H' h ha
    cases vs with
    | nil =>
      have := Tr.mean_ret h
      simp only [Prod.mk.injEq] at this
      obtain ⟨rfl, rfl⟩ := this
      exact .refl ha _
    | cons v vs =>
      simp only [convL] at h
      split at h
      · rename_i t'
        obtain ⟨q, h3, h4⟩ := Tr.mean_bind h
        have := Tr.mean_ret h4
        simp only [Prod.mk.injEq] at this
        obtain ⟨rfl, rfl⟩ := this
        refine (ih _ _ _ _ h3 ha).cons fun hb => ⟨hb.append, ?_, ?_, fun _ _ _ e => getS_append e⟩
        · rw [dH_append]; exact HW.grow _ _
        · have : VW (dH ℓ H) (dH ℓ (H ++ [[.arr t [] .zero]])) (dA ℓ (.row t' [] true)) (dA ℓ (.part t (H.length, 0) 0 0)) := by
            simp only [dA, dC, d1, rowAV, List.map_nil]
            exact VW.virt
          exact ⟨CW.of _ _ rfl rfl this, this⟩
      obtain ⟨q, h3, h4⟩ := Tr.mean_bind h
      have := Tr.mean_ret h4
      simp only [Prod.mk.injEq] at this
      obtain ⟨rfl, rfl⟩ := this
      have hc := ih _ _ _ _ h3 ha
      split
      · rename_i t g hne
        split
        · rename_i b hb
          refine hc.cons fun ha' => ⟨ha', HW.refl _, ?_, fun _ _ _ e => e⟩
          have e : d1 ℓ (.own t g) = d1 ℓ (.part t g 0 b.len) := by simp only [d1, ha' g b hb]
          have : VW (dH ℓ H) (dH ℓ H) (d1 ℓ (.own t g)) (d1 ℓ (.part t g 0 b.len)) := by rw [e]; exact VW.refl _ _
          exact ⟨CW.of _ _ rfl rfl this, this⟩
        · exact hc.same _
      · exact hc.same _
  | eptr g sz off r ih =>
    intro vs H vs' H' h ha
    cases vs with
    | nil =>
      have := Tr.mean_ret h
      simp only [Prod.mk.injEq] at this
      obtain ⟨rfl, rfl⟩ := this
      exact .refl ha _
    | cons v vs =>
      simp only [convL] at h
      obtain ⟨q, h3, h4⟩ := Tr.mean_bind h
      have := Tr.mean_ret h4
      simp only [Prod.mk.injEq] at this
      obtain ⟨rfl, rfl⟩ := this
      exact (ih _ _ _ _ h3 ha).same _
  | agg i r ihi ih =>
    intro vs H vs' H' h ha
    cases vs with
    | nil =>
      have := Tr.mean_ret h
      simp only [Prod.mk.injEq] at this
      obtain ⟨rfl, rfl⟩ := this
      exact .refl ha _
    | cons v vs =>
      simp only [convL] at h
      split at h
      · rename_i cs
        obtain ⟨p, h1, h2⟩ := Tr.mean_bind h
        obtain ⟨q, h3, h4⟩ := Tr.mean_bind h2
        have := Tr.mean_ret h4
        simp only [Prod.mk.injEq] at this
        obtain ⟨rfl, rfl⟩ := this
        refine (ih _ _ _ _ h3 ha).cons fun hb => ?_
        have hc := ihi _ _ _ _ h1 hb
        refine ⟨hc.agr, hc.hw, ⟨⟨rfl, ?_, fun j u u' e1 e2 => ?_⟩, VW.undef⟩, hc.box⟩
        · simp only [dA, AV.cells, List.length_map]; exact hc.vals.length
        · simp only [dA, AV.cells, List.getElem?_map] at e1 e2
          obtain ⟨a, b1, rfl⟩ := Option.map_eq_some_iff.1 e1
          obtain ⟨a', b2, rfl⟩ := Option.map_eq_some_iff.1 e2
          exact (hc.vals.get j a a' b1 b2).c
      · obtain ⟨q, h3, h4⟩ := Tr.mean_bind h
        have := Tr.mean_ret h4
        simp only [Prod.mk.injEq] at this
        obtain ⟨rfl, rfl⟩ := this
        exact (ih _ _ _ _ h3 ha).same _

end
end Go.Abs
