/- A state brought into a shape says less than before. -/
import Derived.Test.YtcblbcpnfidndaaPwU
set_option linter.unusedSimpArgs false
set_option linter.unusedVariables false
namespace Go.Abs
open Go

/-! ### Trees -/

theorem rowAt_bind {A B C : Type} (l : List A) (n : Int) (k : (x : A) → l[n.toNat]? = some x → Option B) (F : B → Option C) : rowAt l n (fun x h => (k x h).bind F) = (rowAt l n k).bind F := by
  unfold rowAt
  cases decide (0 ≤ n) with
  | false => rfl
  | true =>
    simp only [cond_true]
    generalize hh : l[n.toNat]? = o at k
    cases o with
    | none => rfl
    | some x => rfl

theorem Tr.mean_bind_eq {α β : Type} (t : Tr α) (k : α → Tr β) : (t.bind k).mean = t.mean.bind fun a => (k a).mean := by
  induction t with
  | ret a => rfl
  | fail => rfl
  | need g t ih => cases g <;> simp [Tr.bind, Tr.mean, ih]
  | br p x y ihx ihy => cases p <;> simp [Tr.bind, Tr.mean, ihx, ihy]
  | ask m f ih =>
    simp only [Tr.bind, Tr.mean]
    cases m with
    | none => rfl
    | some a => exact ih a
  | look l n f ih =>
    simp only [Tr.bind, Tr.mean, ← rowAt_bind]
    congr 1
    funext x h
    exact ih x h
  | cs r f g ihf ihg =>
    simp only [Tr.bind, Tr.mean]
    cases r with
    | inl a => exact ihf a
    | inr b => exact ihg b

theorem Tr.mean_bind {α β : Type} {t : Tr α} {k : α → Tr β} {b : β} (h : (t.bind k).mean = some b) : ∃ a, t.mean = some a ∧ (k a).mean = some b := by
  rw [Tr.mean_bind_eq] at h
  exact Option.bind_eq_some_iff.1 h

theorem Tr.mean_map {α β : Type} {t : Tr α} {f : α → β} {b : β} (h : (t.map f).mean = some b) : ∃ a, t.mean = some a ∧ f a = b := by
  obtain ⟨a, h1, h2⟩ := Tr.mean_bind h
  exact ⟨a, h1, by simpa [Tr.mean] using h2⟩
theorem Tr.mean_of {α : Type} {o : Option α} {a : α} (h : (Tr.of o).mean = some a) : o = some a := by cases o <;> simp_all [Tr.of, Tr.mean]
theorem Tr.mean_when {α : Type} {b : Bool} {t : Tr α} {a : α} (h : (Tr.when b t).mean = some a) : b = true ∧ t.mean = some a := by cases b <;> simp_all [Tr.when, Tr.mean]
theorem Tr.mean_need {α : Type} {g : Bool} {t : Tr α} {a : α} (h : (Tr.need g t).mean = some a) : g = true ∧ t.mean = some a := by cases g <;> simp_all [Tr.mean]
theorem Tr.mean_ret {α : Type} {a b : α} (h : (Tr.ret a).mean = some b) : a = b := by simpa [Tr.mean] using h
theorem Tr.mean_fail {α : Type} {b : α} (h : (Tr.fail : Tr α).mean = some b) : False := by cases h

theorem Tr.mean_mapM {α β : Type} {f : α → Tr β} : ∀ {l : List α} {l' : List β}, (Tr.mapM f l).mean = some l' → l'.length = l.length ∧ ∀ (i : Nat) (a : α), l[i]? = some a → ∃ b, l'[i]? = some b ∧ (f a).mean = some b := by
  intro l
  induction l with
  | nil => intro l' h; have := Tr.mean_ret h; subst this; exact ⟨rfl, fun i a ha => by simp at ha⟩
  | cons a r ih =>
    intro l' h
    obtain ⟨b, h1, h2⟩ := Tr.mean_bind h
    obtain ⟨bs, h3, h4⟩ := Tr.mean_bind h2
    have := Tr.mean_ret h4
    subst this
    obtain ⟨e1, e2⟩ := ih h3
    refine ⟨by simp [e1], fun i x hx => ?_⟩
    cases i with
    | zero => simp at hx; subst hx; exact ⟨b, rfl, h1⟩
    | succ i => simp at hx; obtain ⟨y, h5, h6⟩ := e2 i x hx; exact ⟨y, by simpa using h5, h6⟩

/-! ### A slice as a row -/

theorem lsz_idem (sz : Nat) (xs : List AV) : lsz (lsz sz xs) xs = lsz sz xs := by cases xs <;> rfl

def IsArr (H : SHeap) (g : Nm) : Prop := ∃ t l z, getS H g = some (.arr t l z)

section
variable {H : SHeap} {ℓ : Lens}

theorem pure1S_spec (ha : Agr ℓ H) {v u : SV} {l : List Nm} (h : (pure1S H v).mean = some (u, l)) :
    pure1 (dH ℓ H) (d1 ℓ v) = some (d1 ℓ u, l) ∧ (∀ g ∈ l, IsArr H g) ∧ v.isAgg = false ∧ u.isAgg = false ∧ dC ℓ v = d1 ℓ v ∧ dC ℓ u = d1 ℓ u := by
  cases v with
  | own t g =>
    simp only [pure1S] at h
    split at h
    · rename_i t' l' z hg
      split at h
      · rename_i ht
        subst ht
        split at h
        case isFalse => exact (Tr.mean_fail h).elim
        rename_i hs0
        have := Tr.mean_ret h
        simp only [Prod.mk.injEq] at this
        obtain ⟨rfl, rfl⟩ := this
        refine ⟨?_, fun g' hg' => ?_, rfl, rfl, rfl, rfl⟩
        · simp only [d1, pure1, get_dH, hg, Option.bind_some, dB]
          have := ha g _ hg
          simp only [SB.len] at this
          rw [if_pos (by simp [this, hs0])]
          have ht : List.take l'.length (List.map (enc t') l') = List.map (enc t') l' := List.take_of_length_le (by simp)
          simp [this, rowAV, ht]
        · simp at hg'; subst hg'; exact ⟨_, _, _, hg⟩
      · exact (Tr.mean_fail h).elim
    · exact (Tr.mean_fail h).elim
  | part t g off len =>
    simp only [pure1S] at h
    split at h
    · rename_i t' l' z hg
      split at h
      · rename_i ht
        subst ht
        split at h
        case isFalse => exact (Tr.mean_fail h).elim
        rename_i hs0
        obtain ⟨h1, h2⟩ := Tr.mean_need h
        have := Tr.mean_ret h2
        simp only [Prod.mk.injEq] at this
        obtain ⟨rfl, rfl⟩ := this
        refine ⟨?_, fun g' hg' => ?_, rfl, rfl, rfl, rfl⟩
        · simp only [d1, pure1, get_dH, hg, Option.bind_some, dB]
          have := of_decide_eq_true h1
          rw [if_pos (by simpa [hs0] using this)]
          simp [rowAV, List.map_take, List.map_drop]
        · simp at hg'; subst hg'; exact ⟨_, _, _, hg⟩
      · exact (Tr.mean_fail h).elim
    · exact (Tr.mean_fail h).elim
  | row t l' tg =>
    have := Tr.mean_ret h
    simp only [Prod.mk.injEq] at this
    obtain ⟨rfl, rfl⟩ := this
    exact ⟨by simp only [d1, rowAV, pure1, lsz_idem], fun g hg => by simp at hg, rfl, rfl, rfl, rfl⟩
  | undef | int k n | bool b | str s | nilp | nilf =>
    have := Tr.mean_ret h
    simp only [Prod.mk.injEq] at this
    obtain ⟨rfl, rfl⟩ := this
    exact ⟨rfl, fun g hg => by simp at hg, rfl, rfl, rfl, rfl⟩
  | _ => exact (Tr.mean_fail h).elim

theorem pureLS_spec (ha : Agr ℓ H) : ∀ {vs us : List SV} {l : List Nm}, (pureLS H vs).mean = some (us, l) → pureL (dH ℓ H) (vs.map (dC ℓ)) = some (us.map (dC ℓ), l) ∧ (∀ g ∈ l, IsArr H g) := by
  intro vs
  induction vs with
  | nil =>
    intro us l h
    have := Tr.mean_ret h
    simp only [Prod.mk.injEq] at this
    obtain ⟨rfl, rfl⟩ := this
    exact ⟨rfl, fun g hg => by simp at hg⟩
  | cons v r ih =>
    intro us l h
    obtain ⟨⟨u, l1⟩, h1, h2⟩ := Tr.mean_bind h
    obtain ⟨⟨us', l2⟩, h3, h4⟩ := Tr.mean_bind h2
    have := Tr.mean_ret h4
    simp only [Prod.mk.injEq] at this
    obtain ⟨rfl, rfl⟩ := this
    obtain ⟨e1, e2, _, _, e3, e4⟩ := pure1S_spec ha h1
    obtain ⟨e5, e6⟩ := ih h3
    refine ⟨?_, fun g hg => ?_⟩
    · simp only [List.map_cons, pureL]
      rw [e3, e1, e5, e4]
    · rcases List.mem_append.1 hg with hg | hg
      · exact e2 g hg
      · exact e6 g hg

theorem pureVS_spec (ha : Agr ℓ H) {v u : SV} {l : List Nm} (h : (pureVS H v).mean = some (u, l)) : pureV (dH ℓ H) (dA ℓ v) = some (dA ℓ u, l) ∧ (∀ g ∈ l, IsArr H g) := by
  have other : (pure1S H v).mean = some (u, l) → pureV (dH ℓ H) (dA ℓ v) = some (dA ℓ u, l) ∧ (∀ g ∈ l, IsArr H g) := by
    intro h
    obtain ⟨e1, e2, e3, e4, e5, e6⟩ := pure1S_spec ha h
    have hv : dA ℓ v = dC ℓ v := by cases v <;> first | rfl | cases e3
    have hu : dA ℓ u = dC ℓ u := by cases u <;> first | rfl | cases e4
    rw [hv, hu, e5, e6]
    refine ⟨?_, e2⟩
    rw [← e1]
    cases v <;> first | rfl | cases e3
  cases v with
  | agg cs =>
    obtain ⟨⟨us, l'⟩, h1, h2⟩ := Tr.mean_bind h
    have := Tr.mean_ret h2
    simp only [Prod.mk.injEq] at this
    obtain ⟨rfl, rfl⟩ := this
    obtain ⟨e1, e2⟩ := pureLS_spec ha h1
    exact ⟨by simp only [dA, pureV, e1], e2⟩
  | tup vs => exact (Tr.mean_fail h).elim
  | _ => exact other h

/-! ### Blocks that are no longer written -/

theorem dH_putAllS (ℓ : Lens) : ∀ (wr : List (Nm × SB)) (H : SHeap), dH ℓ (putAllS H wr) = putAll (dH ℓ H) (wr.map fun p => (p.1, dB ℓ p.2)) := by
  intro wr
  induction wr with
  | nil => intro H; rfl
  | cons p r ih =>
    intro H
    obtain ⟨g, b⟩ := p
    simp only [putAllS, List.map_cons, putAll, ih, dH_setS]

theorem dB_stop (ℓ : Lens) (t : Ty) (l : List t.den) (z : Fz) : dB ℓ (SB.stop (.arr t l z)) = (dB ℓ (.arr t l z)).map Blk.stop := by
  simp only [SB.stop, dB, Option.map_some, Blk.stop, Fz.n, List.length_map]
  congr 2
  cases z <;> simp only [Fz.n] <;> omega

theorem stopsS_spec {l : List Nm} (h : ∀ g ∈ l, IsArr H g) : (stopsS H l).map (fun p => (p.1, dB ℓ p.2)) = stops (dH ℓ H) l := by
  simp only [stopsS, stops, List.map_map]
  refine List.map_congr_left fun g hg => ?_
  obtain ⟨t, x, z, e⟩ := h g hg
  simp only [Function.comp, e, get_dH, Option.bind_some, dB_stop]

theorem dH_stopS {l : List Nm} (h : ∀ g ∈ l, IsArr H g) : dH ℓ (stopS H l) = putAll (dH ℓ H) (stops (dH ℓ H) l) := by
  rw [stopS, dH_putAllS, stopsS_spec h]

/-- What is written keeps its length. -/
def LenOK (H : SHeap) (wr : List (Nm × SB)) : Prop := ∀ p ∈ wr, ∀ b, getS H p.1 = some b → p.2.len = b.len

theorem getS_putAllS : ∀ (wr : List (Nm × SB)) (H : SHeap) (g : Nm) (b : SB), getS H g = some b → LenOK H wr → ∃ b', getS (putAllS H wr) g = some b' ∧ b'.len = b.len := by
  intro wr
  induction wr with
  | nil => intro H g b h _; exact ⟨b, h, rfl⟩
  | cons p r ih =>
    intro H g b h hl
    obtain ⟨a, c⟩ := p
    simp only [putAllS]
    have hl' : LenOK (setS H a c) r := by
      intro p hp x hx
      rw [getS_setS] at hx
      split at hx
      · rename_i hh
        cases hx
        cases hb : getS H a with
        | none => rw [hb] at hh; simp at hh
        | some y =>
          rw [hl p (by simp [hp]) y (by rw [hh.1]; exact hb), hl (a, c) (by simp) y hb]
      · exact hl p (by simp [hp]) x hx
    by_cases e : g = a
    · subst e
      have hs : getS (setS H g c) g = some c := by rw [getS_setS]; simp [h]
      obtain ⟨b', h1, h2⟩ := ih (setS H g c) g c hs hl'
      exact ⟨b', h1, h2.trans (hl (g, c) (by simp) b h)⟩
    · have hs : getS (setS H a c) g = some b := by rw [getS_setS, if_neg (fun hh => e hh.1)]; exact h
      exact ih (setS H a c) g b hs hl'

theorem Agr.putAllS {wr : List (Nm × SB)} (hl : LenOK H wr) (h : Agr ℓ (putAllS H wr)) : Agr ℓ H := by
  intro g b hg
  obtain ⟨b', h1, h2⟩ := getS_putAllS wr H g b hg hl
  rw [h g b' h1, h2]

theorem stop_len (b : SB) : b.stop.len = b.len := by cases b <;> rfl

theorem stopsS_len (l : List Nm) : LenOK H (stopsS H l) := by
  intro p hp b hb
  simp only [stopsS, List.mem_map] at hp
  obtain ⟨g, _, rfl⟩ := hp
  simp only at hb
  simp only [hb, stop_len]

theorem Agr.stopS {l : List Nm} (h : Agr ℓ (stopS H l)) : Agr ℓ H := h.putAllS (stopsS_len l)

theorem HW.stopS {l : List Nm} (h : ∀ g ∈ l, IsArr H g) : HW (dH ℓ H) (dH ℓ (stopS H l)) := by
  rw [dH_stopS h]
  exact HW.less (Less.stops l _ (Less.refl _))

/-- Behind the stops a slice is a row. -/
theorem pureV_cw {H : Heap} {x u : AV} {l : List Nm} (h : pureV H x = some (u, l)) : CW H (putAll H (stops H l)) x u := by
  have one : ∀ {x u : AV} {m : List Nm}, pure1 H x = some (u, m) → (∀ g ∈ m, g ∈ l) → VW H (putAll H (stops H l)) x u ∧ x.isAgg = false ∧ u.isAgg = false := by
    intro x u m hp hm
    refine ⟨fun Y w ρ v hr hv => ?_, ?_, ?_⟩
    · have hless : Less (putAll H (stops H l)) H := Less.stops l H (Less.refl H)
      exact .pur _ _ (pure1_rel hr hv hp (Shut.mono (Shut.of_less hr hless (fun g hg k hk k' hk' => stops_frz H g hk l H hg k' hk')) hm))
    · cases x <;> first | rfl | simp [pure1] at hp
    · cases x with
      | own g sz off len =>
        simp only [pure1] at hp
        split at hp
        · split at hp
          · cases hp; rfl
          · cases hp
        · cases hp
      | _ => first | (simp [pure1] at hp; done) | (simp only [pure1, Option.some.injEq, Prod.mk.injEq] at hp; rw [← hp.1]; rfl)
  cases x with
  | agg cs =>
    simp only [pureV] at h
    split at h
    · rename_i ys m hy
      simp only [Option.some.injEq, Prod.mk.injEq] at h
      obtain ⟨rfl, rfl⟩ := h
      obtain ⟨e1, e2⟩ := pureL_get cs ys m hy
      refine ⟨rfl, e1.symm, fun j a b h1 h2 => ?_⟩
      obtain ⟨u, m', h3, h4, h5⟩ := e2 j a h1
      simp only [AV.cells] at h2
      rw [h2] at h3
      cases h3
      exact (one h4 h5).1
    · cases h
  | tup vs => simp [pureV] at h
  | _ =>
    have h' := h
    simp only [pureV] at h'
    obtain ⟨e1, e2, e3⟩ := one h' (fun _ h => h)
    exact CW.of _ _ e2 e3 e1

end
end Go.Abs
