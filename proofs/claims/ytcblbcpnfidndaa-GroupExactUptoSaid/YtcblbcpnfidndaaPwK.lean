/- A call, in the caller's terms. -/
import Derived.Test.YtcblbcpnfidndaaPwJ
set_option linter.unusedSimpArgs false
set_option linter.unusedVariables false
namespace Go.Abs
open Go

theorem mapM_some {α β : Type} (f : α → Option β) : ∀ (l : List α) (l' : List β), l.mapM f = some l' → l'.length = l.length ∧ ∀ (i : Nat) (x : α), l[i]? = some x → ∃ y, l'[i]? = some y ∧ f x = some y := by
  intro l
  induction l with
  | nil => intro l' h; simp at h; subst h; exact ⟨rfl, fun i x hx => by simp at hx⟩
  | cons a r ih =>
    intro l' h
    rw [List.mapM_cons] at h
    cases ha : f a with
    | none => simp [ha] at h
    | some b =>
      cases hr : r.mapM f with
      | none => simp [ha, hr] at h
      | some r' =>
        simp [ha, hr] at h
        subst h
        obtain ⟨h1, h2⟩ := ih r' hr
        refine ⟨by simp [h1], fun i x hx => ?_⟩
        cases i with
        | zero => simp at hx; subst hx; exact ⟨b, rfl, ha⟩
        | succ i => obtain ⟨y, hy, hfy⟩ := h2 i x (by simpa using hx); exact ⟨y, by simpa using hy, hfy⟩

theorem putAll_zip_ne (φ : Option Blk → Option Blk) (g : Nm) : ∀ (R : List Nm) (s : List (Option Blk)) (H : Heap), g ∉ R → get (putAll H ((R.zip s).map fun p => (p.1, φ p.2))) g = get H g := by
  intro R
  induction R with
  | nil => intro s H _; rfl
  | cons a r ih =>
    intro s H h
    simp only [List.mem_cons, not_or] at h
    cases s with
    | nil => rfl
    | cons b s =>
      show get (putAll (set H a (φ b)) ((r.zip s).map fun p => (p.1, φ p.2))) g = _
      rw [ih s _ h.2, get_set_ne h.1]

theorem putAll_zip (φ : Option Blk → Option Blk) : ∀ (R : List Nm) (s : List (Option Blk)) (H : Heap) (j : Nat) (g : Nm) (b : Option Blk), R.Nodup → R[j]? = some g → s[j]? = some b → (∃ l, H[g.1]? = some l ∧ g.2 < l.length) →
    get (putAll H ((R.zip s).map fun p => (p.1, φ p.2))) g = φ b := by
  intro R
  induction R with
  | nil => intro s H j g b _ h; simp at h
  | cons a r ih =>
    intro s H j g b hn hj hs hp
    cases s with
    | nil => simp at hs
    | cons c s =>
      show get (putAll (set H a (φ c)) ((r.zip s).map fun p => (p.1, φ p.2))) g = _
      have hn' := List.nodup_cons.1 hn
      cases j with
      | zero =>
        simp at hj hs
        subst hj hs
        rw [putAll_zip_ne φ a r s _ hn'.1, get_set, if_pos ⟨rfl, hp⟩]
      | succ j =>
        refine ih s _ j g b hn'.2 (by simpa using hj) (by simpa using hs) ?_
        obtain ⟨l, hl, hlt⟩ := hp
        have h1 := getD_set_length H a (φ c) g.1
        simp only [List.getD_eq_getElem?_getD, hl, Option.getD_some] at h1
        cases hq : (set H a (φ c))[g.1]? with
        | none => rw [hq] at h1; simp at h1; omega
        | some q => rw [hq] at h1; simp at h1; exact ⟨q, rfl, by omega⟩

section
variable {P : Program} {Y : XT} {w : World} {ρ : Rho}

theorem scal1_rel {w' : World} {X X' : XT} {ρ ρ' : Rho} {v : Value} {x : AV} (h : VR w X ρ v x) (hx : scal1 x = true) (f : Ren) : VR w' X' ρ' v (renC f x) := by
  cases x with
  | bool b => have := h.boolInv; subst this; exact .pur _ _ (.bool _)
  | int k n => have := h.intInv; subst this; exact .pur _ _ (.int _ _)
  | str s => have := h.strInv; subst this; exact .pur _ _ (.str _)
  | undef => exact .undef _
  | nilp => have := h.toPR (.inl rfl); cases this; exact .pur _ _ .nilp
  | nilf => have := h.toPR (.inl rfl); cases this; exact .pur _ _ .nilf
  | _ => simp [scal1] at hx

theorem scalA_rel {w' : World} {X X' : XT} {ρ ρ' : Rho} {v : Value} {x : AV} (h : VR w X ρ v x) (hx : scalA x = true) (f : Ren) : VR w' X' ρ' v (renA f x) := by
  cases x with
  | agg cs =>
    obtain ⟨as, rfl, hn, h1, hc⟩ := h.aggInv
    refine .agg _ _ (by simpa using hn) h1 (fun i y hy => ?_)
    obtain ⟨z, hz, rfl⟩ := getElem?_map' _ _ hy
    simp only [scalA, List.all_eq_true] at hx
    exact scal1_rel (hc i z hz) (hx z (List.mem_of_getElem? hz)) f
  | _ => exact scal1_rel h hx f

theorem scal_rel {w' : World} {X X' : XT} {ρ ρ' : Rho} {v : Value} {x : AV} (h : VR w X ρ v x) (hx : scal x = true) (f : Ren) : VR w' X' ρ' v (renV f x) := by
  cases x with
  | tup cs =>
    obtain ⟨as, rfl, hn, hc⟩ := h.tupInv
    refine .tup _ _ (by simpa using hn) (fun i y hy => ?_)
    obtain ⟨z, hz, rfl⟩ := getElem?_map' _ _ hy
    simp only [scal, List.all_eq_true] at hx
    exact scalA_rel (hc i z hz) (hx z (List.mem_of_getElem? hz)) f
  | _ => exact scalA_rel h hx f

/-- What the callee does not look at: the caller's other blocks. -/
def Rest (Y : XT) (ρ : Rho) (H : Heap) (R lent : List Nm) : XT := fun b o =>
  Y b o ∨ ∃ g k, get H g = some k ∧ ρ g = some b ∧ g ∉ R ∧ (if g ∈ lent then max k.frz k.elems.length else k.frz) * k.sz ≤ o

/-- Where the blocks lie that the callee is handed. -/
def handed (ρ : Rho) (R : List Nm) : Rho := fun g => if g.2 = 0 then (match R[g.1]? with | some h => ρ h | none => none) else none

theorem Rest.sub {H : Heap} {R lent : List Nm} {b o : Nat} (h : Rest Y ρ H R lent b o) : XU Y ρ H b o := by
  rcases h with h | ⟨g, k, h1, h2, _, h4⟩
  · exact .inr h
  · refine .inl ⟨g, k, h1, h2, Nat.le_trans (Nat.mul_le_mul_right _ ?_) h4⟩
    split
    · exact Nat.le_max_left _ _
    · exact Nat.le_refl _

structure Prep (P : Program) (Y : XT) (w : World) (ρ : Rho) (H : Heap) (R lent : List Nm) (f : Ren) (sub : List Blk) : Prop where
  nodup : R.Nodup
  fdef : ∀ g, f g = (idxOf g R 0).map fun i => (i, 0)
  apart : ∀ g, g ∈ lent → g ∉ R
  len : sub.length = R.length
  sub : ∀ (j : Nat) (g : Nm), R[j]? = some g → ∃ k, get H g = some k ∧ sub[j]? = some (renB f k)

variable {H : Heap} {R lent : List Nm} {f : Ren} {sub : List Blk}

theorem Prep.moves (hp : Prep P Y w ρ H R lent f sub) : Moves f ρ (handed ρ R) := by
  intro g g' b hg hρ
  rw [hp.fdef] at hg
  cases hi : idxOf g R 0 with
  | none => simp [hi] at hg
  | some i =>
    simp [hi] at hg
    subst hg
    obtain ⟨_, h2⟩ := idxOf_spec g R 0 i hi
    simp only [Nat.sub_zero] at h2
    simp [handed, h2, hρ]

theorem Prep.get0 (hp : Prep P Y w ρ H R lent f sub) {g' : Nm} {k' : Blk} (h : get (heapOf sub) g' = some k') : ∃ j g k, g' = (j, 0) ∧ R[j]? = some g ∧ get H g = some k ∧ k' = renB f k := by
  rw [get_heapOf] at h
  obtain ⟨j, c⟩ := g'
  split at h
  · rename_i hc
    simp only at hc h
    subst hc
    have hj : j < R.length := by rw [← hp.len]; exact (List.getElem?_eq_some_iff.1 h).1
    obtain ⟨k, h1, h2⟩ := hp.sub j R[j] (by simp [hj])
    rw [h] at h2
    cases h2
    exact ⟨j, R[j], k, rfl, by simp [hj], h1, rfl⟩
  · cases h

theorem Prep.xsub (hp : Prep P Y w ρ H R lent f sub) {b o : Nat} (h : XX (handed ρ R) (heapOf sub) b o) : ∃ (j : Nat) (g : Nm) (k : Blk), R[j]? = some g ∧ get H g = some k ∧ ρ g = some b ∧ k.frz * k.sz ≤ o := by
  obtain ⟨g', k', h1, h2, h3⟩ := h
  obtain ⟨j, g, k, rfl, e1, e2, rfl⟩ := hp.get0 h1
  simp only [handed, if_true, e1] at h2
  rw [(renB_sz f k).1, (renB_sz f k).2.1] at h3
  exact ⟨j, g, k, e1, e2, h2, h3⟩

theorem Prep.usub (hp : Prep P Y w ρ H R lent f sub) {b o : Nat} (h : XU (Rest Y ρ H R lent) (handed ρ R) (heapOf sub) b o) : XU Y ρ H b o := by
  rcases h with h | h
  · obtain ⟨j, g, k, _, h1, h2, h3⟩ := hp.xsub h
    exact .inl ⟨g, k, h1, h2, h3⟩
  · exact h.sub

theorem Prep.st (hp : Prep P Y w ρ H R lent f sub) : Stable w (XU Y ρ H) w (XU (Rest Y ρ H R lent) (handed ρ R) (heapOf sub)) :=
  (Stable.refl w _).less fun _ _ _ h => hp.usub h

theorem Prep.hr (hp : Prep P Y w ρ H R lent f sub) (hr : HR Y w ρ H) : HR (Rest Y ρ H R lent) w (handed ρ R) (heapOf sub) := by
  have hmem : ∀ (j : Nat) (g : Nm), R[j]? = some g → g ∈ R := fun j g h => List.mem_of_getElem? h
  refine ⟨fun g' k' hg => ?_, fun g1 g2 k1 k2 b h1 h2 e1 e2 => ?_, fun g b hb => ?_, fun g b hb => ?_, fun g' k' b o hg hb hy => ?_, fun b o hy => ?_⟩
  · obtain ⟨j, g, k, rfl, e1, e2, rfl⟩ := hp.get0 hg
    have e3 : handed ρ R (j, 0) = ρ g := by simp [handed, e1]
    rw [e3]
    rcases hr.blk g k e2 with ⟨a1, a2, a3⟩ | ⟨b, a1, a2⟩
    · exact .inl ⟨a1, renB_nil f a2, by rw [(renB_sz f k).2.2.1]; exact a3⟩
    · exact .inr ⟨b, a1, BlkAt.ren hp.moves (a2.keep hp.st (fun _ _ h => h) rfl)⟩
  · obtain ⟨j, g, k, rfl, a1, a2, rfl⟩ := hp.get0 h1
    obtain ⟨j', g', k', rfl, b1, b2, rfl⟩ := hp.get0 h2
    simp only [handed, if_true, a1, b1] at e1 e2
    have e := hr.inj g g' k k' b a2 b2 e1 e2
    subst e
    have i1 := idxOf_of_get R 0 j g hp.nodup a1
    have i2 := idxOf_of_get R 0 j' g hp.nodup b1
    rw [i1] at i2
    simp at i2
    rw [i2]
  · simp only [handed] at hb
    split at hb
    · rename_i h0
      cases hR : R[g.1]? with
      | none => simp [hR] at hb
      | some h =>
        have hlt : g.1 < sub.length := by rw [hp.len]; exact (List.getElem?_eq_some_iff.1 hR).1
        rw [h0]
        simp [heapOf, hlt]
    · cases hb
  · simp only [handed] at hb
    split at hb
    · cases hR : R[g.1]? with
      | none => simp [hR] at hb
      | some h => simp [hR] at hb; exact hr.lt h b hb
    · cases hb
  · obtain ⟨j, g, k, rfl, e1, e2, rfl⟩ := hp.get0 hg
    simp only [handed, if_true, e1] at hb
    rcases hy with hy | ⟨g2, k2, c1, c2, c3, _⟩
    · exact hr.sep g k b o e2 hb hy
    · have := hr.inj g2 g k2 k b c1 e2 c2 hb
      subst this
      exact c3 (hmem j _ e1)
  · rcases hy with hy | ⟨g2, k2, c1, c2, _⟩
    · exact hr.ylt b o hy
    · exact hr.lt g2 b c2

theorem Prep.shut (hp : Prep P Y w ρ H R lent f sub) (hr : HR Y w ρ H) {l : List Nm} (hl : ∀ g, g ∈ l → g ∈ lent) : Shut Y ρ H (XU (Rest Y ρ H R lent) (handed ρ R) (heapOf sub)) l := by
  refine ⟨fun c o h => hp.usub h, fun g hg k hk b hb o ho hx => ?_⟩
  rcases hx with hx | hx
  · obtain ⟨j, g2, k2, e1, e2, e3, _⟩ := hp.xsub hx
    have := hr.inj g2 g k2 k b e2 hk e3 hb
    subst this
    exact hp.apart _ (hl _ hg) (List.mem_of_getElem? e1)
  · rcases hx with hx | ⟨g2, k2, c1, c2, c3, c4⟩
    · exact hr.sep g k b o hk hb hx
    · have := hr.inj g2 g k2 k b c1 hk c2 hb
      subst this
      rw [hk] at c1
      cases c1
      rw [if_pos (hl _ hg)] at c4
      have : k.elems.length * k.sz ≤ max k.frz k.elems.length * k.sz := Nat.mul_le_mul_right _ (Nat.le_max_right _ _)
      omega

theorem lend1_rel (hp : Prep P Y w ρ H R lent f sub) (hr : HR Y w ρ H) {share : Bool} {x y : AV} {v : Value} (hv : VR w (XU Y ρ H) ρ v x) (h : lend1 H share f x = some y)
    (hl : share = false → ∀ g sz off len, x = .own g sz off len → g ∈ lent) : VR w (XU (Rest Y ρ H R lent) (handed ρ R) (heapOf sub)) (handed ρ R) v y := by
  have hv' : VR w (XU (Rest Y ρ H R lent) (handed ρ R) (heapOf sub)) ρ v x := hv.mono hp.st (fun _ _ h => h)
  cases x with
  | own g sz off len =>
    simp only [lend1] at h
    cases share with
    | true =>
      simp only [if_true] at h
      have h2 := ren1_rel hp.moves hv'
      simp only [ren1] at h2
      cases hg : f g with
      | none => simp [hg] at h
      | some g' => simp only [hg] at h h2; cases h; exact h2
    | false =>
      simp only [Bool.false_eq_true, if_false] at h
      obtain ⟨⟨u, l⟩, hu, rfl⟩ := Option.map_eq_some_iff.1 h
      refine .pur _ _ (pure1_rel hr hv hu (hp.shut hr (fun g' hg' => ?_)))
      have hg2 := hl rfl g sz off len rfl
      simp only [pure1] at hu
      cases hk : get H g with
      | none => simp [hk] at hu
      | some k =>
        simp only [hk] at hu
        split at hu
        · simp only [Option.some.injEq, Prod.mk.injEq] at hu
          rw [← hu.2] at hg'
          simp at hg'
          rw [hg']
          exact hg2
        · cases hu
  | lst sz xs t =>
    simp only [lend1, Option.some.injEq] at h
    subst h
    exact .pur _ _ (pure1_rel hr hv (u := .lst (lsz sz xs) xs false) (l := []) rfl (hp.shut hr (fun g hg => by simp at hg)))
  | _ =>
    simp only [lend1, Option.some.injEq] at h
    subst h
    exact renC_rel hp.moves hv'

theorem lendV_rel (hp : Prep P Y w ρ H R lent f sub) (hr : HR Y w ρ H) {share : Bool} {x y : AV} {v : Value} (hv : VR w (XU Y ρ H) ρ v x) (h : lendV H share f x = some y)
    (hl : share = false → ∀ g, g ∈ lentNames x → g ∈ lent) : VR w (XU (Rest Y ρ H R lent) (handed ρ R) (heapOf sub)) (handed ρ R) v y := by
  cases x with
  | agg cs =>
    simp only [lendV] at h
    obtain ⟨ys, hy, rfl⟩ := Option.map_eq_some_iff.1 h
    obtain ⟨as, rfl, hn, h1, hc⟩ := hv.aggInv
    obtain ⟨m1, m2⟩ := mapM_some _ _ _ hy
    refine .agg _ _ (by omega) h1 (fun i z hz => ?_)
    have hi : i < cs.length := by rw [← m1]; exact (List.getElem?_eq_some_iff.1 hz).1
    obtain ⟨z', e1, e2⟩ := m2 i cs[i] (by simp [hi])
    rw [hz] at e1
    cases e1
    refine lend1_rel hp hr (hc i cs[i] (by simp [hi])) e2 (fun hs g sz off len e => hl hs g ?_)
    simp only [lentNames, List.mem_flatMap]
    exact ⟨cs[i], by simp, by rw [e]; simp⟩
  | _ =>
    refine lend1_rel hp hr hv h (fun hs g sz off len e => hl hs g ?_)
    first
      | (cases e; simp [lentNames])
      | cases e

end
end Go.Abs
