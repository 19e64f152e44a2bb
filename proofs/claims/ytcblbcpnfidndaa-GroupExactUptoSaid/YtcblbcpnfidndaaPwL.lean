/- A call, in the caller's terms, continued: what the callee leaves. -/
import Derived.Test.YtcblbcpnfidndaaPwK
set_option linter.unusedSimpArgs false
set_option linter.unusedVariables false
namespace Go.Abs
open Go

section
variable {P : Program} {Y : XT} {w : World} {ρ : Rho} {H : Heap} {R lent : List Nm} {f : Ren} {sub : List Blk}

/-- Where the blocks lie behind the call. -/
def behind (ρ ρ' : Rho) (R : List Nm) (slot n : Nat) : Rho := fun g =>
  match idxOf g R 0 with
  | some j => ρ' (j, 0)
  | none => if g.1 = slot then (if g.2 < n then ρ' (R.length + g.2, 0) else none) else ρ g

/-- The heap behind the call: the callee's new blocks are the group 'slot'. -/
def heapAfter (H : Heap) (R : List Nm) (slot : Nat) (sub' : List (Option Blk)) (new : List Blk) (st : List (Nm × Option Blk)) : Heap :=
  (putAll H (((R.zip sub').map fun p => (p.1, p.2.map (renB (renBack R slot)))) ++ st)).set slot ((new.map (renB (renBack R slot))).map some)

theorem join_some {b : Option Blk} {k : Blk} (l : List (Option Blk)) {j : Nat} (h : (l[j]?).join = some k) : l[j]? = some (some k) := by
  cases hl : l[j]? with
  | none => simp [hl] at h
  | some x => simp [hl] at h; rw [h]

/-- What is said of the heap behind the call. -/
structure After (P : Program) (Y : XT) (w : World) (ρ : Rho) (H : Heap) (R lent : List Nm) (f : Ren) (sub : List Blk) (slot : Nat) (sub' : List (Option Blk)) (new : List Blk) (H' : Heap) : Prop where
  prep : Prep P Y w ρ H R lent f sub
  len : sub'.length = R.length
  group : ∀ g k', g.1 = slot → get H' g = some k' → ∃ k, new[g.2]? = some k ∧ k' = renB (renBack R slot) k
  inR : ∀ (j : Nat) g k', R[j]? = some g → get H' g = some k' → ∃ k, sub'[j]? = some (some k) ∧ k' = renB (renBack R slot) k
  out : ∀ g k', g.1 ≠ slot → g ∉ R → get H' g = some k' → ∃ k, get H g = some k ∧ k'.sz = k.sz ∧ k'.elems = k.elems ∧ k'.box = k.box ∧ k.frz ≤ k'.frz
  rslot : ∀ (j : Nat) g, R[j]? = some g → g.1 ≠ slot
  dlen : ∀ i, i ≠ slot → (H'.getD i []).length = (H.getD i []).length
  dslot : (H'.getD slot []).length = new.length

variable {slot : Nat} {sub' : List (Option Blk)} {new : List Blk} {H' : Heap} {w' : World} {ρ' : Rho}

theorem After.of (hp : Prep P Y w ρ H R lent f sub) (hf : Free H slot) (hlen : sub'.length = R.length) {st : List (Nm × Option Blk)} (hst : st = [] ∨ st = stops H lent) :
    After P Y w ρ H R lent f sub slot sub' new (heapAfter H R slot sub' new st) := by
  have hslot : slot < (putAll H (((R.zip sub').map fun p => (p.1, p.2.map (renB (renBack R slot)))) ++ st)).length := by rw [len_putAll]; exact hf.1
  have hrs : ∀ (j : Nat) g, R[j]? = some g → g.1 ≠ slot := by
    intro j g hj e
    obtain ⟨k, hk, _⟩ := hp.sub j g hj
    obtain ⟨a, c⟩ := g
    have e' : a = slot := e
    subst e'
    rw [hf.get c] at hk
    cases hk
  have hget : ∀ g, g.1 ≠ slot → get (heapAfter H R slot sub' new st) g = get (putAll (putAll H ((R.zip sub').map fun p => (p.1, p.2.map (renB (renBack R slot))))) st) g := by
    intro g hg
    unfold heapAfter
    rw [get_group, if_neg (fun e => hg e.1), putAll_append]
  have hstop : ∀ g, g ∉ lent → get (putAll (putAll H ((R.zip sub').map fun p => (p.1, p.2.map (renB (renBack R slot))))) st) g = get (putAll H ((R.zip sub').map fun p => (p.1, p.2.map (renB (renBack R slot))))) g := by
    intro g hg
    rcases hst with rfl | rfl
    · rfl
    · exact get_stops_ne H g lent _ hg
  refine ⟨hp, hlen, fun g k' hg h => ?_, fun j g k' hj h => ?_, fun g k' hg hR h => ?_, hrs, fun i hi => ?_, ?_⟩
  · unfold heapAfter at h
    rw [get_group, if_pos ⟨hg, hslot⟩] at h
    have h2 := join_some (b := none) _ h
    rw [List.getElem?_map, List.getElem?_map] at h2
    cases hn : new[g.2]? with
    | none => simp [hn] at h2
    | some k => simp [hn] at h2; exact ⟨k, rfl, h2.symm⟩
  · have hgl : g ∉ lent := fun e => hp.apart g e (List.mem_of_getElem? hj)
    obtain ⟨k0, hk0, _⟩ := hp.sub j g hj
    have hjlt : j < sub'.length := by rw [hlen]; exact (List.getElem?_eq_some_iff.1 hj).1
    rw [hget g (hrs j g hj), hstop g hgl, putAll_zip (fun b => b.map (renB (renBack R slot))) R sub' H j g sub'[j] hp.nodup hj (by simp [hjlt]) (get_some_lt hk0)] at h
    obtain ⟨k, hk, rfl⟩ := Option.map_eq_some_iff.1 h
    exact ⟨k, by rw [List.getElem?_eq_getElem hjlt, hk], rfl⟩
  · rw [hget g hg] at h
    rcases hst with rfl | rfl
    · change get (putAll H ((R.zip sub').map fun p => (p.1, p.2.map (renB (renBack R slot))))) g = some k' at h
      rw [putAll_zip_ne (fun b => b.map (renB (renBack R slot))) g R sub' H hR] at h
      exact ⟨k', h, rfl, rfl, rfl, Nat.le_refl _⟩
    · by_cases hgl : g ∈ lent
      · -- a lent block is stopped
        have : ∀ (l : List Nm) (H1 : Heap), (∀ k1, get H1 g = some k1 → ∃ k, get H g = some k ∧ k1.sz = k.sz ∧ k1.elems = k.elems ∧ k1.box = k.box ∧ k.frz ≤ k1.frz) →
            ∀ k1, get (putAll H1 (stops H l)) g = some k1 → ∃ k, get H g = some k ∧ k1.sz = k.sz ∧ k1.elems = k.elems ∧ k1.box = k.box ∧ k.frz ≤ k1.frz := by
          intro l
          induction l with
          | nil => intro H1 h1 k1 hk; exact h1 k1 hk
          | cons a r ih =>
            intro H1 h1 k1 hk
            refine ih (set H1 a ((get H a).map Blk.stop)) (fun k2 hk2 => ?_) k1 hk
            rw [get_set] at hk2
            split at hk2
            · rename_i e
              obtain ⟨e, _⟩ := e
              subst e
              cases h0 : get H g with
              | none => rw [h0] at hk2; cases hk2
              | some k => rw [h0] at hk2; cases hk2; exact ⟨k, rfl, rfl, rfl, rfl, Nat.le_max_left _ _⟩
            · exact h1 k2 hk2
        refine this lent _ (fun k1 hk1 => ?_) k' h
        rw [putAll_zip_ne (fun b => b.map (renB (renBack R slot))) g R sub' H hR] at hk1
        exact ⟨k1, hk1, rfl, rfl, rfl, Nat.le_refl _⟩
      · rw [hstop g hgl, putAll_zip_ne (fun b => b.map (renB (renBack R slot))) g R sub' H hR] at h
        exact ⟨k', h, rfl, rfl, rfl, Nat.le_refl _⟩
  · unfold heapAfter
    rw [getD_group, if_neg (fun e => hi e.1), lenD_putAll]
  · unfold heapAfter
    rw [getD_group, if_pos ⟨rfl, hslot⟩]
    simp

theorem After.moves (ha : After P Y w ρ H R lent f sub slot sub' new H') (h1 : HR (Rest Y ρ H R lent) w' ρ' (heapBack sub' new)) : Moves (renBack R slot) ρ' (behind ρ ρ' R slot new.length) := by
  intro g g' b hg hb
  obtain ⟨a, c⟩ := g
  simp only [renBack] at hg
  split at hg
  · rename_i hc
    have hc' : c = 0 := hc
    subst hc'
    split at hg
    · rename_i hlt
      have := idxOf_of_get R 0 a g' ha.prep.nodup hg
      simp only [behind, this, Nat.zero_add]
      exact hb
    · rename_i hge
      cases hg
      have hd := h1.dom (a, 0) b hb
      have hlt : a < (heapBack sub' new).length := by
        rcases Nat.lt_or_ge a (heapBack sub' new).length with h | h
        · exact h
        · rw [List.getD_eq_getElem?_getD, List.getElem?_eq_none h] at hd
          simp at hd
      simp only [heapBack, List.length_append, List.length_map, ha.len] at hlt
      have hno : idxOf (slot, a - R.length) R 0 = none := by
        cases hi : idxOf (slot, a - R.length) R 0 with
        | none => rfl
        | some j =>
          obtain ⟨_, hj⟩ := idxOf_spec _ R 0 j hi
          exact absurd rfl (ha.rslot _ _ hj)
      simp only [behind, hno, if_true]
      rw [if_pos (by omega)]
      have : R.length + (a - R.length) = a := by omega
      rw [this]
      exact hb
  · cases hg

/-- A block of the heap behind: it is the callee's, or one that the callee did not see. -/
theorem After.split (ha : After P Y w ρ H R lent f sub slot sub' new H') {g : Nm} {k' : Blk} (h : get H' g = some k') :
    (∃ n k, get (heapBack sub' new) (n, 0) = some k ∧ k' = renB (renBack R slot) k ∧ behind ρ ρ' R slot new.length g = ρ' (n, 0) ∧ renBack R slot (n, 0) = some g) ∨
    (g ∉ R ∧ g.1 ≠ slot ∧ behind ρ ρ' R slot new.length g = ρ g ∧ ∃ k, get H g = some k ∧ k'.sz = k.sz ∧ k'.elems = k.elems ∧ k'.box = k.box ∧ k.frz ≤ k'.frz) := by
  by_cases hR : g ∈ R
  · obtain ⟨j, hjlt, hj⟩ := List.mem_iff_getElem.1 hR
    have hj' : R[j]? = some g := by rw [List.getElem?_eq_getElem hjlt, hj]
    obtain ⟨k, hk, rfl⟩ := ha.inR j g k' hj' h
    refine .inl ⟨j, k, ?_, rfl, ?_, ?_⟩
    · rw [get_heapBack]
      simp only [if_true]
      rw [if_pos (by rw [ha.len]; exact hjlt), hk]
      rfl
    · simp only [behind, idxOf_of_get R 0 j g ha.prep.nodup hj', Nat.zero_add]
    · simp [renBack, hjlt, hj]
  · have hno : idxOf g R 0 = none := by
      cases hi : idxOf g R 0 with
      | none => rfl
      | some j => exact absurd (List.mem_of_getElem? (idxOf_spec _ R 0 j hi).2) hR
    by_cases hs : g.1 = slot
    · obtain ⟨k, hk, rfl⟩ := ha.group g k' hs h
      have hlt : g.2 < new.length := (List.getElem?_eq_some_iff.1 hk).1
      refine .inl ⟨R.length + g.2, k, ?_, rfl, ?_, ?_⟩
      · rw [get_heapBack]
        simp [ha.len, hk]
      · simp only [behind, hno, hs, if_true, hlt]
      · simp only [renBack, if_true]
        rw [if_neg (by omega)]
        obtain ⟨a, c⟩ := g
        simp only at hs
        simp [hs]
    · refine .inr ⟨hR, hs, ?_, ha.out g k' hs hR h⟩
      simp only [behind, hno, hs, if_false]

theorem After.xx (ha : After P Y w ρ H R lent f sub slot sub' new H') {b o : Nat} (h : XX (behind ρ ρ' R slot new.length) H' b o) :
    XX ρ' (heapBack sub' new) b o ∨ ∃ g k k', g ∉ R ∧ get H g = some k ∧ get H' g = some k' ∧ k'.sz = k.sz ∧ k.frz ≤ k'.frz ∧ ρ g = some b ∧ k'.frz * k'.sz ≤ o := by
  obtain ⟨g, k', hg, hρ, ho⟩ := h
  rcases ha.split (ρ' := ρ') hg with ⟨n, k, h1, rfl, h2, _⟩ | ⟨h1, _, h2, k, h3, h4, _, _, h5⟩
  · rw [h2] at hρ
    rw [(renB_sz _ k).1, (renB_sz _ k).2.1] at ho
    exact .inl ⟨(n, 0), k, h1, hρ, ho⟩
  · rw [h2] at hρ
    exact .inr ⟨g, k, k', h1, h3, hg, h4, h5, hρ, ho⟩

/-- The two ways: nothing of the callee's leads to what was lent; or what was lent is written no more. -/
def Way (ρ : Rho) (H : Heap) (R lent : List Nm) (H' : Heap) (new : List Blk) (v : AV) : Prop :=
  (scal v = true ∧ new = [] ∧ R = []) ∨ ∀ g k k', g ∈ lent → g ∉ R → get H g = some k → get H' g = some k' → k.elems.length ≤ k'.frz

theorem After.made (ha : After P Y w ρ H R lent f sub slot sub' new H') (hf : Free H slot) (hr : HR Y w ρ H) (h1 : HR (Rest Y ρ H R lent) w' ρ' (heapBack sub' new)) {v : Value} {x : AV}
    (hv : VR w' (XU (Rest Y ρ H R lent) ρ' (heapBack sub' new)) ρ' v x) (hst : Stable w (XX (handed ρ R) (heapOf sub)) w' (XX ρ' (heapBack sub' new)))
    (hle : ∀ g b, handed ρ R g = some b → ρ' g = some b) (hway : Way ρ H R lent H' new x) :
    Made Y w ρ H w' (behind ρ ρ' R slot new.length) H' v (renV (renBack R slot) x) := by
  have hle2 : ∀ g b, ρ g = some b → behind ρ ρ' R slot new.length g = some b := by
    intro g b hb
    simp only [behind]
    cases hi : idxOf g R 0 with
    | some j =>
      obtain ⟨_, hj⟩ := idxOf_spec g R 0 j hi
      simp only [Nat.sub_zero] at hj
      exact hle (j, 0) b (by simp [handed, hj, hb])
    | none =>
      show (if g.1 = slot then _ else _) = some b
      split
      · rename_i e
        obtain ⟨a, c⟩ := g
        have e' : a = slot := e
        subst e'
        rw [hf.none hr c] at hb
        cases hb
      · exact hb
  have hx0 : ∀ {b o}, XX (handed ρ R) (heapOf sub) b o → XX ρ H b o := by
    intro b o h
    obtain ⟨j, g, k, _, e2, e3, e4⟩ := ha.prep.xsub h
    exact ⟨g, k, e2, e3, e4⟩
  have hxo : ∀ {b o}, XX (behind ρ ρ' R slot new.length) H' b o → XX ρ' (heapBack sub' new) b o ∨ XX ρ H b o := by
    intro b o h
    rcases ha.xx h with h | ⟨g, k, k', _, e2, _, e4, e5, e6, e7⟩
    · exact .inl h
    · exact .inr ⟨g, k, e2, e6, Nat.le_trans (by rw [e4]; exact Nat.mul_le_mul_right _ e5) e7⟩
  have hstable : Stable w (XX ρ H) w' (XX (behind ρ ρ' R slot new.length) H') := by
    refine ⟨hst.os, hst.tape, hst.output, hst.size, fun b o hb hn => ?_, hst.bsz, fun b hb hn => hst.blk b hb fun o h => hn o (hx0 h)⟩
    obtain ⟨a1, a2⟩ := hst.cell b o hb (fun h => hn (hx0 h))
    exact ⟨fun h => (hxo h).elim a1 hn, a2⟩
  -- a cell that the caller may write later, the callee's values do not look at
  have hback : (∀ g k k', g ∈ lent → g ∉ R → get H g = some k → get H' g = some k' → k.elems.length ≤ k'.frz) →
      Stable w' (XU (Rest Y ρ H R lent) ρ' (heapBack sub' new)) w' (XU Y (behind ρ ρ' R slot new.length) H') := by
    intro hl
    refine (Stable.refl w' _).less fun b o _ h => ?_
    rcases h with h | h
    · rcases ha.xx h with h | ⟨g, k, k', e1, e2, e3, e4, e5, e6, e7⟩
      · exact .inl h
      · refine .inr (.inr ⟨g, k, e2, e6, e1, Nat.le_trans ?_ e7⟩)
        rw [e4]
        refine Nat.mul_le_mul_right _ ?_
        split
        · rename_i hg
          exact Nat.max_le.2 ⟨e5, hl g k k' hg e1 e2 e3⟩
        · exact e5
    · exact .inr (.inl h)
  have hmoves := ha.moves h1
  have hrest : ∀ (g : Nm) (k : Blk) (b : Nat), get H g = some k → g ∉ R → ρ g = some b → ¬ (∀ c, ¬ Rest Y ρ H R lent b c) := by
    intro g k b hg hR hb hc
    exact hc ((if g ∈ lent then max k.frz k.elems.length else k.frz) * k.sz) (.inr ⟨g, k, hg, hb, hR, Nat.le_refl _⟩)
  refine ⟨⟨fun g k' hg => ?_, fun g1 g2 k1 k2 b hg1 hg2 e1 e2 => ?_, fun g b hb => ?_, fun g b hb => ?_, fun g k' b o hg hb hy => ?_, fun b o hy => Nat.lt_of_lt_of_le (hr.ylt b o hy) hst.size⟩, ?_, hstable, hle2⟩
  · rcases ha.split (ρ' := ρ') hg with ⟨n, k, a1, rfl, a2, a3⟩ | ⟨a1, a2, a3, k, a4, a5, a6, a7, a8⟩
    · rw [a2]
      rcases hway with ⟨_, hn, hR⟩ | hl
      · exfalso
        rw [get_heapBack] at a1
        have hs : sub' = [] := List.eq_nil_of_length_eq_zero (by rw [ha.len, hR]; rfl)
        subst hn
        simp [hs] at a1
      · rcases h1.blk (n, 0) k a1 with ⟨b1, b2, b3⟩ | ⟨b, b1, b2⟩
        · exact .inl ⟨b1, renB_nil _ b2, by rw [(renB_sz _ k).2.2.1]; exact b3⟩
        · exact .inr ⟨b, b1, BlkAt.ren hmoves (b2.keep (hback hl) (fun _ _ h => h) rfl)⟩
    · rw [a3]
      rcases hr.blk g k a4 with ⟨b1, b2, b3⟩ | ⟨b, b1, b2⟩
      · exact .inl ⟨b1, a6.trans b2, a7.trans b3⟩
      · refine .inr ⟨b, b1, ?_⟩
        have hsame : w'.heap[b]? = w.heap[b]? := by
          rw [hst.blk b (hr.lt g b b1) (fun o h => ?_)]
          obtain ⟨j, g2, k2, e1, e2, e3, _⟩ := ha.prep.xsub h
          have := hr.inj g2 g k2 k b e2 a4 e3 b1
          subst this
          exact a1 (List.mem_of_getElem? e1)
        rcases b2.keep (hstable.xu Y) hle2 hsame with ⟨c0, cs, T, c1, c2⟩ | ⟨c1, c2, es, cl, c3, c4⟩
        · refine .inl ⟨by rw [a5]; exact c0, cs, T, c1, ?_⟩
          rw [a5, a6, a7]
          exact c2
        · exact .inr ⟨a5.trans c1, a7.trans c2, es, cl, c3, by rw [a6]; exact c4⟩
  · rcases ha.split (ρ' := ρ') hg1 with ⟨n, k, a1, rfl, a2, a3⟩ | ⟨a1, a2, a3, k, a4, _⟩ <;> rcases ha.split (ρ' := ρ') hg2 with ⟨n', k', b1, rfl, b2, b3⟩ | ⟨b1, b2, b3, k', b4, _⟩
    · rw [a2] at e1
      rw [b2] at e2
      have := h1.inj _ _ k k' b a1 b1 e1 e2
      rw [this] at a3
      rw [a3] at b3
      exact Option.some.inj b3
    · rw [a2] at e1
      rw [b3] at e2
      exact absurd (fun c => h1.sep (n, 0) k b c a1 e1) (hrest g2 k' b b4 b1 e2)
    · rw [a3] at e1
      rw [b2] at e2
      exact absurd (fun c => h1.sep (n', 0) k' b c b1 e2) (hrest g1 k b a4 a1 e1)
    · rw [a3] at e1
      rw [b3] at e2
      exact hr.inj g1 g2 k k' b a4 b4 e1 e2
  · simp only [behind] at hb
    cases hi : idxOf g R 0 with
    | some j =>
      obtain ⟨_, hj⟩ := idxOf_spec g R 0 j hi
      obtain ⟨k, hk, _⟩ := ha.prep.sub _ g hj
      obtain ⟨l, hl, hlt⟩ := get_some_lt hk
      rw [ha.dlen g.1 (ha.rslot _ g hj)]
      simp [List.getD_eq_getElem?_getD, hl, hlt]
    | none =>
      simp only [hi] at hb
      split at hb
      · rename_i hs
        split at hb
        · rename_i hlt
          rw [hs, ha.dslot]
          exact hlt
        · cases hb
      · rename_i hs
        rw [ha.dlen g.1 hs]
        exact hr.dom g b hb
  · simp only [behind] at hb
    cases hi : idxOf g R 0 with
    | some j => simp only [hi] at hb; exact h1.lt _ b hb
    | none =>
      simp only [hi] at hb
      split at hb
      · split at hb
        · exact h1.lt _ b hb
        · cases hb
      · exact Nat.lt_of_lt_of_le (hr.lt g b hb) hst.size
  · rcases ha.split (ρ' := ρ') hg with ⟨n, k, a1, _, a2, _⟩ | ⟨_, _, a3, k, a4, _⟩
    · rw [a2] at hb
      exact h1.sep (n, 0) k b o a1 hb (.inl hy)
    · rw [a3] at hb
      exact hr.sep g k b o a4 hb hy
  · rcases hway with ⟨hsc, _, _⟩ | hl
    · exact scal_rel hv hsc _
    · exact renV_rel hmoves (hv.mono (hback hl) (fun _ _ h => h))

end

section
variable {P : Program} {Y : XT} {w : World} {ρ : Rho}

theorem opCall_sound {H : Heap} (hr : HR Y w ρ H) {slot : Nat} (hf : Free H slot) {share : Bool} {call : List AV → List Blk → Option Out} {fid : FuncId} (hc : ∀ args sub out, call args sub = some out → Contract P fid args sub out)
    {args : List AV} {vals : Array Value} (hn : vals.size = args.length) (hv : ∀ (i : Nat) (x : AV), args[i]? = some x → VR w (XU Y ρ H) ρ (vals.getD i undef) x) {r : Res} (h : opCall share call args H slot = some r) :
    Calls P fid vals w fun e w' => ∃ v ρ', e = .returned v ∧ Made Y w ρ H w' ρ' ((putAll H r.wr).set slot (r.new.map some)) v r.val := by
  unfold opCall at h
  simp only at h
  generalize hlent : (if share then [] else args.flatMap lentNames) = lent at h
  generalize hR : reach H (args.flatMap (if share then fun v => seedsV v ++ lentNames v else seedsV)) = R at h
  split at h
  · cases h
  · rename_i hap
    split at h
    · rename_i args' sub ha hs
      cases hcall : call args' sub with
      | none => simp [hcall] at h
      | some out =>
        obtain ⟨x, sub', new⟩ := out
        simp only [hcall] at h
        split at h
        · rename_i hlen
          simp only [Option.some.injEq] at h
          subst h
          obtain ⟨s1, s2⟩ := mapM_some _ _ _ hs
          obtain ⟨a1, a2⟩ := mapM_some _ _ _ ha
          have hp : Prep P Y w ρ H R lent (fun g => (idxOf g R 0).map fun i => (i, 0)) sub := by
            refine ⟨by rw [← hR]; exact reach_nodup _ _, fun g => rfl, fun g hg hgR => ?_, s1, fun j g hj => ?_⟩
            · apply hap
              rw [List.any_eq_true]
              exact ⟨g, hg, by simpa using hgR⟩
            · obtain ⟨y, e1, e2⟩ := s2 j g hj
              obtain ⟨k, hk, rfl⟩ := Option.map_eq_some_iff.1 e2
              exact ⟨k, hk, e1⟩
          have hcon := hc args' sub _ hcall (Rest Y ρ H R lent) w (handed ρ R) vals (hp.hr hr) (by omega) (fun i y hy => by
            have hi : i < args.length := by rw [← a1]; exact (List.getElem?_eq_some_iff.1 hy).1
            obtain ⟨y', e1, e2⟩ := a2 i args[i] (by simp [hi])
            rw [hy] at e1
            cases e1
            refine lendV_rel hp hr (hv i args[i] (by simp [hi])) e2 (fun hsh g hg => ?_)
            rw [← hlent, hsh]
            simp only [Bool.false_eq_true, if_false, List.mem_flatMap]
            exact ⟨args[i], by simp, hg⟩)
          refine hcon.mono fun e w' he => ?_
          obtain ⟨v, ρ', rfl, h1, h2, h3, h4⟩ := he
          refine ⟨v, behind ρ ρ' R slot new.length, rfl, ?_⟩
          have haft := After.of (P := P) (sub' := sub') (new := new) hp hf hlen (st := if scal x && new.isEmpty && R.isEmpty then [] else stops H lent) (by split <;> simp)
          have := haft.made hf hr h1 h2 h3 h4 (by
            unfold Way
            by_cases hsc : (scal x && new.isEmpty && R.isEmpty) = true
            · simp only [Bool.and_eq_true, List.isEmpty_iff] at hsc
              exact .inl ⟨hsc.1.1, hsc.1.2, hsc.2⟩
            · refine .inr fun g k k' hg hgR hk hk' => ?_
              rw [if_neg hsc] at hk'
              unfold heapAfter at hk'
              have hgs : g.1 ≠ slot := by
                intro e
                obtain ⟨a, c⟩ := g
                have e' : a = slot := e
                subst e'
                rw [hf.get c] at hk
                cases hk
              rw [get_group, if_neg (fun e => hgs e.1), putAll_append] at hk'
              exact stops_frz H g hk lent _ hg k' hk')
          exact this
        · cases h
    · cases h

end
end Go.Abs
