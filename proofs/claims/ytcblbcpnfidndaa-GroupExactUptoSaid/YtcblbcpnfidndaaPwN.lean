/- Operations one behind the other, in whatever order they are listed. -/
import Derived.Test.YtcblbcpnfidndaaPwM
set_option linter.unusedSimpArgs false
set_option linter.unusedVariables false
namespace Go.Abs
open Go

/-- The frame and the heap of the abstract run are those of the model's. -/
structure SR (Y : XT) (nt : Nat) (w : World) (ρ : Rho) (a : Act) (s : St) : Prop where
  tsz : a.tmps.size = nt
  dfr : a.defers = []
  fr : FR w (XU Y ρ s.hp) ρ a.tmps s.fr
  hp : HR Y w ρ s.hp

/-- What has become of memory between two states. -/
structure Grew (w : World) (ρ : Rho) (H : Heap) (w' : World) (ρ' : Rho) (H' : Heap) : Prop where
  st : Stable w (XX ρ H) w' (XX ρ' H')
  le : ∀ g b, ρ g = some b → ρ' g = some b

theorem Grew.refl (w : World) (ρ : Rho) (H : Heap) : Grew w ρ H w ρ H := ⟨Stable.refl _ _, fun _ _ h => h⟩
theorem Grew.trans {w w' w'' : World} {ρ ρ' ρ'' : Rho} {H H' H'' : Heap} (h : Grew w ρ H w' ρ' H') (k : Grew w' ρ' H' w'' ρ'' H'') : Grew w ρ H w'' ρ'' H'' :=
  ⟨h.st.trans k.st, fun g b e => k.le g b (h.le g b e)⟩

theorem makesAt_some {ops : Array Oper} {i : Nat} {o : Oper} (h : ops[i]? = some o) : makesAt ops i = makes o.op := by simp [makesAt, h]

theorem slotOf_lt {ops : Array Oper} {base i j : Nat} (hij : i < j) (hm : makesAt ops i = true) : slotOf ops base i < slotOf ops base j := by
  unfold slotOf
  have hi : i < ops.toList.length := by
    unfold makesAt at hm
    cases h : ops[i]? with
    | none => simp [h] at hm
    | some o => simpa using (Array.getElem?_eq_some_iff.1 h).1
  have e : ops.toList.take j = ops.toList.take (i + 1) ++ (ops.toList.drop (i + 1)).take (j - (i + 1)) := by
    rw [← List.take_add]
    congr 1
    omega
  have e1 : ops.toList.take (i + 1) = ops.toList.take i ++ [ops.toList[i]] := by
    rw [List.take_succ_eq_append_getElem hi]
  have hmk : makes ops.toList[i].op = true := by
    unfold makesAt at hm
    have hi' : i < ops.size := by simpa using hi
    have : ops[i]? = some ops.toList[i] := by rw [Array.getElem?_eq_getElem hi']; simp
    rw [this] at hm
    exact hm
  rw [e, e1]
  simp only [List.filter_append, List.length_append, List.filter_cons, hmk, if_true, List.filter_nil, List.length_cons, List.length_nil]
  omega

theorem slotOf_ne {ops : Array Oper} {base i j : Nat} (hij : i ≠ j) (hi : makesAt ops i = true) (hj : makesAt ops j = true) : slotOf ops base i ≠ slotOf ops base j := by
  rcases Nat.lt_or_gt_of_ne hij with h | h
  · exact Nat.ne_of_lt (slotOf_lt h hi)
  · exact Nat.ne_of_gt (slotOf_lt h hj)

theorem slotOf_bound {ops : Array Oper} {base i : Nat} (hi : makesAt ops i = true) : base ≤ slotOf ops base i ∧ slotOf ops base i < base + nMakes ops := by
  refine ⟨Nat.le_add_right _ _, ?_⟩
  have h : i < ops.toList.length := by
    unfold makesAt at hi
    cases h : ops[i]? with
    | none => simp [h] at hi
    | some o => simpa using (Array.getElem?_eq_some_iff.1 h).1
  have h1 := slotOf_lt (base := base) h hi
  have h2 : slotOf ops base ops.toList.length = base + nMakes ops := by
    unfold slotOf nMakes
    rw [List.take_length]
  rw [h2] at h1
  exact h1

theorem Free.newGroup {H H' : Heap} {slot slot' : Nat} {mk : Bool} {new : List Blk} (h : Free H slot) (hne : mk = true → slot' ≠ slot) (hg : newGroup H slot' mk new = some H') : Free H' slot := by
  cases mk with
  | false => obtain ⟨_, rfl⟩ := newGroup_false hg; exact h
  | true =>
    have e := newGroup_true hg
    subst e
    refine ⟨by simp [h.1], ?_⟩
    rw [getD_group, if_neg (fun e => hne rfl e.1.symm)]
    exact h.2

section
variable {E : Env} {Y : XT} {ops : Array Oper} {Q : Exit → Act → World → Prop} {base : Nat}

/-- The step keeps the other groups free. -/
theorem stepI_free {i j : Nat} {s s' : St} {x : Option Res} (h : stepI E ops base i s = some (s', x)) (hij : i ≠ j) (hj : makesAt ops j = true) (hf : Free s.hp (slotOf ops base j)) : Free s'.hp (slotOf ops base j) := by
  unfold stepI at h
  cases ho : ops[i]? with
  | none => simp [ho] at h; rw [← h.1]; exact hf
  | some o =>
    simp only [ho] at h
    split at h
    · split at h
      · cases h
      · simp only [Option.some.injEq, Prod.mk.injEq] at h; rw [← h.1]; exact hf
      · split at h
        · rename_i r hr
          split at h
          · rename_i H hH
            simp only [Option.some.injEq, Prod.mk.injEq] at h
            rw [← h.1]
            exact (hf.putAll r.wr).newGroup (fun hm => slotOf_ne hij (by rw [makesAt_some ho]; exact hm) hj) hH
          · cases h
        · cases h
    · cases h

theorem wpOp_step (hS : ∀ i, Sound E.P (E.call i)) {i : Nat} {s s' : St} {x : Option Res} {a : Act} {w : World} {ρ : Rho} (hsr : SR Y E.nt w ρ a s) (hf : makesAt ops i = true → Free s.hp (slotOf ops base i))
    (h : stepI E ops base i s = some (s', x)) {K : Act → World → Prop} (hK : ∀ a' w' ρ', SR Y E.nt w' ρ' a' s' → Grew w ρ s.hp w' ρ' s'.hp → K a' w') : wpOp E.P ops Q i K a w := by
  unfold stepI at h
  unfold wpOp
  cases ho : ops[i]? with
  | none =>
    simp only [ho] at h ⊢
    simp only [Option.some.injEq, Prod.mk.injEq] at h
    rw [← h.1] at hK
    exact hK a w ρ hsr (Grew.refl _ _ _)
  | some o =>
    simp only [ho] at h ⊢
    split at h
    · rename_i hd
      -- a slot is written
      have put : ∀ {w' : World} {ρ' : Rho} {H' : Heap} {v : Value} {y : AV}, Made Y w ρ s.hp w' ρ' H' v y → SR Y E.nt w' ρ' (a.put o.dst v) { fr := putDst s.fr o.dst y, hp := H' } := by
        intro w' ρ' H' v y hm
        have hfr := hsr.fr.mono (hm.st.xu Y) hm.le
        cases hdst : o.dst with
        | none => exact ⟨hsr.tsz, hsr.dfr, hfr, hm.hr⟩
        | some d =>
          rw [hdst] at hd
          have hd' : d < a.tmps.size := by rw [hsr.tsz]; simpa [dstOk] using hd
          exact ⟨by simp [Act.put, hsr.tsz], hsr.dfr, hfr.put hd' hm.val, hm.hr⟩
      have wanted : ∀ b, goesOn ops s.fr o = some b → Region.wanted o (yielded ops a.tmps) = b := by
        intro b hb
        unfold goesOn at hb
        unfold Region.wanted
        cases hg : o.guard with
        | none => simp [hg] at hb; simp [hb]
        | some gw =>
          obtain ⟨j, want⟩ := gw
          simp only [hg] at hb ⊢
          cases hdj : (ops[j]?).bind (·.dst) with
          | none => simp [hdj] at hb
          | some d =>
            simp only [hdj] at hb
            have hrel := hsr.fr d
            unfold yielded
            simp only [hdj, Option.bind_some]
            split at hb
            · rename_i p hp
              simp only [Option.some.injEq] at hb
              subst hb
              rw [hp] at hrel
              have e := hrel.boolInv
              have hlt : d < a.tmps.size := by
                rcases Nat.lt_or_ge d a.tmps.size with h | h
                · exact h
                · simp [Array.getD_eq_getD_getElem?, Array.getElem?_eq_none h, undef] at e
              have : a.tmps[d]? = some (.bool p) := by
                rw [Array.getElem?_eq_getElem hlt]
                simp only [Array.getD, hlt, dite_true] at e
                simpa using e
              simp [this]
            · rename_i hp
              simp only [Option.some.injEq] at hb
              subst hb
              rw [hp] at hrel
              obtain ⟨cs, hcs, hn, _⟩ := hrel.tupInv
              cases ht : a.tmps[d]? with
              | none => simp
              | some u =>
                have : a.tmps.getD d undef = u := by simp [Array.getD_eq_getD_getElem?, ht]
                rw [this] at hcs
                subst hcs
                simp
            · cases hb
      split at h
      · cases h
      · rename_i hgo
        simp only [Option.some.injEq, Prod.mk.injEq] at h
        rw [wanted _ hgo]
        simp only [Bool.false_eq_true, if_false]
        have hm : Made Y w ρ s.hp w ρ s.hp undef (.tup []) := ⟨hsr.hp, .tup #[] [] rfl (fun i x hx => by simp at hx), Stable.refl _ _, fun _ _ h => h⟩
        have hput := put hm
        rw [← h.1] at hK
        exact hK _ w ρ hput (Grew.refl _ _ _)
      · rename_i hgo
        rw [wanted _ hgo]
        simp only [if_true]
        split at h
        · rename_i r hr
          split at h
          · rename_i H hH
            simp only [Option.some.injEq, Prod.mk.injEq] at h
            refine .inl (step_wp (hS _) hsr.hp hsr.fr hr (fun hm => hf (by rw [makesAt_some ho]; exact hm)) hH (fun v w' ρ' hm => ?_))
            rw [← h.1] at hK
            exact hK _ w' ρ' (put hm) ⟨hm.st, hm.le⟩
          · cases h
        · cases h
    · cases h

theorem wpOps_run (hS : ∀ i, Sound E.P (E.call i)) : ∀ (l : List Nat) (s s' : St) (xs : List (Option Res)) (a : Act) (w : World) (ρ : Rho), l.Nodup → SR Y E.nt w ρ a s → (∀ i ∈ l, makesAt ops i = true → Free s.hp (slotOf ops base i)) →
    runL E ops base l s = some (s', xs) → (∀ a' w' ρ', SR Y E.nt w' ρ' a' s' → Grew w ρ s.hp w' ρ' s'.hp → Q .normal a' w') → wpOps E.P ops Q l a w := by
  intro l
  induction l with
  | nil =>
    intro s s' xs a w ρ _ hsr _ h hQ
    simp only [runL, Option.some.injEq, Prod.mk.injEq] at h
    rw [← h.1] at hQ
    exact hQ a w ρ hsr (Grew.refl _ _ _)
  | cons i r ih =>
    intro s s' xs a w ρ hn hsr hfree h hQ
    rw [wpOps_cons]
    simp only [runL] at h
    cases h1 : stepI E ops base i s with
    | none => simp [h1] at h
    | some p =>
      obtain ⟨s1, x⟩ := p
      simp only [h1] at h
      cases h2 : runL E ops base r s1 with
      | none => simp [h2] at h
      | some q =>
        obtain ⟨s2, ys⟩ := q
        simp only [h2, Option.some.injEq, Prod.mk.injEq] at h
        obtain ⟨rfl, rfl⟩ := h
        have hn' := List.nodup_cons.1 hn
        refine wpOp_step hS hsr (hfree i (by simp)) h1 (fun a' w' ρ' h3 h4 => ?_)
        refine ih s1 s2 ys a' w' ρ' hn'.2 h3 (fun j hj hm => stepI_free h1 (fun e => hn'.1 (e ▸ hj)) hm (hfree j (by simp [hj]) hm)) h2 (fun a2 w2 ρ2 h5 h6 => hQ a2 w2 ρ2 h5 (h4.trans h6))

/-! ### Groups are reserved, slots are forgotten -/

theorem get_more (H : Heap) (n : Nat) (g : Nm) : get (H ++ List.replicate n []) g = get H g := by
  obtain ⟨a, c⟩ := g
  simp only [get]
  rcases Nat.lt_or_ge a H.length with h | h
  · rw [List.getElem?_append_left h]
  · rw [List.getElem?_append_right h, List.getElem?_eq_none h, List.getElem?_replicate]
    split
    · rename_i l hl
      split at hl
      · cases hl; rfl
      · cases hl
    · rfl

theorem XX_more (ρ : Rho) (H : Heap) (n : Nat) : XX ρ (H ++ List.replicate n []) = XX ρ H := by
  funext b o
  simp only [XX, get_more]

theorem getD_more (H : Heap) (n i : Nat) : (H ++ List.replicate n []).getD i [] = H.getD i [] := by
  simp only [List.getD_eq_getElem?_getD]
  rcases Nat.lt_or_ge i H.length with h | h
  · rw [List.getElem?_append_left h]
  · rw [List.getElem?_append_right h, List.getElem?_eq_none h, List.getElem?_replicate]
    split <;> simp

theorem HR.more {w : World} {ρ : Rho} {H : Heap} (hr : HR Y w ρ H) (n : Nat) : HR Y w ρ (H ++ List.replicate n []) := by
  refine ⟨fun g k h => ?_, fun g g' k k' b h h' => hr.inj g g' k k' b (by rw [← get_more H n]; exact h) (by rw [← get_more H n]; exact h'), fun g b h => by rw [getD_more]; exact hr.dom g b h, hr.lt,
    fun g k b o h => hr.sep g k b o (by rw [← get_more H n]; exact h), hr.ylt⟩
  rw [get_more] at h
  have := hr.blk g k h
  unfold XU at this ⊢
  rw [XX_more]
  exact this

theorem SR.more {w : World} {ρ : Rho} {a : Act} {s : St} (h : SR Y E.nt w ρ a s) (n : Nat) : SR Y E.nt w ρ a { s with hp := s.hp ++ List.replicate n [] } := by
  refine ⟨h.tsz, h.dfr, ?_, h.hp.more n⟩
  have := h.fr
  unfold XU at this ⊢
  rw [XX_more]
  exact this

theorem Free.more {H : Heap} {n slot : Nat} (h1 : H.length ≤ slot) (h2 : slot < H.length + n) : Free (H ++ List.replicate n []) slot := by
  refine ⟨by simp; omega, ?_⟩
  rw [getD_more]
  simp [List.getD_eq_getElem?_getD, List.getElem?_eq_none h1]

theorem SR.clear {w : World} {ρ : Rho} {a : Act} {s : St} (h : SR Y E.nt w ρ a s) (locs : List Nat) : SR Y E.nt w ρ a { s with fr := Abs.clear locs s.fr } := ⟨h.tsz, h.dfr, h.fr.clear locs, h.hp⟩

end
end Go.Abs
