/- Code, loops, functions: the abstract run is the model's. -/
import Derived.Test.YtcblbcpnfidndaaPwP
set_option linter.unusedSimpArgs false
set_option linter.unusedVariables false
namespace Go.Abs
open Go

section
variable {E : Env} {Y : XT}

/-- How a piece of code is left. -/
def exOf : Ex → Exit
  | .normal => .normal
  | .exit id => .exit id
  | .ret => .ret

/-! ### Names anew, in place -/

theorem get_pack {H : Heap} {m : Nat} {f : Ren} {R : List Nm} {g : Nm} {k : Blk} (h : get (packH H m f R) g = some k) :
    g.2 = 0 ∧ ∃ g0 k0, (firstNames m ++ R)[g.1]? = some g0 ∧ get H g0 = some k0 ∧ k = renB f k0 := by
  obtain ⟨a, c⟩ := g
  simp only [get, packH, List.getElem?_map] at h
  cases hg : (firstNames m ++ R)[a]? with
  | none => simp [hg] at h
  | some g0 =>
    cases c with
    | zero =>
      simp only [hg, Option.map_some, List.getElem?_cons_zero, Option.join_some] at h
      obtain ⟨k0, h1, rfl⟩ := Option.map_eq_some_iff.1 h
      exact ⟨rfl, g0, k0, rfl, h1, rfl⟩
    | succ c => simp [hg] at h

/-- The renamed place. -/
def packRho (ρ : Rho) (m : Nat) (R : List Nm) : Rho := fun g => if g.2 = 0 then (match (firstNames m ++ R)[g.1]? with | some g0 => ρ g0 | none => none) else none

theorem first_get {m i : Nat} {g : Nm} (h : (firstNames m)[i]? = some g) : g = (i, 0) ∧ i < m := by
  unfold firstNames at h
  rw [List.getElem?_map] at h
  cases hr : (List.range m)[i]? with
  | none => simp [hr] at h
  | some j =>
    simp [hr] at h
    have := List.getElem?_eq_some_iff.1 hr
    obtain ⟨h1, h2⟩ := this
    simp at h1 h2
    subst h2
    exact ⟨h.symm, h1⟩

theorem pack_moves {ρ : Rho} {m : Nat} {R : List Nm} : Moves (renTo m R) ρ (packRho ρ m R) := by
  intro g g' b hg hb
  unfold renTo at hg
  split at hg
  · rename_i hlt
    split at hg
    · rename_i h0
      cases hg
      simp only [packRho, h0, if_true]
      have : (firstNames m ++ R)[g.1]? = some (g.1, 0) := by
        rw [List.getElem?_append_left (by simpa [firstNames] using hlt)]
        simp [firstNames, hlt]
      rw [this]
      simp only
      rw [show ((g.1, 0) : Nm) = g from by rw [← h0]]
      exact hb
    · cases hg
  · cases hi : idxOf g R 0 with
    | none => simp [hi] at hg
    | some i =>
      simp [hi] at hg
      subst hg
      obtain ⟨_, hR⟩ := idxOf_spec g R 0 i hi
      simp only [packRho, if_true]
      have : (firstNames m ++ R)[m + i]? = some g := by
        rw [List.getElem?_append_right (by simp [firstNames])]
        simpa [firstNames] using hR
      rw [this]
      exact hb

theorem names_inj {m : Nat} {R : List Nm} (hR : R.Nodup) (ho : ∀ g, g ∈ R → ¬ g.1 < m) {i j : Nat} {g : Nm} (h1 : (firstNames m ++ R)[i]? = some g) (h2 : (firstNames m ++ R)[j]? = some g) : i = j := by
  have key : ∀ i, (firstNames m ++ R)[i]? = some g → (i < m ∧ g = (i, 0)) ∨ (m ≤ i ∧ R[i - m]? = some g) := by
    intro i h
    rcases Nat.lt_or_ge i m with hi | hi
    · rw [List.getElem?_append_left (by simpa [firstNames] using hi)] at h
      exact .inl ⟨hi, (first_get h).1⟩
    · rw [List.getElem?_append_right (by simpa [firstNames] using hi)] at h
      exact .inr ⟨hi, by simpa [firstNames] using h⟩
  rcases key i h1 with ⟨a1, a2⟩ | ⟨a1, a2⟩ <;> rcases key j h2 with ⟨b1, b2⟩ | ⟨b1, b2⟩
  · rw [a2] at b2
    simpa using b2
  · exact absurd (by rw [a2]; exact a1) (ho g (List.mem_of_getElem? b2))
  · exact absurd (by rw [b2]; exact b1) (ho g (List.mem_of_getElem? a2))
  · have i1 := idxOf_of_get R 0 _ g hR a2
    have i2 := idxOf_of_get R 0 _ g hR b2
    rw [i1] at i2
    simp at i2
    omega

theorem outside_spec {H : Heap} {m : Nat} {roots : List Nm} : (reached H m roots).Nodup ∧ ∀ g, g ∈ reached H m roots → ¬ g.1 < m := by
  unfold reached outside
  refine ⟨(reach_nodup _ _).filter _, fun g hg => ?_⟩
  simp only [List.mem_filter] at hg
  simpa using hg.2

theorem HR.pack {w : World} {ρ : Rho} {H : Heap} (hr : HR Y w ρ H) {m : Nat} {R : List Nm} (hR : R.Nodup) (ho : ∀ g, g ∈ R → ¬ g.1 < m) :
    HR Y w (packRho ρ m R) (packH H m (renTo m R) R) ∧ Stable w (XX ρ H) w (XX (packRho ρ m R) (packH H m (renTo m R) R)) := by
  have hrho : ∀ i g0, (firstNames m ++ R)[i]? = some g0 → packRho ρ m R (i, 0) = ρ g0 := by
    intro i g0 h
    simp [packRho, h]
  have hX : ∀ b o, XX (packRho ρ m R) (packH H m (renTo m R) R) b o → XX ρ H b o := by
    intro b o ⟨g, k, hg, hb, hk⟩
    obtain ⟨h0, g0, k0, h1, h2, rfl⟩ := get_pack hg
    obtain ⟨a, c⟩ := g
    simp only at h0 h1
    subst h0
    rw [hrho a g0 h1] at hb
    rw [(renB_sz _ k0).1, (renB_sz _ k0).2.1] at hk
    exact ⟨g0, k0, h2, hb, hk⟩
  have hst : Stable w (XX ρ H) w (XX (packRho ρ m R) (packH H m (renTo m R) R)) := (Stable.refl w _).less fun b o _ h => hX b o h
  refine ⟨⟨fun g k hg => ?_, fun g g' k k' b hg hg' h1 h2 => ?_, fun g b hb => ?_, fun g b hb => ?_, fun g k b o hg hb => ?_, hr.ylt⟩, hst⟩
  · obtain ⟨h0, g0, k0, h1, h2, rfl⟩ := get_pack hg
    obtain ⟨a, c⟩ := g
    simp only at h0 h1
    subst h0
    rw [hrho a g0 h1]
    rcases hr.blk g0 k0 h2 with ⟨b1, b2, b3⟩ | ⟨b, b1, b2⟩
    · exact .inl ⟨b1, renB_nil _ b2, by rw [(renB_sz _ k0).2.2.1]; exact b3⟩
    · exact .inr ⟨b, b1, BlkAt.ren pack_moves (b2.keep (hst.xu Y) (fun _ _ h => h) rfl)⟩
  · obtain ⟨h0, g0, k0, e1, e2, rfl⟩ := get_pack hg
    obtain ⟨h0', g0', k0', e1', e2', rfl⟩ := get_pack hg'
    obtain ⟨a, c⟩ := g
    obtain ⟨a', c'⟩ := g'
    simp only at h0 h0' e1 e1'
    subst h0 h0'
    rw [hrho a g0 e1] at h1
    rw [hrho a' g0' e1'] at h2
    have := hr.inj g0 g0' k0 k0' b e2 e2' h1 h2
    subst this
    rw [names_inj hR ho e1 e1']
  · simp only [packRho] at hb
    split at hb
    · rename_i h0
      cases hg : (firstNames m ++ R)[g.1]? with
      | none => simp [hg] at hb
      | some g0 =>
        rw [h0]
        simp only [packH, List.getD_eq_getElem?_getD, List.getElem?_map, hg, Option.map_some, Option.getD_some]
        simp
    · cases hb
  · simp only [packRho] at hb
    split at hb
    · cases hg : (firstNames m ++ R)[g.1]? with
      | none => simp [hg] at hb
      | some g0 => simp [hg] at hb; exact hr.lt g0 b hb
    · cases hb
  · obtain ⟨h0, g0, k0, h1, h2, rfl⟩ := get_pack hg
    obtain ⟨a, c⟩ := g
    simp only at h0 h1
    subst h0
    rw [hrho a g0 h1] at hb
    exact hr.sep g0 k0 b o h2 hb

/-- The first names keep their places. -/
def Held (ρ ρ' : Rho) (m : Nat) : Prop := ∀ j, j < m → ∀ b, ρ (j, 0) = some b → ρ' (j, 0) = some b

theorem look_map (f : AV → AV) (hf : f .undef = .undef) : ∀ (fr : Fr) (t : Nat), look (fr.map fun p => (p.1, f p.2)) t = f (look fr t) := by
  intro fr
  induction fr with
  | nil => intro t; simp [look, hf]
  | cons p r ih =>
    intro t
    obtain ⟨s, x⟩ := p
    simp only [List.map_cons, look, ih]
    split <;> rfl

/-- What has become of memory, and of the names that the caller knows. -/
structure Went (m : Nat) (w : World) (ρ : Rho) (H : Heap) (w' : World) (ρ' : Rho) (H' : Heap) : Prop where
  st : Stable w (XX ρ H) w' (XX ρ' H')
  held : Held ρ ρ' m

theorem Went.refl (m : Nat) (w : World) (ρ : Rho) (H : Heap) : Went m w ρ H w ρ H := ⟨Stable.refl _ _, fun _ _ _ h => h⟩
theorem Went.trans {m : Nat} {w w' w'' : World} {ρ ρ' ρ'' : Rho} {H H' H'' : Heap} (h : Went m w ρ H w' ρ' H') (k : Went m w' ρ' H' w'' ρ'' H'') : Went m w ρ H w'' ρ'' H'' :=
  ⟨h.st.trans k.st, fun j hj b e => k.held j hj b (h.held j hj b e)⟩
theorem Grew.went {m : Nat} {w w' : World} {ρ ρ' : Rho} {H H' : Heap} (h : Grew w ρ H w' ρ' H') : Went m w ρ H w' ρ' H' := ⟨h.st, fun j _ b e => h.le (j, 0) b e⟩

theorem SR.tidy {w : World} {ρ : Rho} {a : Act} {s : St} {nt m : Nat} (h : SR Y nt w ρ a s) : ∃ ρ', SR Y nt w ρ' a (Abs.tidy m s) ∧ Went m w ρ s.hp w ρ' (Abs.tidy m s).hp := by
  unfold Abs.tidy
  simp only
  obtain ⟨hn, ho⟩ := outside_spec (H := s.hp) (m := m) (roots := s.fr.flatMap fun p => refsV p.2)
  generalize reached s.hp m (s.fr.flatMap fun p => refsV p.2) = R at hn ho ⊢
  obtain ⟨h1, h2⟩ := h.hp.pack (m := m) hn ho
  refine ⟨packRho ρ m R, ⟨h.tsz, h.dfr, fun t => ?_, h1⟩, h2, fun j hj b e => ?_⟩
  · simp only
    rw [look_map (renV (renTo m R)) rfl]
    exact renV_rel pack_moves ((h.fr t).mono (h2.xu Y) (fun _ _ h => h))
  · have : (firstNames m ++ R)[j]? = some (j, 0) := by
      rw [List.getElem?_append_left (by simpa [firstNames] using hj)]
      simp [firstNames, hj]
    simp [packRho, this, e]

end
end Go.Abs
