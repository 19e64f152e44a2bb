/- Calls: names are said anew, and what the callee leaves is taken over. -/
import Derived.Test.YtcblbcpnfidndaaPwI
set_option linter.unusedSimpArgs false
set_option linter.unusedVariables false
namespace Go.Abs
open Go

/-! ### Lists of names -/

theorem addNew_mem : ∀ (r l : List Nm) (g : Nm), g ∈ addNew l r ↔ g ∈ l ∨ g ∈ r := by
  intro r
  induction r with
  | nil => intro l g; simp [addNew]
  | cons a r ih =>
    intro l g
    simp only [addNew]
    split
    · rename_i h
      rw [ih]
      constructor
      · rintro (h1 | h1)
        · exact .inl h1
        · exact .inr (by simp [h1])
      · rintro (h1 | h1)
        · exact .inl h1
        · simp at h1
          rcases h1 with rfl | h1
          · exact .inl h
          · exact .inr h1
    · rw [ih]
      simp [or_assoc]

theorem addNew_nodup : ∀ (r l : List Nm), l.Nodup → (addNew l r).Nodup := by
  intro r
  induction r with
  | nil => intro l h; exact h
  | cons a r ih =>
    intro l h
    simp only [addNew]
    split
    · exact ih l h
    · rename_i hn
      refine ih _ ?_
      rw [List.nodup_append]
      exact ⟨h, by simp, fun x hx y hy => by simp at hy; subst hy; intro e; subst e; exact hn hx⟩

theorem reach_nodup (H : Heap) (l : List Nm) : (reach H l).Nodup := by
  unfold reach grow
  exact addNew_nodup _ _ (addNew_nodup _ _ (addNew_nodup _ _ (addNew_nodup _ _ (by simp))))

theorem idxOf_spec (g : Nm) : ∀ (l : List Nm) (i k : Nat), idxOf g l i = some k → i ≤ k ∧ l[k - i]? = some g := by
  intro l
  induction l with
  | nil => intro i k h; simp [idxOf] at h
  | cons a r ih =>
    intro i k h
    simp only [idxOf] at h
    split at h
    · rename_i e
      cases h
      subst e
      simp
    · obtain ⟨h1, h2⟩ := ih (i + 1) k h
      refine ⟨by omega, ?_⟩
      have : k - i = (k - (i + 1)) + 1 := by omega
      rw [this]
      simpa using h2

theorem idxOf_of_get : ∀ (l : List Nm) (i k : Nat) (g : Nm), l.Nodup → l[k]? = some g → idxOf g l i = some (i + k) := by
  intro l
  induction l with
  | nil => intro i k g _ h; simp at h
  | cons a r ih =>
    intro i k g hn h
    simp only [idxOf]
    cases k with
    | zero => simp at h; subst h; simp
    | succ k =>
      have h' : r[k]? = some g := by simpa using h
      have hne : a ≠ g := by
        intro e
        subst e
        exact (List.nodup_cons.1 hn).1 (List.mem_of_getElem? h')
      rw [if_neg hne, ih (i + 1) k g (List.nodup_cons.1 hn).2 h']
      congr 1
      omega

/-! ### Values under other names -/

section
variable {P : Program} {w : World} {X : XT} {ρ ρ' : Rho}

/-- The new names lie where the old ones lay. -/
def Moves (f : Ren) (ρ ρ' : Rho) : Prop := ∀ g g' b, f g = some g' → ρ g = some b → ρ' g' = some b

theorem ren1_rel {f : Ren} (hf : Moves f ρ ρ') {v : Value} {x : AV} (h : VR w X ρ v x) : VR w X ρ' v (ren1 f x) := by
  cases x with
  | ptr g sz i off =>
    simp only [ren1]
    cases hg : f g with
    | none => exact .undef _
    | some g' =>
      cases h with
      | pur v x h => cases h
      | ptr _ b _ _ _ hs hρ => exact .ptr _ _ _ _ _ hs (hf g g' b hg hρ)
      | mp _ b hρ => exact .mp _ _ (hf g g' b hg hρ)
  | own g sz off len =>
    simp only [ren1]
    cases hg : f g with
    | none => exact .undef _
    | some g' =>
      rcases h.ownInv with ⟨a, rfl, rfl⟩ | ⟨b, cap, rfl, hρ, hb, hc, hk⟩
      · exact .own0 _ _ _ _
      · exact .own _ _ _ _ _ _ (hf g g' b hg hρ) hb hc hk
  | clo => exact .undef _
  | agg => exact .undef _
  | tup => exact .undef _
  | _ =>
    cases h with
    | pur v x h => exact .pur _ _ h

theorem getElem?_map' {α β : Type} (l : List α) (f : α → β) {i : Nat} {y : β} (h : (l.map f)[i]? = some y) : ∃ x, l[i]? = some x ∧ f x = y := by
  rw [List.getElem?_map] at h
  exact Option.map_eq_some_iff.1 h

theorem renC_rel {f : Ren} (hf : Moves f ρ ρ') {v : Value} {x : AV} (h : VR w X ρ v x) : VR w X ρ' v (renC f x) := by
  cases x with
  | clo fn cs =>
    cases h with
    | pur v x h => cases h
    | clo _ as _ hn hc =>
      refine .clo _ _ _ (by simpa using hn) (fun i y hy => ?_)
      obtain ⟨z, hz, rfl⟩ := getElem?_map' _ _ hy
      exact ren1_rel hf (hc i z hz)
  | _ => exact ren1_rel hf h

theorem renA_rel {f : Ren} (hf : Moves f ρ ρ') {v : Value} {x : AV} (h : VR w X ρ v x) : VR w X ρ' v (renA f x) := by
  cases x with
  | agg cs =>
    obtain ⟨as, rfl, hn, h1, hc⟩ := h.aggInv
    refine .agg _ _ (by simpa using hn) h1 (fun i y hy => ?_)
    obtain ⟨z, hz, rfl⟩ := getElem?_map' _ _ hy
    exact renC_rel hf (hc i z hz)
  | _ => exact renC_rel hf h

theorem renV_rel {f : Ren} (hf : Moves f ρ ρ') {v : Value} {x : AV} (h : VR w X ρ v x) : VR w X ρ' v (renV f x) := by
  cases x with
  | tup cs =>
    obtain ⟨as, rfl, hn, hc⟩ := h.tupInv
    refine .tup _ _ (by simpa using hn) (fun i y hy => ?_)
    obtain ⟨z, hz, rfl⟩ := getElem?_map' _ _ hy
    exact renA_rel hf (hc i z hz)
  | _ => exact renA_rel hf h

theorem cells_renA (f : Ren) (x : AV) : (renA f x).cells = x.cells.map (renC f) := by
  cases x with
  | agg cs => rfl
  | clo fn cs => rfl
  | ptr g sz i off => cases h : f g <;> simp [AV.cells, renA, renC, ren1, h]
  | own g sz off len => cases h : f g <;> simp [AV.cells, renA, renC, ren1, h]
  | _ => rfl

/-- A block under other names. -/
theorem BlkAt.ren {f : Ren} (hf : Moves f ρ ρ') {b : Nat} {k : Blk} (h : BlkAt w X ρ b k) : BlkAt w X ρ' b (renB f k) := by
  rcases h with ⟨h0, cs, T, hh, hle, he⟩ | ⟨m1, m2, m3⟩
  case inr =>
    have e : renB f k = k := by unfold renB; rw [m2]; rfl
    rw [e]
    exact .inr ⟨m1, m2, m3⟩
  refine .inl ⟨by have := h0; unfold renB; split <;> exact this, cs, T, hh, ?_⟩
  unfold renB
  cases hb : k.box with
  | false =>
    simp only [Bool.false_eq_true, if_false]
    refine ⟨hle, fun i x hx => ⟨(he i x hx).1, fun j u hj => ?_⟩⟩
    have := (he i x hx).2 j u hj
    rw [hb] at this ⊢
    exact this
  | true =>
    simp only [if_true]
    refine ⟨by simpa using hle, fun i y hy => ?_⟩
    obtain ⟨x, hx, rfl⟩ := getElem?_map' _ _ hy
    obtain ⟨h1, h2⟩ := he i x hx
    rw [cells_renA]
    refine ⟨by simpa using h1, fun j u hj => ?_⟩
    obtain ⟨z, hz, rfl⟩ := getElem?_map' _ _ hj
    obtain ⟨h3, h4⟩ := h2 j z hz
    rw [hb] at h4
    exact ⟨h3, renC_rel hf h4⟩

theorem renB_sz (f : Ren) (k : Blk) : (renB f k).sz = k.sz ∧ (renB f k).frz = k.frz ∧ (renB f k).box = k.box ∧ (renB f k).elems.length = k.elems.length := by
  unfold renB
  cases h : k.box <;> simp [h]

theorem renB_nil (f : Ren) {k : Blk} (h : k.elems = []) : (renB f k).elems = [] := by
  unfold renB
  split <;> simp [h]

/-! ### What a function promises -/

def heapOf (sub : List Blk) : Heap := sub.map fun b => [some b]
def heapBack (sub : List (Option Blk)) (new : List Blk) : Heap := sub.map (fun b => [b]) ++ new.map fun b => [some b]

/-- The call returns what the abstract call says, whatever else lies in memory. -/
def Contract (P : Program) (f : FuncId) (args : List AV) (sub : List Blk) (out : Out) : Prop :=
  ∀ (Y : XT) (w : World) (ρ : Rho) (vals : Array Value), HR Y w ρ (heapOf sub) → vals.size = args.length → (∀ (i : Nat) (x : AV), args[i]? = some x → VR w (XU Y ρ (heapOf sub)) ρ (vals.getD i undef) x) →
    Calls P f vals w fun e w' => ∃ v ρ', e = .returned v ∧ HR Y w' ρ' (heapBack out.2.1 out.2.2) ∧ VR w' (XU Y ρ' (heapBack out.2.1 out.2.2)) ρ' v out.1 ∧
      Stable w (XX ρ (heapOf sub)) w' (XX ρ' (heapBack out.2.1 out.2.2)) ∧ ∀ g b, ρ g = some b → ρ' g = some b

/-- The function is entered when it is called. -/
def Entered (P : Program) (f : FuncId) : Prop := ∀ (args : Array Value) (w : World), (callFunc f args).run P w = .ok (.enter f args) w

def Sound (P : Program) (call : CL) : Prop := ∀ f args sub out, call f args sub = some out → Entered P f ∧ Contract P f args sub out

theorem get_heapOf (sub : List Blk) (g : Nm) : get (heapOf sub) g = if g.2 = 0 then sub[g.1]? else none := by
  obtain ⟨a, c⟩ := g
  simp only [get, heapOf, List.getElem?_map]
  cases h : sub[a]? with
  | none => simp
  | some k =>
    cases c with
    | zero => simp
    | succ c => simp

theorem get_heapBack (sub : List (Option Blk)) (new : List Blk) (g : Nm) : get (heapBack sub new) g = if g.2 = 0 then (if g.1 < sub.length then (sub[g.1]?).join else new[g.1 - sub.length]?) else none := by
  obtain ⟨a, c⟩ := g
  simp only [get, heapBack]
  by_cases h : a < sub.length
  · rw [List.getElem?_append_left (by simpa using h), List.getElem?_map]
    simp only [h, if_true]
    cases hs : sub[a]? with
    | none => simp
    | some k =>
      cases c with
      | zero => cases k <;> simp
      | succ c => simp
  · rw [List.getElem?_append_right (by simpa using h), List.getElem?_map]
    simp only [h, if_false, List.length_map]
    cases hs : new[a - sub.length]? with
    | none => simp
    | some k =>
      cases c with
      | zero => simp
      | succ c => simp

end
end Go.Abs
