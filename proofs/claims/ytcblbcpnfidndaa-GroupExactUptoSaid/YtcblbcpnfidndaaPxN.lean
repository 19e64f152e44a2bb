/- Calls told by hand: functions of numbers, texts and rows that leave memory as it was. -/
import Derived.Test.YtcblbcpnfidndaaPxM
set_option linter.unusedSimpArgs false
set_option linter.unusedVariables false
namespace Go.Abs
open Go

/-- A value that is known whole. -/
def toV1 : SV → Option Value
  | .int k n => some (.int k n)
  | .bool b => some (.bool b)
  | .str s => some (.string s)
  | _ => none
def toVL : List SV → Option (List Value)
  | [] => some []
  | v :: r => match toV1 v, toVL r with
    | some x, some l => some (x :: l)
    | _, _ => none
def toV : SV → Option Value
  | .tup vs => (toVL vs).map fun l => .tuple l.toArray
  | v => toV1 v

/-- The world is as it was, but for new blocks and the count of draws. -/
structure Kept (w w' : World) : Prop where
  os : w'.os = w.os
  tape : w'.tape = w.tape
  output : w'.output = w.output
  size : w.heap.size ≤ w'.heap.size
  old : ∀ i, i < w.heap.size → w'.heap[i]? = w.heap[i]?

theorem Kept.refl (w : World) : Kept w w := ⟨rfl, rfl, rfl, Nat.le_refl _, fun _ _ => rfl⟩

def isPure : SV → Bool
  | .int .. | .bool _ | .str _ | .row .. => true
  | _ => false

def pureC (F : List SV → Tr SV) : SCall := fun args sub => match sub with
  | [] => .when (args.all isPure) ((F args).bind fun v => .ret (v, [], []))
  | _ => .fail

theorem toV1_rel {w : World} {X : XT} {v : SV} {u : Value} (h : toV1 v = some u) (ℓ : Lens) : PR w X u (dA ℓ v) ∧ dV ℓ v = dA ℓ v := by
  cases v <;> simp only [toV1, Option.some.injEq] at h <;> first | (cases h; done) | (subst h; exact ⟨by first | exact .int _ _ | exact .bool _ | exact .str _, rfl⟩)

theorem toVL_rel {w : World} {X : XT} {ℓ : Lens} : ∀ {vs : List SV} {us : List Value}, toVL vs = some us → us.length = vs.length ∧ ∀ (i : Nat) (v : SV), vs[i]? = some v → ∃ u, us[i]? = some u ∧ PR w X u (dA ℓ v)
  | [], us, h => by cases h; exact ⟨rfl, fun i v hi => by simp at hi⟩
  | v :: r, us, h => by
    simp only [toVL] at h
    split at h
    · rename_i x l h1 h2
      cases h
      obtain ⟨e1, e2⟩ := toVL_rel (w := w) (X := X) (ℓ := ℓ) h2
      refine ⟨by simp [e1], fun i y hi => ?_⟩
      cases i with
      | zero => simp at hi; subst hi; exact ⟨x, rfl, (toV1_rel h1 ℓ).1⟩
      | succ i => exact e2 i y (by simpa using hi)
    · cases h

theorem toV_rel {w : World} {X : XT} {ρ : Rho} {v : SV} {u : Value} (h : toV v = some u) (ℓ : Lens) : VR w X ρ u (dV ℓ v) := by
  have one : toV1 v = some u → VR w X ρ u (dV ℓ v) := fun h => by
    obtain ⟨a, b⟩ := toV1_rel (w := w) (X := X) h ℓ
    rw [b]
    exact .pur _ _ a
  cases v with
  | tup vs =>
    simp only [toV] at h
    obtain ⟨us, h1, rfl⟩ := Option.map_eq_some_iff.1 h
    obtain ⟨e1, e2⟩ := toVL_rel (w := w) (X := X) (ℓ := ℓ) h1
    refine .tup _ _ (by simp [e1]) (fun i x hi => ?_)
    rw [List.getElem?_map] at hi
    obtain ⟨y, hy, rfl⟩ := Option.map_eq_some_iff.1 hi
    obtain ⟨u, h3, h4⟩ := e2 i y hy
    have : us.toArray.getD i undef = u := by simp [Array.getD_eq_getD_getElem?, h3]
    rw [this]
    exact .pur _ _ h4
  | _ => exact one h

theorem isPure_rel {w : World} {X : XT} {ρ : Rho} {x : SV} {v : Value} {ℓ : Lens} (h : isPure x = true) (hv : VR w X ρ v (dV ℓ x)) : PR w X v (d1 ℓ x) := by
  cases x <;> first | (simp [isPure] at h; done) | skip
  case row t l tg =>
    obtain ⟨_, _, _, _, _, hp⟩ := VR.lstInv (show VR w X ρ v (.lst _ _ _) from hv)
    exact hp
  all_goals
    cases hv with
    | pur v x h => exact h

theorem pure_ok {P : Program} {f : FuncId} {F : List SV → Tr SV} (hent : Entered P f)
    (h : ∀ args v, (F args).mean = some v → ∃ u, toV v = some u ∧ ∀ (w : World) (X : XT) (vals : Array Value), vals.size = args.length → (∀ (i : Nat) (x : SV), args[i]? = some x → PR w X (vals.getD i undef) (d1 (fun _ => 0) x)) →
      Calls P f vals w fun e w' => e = .returned u ∧ Kept w w') : CallOK P f (pureC F) := by
  intro args sub out hc ℓ0 ℓ' _ _
  refine ⟨hent, ?_⟩
  unfold pureC at hc
  split at hc
  · obtain ⟨hall, hc⟩ := Tr.mean_when hc
    obtain ⟨v, h1, h2⟩ := Tr.mean_bind hc
    have := Tr.mean_ret h2
    subst this
    obtain ⟨u, hu, hw⟩ := h args v h1
    intro Y w ρ vals hr hsz hv
    refine (hw w (XU Y ρ (heapOf [])) vals (by simpa using hsz) (fun i x hi => ?_)).mono ?_
    · have hp : isPure x = true := (List.all_eq_true.1 hall) x (List.mem_of_getElem? hi)
      have := isPure_rel hp (hv i (dV ℓ0 x) (by rw [List.getElem?_map, hi]; rfl))
      cases x <;> first | exact this | (simp [isPure] at hp; done)
    rintro e w' ⟨rfl, k⟩
    have hH : ∀ g, get (heapBack (([] : List (Option Blk))) ([] : List Blk)) g = none := fun g => by simp [get, heapBack]
    have hXX : ∀ b o, ¬ XX ρ (heapBack [] []) b o := by
      rintro b o ⟨g, k, a1, _⟩
      rw [hH] at a1; cases a1
    refine ⟨u, ρ, rfl, ?_, ?_, ?_, fun _ _ h => h⟩
    · refine ⟨fun g k hg => ?_, fun g g' k k' b hg => ?_, fun g b hb => ?_, fun g b hb => ?_, fun g k b o hg => ?_, fun b o hy => ?_⟩
      · exact absurd ((hH g).symm.trans hg) (by simp)
      · exact absurd ((hH g).symm.trans hg) (by simp)
      · exact hr.dom g b hb
      · have := hr.lt g b hb; have := k.size; omega
      · exact absurd ((hH g).symm.trans hg) (by simp)
      · have := hr.ylt b o hy; have := k.size; omega
    · exact toV_rel hu ℓ'
    · refine ⟨k.os, k.tape, k.output, k.size, fun b o hb _ => ⟨hXX b o, cell_same (k.old b hb) o⟩, fun b hb => ?_, fun b hb _ => k.old b hb⟩
      simp only [bsize, k.old b hb]
  · exact (Tr.mean_fail hc).elim

theorem PR.strInv {w : World} {X : XT} {v : Value} {s : ByteArray} (h : PR w X v (.str s)) : v = .string s := by cases h; rfl
theorem PR.int_inv {w : World} {X : XT} {v : Value} {k : IntKind} {n : Int} (h : PR w X v (.int k n)) : v = .int k n := by cases h; rfl

/-- One text alone. -/
theorem one_val {vals : Array Value} (h : vals.size = 1) : vals = #[vals.getD 0 undef] := by
  apply Array.ext
  · simp [h]
  · intro k hk _
    have : k = 0 := by omega
    subst this; simp [Array.getD, h]
theorem two_vals {vals : Array Value} (h : vals.size = 2) : vals = #[vals.getD 0 undef, vals.getD 1 undef] := by
  apply Array.ext
  · simp [h]
  · intro k hk _
    have : k = 0 ∨ k = 1 := by omega
    rcases this with rfl | rfl <;> simp [Array.getD, h]

end Go.Abs
