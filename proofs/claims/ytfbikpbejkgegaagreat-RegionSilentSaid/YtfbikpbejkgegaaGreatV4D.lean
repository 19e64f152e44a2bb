/- Lemmas for the statement of the last text of this claim. -/
import Derived.Test.YtfbikpbejkgegaaGreatChecked
import Derived.Test.YtfbikpbejkgegaaGreatPxM
import Derived.WalkKit
import Derived.ProofKit
import Derived.Deep.RegionLaw
import Derived.Deep.LoopGhost
import Derived.Lib.Walk
import Derived.Maps.Own
import Derived.Shelf.RegionOpenPlain
import Derived.Lib.LazyBuf
import Derived.Test.YtfbikpbejkgegaaGreatPxK
import Derived.Test.YtfbikpbejkgegaaGreatV4C
set_option linter.unusedSimpArgs false
set_option linter.unusedVariables false
namespace Go.Proofs.YtfbikpbejkgegaaGreat
open Go Go.Abs Go.Raft
/-! ### Cuts are few -/
theorem nodup_lt : ∀ (N : Nat) (l : List Nat), l.Nodup → (∀ x ∈ l, x < N) → l.length ≤ N := by
  intro N
  induction N with
  | zero =>
    intro l _ h
    cases l with
    | nil => simp
    | cons a l => exact absurd (h a (by simp)) (by omega)
  | succ N ih =>
    intro l hn h
    by_cases hm : N ∈ l
    · have h1 := ih (l.erase N) (hn.erase N) (fun x hx => by
        have h2 := h x (List.mem_of_mem_erase hx)
        have h3 : x ≠ N := fun e => by subst e; exact (hn.not_mem_erase hx).elim
        omega)
      rw [List.length_erase_of_mem hm] at h1
      omega
    · have := ih l hn (fun x hx => by
        have h2 := h x hx
        have h3 : x ≠ N := fun e => hm (e ▸ hx)
        omega)
      omega

def key (p : CutT) : Nat := p.1.toNat * 8 + p.2.1.toNat

theorem cuts_nodup {n : Int} (hn : n ≤ 5) : ∀ {l pre : List CutT}, (pre.map key).Nodup → (∀ p ∈ pre, cutOK1 n p = true) → cutsOK n pre l = true → ((pre ++ l).map key).Nodup ∧ ∀ p ∈ pre ++ l, cutOK1 n p = true := by
  intro l
  induction l with
  | nil => intro pre h1 h2 _; rw [List.append_nil]; exact ⟨h1, h2⟩
  | cons x l ih =>
    intro pre h1 h2 h
    simp only [cutsOK, Bool.and_eq_true, Bool.not_eq_true'] at h
    obtain ⟨⟨hx, hic⟩, hl⟩ := h
    have hx' := hx
    simp only [cutOK1, Bool.and_eq_true, decide_eq_true_eq] at hx'
    have := ih (pre := pre ++ [x]) (by
      rw [List.map_append, List.nodup_append]
      refine ⟨h1, by simp, fun a ha b hb => ?_⟩
      simp at hb
      subst hb
      obtain ⟨p, hp, rfl⟩ := List.mem_map.1 ha
      have hp1 := h2 p hp
      simp only [cutOK1, Bool.and_eq_true, decide_eq_true_eq] at hp1
      intro e
      unfold key at e
      have e1 : p.1 = x.1 := by omega
      have e2 : p.2.1 = x.2.1 := by omega
      have : isCut pre x.1 x.2.1 = true := by
        unfold isCut
        rw [List.any_eq_true]
        refine ⟨p, hp, ?_⟩
        rw [Bool.and_eq_true, decide_eq_true_eq, decide_eq_true_eq]
        omega
      rw [hic] at this; cases this) (fun p hp => by
      rcases List.mem_append.1 hp with hp | hp
      · exact h2 p hp
      · simp at hp; subst hp; exact hx) hl
    rw [List.append_assoc, List.singleton_append] at this
    exact this

theorem cuts_len {n : Int} (hn : n ≤ 5) {l : List CutT} (h : cutsOK n [] l = true) : l.length ≤ 48 := by
  obtain ⟨h1, h2⟩ := cuts_nodup (pre := []) hn (by simp) (by simp) h
  rw [List.nil_append] at h1 h2
  have := nodup_lt 48 (l.map key) h1 (fun x hx => by
    obtain ⟨p, hp, rfl⟩ := List.mem_map.1 hx
    have := h2 p hp
    simp only [cutOK1, Bool.and_eq_true, decide_eq_true_eq] at this
    unfold key; omega)
  simpa using this

theorem cutsOK_snoc {n : Int} : ∀ {l pre : List CutT} {x : CutT}, cutsOK n pre l = true → cutOK1 n x = true → isCut (pre ++ l) x.1 x.2.1 = false → cutsOK n pre (l ++ [x]) = true := by
  intro l
  induction l with
  | nil =>
    intro pre x _ h2 h3
    rw [List.append_nil] at h3
    simp [cutsOK, h2, h3]
  | cons y l ih =>
    intro pre x h1 h2 h3
    simp only [cutsOK, Bool.and_eq_true, List.cons_append] at h1 ⊢
    exact ⟨h1.1, ih h1.2 h2 (by rw [List.append_assoc, List.singleton_append]; exact h3)⟩

/-! ### Good clusters -/
structure CG (c : CT) : Prop where
  n1 : 1 ≤ c.reps.length
  n5 : c.reps.length ≤ 5
  dn : c.down.length = c.reps.length
  wl : c.wire.length ≤ 256
  wm : ∀ m ∈ c.wire, 0 ≤ m.frm ∧ m.frm < (c.reps.length : Int) ∧ 0 ≤ m.to ∧ m.to < (c.reps.length : Int) ∧ m.frm ≠ m.to
  we : ∀ m ∈ c.wire, m.ents.length ≤ 256
  cs : cutsOK (c.reps.length : Int) [] c.cut = true
  gd : ∃ g, Inv c.reps.length c.reps g ∧ ∀ m ∈ c.wire, MsgOK c.reps.length g m

theorem CG.v {c : CT} (h : CG c) : VC c := by
  obtain ⟨g, hi, _⟩ := h.gd
  exact ⟨h.n1, h.n5, h.dn, h.wl, fun j r hj => ⟨(hi.nod j r hj).id, (hi.nod j r hj).chk⟩, h.wm, h.cs⟩

theorem VC.sh {c : CT} (V : VC c) (we : ∀ m ∈ c.wire, m.ents.length ≤ 1000000) : ShC c := by
  have h1 := V.n5
  have h2 := V.wl
  have h3 := V.dn
  have h4 := cuts_len (by omega) V.cs
  refine ⟨fun r hr => ?_, by omega, we, by omega, by omega, by omega⟩
  obtain ⟨j, hj⟩ := List.mem_iff_getElem?.1 hr
  exact shrt_of (V.rp j r hj).2

theorem CG.sh {c : CT} (h : CG c) : ShC c := h.v.sh fun m hm => by have := h.we m hm; omega

theorem CG.put {c : CT} (h : CG c) {reps' : List RT} {new : List MT} (hl : reps'.length = c.reps.length)
    (hs : ∀ g, Inv c.reps.length c.reps g → (∀ m ∈ c.wire, MsgOK c.reps.length g m) → Step c.reps.length g reps' new)
    {w' : List MT} (hw : ∀ m ∈ w', m ∈ c.wire ∨ m ∈ new)
    (hn : ∀ m ∈ new, (0 ≤ m.frm ∧ m.frm < (c.reps.length : Int) ∧ 0 ≤ m.to ∧ m.to < (c.reps.length : Int) ∧ m.frm ≠ m.to) ∧ m.ents.length ≤ 256)
    (hwl : w'.length ≤ 256) {down' : List Bool} (hd : down'.length = c.reps.length) {cut' : List CutT} (hc : cutsOK (c.reps.length : Int) [] cut' = true) : CG (cl reps' w' down' cut') := by
  obtain ⟨g, hi, hm⟩ := h.gd
  obtain ⟨g', a, b, d⟩ := hs g hi hm
  have h1 := h.n1
  have h5 := h.n5
  refine ⟨by show 1 ≤ reps'.length; omega, by show reps'.length ≤ 5; omega, by show down'.length = reps'.length; omega, hwl, ?_, ?_, by show cutsOK (reps'.length : Int) [] cut' = true; rw [hl]; exact hc, ?_⟩
  · intro m hm'
    show _ ∧ m.frm < (reps'.length : Int) ∧ _ ∧ m.to < (reps'.length : Int) ∧ _
    rw [hl]
    rcases hw m hm' with hm' | hm'
    · exact h.wm m hm'
    · exact (hn m hm').1
  · intro m hm'
    rcases hw m hm' with hm' | hm'
    · exact h.we m hm'
    · exact (hn m hm').2
  · show ∃ g, Inv reps'.length reps' g ∧ ∀ m ∈ w', MsgOK reps'.length g m
    rw [hl]
    refine ⟨g', a, fun m hm' => ?_⟩
    rcases hw m hm' with hm' | hm'
    · exact b m (hm m hm')
    · exact d m hm'

theorem CG.same {c : CT} (h : CG c) {w' : List MT} (hw : ∀ m ∈ w', m ∈ c.wire) (hwl : w'.length ≤ 256) {down' : List Bool} (hd : down'.length = c.reps.length) {cut' : List CutT} (hc : cutsOK (c.reps.length : Int) [] cut' = true) : CG (cl c.reps w' down' cut') :=
  h.put rfl (fun g hi _ => hi.refl) (new := []) (fun m hm => .inl (hw m hm)) (fun m hm => by cases hm) hwl hd hc

theorem CG.id {c : CT} (h : CG c) {i : Int} {r : RT} (hr : c.reps[i.toNat]? = some r) (i0 : 0 ≤ i) : r.id = i := by
  have := (h.v.rp _ _ hr).1; omega

theorem cg_stand {c : CT} (h : CG c) {i : Int} (h0 : (standC c i).1 = 0) : CG (standC c i).2 ∧ (standC c i).2.reps.length = c.reps.length := by
  unfold standC at h0 ⊢
  by_cases hr : readyE c i = 0
  · obtain ⟨V, i0, i1⟩ := ready_iff.1 hr
    obtain ⟨r, e1, e1'⟩ := rep_at i0 i1
    rw [if_pos hr] at h0 ⊢
    rw [e1'] at h0 ⊢
    split at h0
    · cases h0
    · rename_i hd
      rw [if_neg hd]
      simp only at h0 ⊢
      split at h0
      · rename_i hs
        rw [if_pos hs]
        split at h0
        · cases h0
        · rename_i hg
          rw [if_neg hg]
          have hid := h.id e1 i0
          have hC := (V.rp _ _ e1).2
          unfold stand at hs hg ⊢
          rw [if_pos (chk_iff.2 hC)] at hs hg ⊢
          split at hs
          · cases hs
          · rename_i ht
            rw [if_neg ht] at hg ⊢
            simp only at hg ⊢
            refine ⟨h.put (by simp) (fun g hi _ => hi.standS e1 ht) (new := asks (c.reps.length : Int) r) (fun m hm => List.mem_append.1 hm) ?_ (by show (c.wire ++ asks (c.reps.length : Int) r).length ≤ 256; rw [List.length_append]; omega) h.dn h.cs, List.length_set⟩
            intro m hm
            simp only [asks, List.mem_map, List.mem_filter, List.mem_range, decide_eq_true_eq] at hm
            obtain ⟨j, ⟨hj1, hj2⟩, rfl⟩ := hm
            simp only [mg_frm, mg_to, mg_ents]
            refine ⟨⟨by omega, by omega, by omega, by omega, fun e => hj2 e.symm⟩, by simp⟩
      · rename_i hs
        exact absurd h0 hs
  · rw [if_neg hr] at h0
    exact absurd h0 hr

theorem cg_propose {c : CT} (h : CG c) {i : Int} {o : OpT} (h0 : (proposeC c i o).1 = 0) : CG (proposeC c i o).2 ∧ (proposeC c i o).2.reps.length = c.reps.length := by
  unfold proposeC at h0 ⊢
  by_cases hr : readyE c i = 0
  · obtain ⟨V, i0, i1⟩ := ready_iff.1 hr
    obtain ⟨r, e1, e1'⟩ := rep_at i0 i1
    rw [if_pos hr] at h0 ⊢
    rw [e1'] at h0 ⊢
    split at h0
    · cases h0
    · rename_i hd
      rw [if_neg hd]
      simp only at h0 ⊢
      split at h0
      · rename_i hs
        rw [if_pos hs]
        unfold proposeE at hs ⊢
        have hC := (V.rp _ _ e1).2
        rw [if_pos (chk_iff.2 hC)] at hs ⊢
        split at hs
        · rename_i h2
          rw [if_pos h2]
          split at hs
          · cases hs
          · rename_i hh
            rw [if_neg hh]
            split at hs
            · rename_i hl
              rw [if_pos hl]
              exact ⟨h.put (by simp) (fun g hi _ => hi.proposeS e1 h2 hl o) (new := []) (fun m hm => .inl hm) (fun m hm => by cases hm) h.wl h.dn h.cs, List.length_set⟩
            · cases hs
        · cases hs
      · rename_i hs
        exact absurd h0 hs
  · rw [if_neg hr] at h0
    exact absurd h0 hr

theorem cg_beat {c : CT} (h : CG c) {i : Int} (h0 : (beatC c i).1 = 0) : CG (beatC c i).2 ∧ (beatC c i).2.reps = c.reps := by
  unfold beatC at h0 ⊢
  by_cases hr : readyE c i = 0
  · obtain ⟨V, i0, i1⟩ := ready_iff.1 hr
    obtain ⟨r, e1, e1'⟩ := rep_at i0 i1
    rw [if_pos hr] at h0 ⊢
    rw [e1'] at h0 ⊢
    split at h0
    · cases h0
    · rename_i hd
      rw [if_neg hd]
      split at h0
      · rename_i h2
        rw [if_pos h2]
        simp only at h0 ⊢
        split at h0
        · cases h0
        · rename_i hg
          rw [if_neg hg]
          have hid := h.id e1 i0
          have hC := (V.rp _ _ e1).2
          unfold appendsE at hg ⊢
          rw [if_pos ⟨chk_iff.2 hC, h2⟩] at hg ⊢
          refine ⟨h.put rfl (fun g hi _ => ⟨g, hi, fun _ h => h, hi.appends e1 h2⟩) (new := appends (c.reps.length : Int) r) (fun m hm => List.mem_append.1 hm) ?_ (by simp only [List.length_append]; omega) h.dn h.cs, rfl⟩
          intro m hm
          simp only [appends, List.mem_map, List.mem_filter, List.mem_range, decide_eq_true_eq] at hm
          obtain ⟨j, ⟨hj1, hj2⟩, rfl⟩ := hm
          simp only [mg_frm, mg_to, mg_ents]
          have := hC.ll
          refine ⟨⟨by omega, by omega, by omega, by omega, fun e => hj2 e.symm⟩, by simp only [List.length_drop]; omega⟩
      · cases h0
  · rw [if_neg hr] at h0
    exact absurd h0 hr

theorem cutOut_mem {l : List MT} {k : Nat} {m : MT} (h : m ∈ cutOut l k) : m ∈ l := by
  rcases List.mem_append.1 h with h | h
  · exact List.mem_of_mem_take h
  · exact List.mem_of_mem_drop h

theorem cutOut_len {l : List MT} {k : Nat} (h : k < l.length) : (cutOut l k).length = l.length - 1 := by
  unfold cutOut; simp; omega

theorem cg_drop {c : CT} (h : CG c) {k : Int} (h0 : (dropC c k).1 = 0) : CG (dropC c k).2 ∧ (dropC c k).2.reps = c.reps := by
  unfold dropC at h0 ⊢
  split at h0
  · rename_i hr
    rw [if_pos hr]
    obtain ⟨V, k0, k1⟩ := wire_iff.1 hr
    have := h.wl
    exact ⟨h.same (fun m hm => cutOut_mem hm) (by rw [cutOut_len (by omega)]; omega) h.dn h.cs, rfl⟩
  · rename_i hr; exact absurd h0 hr

theorem cg_double {c : CT} (h : CG c) {k : Int} (h0 : (doubleC c k).1 = 0) : CG (doubleC c k).2 ∧ (doubleC c k).2.reps = c.reps := by
  unfold doubleC at h0 ⊢
  split at h0
  · rename_i hr
    rw [if_pos hr]
    split at h0
    · cases h0
    · rename_i hg
      rw [if_neg hg]
      obtain ⟨V, k0, k1⟩ := wire_iff.1 hr
      obtain ⟨m, e1, e1'⟩ := wire_at k0 k1
      rw [e1']
      refine ⟨h.same (fun x hx => ?_) (by simp; omega) h.dn h.cs, rfl⟩
      rcases List.mem_append.1 hx with hx | hx
      · exact hx
      · simp at hx; subst hx; exact List.mem_of_getElem? e1
  · rename_i hr; exact absurd h0 hr

theorem hearAny_step {n : Nat} {reps : List RT} {g : Gh OpT} (hi : Inv n reps g) {i : Nat} {r : RT} (h : reps[i]? = some r) {m : MT} (hm : MsgOK n g m) :
    Step n g (reps.set i (hearAny (n : Int) r m).1) (if (hearAny (n : Int) r m).2.2 then [(hearAny (n : Int) r m).2.1] else []) := by
  unfold hearAny
  split
  · exact hi.hearS h hm
  split
  · exact hi.votedS h hm
  split
  · exact hi.acceptS h hm
  split
  · exact hi.appendedS h hm
  · exact hi.stay h

theorem hearAny_reply {n : Int} {r : RT} {m : MT} (h : (hearAny n r m).2.2 = true) : (hearAny n r m).2.1.frm = r.id ∧ (hearAny n r m).2.1.to = m.frm ∧ (hearAny n r m).2.1.ents = [] ∧ ((hearAny n r m).2.1.kind = 2 ∨ (hearAny n r m).2.1.kind = 4) ∧ (m.kind = 1 ∨ m.kind = 3) := by
  unfold hearAny at h ⊢
  by_cases h1 : m.kind = 1
  · rw [if_pos h1] at h ⊢
    unfold hear at h ⊢
    split
    · exact ⟨rfl, rfl, rfl, .inl rfl, .inl h1⟩
    · rename_i ho; rw [if_neg ho] at h; cases h
  rw [if_neg h1] at h ⊢
  by_cases h2 : m.kind = 2
  · rw [if_pos h2] at h; cases h
  rw [if_neg h2] at h ⊢
  by_cases h3 : m.kind = 3
  · rw [if_pos h3] at h ⊢
    unfold accept at h ⊢
    split
    · rename_i ha
      rw [if_pos ha] at h
      simp only at h ⊢
      split
      · rename_i hf
        rw [if_pos hf] at h
        split
        · exact ⟨rfl, rfl, rfl, .inr rfl, .inr h3⟩
        · rename_i hj; rw [if_neg hj] at h; cases h
      · exact ⟨rfl, rfl, rfl, .inr rfl, .inr h3⟩
    · rename_i ha; rw [if_neg ha] at h; cases h
  rw [if_neg h3] at h
  by_cases h4 : m.kind = 4
  · rw [if_pos h4] at h; cases h
  · rw [if_neg h4] at h; cases h

def weight (l : List MT) : Nat := (l.map fun m => if m.kind = 1 ∨ m.kind = 3 then 2 else 1).sum

theorem weight_append (a b : List MT) : weight (a ++ b) = weight a + weight b := by unfold weight; rw [List.map_append, List.sum_append]

theorem weight_pos (m : MT) (l : List MT) : weight (m :: l) = (if m.kind = 1 ∨ m.kind = 3 then 2 else 1) + weight l := by unfold weight; rw [List.map_cons, List.sum_cons]

theorem weight_cut {l : List MT} {k : Nat} {m : MT} (h : l[k]? = some m) : weight l = weight (cutOut l k) + (if m.kind = 1 ∨ m.kind = 3 then 2 else 1) := by
  have hk := (List.getElem?_eq_some_iff.1 h).1
  have e : l = l.take k ++ m :: l.drop (k + 1) := by
    conv => lhs; rw [← List.take_append_drop k l]
    rw [List.drop_eq_getElem_cons hk, (List.getElem?_eq_some_iff.1 h).2]
  conv => lhs; rw [e]
  rw [weight_append, weight_pos]
  unfold cutOut
  rw [weight_append]
  omega

theorem cg_deliver {c : CT} (h : CG c) {k : Int} (h0 : (deliverC c k).1 = 0) : CG (deliverC c k).2 ∧ (deliverC c k).2.reps.length = c.reps.length ∧ weight (deliverC c k).2.wire < weight c.wire ∧ (deliverC c k).2.down = c.down ∧ (deliverC c k).2.cut = c.cut := by
  unfold deliverC at h0 ⊢
  split at h0
  · rename_i hr
    rw [if_pos hr]
    obtain ⟨V, k0, k1⟩ := wire_iff.1 hr
    obtain ⟨m, e1, e1'⟩ := wire_at k0 k1
    rw [e1']
    have hmm := List.mem_of_getElem? e1
    obtain ⟨f0, f1, t0, t1, hft⟩ := V.wm m hmm
    have hwl := h.wl
    have hcl := cutOut_len (l := c.wire) (k := k.toNat) (by omega)
    have hwt := weight_cut e1
    simp only
    split
    · refine ⟨h.same (fun m hm => cutOut_mem hm) (by omega) h.dn h.cs, rfl, ?_, rfl, rfl⟩
      show weight (cutOut c.wire k.toNat) < _
      rw [hwt]; split <;> omega
    · obtain ⟨r, e2, e2'⟩ := rep_at t0 t1
      rw [e2']
      have hid := h.id e2 t0
      have hC := (V.rp _ _ e2).2
      have hrep := hearAny_reply (n := (c.reps.length : Int)) (r := r) (m := m)
      refine ⟨h.put (by simp) (fun g hi hm => hearAny_step hi e2 (hm m hmm)) (fun x hx => (List.mem_append.1 hx).imp (fun a => cutOut_mem a) (fun a => a)) ?_ ?_ h.dn h.cs, List.length_set, ?_, rfl, rfl⟩
      · intro x hx
        cases hb : (hearAny (c.reps.length : Int) r m).2.2
        · rw [hb] at hx; simp at hx
        · rw [hb] at hx
          simp at hx
          subst hx
          obtain ⟨a1, a2, a3, _, _⟩ := hrep hb
          rw [a1, a2, a3, hid]
          exact ⟨⟨t0, t1, f0, f1, fun e => hft e.symm⟩, by simp⟩
      · rw [List.length_append, hcl]
        split <;> simp <;> omega
      · show weight (cutOut c.wire k.toNat ++ _) < _
        rw [weight_append, hwt]
        cases hb : (hearAny (c.reps.length : Int) r m).2.2
        · simp only [Bool.false_eq_true, if_false]
          show weight (cutOut c.wire k.toNat) + weight [] < _
          have : weight [] = 0 := rfl
          split <;> omega
        · obtain ⟨_, _, _, a4, a5⟩ := hrep hb
          simp only [if_true]
          rw [if_pos a5, weight_pos, if_neg (by omega)]
          have : weight [] = 0 := rfl
          omega
  · rename_i hr; exact absurd h0 hr

theorem cg_crash {c : CT} (h : CG c) {i : Int} (h0 : (crashC c i).1 = 0) : CG (crashC c i).2 ∧ (crashC c i).2.reps = c.reps := by
  unfold crashC at h0 ⊢
  split at h0
  · rename_i hr
    rw [if_pos hr]
    split at h0
    · cases h0
    · rename_i hd
      rw [if_neg hd]
      exact ⟨h.same (fun m hm => hm) h.wl (by simp [h.dn]) h.cs, rfl⟩
  · rename_i hr; exact absurd h0 hr

theorem cg_restart {c : CT} (h : CG c) {i : Int} (h0 : (restartC c i).1 = 0) : CG (restartC c i).2 ∧ (restartC c i).2.reps.length = c.reps.length := by
  unfold restartC at h0 ⊢
  split at h0
  · rename_i hr
    rw [if_pos hr]
    split at h0
    · rename_i hd
      rw [if_pos hd]
      obtain ⟨V, i0, i1⟩ := ready_iff.1 hr
      obtain ⟨r, e1, e1'⟩ := rep_at i0 i1
      rw [e1']
      unfold restartE
      rw [if_pos (chk_iff.2 (V.rp _ _ e1).2)]
      exact ⟨h.put (by simp) (fun g hi _ => (hi.restart e1).refl) (new := []) (fun m hm => .inl hm) (fun m hm => by cases hm) h.wl (by simp [h.dn]) h.cs, List.length_set⟩
    · cases h0
  · rename_i hr; exact absurd h0 hr

theorem isCut_mm (l : List CutT) (i j : Int) : isCut l (min i j) (max i j) = isCut l i j := by
  unfold isCut
  rw [show min (min i j) (max i j) = min i j by omega, show max (min i j) (max i j) = max i j by omega]

theorem cg_cut {c : CT} (h : CG c) {i j : Int} (h0 : (cutC c i j).1 = 0) : CG (cutC c i j).2 ∧ (cutC c i j).2.reps = c.reps := by
  unfold cutC at h0 ⊢
  split at h0
  · rename_i hr
    rw [if_pos hr]
    obtain ⟨V, i0, i1⟩ := ready_iff.1 hr
    split at h0
    · rename_i hj
      rw [if_pos hj]
      rw [inn_iff] at hj
      split at h0
      · cases h0
      · rename_i hij
        rw [if_neg hij]
        split at h0
        · cases h0
        · rename_i hic
          rw [if_neg hic]
          refine ⟨h.same (fun m hm => hm) h.wl h.dn (cutsOK_snoc h.cs ?_ ?_), rfl⟩
          · simp only [cutOK1, Bool.and_eq_true, decide_eq_true_eq]
            omega
          · rw [List.nil_append, isCut_mm]
            simpa using hic
    · cases h0
  · rename_i hr; exact absurd h0 hr

theorem cg_heal {c : CT} (h : CG c) : CG (healC c) ∧ (healC c).reps = c.reps ∧ (healC c).wire = c.wire ∧ (healC c).down = c.down := by
  unfold healC
  rw [if_pos (chkC_iff.2 h.v)]
  exact ⟨h.same (fun m hm => hm) h.wl h.dn rfl, rfl, rfl, rfl⟩

theorem cg_new {n : Int} (h1 : 1 ≤ n) (h5 : n ≤ 5) : CG (newC n) ∧ (newC n).reps.length = n.toNat := by
  have hl : (newC n).reps.length = n.toNat := by show ((List.range n.toNat).map (rep0 : Nat → RT)).length = n.toNat; simp
  refine ⟨⟨by rw [hl]; omega, by rw [hl]; omega, by rw [hl]; show (List.replicate n.toNat false).length = n.toNat; simp, Nat.zero_le _, fun m hm => (by cases hm), fun m hm => (by cases hm), rfl, ?_⟩, hl⟩
  rw [hl]
  exact ⟨_, inv0 (by omega), fun m hm => (by cases hm)⟩

/-! ### Terms -/
def TB (c : CT) (T : Int) : Prop := (∀ r ∈ c.reps, r.term ≤ T) ∧ ∀ m ∈ c.wire, m.term ≤ T

theorem TB.le {c : CT} {T U : Int} (h : TB c T) (hu : T ≤ U) : TB c U := ⟨fun r hr => by have := h.1 r hr; omega, fun m hm => by have := h.2 m hm; omega⟩

theorem TB.put {c : CT} {T U : Int} (h : TB c T) (hu : T ≤ U) {i : Nat} {r' : RT} (hr : r'.term ≤ U) {w' : List MT} (hw : ∀ m ∈ w', m ∈ c.wire ∨ m.term ≤ U) {d : List Bool} {k : List CutT} : TB (cl (c.reps.set i r') w' d k) U := by
  refine ⟨fun r hr' => ?_, fun m hm => ?_⟩
  · rcases List.mem_or_eq_of_mem_set hr' with hr' | hr'
    · have := h.1 r hr'; omega
    · subst hr'; exact hr
  · rcases hw m hm with hm | hm
    · have := h.2 m hm; omega
    · exact hm

theorem TB.same {c : CT} {T : Int} (h : TB c T) {w' : List MT} (hw : ∀ m ∈ w', m ∈ c.wire ∨ m.term ≤ T) {d : List Bool} {k : List CutT} : TB (cl c.reps w' d k) T := by
  refine ⟨h.1, fun m hm => ?_⟩
  rcases hw m hm with hm | hm
  · exact h.2 m hm
  · exact hm

theorem fol_term (r : RT) (t : Int) : (fol r t).term ≤ max r.term t := by
  unfold fol; split
  · show t ≤ _; omega
  · omega

theorem back_term' (r : RT) (t : Int) : (back r t).term ≤ max r.term t := by
  have := fol_term r t
  unfold back; simp only; split
  · exact this
  · exact this

theorem hearAny_term (n : Int) (r : RT) (m : MT) : (hearAny n r m).1.term ≤ max r.term m.term ∧ ((hearAny n r m).2.2 = true → (hearAny n r m).2.1.term ≤ max r.term m.term) := by
  have hf := fol_term r m.term
  have hb := back_term' r m.term
  have hs : r.term ≤ max r.term m.term := by omega
  unfold hearAny
  split
  · unfold hear
    split
    · refine ⟨?_, fun _ => hf⟩
      unfold hearR; simp only; split
      · exact hf
      · exact hf
    · exact ⟨hs, fun h => by cases h⟩
  split
  · refine ⟨?_, fun h => by cases h⟩
    show (voted n r m).term ≤ _
    unfold voted; split
    · split
      · exact hf
      · split
        · unfold votedR; simp only; split <;> exact hs
        · exact hs
    · exact hs
  split
  · unfold accept
    split
    · simp only
      split
      · split
        · exact ⟨hb, fun _ => hb⟩
        · exact ⟨hs, fun h => by cases h⟩
      · exact ⟨hb, fun _ => hb⟩
    · exact ⟨hs, fun h => by cases h⟩
  split
  · refine ⟨?_, fun h => by cases h⟩
    show (appended n r m).term ≤ _
    unfold appended; split
    · split
      · exact hf
      · split
        · exact hs
        · exact hs
    · exact hs
  · exact ⟨hs, fun h => by cases h⟩

theorem tb_stand {c : CT} {T : Int} (h : CG c) (ht : TB c T) {i : Int} (h0 : (standC c i).1 = 0) : TB (standC c i).2 (T + 1) := by
  unfold standC at h0 ⊢
  by_cases hr : readyE c i = 0
  · obtain ⟨V, i0, i1⟩ := ready_iff.1 hr
    obtain ⟨r, e1, e1'⟩ := rep_at i0 i1
    have htr := ht.1 r (List.mem_of_getElem? e1)
    rw [if_pos hr] at h0 ⊢
    rw [e1'] at h0 ⊢
    split at h0
    · cases h0
    · rename_i hd
      rw [if_neg hd]
      simp only at h0 ⊢
      split at h0
      · rename_i hs
        rw [if_pos hs]
        split at h0
        · cases h0
        · rename_i hg
          rw [if_neg hg]
          have hC := (V.rp _ _ e1).2
          unfold stand at hs ⊢
          rw [if_pos (chk_iff.2 hC)] at hs ⊢
          split at hs
          · cases hs
          · rename_i htm
            rw [if_neg htm]
            refine ht.put (by omega) ?_ (fun m hm => (List.mem_append.1 hm).imp id fun hm => ?_)
            · show (standR _ r).term ≤ _
              unfold standR; simp only; split <;> (show r.term + 1 ≤ T + 1; omega)
            · simp only [asks, List.mem_map] at hm
              obtain ⟨j, _, rfl⟩ := hm
              show r.term + 1 ≤ T + 1; omega
      · rename_i hs
        exact absurd h0 hs
  · rw [if_neg hr] at h0
    exact absurd h0 hr

theorem tb_propose {c : CT} {T : Int} (h : CG c) (ht : TB c T) {i : Int} {o : OpT} (h0 : (proposeC c i o).1 = 0) : TB (proposeC c i o).2 T := by
  unfold proposeC at h0 ⊢
  by_cases hr : readyE c i = 0
  · obtain ⟨V, i0, i1⟩ := ready_iff.1 hr
    obtain ⟨r, e1, e1'⟩ := rep_at i0 i1
    have htr := ht.1 r (List.mem_of_getElem? e1)
    rw [if_pos hr] at h0 ⊢
    rw [e1'] at h0 ⊢
    split at h0
    · cases h0
    · rename_i hd
      rw [if_neg hd]
      simp only at h0 ⊢
      split at h0
      · rename_i hs
        rw [if_pos hs]
        refine ht.put (Int.le_refl _) ?_ (fun m hm => .inl hm)
        unfold proposeE at hs ⊢
        rw [if_pos (chk_iff.2 (V.rp _ _ e1).2)] at hs ⊢
        split at hs
        · rename_i h2
          rw [if_pos h2]
          split at hs
          · cases hs
          · rename_i hh
            rw [if_neg hh]
            split at hs
            · rename_i hl
              rw [if_pos hl]
              exact htr
            · cases hs
        · cases hs
      · rename_i hs
        exact absurd h0 hs
  · rw [if_neg hr] at h0
    exact absurd h0 hr

theorem tb_beat {c : CT} {T : Int} (ht : TB c T) {i : Int} (h0 : (beatC c i).1 = 0) : TB (beatC c i).2 T := by
  unfold beatC at h0 ⊢
  by_cases hr : readyE c i = 0
  · obtain ⟨V, i0, i1⟩ := ready_iff.1 hr
    obtain ⟨r, e1, e1'⟩ := rep_at i0 i1
    have htr := ht.1 r (List.mem_of_getElem? e1)
    rw [if_pos hr] at h0 ⊢
    rw [e1'] at h0 ⊢
    split at h0
    · cases h0
    · rename_i hd
      rw [if_neg hd]
      split at h0
      · rename_i h2
        rw [if_pos h2]
        simp only at h0 ⊢
        split at h0
        · cases h0
        · rename_i hg
          rw [if_neg hg]
          refine ht.same fun m hm => (List.mem_append.1 hm).imp id fun hm => ?_
          unfold appendsE at hm
          split at hm
          · simp only [appends, List.mem_map] at hm
            obtain ⟨j, _, rfl⟩ := hm
            exact htr
          · cases hm
      · cases h0
  · rw [if_neg hr] at h0
    exact absurd h0 hr

theorem tb_drop {c : CT} {T : Int} (ht : TB c T) {k : Int} (h0 : (dropC c k).1 = 0) : TB (dropC c k).2 T := by
  unfold dropC at h0 ⊢
  split at h0
  · rename_i hr
    rw [if_pos hr]
    exact ht.same fun m hm => .inl (cutOut_mem hm)
  · rename_i hr; exact absurd h0 hr

theorem tb_double {c : CT} {T : Int} (ht : TB c T) {k : Int} (h0 : (doubleC c k).1 = 0) : TB (doubleC c k).2 T := by
  unfold doubleC at h0 ⊢
  split at h0
  · rename_i hr
    rw [if_pos hr]
    split at h0
    · cases h0
    · rename_i hg
      rw [if_neg hg]
      obtain ⟨V, k0, k1⟩ := wire_iff.1 hr
      obtain ⟨m, e1, e1'⟩ := wire_at k0 k1
      rw [e1']
      refine ht.same fun x hx => (List.mem_append.1 hx).imp id fun hx => ?_
      simp at hx; subst hx
      exact ht.2 _ (List.mem_of_getElem? e1)
  · rename_i hr; exact absurd h0 hr

theorem tb_deliver {c : CT} {T : Int} (ht : TB c T) {k : Int} (h0 : (deliverC c k).1 = 0) : TB (deliverC c k).2 T := by
  unfold deliverC at h0 ⊢
  split at h0
  · rename_i hr
    rw [if_pos hr]
    obtain ⟨V, k0, k1⟩ := wire_iff.1 hr
    obtain ⟨m, e1, e1'⟩ := wire_at k0 k1
    rw [e1']
    have hmm := List.mem_of_getElem? e1
    obtain ⟨_, _, t0, t1, _⟩ := V.wm m hmm
    simp only
    split
    · exact ht.same fun m hm => .inl (cutOut_mem hm)
    · obtain ⟨r, e2, e2'⟩ := rep_at t0 t1
      rw [e2']
      have h1 := ht.1 r (List.mem_of_getElem? e2)
      have h2 := ht.2 m hmm
      obtain ⟨a1, a2⟩ := hearAny_term (c.reps.length : Int) r m
      refine ht.put (Int.le_refl _) (by omega) fun x hx => (List.mem_append.1 hx).imp (fun a => cutOut_mem a) fun hx => ?_
      cases hb : (hearAny (c.reps.length : Int) r m).2.2
      · rw [hb] at hx; simp at hx
      · rw [hb] at hx
        simp at hx
        subst hx
        have := a2 hb
        omega
  · rename_i hr; exact absurd h0 hr

theorem tb_crash {c : CT} {T : Int} (ht : TB c T) {i : Int} (h0 : (crashC c i).1 = 0) : TB (crashC c i).2 T := by
  unfold crashC at h0 ⊢
  split at h0
  · rename_i hr
    rw [if_pos hr]
    split at h0
    · cases h0
    · rename_i hd
      rw [if_neg hd]
      exact ht.same fun m hm => .inl hm
  · rename_i hr; exact absurd h0 hr

theorem tb_restart {c : CT} {T : Int} (ht : TB c T) {i : Int} (h0 : (restartC c i).1 = 0) : TB (restartC c i).2 T := by
  unfold restartC at h0 ⊢
  split at h0
  · rename_i hr
    rw [if_pos hr]
    split at h0
    · rename_i hd
      rw [if_pos hd]
      obtain ⟨V, i0, i1⟩ := ready_iff.1 hr
      obtain ⟨r, e1, e1'⟩ := rep_at i0 i1
      rw [e1']
      unfold restartE
      rw [if_pos (chk_iff.2 (V.rp _ _ e1).2)]
      exact ht.put (r' := restartR r) (Int.le_refl _) (ht.1 r (List.mem_of_getElem? e1)) fun m hm => .inl hm
    · cases h0
  · rename_i hr; exact absurd h0 hr

theorem tb_cut {c : CT} {T : Int} (ht : TB c T) {i j : Int} (h0 : (cutC c i j).1 = 0) : TB (cutC c i j).2 T := by
  unfold cutC at h0 ⊢
  split at h0
  · rename_i hr
    rw [if_pos hr]
    split at h0
    · rename_i hj
      rw [if_pos hj]
      split at h0
      · cases h0
      · rename_i hij
        rw [if_neg hij]
        split at h0
        · cases h0
        · rename_i hic
          rw [if_neg hic]
          exact ht.same fun m hm => .inl hm
    · cases h0
  · rename_i hr; exact absurd h0 hr

theorem tb_heal {c : CT} {T : Int} (h : CG c) (ht : TB c T) : TB (healC c) T := by
  unfold healC
  rw [if_pos (chkC_iff.2 h.v)]
  exact ht.same fun m hm => .inl hm

theorem tb_new (n : Int) : TB (newC n) 0 := by
  refine ⟨fun r hr => ?_, fun m hm => by cases hm⟩
  have hr : r ∈ (List.range n.toNat).map (rep0 : Nat → RT) := hr
  obtain ⟨j, _, rfl⟩ := List.mem_map.1 hr
  exact Int.le_refl _

end Go.Proofs.YtfbikpbejkgegaaGreat

namespace Go.Proofs.YtfbikpbejkgegaaGreat
open Go Go.Abs Go.Raft
theorem deliver_zero {c : CT} (V : VC c) (h : c.wire ≠ []) : (deliverC c 0).1 = 0 := by
  have hl := List.length_pos_iff.2 h
  have hw : wireE c 0 = 0 := wire_iff.2 ⟨V, Int.le_refl _, by omega⟩
  unfold deliverC
  rw [if_pos hw]
  simp only
  split <;> rfl

/-- Delivering all messages. -/
theorem flush_ok : ∀ (w : Nat) (c : CT), weight c.wire ≤ w → CG c → ∃ c' : CT, loopT l82_0_1 ((), (u2, ((c, ()), ()))) = some ((), (u2, ((c', ()), ()))) ∧ CG c' ∧ c'.wire = [] ∧ c'.reps.length = c.reps.length ∧ c'.down = c.down ∧ c'.cut = c.cut ∧ ∀ T, TB c T → TB c' T := by
  have base : ∀ c : CT, c.wire = [] → loopT l82_0_1 ((), (u2, ((c, ()), ()))) = some ((), (u2, ((c, ()), ()))) := by
    intro c h
    refine loopT_inr ?_
    have : ¬ (c.2.1.length : Int) > 0 := by show ¬ (c.wire.length : Int) > 0; rw [h]; simp
    simp only [l82_0_1, decide_eq_false this, sumE, sS]
  intro w
  induction w with
  | zero =>
    intro c hw h
    have : c.wire = [] := by
      cases hc : c.wire with
      | nil => rfl
      | cons m l => rw [hc, weight_pos] at hw; split at hw <;> omega
    exact ⟨c, base c this, h, this, rfl, rfl, rfl, fun _ h => h⟩
  | succ w ih =>
    intro c hw h
    by_cases hc : c.wire = []
    · exact ⟨c, base c hc, h, hc, rfl, rfl, rfl, fun _ h => h⟩
    · have h0 := deliver_zero h.v hc
      obtain ⟨g1, g2, g3, g4, g5⟩ := cg_deliver h h0
      obtain ⟨c', a1, a2, a3, a4, a5, a6, a7⟩ := ih (deliverC c 0).2 (by omega) g1
      refine ⟨c', ?_, a2, a3, by rw [a4, g2], by rw [a5, g4], by rw [a6, g5], fun T hT => a7 T (tb_deliver hT h0)⟩
      rw [← a1]
      refine loopT_inl ?_
      have hp : (c.2.1.length : Int) > 0 := by have := List.length_pos_iff.2 hc; show (c.wire.length : Int) > 0; omega
      simp only [l82_0_1, decide_eq_true hp, sumE, sS, m34_eq c 0 h.sh, h0]

theorem m82_ok {c : CT} (h : CG c) : ∃ c' : CT, m82 ((c, ()), ()) = some ((), ((c', ()), ())) ∧ CG c' ∧ c'.wire = [] ∧ c'.reps.length = c.reps.length ∧ c'.down = c.down ∧ c'.cut = c.cut ∧ ∀ T, TB c T → TB c' T := by
  obtain ⟨c', a1, a2⟩ := flush_ok _ c (Nat.le_refl _) h
  refine ⟨c', ?_, a2⟩
  unfold m82
  simp only []
  rw [show loopT l82_0_1 ((), (((), ()), ((c, ()), ()))) = _ from a1]
  rfl

theorem beat_zero {c : CT} (h : CG c) {i : Int} (i0 : 0 ≤ i) (i1 : i < (c.reps.length : Int)) (hd : downAt c i = false) (hr : (repAt c i).role = 2) (hw : c.wire = []) : (beatC c i).1 = 0 := by
  unfold beatC
  rw [if_pos (ready_iff.2 ⟨h.v, i0, i1⟩), if_neg (by rw [hd]; simp), if_pos hr]
  simp only
  have := appends_len (c.reps.length : Int) (repAt c i)
  rw [if_neg (by rw [hw]; simp; omega)]

theorem settle_loop {i : Int} (i0 : 0 ≤ i) : ∀ (k j : Nat) (c : CT), j + k = 2 → CG c → i < (c.reps.length : Int) → downAt c i = false → c.wire = [] → ∃ c' : CT, loopT l41_0_11 (((j : Int), i, ()), ((c, ()), (u2, ()))) = some ((), (u2, ((c', ()), ()))) ∧ CG c' ∧ c'.reps.length = c.reps.length ∧ (∀ T, TB c T → TB c' T) ∧ c'.wire = [] := by
  intro k
  induction k with
  | zero =>
    intro j c hj h _ _ hw
    refine ⟨c, loopT_inr ?_, h, rfl, fun _ h => h, hw⟩
    have : ¬ (j : Int) < 2 := by omega
    simp only [l41_0_11, decide_eq_false this, sumE, sS]
  | succ k ih =>
    intro j c hj h i1 hd hw
    have hlt : (j : Int) < 2 := by omega
    obtain ⟨r, e1, e1'⟩ := rep_at (c := c) i0 i1
    by_cases hr : r.role = 2
    · have h0 := beat_zero h i0 i1 hd (by rw [e1']; exact hr) hw
      obtain ⟨g1, g2⟩ := cg_beat h h0
      obtain ⟨c1, a1, a2, a3, a4, a5, a6, a7⟩ := m82_ok g1
      have hlen : c1.reps.length = c.reps.length := by rw [a4, g2]
      have hdown : (beatC c i).2.down = c.down := by
        unfold beatC
        rw [if_pos (ready_iff.2 ⟨h.v, i0, i1⟩), if_neg (by rw [hd]; simp), if_pos (by rw [e1']; exact hr)]
        simp only
        split
        · rename_i hg; exfalso
          have := appends_len (c.reps.length : Int) (repAt c i)
          rw [hw] at hg; simp at hg; omega
        · rfl
      obtain ⟨c', b1, b2, b3, b4, b5⟩ := ih (j + 1) c1 (by omega) a2 (by omega) (by show (c1.down[i.toNat]?.getD false) = false; rw [a5, hdown]; exact hd) a3
      refine ⟨c', ?_, b2, by rw [b3, hlen], fun T hT => b4 T (a7 T (tb_beat hT h0)), b5⟩
      rw [← b1]
      refine loopT_inl ?_
      have hr' : (r.2.2.2.1 : Int) = 2 := hr
      simp only [l41_0_11, decide_eq_true hlt, sumE, sS, rowAt_G, rowG_int i0 e1, beq_decide, decide_eq_true hr', m33_eq c i h.sh]
      rw [show m82 (((((beatC c i).2.1, ((beatC c i).2.2.1, ((beatC c i).2.2.2.1, ((beatC c i).2.2.2.2.1, ())))) : CT), ()), ()) = some ((), ((c1, ()), ())) from a1]
      simp only [Option.bind_some, w64_nat (show j ≤ 4294967296 by omega)]
    · refine ⟨c, loopT_inr ?_, h, rfl, fun _ h => h, hw⟩
      have hr' : ¬ (r.2.2.2.1 : Int) = 2 := hr
      simp only [l41_0_11, decide_eq_true hlt, sumE, sS, rowAt_G, rowG_int i0 e1, beq_decide, decide_eq_false hr']

/-- Settle gives an error or a good cluster of the same size. -/
theorem m41_okw {c : CT} (h : CG c) (i : Int) : ∃ (e : Int) (c' : CT), m41 ((c, i, ()), ()) = some ((e, ()), ((c', ()), ())) ∧ (e = 0 → CG c' ∧ c'.reps.length = c.reps.length ∧ (∀ T, TB c T → TB c' (T + 1)) ∧ c'.wire = []) ∧ (e ≠ 0 → c' = zeroC) ∧ (readyE c i = 0 → (standC (cl c.reps [] c.down c.cut) i).1 = 0 → e = 0) := by
  unfold m41
  simp only [m61_eq c i h.sh, Option.bind_some, bne_decide, decide_not]
  by_cases hr : readyE c i = 0
  · obtain ⟨V, i0, i1⟩ := ready_iff.1 hr
    simp only [hr, decide_true, sumE, sS, m51_eq c h.sh]
    have h1 : CG (cl c.reps [] c.down c.cut) := h.same (fun m hm => (by cases hm)) (Nat.zero_le _) h.dn h.cs
    rw [show m29 (((c.reps, ([], (c.down, (c.cut, ())))), (i, ())), ()) = _ from m29_eq (cl c.reps [] c.down c.cut) i h1.sh]
    simp only [Option.bind_some]
    by_cases h0 : (standC (cl c.reps [] c.down c.cut) i).1 = 0
    · obtain ⟨g1, g2⟩ := cg_stand h1 h0
      obtain ⟨c1, a1, a2, a3, a4, a5, a6, a7⟩ := m82_ok g1
      simp only [h0, decide_true, sumE, sS]
      rw [show m82 (((((standC (cl c.reps [] c.down c.cut) i).2.1, ((standC (cl c.reps [] c.down c.cut) i).2.2.1, ((standC (cl c.reps [] c.down c.cut) i).2.2.2.1, ((standC (cl c.reps [] c.down c.cut) i).2.2.2.2.1, ())))) : CT), ()), ()) = some ((), ((c1, ()), ())) from a1]
      have hd : downAt c i = false ∧ (standC (cl c.reps [] c.down c.cut) i).2.down = c.down := by
        unfold standC at h0 ⊢
        rw [if_pos (ready_iff.2 ⟨h1.v, i0, i1⟩)] at h0 ⊢
        split at h0
        · cases h0
        · rename_i hd
          refine ⟨by simpa using hd, ?_⟩
          rw [if_neg hd]
          simp only at h0 ⊢
          split at h0
          · rename_i hs
            rw [if_pos hs]
            split at h0
            · cases h0
            · rename_i hg; rw [if_neg hg]
          · rename_i hs; exact absurd h0 hs
      have hlen : c1.reps.length = c.reps.length := by rw [a4, g2]
      obtain ⟨c', b1, b2, b3, b4, b5⟩ := settle_loop i0 2 0 c1 rfl a2 (by omega) (by show (c1.down[i.toNat]?.getD false) = false; rw [a5, hd.2]; exact hd.1) a3
      refine ⟨0, c', ?_, fun _ => ⟨b2, by rw [b3, hlen], fun T hT => b4 _ (a7 _ (tb_stand h1 (hT.same (fun m hm => (by cases hm))) h0)), b5⟩, fun hn => absurd rfl hn, fun _ _ => rfl⟩
      simp only [Option.bind_some]
      rw [show loopT l41_0_11 ((0, (i, ())), ((c1, ()), (((), ()), ()))) = _ from b1]
      rfl
    · simp only [h0, decide_false, sumE, sS]
      exact ⟨(standC (cl c.reps [] c.down c.cut) i).1, zeroC, rfl, fun e => absurd e h0, fun _ => rfl, fun _ e => False.elim e⟩
  · simp only [hr, decide_false, sumE, sS]
    exact ⟨readyE c i, zeroC, rfl, fun e => absurd e hr, fun _ => rfl, fun e => False.elim e⟩

/-! ### Leader -/
def leadL (reps : List RT) (down : List Bool) : Nat → List RT → Int → Bool → Int × Bool
  | _, [], b, f => (b, f)
  | i, r :: l, b, f =>
    if decide (r.role = 2) && !(down[i]?.getD false) && (!f || decide (r.term > (reps[b.toNat]?.getD zeroR).term)) then leadL reps down (i + 1) l (i : Int) true else leadL reps down (i + 1) l b f

def leaderC (c : CT) : Int × Bool := if chkC c = true then leadL c.reps c.down 0 c.reps 0 false else (0, false)

theorem leadL_spec (reps : List RT) (down : List Bool) : ∀ (l : List RT) (i : Nat) (b : Int) (f : Bool), reps.drop i = l → (f = true → 0 ≤ b ∧ b < (reps.length : Int) ∧ (reps[b.toNat]?.getD zeroR).role = 2 ∧ (down[b.toNat]?.getD false) = false) →
    (leadL reps down i l b f).2 = true → 0 ≤ (leadL reps down i l b f).1 ∧ (leadL reps down i l b f).1 < (reps.length : Int) ∧ (reps[(leadL reps down i l b f).1.toNat]?.getD zeroR).role = 2 ∧ (down[(leadL reps down i l b f).1.toNat]?.getD false) = false := by
  intro l
  induction l with
  | nil => intro i b f _ hf h; exact hf h
  | cons r l ih =>
    intro i b f hd hf h
    have hi : reps[i]? = some r := by
      have := congrArg (fun l => l[0]?) hd
      simpa using this
    have hd' : reps.drop (i + 1) = l := by
      rw [← List.drop_drop, hd]; rfl
    unfold leadL at h ⊢
    split at h
    · rename_i hc
      rw [if_pos hc]
      refine ih (i + 1) (i : Int) true hd' (fun _ => ?_) h
      simp only [Bool.and_eq_true, Bool.not_eq_true', decide_eq_true_eq] at hc
      have := (List.getElem?_eq_some_iff.1 hi).1
      refine ⟨by omega, by omega, ?_, ?_⟩
      · rw [Int.toNat_natCast, hi]; exact hc.1.1
      · rw [Int.toNat_natCast]; exact hc.1.2
    · rename_i hc
      rw [if_neg hc]
      exact ih (i + 1) b f hd' hf h

theorem leader_spec {c : CT} (h : (leaderC c).2 = true) : VC c ∧ 0 ≤ (leaderC c).1 ∧ (leaderC c).1 < (c.reps.length : Int) ∧ (repAt c (leaderC c).1).role = 2 ∧ downAt c (leaderC c).1 = false := by
  unfold leaderC at h ⊢
  split at h
  · rename_i hc
    rw [if_pos hc]
    exact ⟨chkC_iff.1 hc, leadL_spec c.reps c.down c.reps 0 0 false rfl (fun h => by cases h) h⟩
  · cases h

theorem loop43 (reps : List RT) (wire : List MT) (down : List Bool) (cut : List CutT) (hs : ShC (cl reps wire down cut)) (V : VC (cl reps wire down cut)) : ∀ (k i : Nat) (b : Int) (f : Bool), i + k = reps.length → 0 ≤ b → b < (reps.length : Int) →
    loopT l43_0_3 (((i : Int), b, f, ()), ((cl reps wire down cut, ()), ())) = some (((leadL reps down i (reps.drop i) b f).2, (leadL reps down i (reps.drop i) b f).1, ()), ()) := by
  have hck := chkC_iff.2 V
  have hdn : down.length = reps.length := V.dn
  have hrl : reps.length ≤ 5 := V.n5
  intro k
  induction k with
  | zero =>
    intro i b f h _ _
    rw [List.drop_eq_nil_of_le (by omega)]
    refine loopT_inr ?_
    have : ¬ (i : Int) < (reps.length : Int) := by omega
    simp only [l43_0_3, decide_eq_false this, sumE, sS, leadL]
  | succ k ih =>
    intro i b f h b0 b1
    obtain ⟨e, he, hd⟩ := drop_at (l := reps) (i := i) (by omega)
    obtain ⟨d, hde⟩ := getD_some (l := down) (i := i) (by omega)
    obtain ⟨x, hx⟩ := getD_some (l := reps) (i := b.toNat) (by omega)
    have hlt : (i : Int) < (reps.length : Int) := by omega
    rw [hd]
    unfold leadL
    rw [hde, hx]
    simp only [Option.getD_some]
    have e71 := m15_eq (cl reps wire down cut) hs
    rw [hck] at e71
    have yes_ : loopT l43_0_3 (((i : Int), b, f, ()), ((cl reps wire down cut, ()), ())) = loopT l43_0_3 ((((i + 1 : Nat) : Int), (if decide (e.role = 2) && !d && (!f || decide (e.term > x.term)) then (i : Int) else b), (if decide (e.role = 2) && !d && (!f || decide (e.term > x.term)) then true else f), ()), ((cl reps wire down cut, ()), ())) := by
      refine loopT_inl ?_
      rcases Bool.eq_false_or_eq_true (decide (e.role = 2)) with h1 | h1
      · cases d
        · cases f
          · simp only [l43_0_3, decide_eq_true hlt, sumE, sS, e71, rowAt_G, rowG_nat he, rowG_nat hde, rowG_int b0 hx, beq_decide, h1, w64_nat (show i ≤ 4294967296 by omega), Bool.true_or, if_true]
          · rcases Bool.eq_false_or_eq_true (decide (e.term > x.term)) with h2 | h2
            · simp only [l43_0_3, decide_eq_true hlt, sumE, sS, e71, rowAt_G, rowG_nat he, rowG_nat hde, rowG_int b0 hx, beq_decide, h1, h2, w64_nat (show i ≤ 4294967296 by omega), Bool.false_or, if_true]
            · simp only [l43_0_3, decide_eq_true hlt, sumE, sS, e71, rowAt_G, rowG_nat he, rowG_nat hde, rowG_int b0 hx, beq_decide, h1, h2, w64_nat (show i ≤ 4294967296 by omega), Bool.false_or, Bool.false_eq_true, if_false]
        · simp only [l43_0_3, decide_eq_true hlt, sumE, sS, e71, rowAt_G, rowG_nat he, rowG_nat hde, rowG_int b0 hx, beq_decide, h1, w64_nat (show i ≤ 4294967296 by omega), Bool.false_eq_true, if_false]
      · simp only [l43_0_3, decide_eq_true hlt, sumE, sS, e71, rowAt_G, rowG_nat he, rowG_nat hde, rowG_int b0 hx, beq_decide, h1, w64_nat (show i ≤ 4294967296 by omega), Bool.false_eq_true, if_false]
    rw [yes_]
    split
    · exact ih (i + 1) (i : Int) true (by omega) (by omega) (by omega)
    · exact ih (i + 1) b f (by omega) b0 b1

theorem m43_eq (c : CT) (hs : ShC c) : m43 ((c, ()), ()) = some (((leaderC c).1, (leaderC c).2, ()), ()) := by
  obtain ⟨reps, wire, down, cut, ⟨⟩⟩ := c
  unfold m43 leaderC
  simp only []
  cases hc : chkC (reps, wire, down, cut, PUnit.unit)
  · rw [show loopT l43_0_3 ((0, (0, (false, ()))), (((reps, wire, down, cut, PUnit.unit), ()), ())) = some ((false, 0, ()), ()) from ?_]
    · rfl
    · have e71 := m15_eq (cl reps wire down cut) hs
      rw [show chkC (cl reps wire down cut) = false from hc] at e71
      refine loopT_inr ?_
      by_cases h : (0 : Int) < (reps.length : Int)
      · simp only [l43_0_3, decide_eq_true h, sumE, sS, e71]
      · simp only [l43_0_3, decide_eq_false h, sumE, sS]
  · have V := chkC_iff.1 hc
    have h1 : 1 ≤ reps.length := V.n1
    have := loop43 reps wire down cut hs V reps.length 0 0 false (by omega) (Int.le_refl _) (by omega)
    rw [List.drop_zero] at this
    rw [show loopT l43_0_3 ((0, (0, (false, ()))), (((reps, wire, down, cut, PUnit.unit), ()), ())) = _ from this]
    rfl

end Go.Proofs.YtfbikpbejkgegaaGreat

namespace Go.Proofs.YtfbikpbejkgegaaGreat
open Go Go.Abs Go.Raft
abbrev Dice := List Int × Int × Unit

def DOK (d : Dice) : Prop := 0 ≤ d.2.1 ∧ d.2.1 ≤ d.1.length ∧ d.1.length ≤ 500

theorem next_spec (n : Int) (d : Dice) (hd : DOK d) (hn : n ≤ 9223372036854775807) :
    ∃ (r : Int) (d' : Dice), m17 ((n, ()), ((d, ()), ())) = some ((r, ()), ((d', ()), ())) ∧ DOK d' ∧ (1 ≤ n → 0 ≤ r ∧ r < n) ∧ (n < 1 → r = 0) := by
  obtain ⟨l, at_, u⟩ := d
  obtain ⟨h1, h2, h3⟩ := hd
  simp only at h1 h2 h3
  unfold m17
  simp only [rowAt_G]
  by_cases c1 : at_ ≥ (l.length : Int)
  · refine ⟨0, (l, at_, ()), ?_, ⟨h1, h2, h3⟩, fun h => ⟨by omega, by omega⟩, fun _ => rfl⟩
    simp only [decide_eq_true c1, sumE, sS]
  · by_cases c2 : n < 1
    · refine ⟨0, (l, at_, ()), ?_, ⟨h1, h2, h3⟩, fun h => ⟨by omega, by omega⟩, fun _ => rfl⟩
      simp only [decide_eq_false c1, decide_eq_true c2, sumE, sS]
    · have hat : w64 (at_ + 1) = at_ + 1 := w64_id (by omega) (by omega)
      have hne : n ≠ 0 := by omega
      obtain ⟨e, he⟩ := getD_some (l := l) (i := at_.toNat) (by omega)
      have hb := Int.tmod_lt_of_pos e (show (0 : Int) < n by omega)
      have hb2 : -n < e.tmod n := by
        have := Int.lt_tmod_of_pos e (show (0 : Int) < n by omega)
        omega
      by_cases c3 : e.tmod n < 0
      · refine ⟨e.tmod n + n, (l, at_ + 1, ()), ?_, ⟨by simp only; omega, by simp only; omega, h3⟩, fun h => ⟨by omega, by omega⟩, fun h => by omega⟩
        simp only [decide_eq_false c1, decide_eq_false c2, sumE, sS, rowG_int h1 he, decide_eq_true hne, decide_eq_true c3, hat, w64_id (x := e.tmod n + n) (by omega) (by omega)]
      · refine ⟨e.tmod n, (l, at_ + 1, ()), ?_, ⟨by simp only; omega, by simp only; omega, h3⟩, fun h => ⟨by omega, by omega⟩, fun h => by omega⟩
        simp only [decide_eq_false c1, decide_eq_false c2, sumE, sS, rowG_int h1 he, decide_eq_true hne, decide_eq_false c3, hat]

theorem one_spec (l : List Int) (d : Dice) (hd : DOK d) (h0 : 0 < l.length) (h1 : l.length ≤ 4294967296) :
    ∃ (r : Int) (d' : Dice), m52 ((l, ()), ((d, ()), ())) = some ((r, ()), ((d', ()), ())) ∧ DOK d' ∧ r ∈ l := by
  obtain ⟨n, d', e1, e2, e3, _⟩ := next_spec l.length d hd (by omega)
  obtain ⟨hn0, hn1⟩ := e3 (by omega)
  obtain ⟨r, hr⟩ := getD_some (l := l) (i := n.toNat) (by omega)
  refine ⟨r, d', ?_, e2, List.mem_of_getElem? hr⟩
  unfold m52
  simp only [e1, Option.bind_some, rowAt_G, rowG_int hn0 hr]

theorem bind_ex {A B : Type} {o : Option A} {f : A → Option B} {P : A → Prop} {Q : B → Prop} (h : ∃ a, o = some a ∧ P a) (h2 : ∀ a, P a → ∃ b, f a = some b ∧ Q b) : ∃ b, o.bind f = some b ∧ Q b := by
  obtain ⟨a, rfl, ha⟩ := h
  exact h2 a ha

/-! ### The wire grows by few messages -/
theorem wb_stand {c : CT} {i : Int} : (standC c i).2.wire.length ≤ c.wire.length + 5 := by
  unfold standC
  have := stand_len (c.reps.length : Int) (repAt c i)
  dsimp only
  repeat' split
  all_goals first | exact Nat.zero_le _ | (show (c.wire ++ (stand (c.reps.length : Int) (repAt c i)).2.2).length ≤ _; rw [List.length_append]; omega)

theorem wb_beat {c : CT} {i : Int} : (beatC c i).2.wire.length ≤ c.wire.length + 5 := by
  unfold beatC
  have := appends_len (c.reps.length : Int) (repAt c i)
  dsimp only
  repeat' split
  all_goals first | exact Nat.zero_le _ | (show (c.wire ++ appendsE (c.reps.length : Int) (repAt c i)).length ≤ _; rw [List.length_append]; omega)

theorem wb_propose {c : CT} {i : Int} {o : OpT} : (proposeC c i o).2.wire.length ≤ c.wire.length + 5 := by
  unfold proposeC
  dsimp only
  repeat' split
  all_goals first | exact Nat.zero_le _ | exact Nat.le_add_right _ _

theorem cutOut_le (l : List MT) (k : Nat) : (cutOut l k).length ≤ l.length := by
  unfold cutOut
  rw [List.length_append, List.length_take, List.length_drop]; omega

theorem wb_deliver {c : CT} {k : Int} : (deliverC c k).2.wire.length ≤ c.wire.length + 5 := by
  unfold deliverC
  have := cutOut_le c.wire k.toNat
  split
  · simp only
    split
    · exact Nat.le_trans this (Nat.le_add_right _ _)
    · show (cutOut c.wire k.toNat ++ _).length ≤ _
      rw [List.length_append]
      split
      · simp only [List.length_singleton]; omega
      · simp only [List.length_nil]; omega
  · exact Nat.zero_le _

theorem wb_drop {c : CT} {k : Int} : (dropC c k).2.wire.length ≤ c.wire.length + 5 := by
  unfold dropC
  have := cutOut_le c.wire k.toNat
  split
  · exact Nat.le_trans this (Nat.le_add_right _ _)
  · exact Nat.zero_le _

theorem wb_double {c : CT} {k : Int} : (doubleC c k).2.wire.length ≤ c.wire.length + 5 := by
  unfold doubleC
  repeat' split
  all_goals first | exact Nat.zero_le _ | (show (c.wire ++ _).length ≤ _; rw [List.length_append, List.length_singleton]; omega)

theorem wb_crash {c : CT} {i : Int} : (crashC c i).2.wire.length ≤ c.wire.length + 5 := by
  unfold crashC
  repeat' split
  all_goals first | exact Nat.zero_le _ | exact Nat.le_add_right _ _

theorem wb_restart {c : CT} {i : Int} : (restartC c i).2.wire.length ≤ c.wire.length + 5 := by
  unfold restartC
  repeat' split
  all_goals first | exact Nat.zero_le _ | exact Nat.le_add_right _ _

theorem wb_cut {c : CT} {i j : Int} : (cutC c i j).2.wire.length ≤ c.wire.length + 5 := by
  unfold cutC
  repeat' split
  all_goals first | exact Nat.zero_le _ | exact Nat.le_add_right _ _

theorem wb_heal {c : CT} : (healC c).wire.length ≤ c.wire.length + 5 := by
  unfold healC
  split
  · exact Nat.le_add_right _ _
  · exact Nat.zero_le _

/-- What a step of the dice leaves. -/
def ActP (c0 : CT) (b : Unit × ((Dice × Unit) × (CT × Unit) × Unit)) : Prop := ∃ (c : CT) (d : Dice), b = ((), ((d, ()), ((c, ()), ()))) ∧ CG c ∧ c.reps.length = c0.reps.length ∧ DOK d ∧ (∀ T, TB c0 T → TB c (T + 1)) ∧ c.wire.length ≤ c0.wire.length + 5

theorem m53_ok {c : CT} (h : CG c) {d : Dice} (hd : DOK d) : ∃ b, m53 ((c, ()), ((d, ()), ())) = some b ∧ ActP c b := by
  have n1 := h.n1; have n5 := h.n5; have wl := h.wl
  have hs := h.sh
  unfold m53
  obtain ⟨i, d1, e1, hd1, b1, _⟩ := next_spec c.reps.length d hd (by omega)
  have b1 := b1 (by omega)
  simp only []
  rw [show m17 (((c.1.length : Int), ()), ((d, ()), ())) = _ from e1]
  simp only [Option.bind_some]
  refine bind_ex (P := fun v => ∃ (i : Int) (d : Dice), v = ((i, ()), ((d, ()), (u2, ((c, ()), ())))) ∧ 0 ≤ i ∧ i < (c.reps.length : Int) ∧ DOK d) ?_ ?_
  · simp only [m43_eq c hs, Option.bind_some]
    cases hl : (leaderC c).2
    · simp only [sumE, sS]
      exact ⟨_, rfl, i, d1, rfl, b1.1, b1.2, hd1⟩
    · obtain ⟨n, d2, e2, hd2, b2, _⟩ := next_spec 3 d1 hd1 (by omega)
      have hk := leader_spec hl
      simp only [sumE, sS, e2]
      by_cases hn : n > 0
      · simp only [decide_eq_true hn, sumE, sS]
        exact ⟨_, rfl, _, d2, rfl, hk.2.1, hk.2.2.1, hd2⟩
      · simp only [decide_eq_false hn, sumE, sS]
        exact ⟨_, rfl, _, d2, rfl, b1.1, b1.2, hd2⟩
  clear e1 hd1
  rintro _ ⟨i, d1, rfl, i0, i1, hd1⟩
  obtain ⟨k, d2, e2, hd2, _, _⟩ := next_spec c.wire.length d1 hd1 (by omega)
  simp only []
  rw [show m17 (((c.2.1.length : Int), ()), ((d1, ()), ())) = _ from e2]
  simp only [Option.bind_some]
  refine bind_ex (P := fun v => ∃ (k : Int) (d : Dice), v = ((i, (k, ())), ((d, ()), (u2, ((c, ()), ())))) ∧ DOK d) ?_ ?_
  · obtain ⟨n, d3, e3, hd3, _, _⟩ := next_spec 2 d2 hd2 (by omega)
    simp only [e3, Option.bind_some, beq_decide]
    by_cases hn : n = 0
    · simp only [decide_eq_true hn, sumE, sS]
      exact ⟨_, rfl, 0, d3, rfl, hd3⟩
    · simp only [decide_eq_false hn, sumE, sS]
      exact ⟨_, rfl, k, d3, rfl, hd3⟩
  clear e2 hd2 hd1
  rintro _ ⟨k, d1, rfl, hd1⟩
  refine bind_ex (P := fun v => ∃ (e : Int) (d : Dice) (x : CT), v = ((e, ()), ((d, ()), (u2, ((c, ()), ((x, ()), ()))))) ∧ DOK d ∧ (e = 0 → CG x ∧ x.reps.length = c.reps.length ∧ (∀ T, TB c T → TB x (T + 1)) ∧ x.wire.length ≤ c.wire.length + 5)) ?_ ?_
  · obtain ⟨n, d2, e2, hd2, b2, _⟩ := next_spec 16 d1 hd1 (by omega)
    have b2 := b2 (by omega)
    simp only [e2, Option.bind_some, beq_decide]
    have hn : n = 0 ∨ n = 1 ∨ n = 2 ∨ n = 3 ∨ n = 4 ∨ n = 5 ∨ n = 6 ∨ n = 7 ∨ n = 8 ∨ n = 9 ∨ n = 10 ∨ n = 11 ∨ n = 12 ∨ n = 13 ∨ n = 14 ∨ n = 15 := by omega
    have up : ∀ {x : CT} {T : Int}, TB x T → TB x (T + 1) := fun h => h.le (by omega)
    rcases hn with rfl | rfl | rfl | rfl | rfl | rfl | rfl | rfl | rfl | rfl | rfl | rfl | rfl | rfl | rfl | rfl
    · simp only [sumE, sS, m29_eq c i hs]
      exact ⟨_, rfl, _, d2, _, rfl, hd2, fun h0 => ⟨(cg_stand h h0).1, (cg_stand h h0).2, fun T hT => tb_stand h hT h0, wb_stand⟩⟩
    · obtain ⟨q, d3, e3, hd3, _, _⟩ := next_spec 60 d2 hd2 (by omega)
      simp only [Int.reduceEq, sumE, sS, e3, m31_eq c _ _ hs]
      exact ⟨_, rfl, _, d3, _, rfl, hd3, fun h0 => ⟨(cg_propose h h0).1, (cg_propose h h0).2, fun T hT => up (tb_propose h hT h0), wb_propose⟩⟩
    · obtain ⟨q, d3, e3, hd3, _, _⟩ := next_spec 60 d2 hd2 (by omega)
      simp only [Int.reduceEq, sumE, sS, e3, m31_eq c _ _ hs]
      exact ⟨_, rfl, _, d3, _, rfl, hd3, fun h0 => ⟨(cg_propose h h0).1, (cg_propose h h0).2, fun T hT => up (tb_propose h hT h0), wb_propose⟩⟩
    · simp only [Int.reduceEq, sumE, sS, m33_eq c _ hs]
      exact ⟨_, rfl, _, d2, _, rfl, hd2, fun h0 => ⟨(cg_beat h h0).1, congrArg List.length (cg_beat h h0).2, fun T hT => up (tb_beat hT h0), wb_beat⟩⟩
    · simp only [Int.reduceEq, sumE, sS, m33_eq c _ hs]
      exact ⟨_, rfl, _, d2, _, rfl, hd2, fun h0 => ⟨(cg_beat h h0).1, congrArg List.length (cg_beat h h0).2, fun T hT => up (tb_beat hT h0), wb_beat⟩⟩
    · simp only [Int.reduceEq, sumE, sS, m34_eq c _ hs]
      exact ⟨_, rfl, _, d2, _, rfl, hd2, fun h0 => ⟨(cg_deliver h h0).1, (cg_deliver h h0).2.1, fun T hT => up (tb_deliver hT h0), wb_deliver⟩⟩
    · simp only [Int.reduceEq, sumE, sS, m34_eq c _ hs]
      exact ⟨_, rfl, _, d2, _, rfl, hd2, fun h0 => ⟨(cg_deliver h h0).1, (cg_deliver h h0).2.1, fun T hT => up (tb_deliver hT h0), wb_deliver⟩⟩
    · simp only [Int.reduceEq, sumE, sS, m34_eq c _ hs]
      exact ⟨_, rfl, _, d2, _, rfl, hd2, fun h0 => ⟨(cg_deliver h h0).1, (cg_deliver h h0).2.1, fun T hT => up (tb_deliver hT h0), wb_deliver⟩⟩
    · simp only [Int.reduceEq, sumE, sS, m34_eq c _ hs]
      exact ⟨_, rfl, _, d2, _, rfl, hd2, fun h0 => ⟨(cg_deliver h h0).1, (cg_deliver h h0).2.1, fun T hT => up (tb_deliver hT h0), wb_deliver⟩⟩
    · simp only [Int.reduceEq, sumE, sS, m34_eq c _ hs]
      exact ⟨_, rfl, _, d2, _, rfl, hd2, fun h0 => ⟨(cg_deliver h h0).1, (cg_deliver h h0).2.1, fun T hT => up (tb_deliver hT h0), wb_deliver⟩⟩
    · simp only [Int.reduceEq, sumE, sS, m34_eq c _ hs]
      exact ⟨_, rfl, _, d2, _, rfl, hd2, fun h0 => ⟨(cg_deliver h h0).1, (cg_deliver h h0).2.1, fun T hT => up (tb_deliver hT h0), wb_deliver⟩⟩
    · simp only [Int.reduceEq, sumE, sS, m35_eq c _ hs]
      exact ⟨_, rfl, _, d2, _, rfl, hd2, fun h0 => ⟨(cg_drop h h0).1, congrArg List.length (cg_drop h h0).2, fun T hT => up (tb_drop hT h0), wb_drop⟩⟩
    · simp only [Int.reduceEq, sumE, sS, m36_eq c _ hs]
      exact ⟨_, rfl, _, d2, _, rfl, hd2, fun h0 => ⟨(cg_double h h0).1, congrArg List.length (cg_double h h0).2, fun T hT => up (tb_double hT h0), wb_double⟩⟩
    · simp only [Int.reduceEq, sumE, sS, m18_eq c _ hs]
      exact ⟨_, rfl, _, d2, _, rfl, hd2, fun h0 => ⟨(cg_crash h h0).1, congrArg List.length (cg_crash h h0).2, fun T hT => up (tb_crash hT h0), wb_crash⟩⟩
    · obtain ⟨q, d3, e3, hd3, _, _⟩ := next_spec c.reps.length d2 hd2 (by omega)
      simp only [Int.reduceEq, sumE, sS, e3, m39_eq c _ hs]
      exact ⟨_, rfl, _, d3, _, rfl, hd3, fun h0 => ⟨(cg_restart h h0).1, (cg_restart h h0).2, fun T hT => up (tb_restart hT h0), wb_restart⟩⟩
    · obtain ⟨q, d3, e3, hd3, _, _⟩ := next_spec 2 d2 hd2 (by omega)
      obtain ⟨h1, h2⟩ := m9_eq c hs
      simp only [Int.reduceEq, sumE, sS, h1, e3]
      by_cases hq : q = 0
      · obtain ⟨j, d4, e4, hd4, _, _⟩ := next_spec c.reps.length d3 hd3 (by omega)
        simp only [decide_eq_true hq, sumE, sS, e4, m19_eq c _ _ hs]
        exact ⟨_, rfl, _, d4, _, rfl, hd4, fun h0 => ⟨(cg_cut h h0).1, congrArg List.length (cg_cut h h0).2, fun T hT => up (tb_cut hT h0), wb_cut⟩⟩
      · simp only [decide_eq_false hq, sumE, sS]
        refine ⟨_, rfl, 0, d3, (healC c), ?_, hd3, fun _ => ⟨(cg_heal h).1, congrArg List.length (cg_heal h).2.1, fun T hT => up (tb_heal h hT), wb_heal⟩⟩
        rw [← h2]
  · rintro _ ⟨e, d2, x, rfl, hd2, hx⟩
    simp only [bne_decide]
    by_cases he : e = 0
    · simp only [he, ne_eq, not_true_eq_false, not_false_eq_true, eq_self, sumE, sS]
      exact ⟨_, rfl, x, d2, rfl, (hx he).1, (hx he).2.1, hd2, (hx he).2.2.1, (hx he).2.2.2⟩
    · simp only [he, ne_eq, not_true_eq_false, not_false_eq_true, eq_self, sumE, sS]
      exact ⟨_, rfl, c, d2, rfl, h, rfl, hd2, fun T hT => hT.le (by omega), Nat.le_add_right _ _⟩

theorem acts_ok : ∀ (k : Nat) (c : CT) (d : Dice), k ≤ 1000 → CG c → DOK d → ∃ (c' : CT) (d' : Dice), loopT l10_0_5 (((k : Int), ()), ((d, ()), ((c, ()), (u2, ())))) = some ((), ((d', ()), (u2, ((c', ()), ())))) ∧ CG c' ∧ DOK d' ∧ (∀ T, TB c T → TB c' (T + k)) ∧ c'.wire.length ≤ c.wire.length + 5 * k := by
  intro k
  induction k with
  | zero =>
    intro c d _ h hd
    refine ⟨c, d, loopT_inr ?_, h, hd, fun T hT => hT.le (by omega), Nat.le_refl _⟩
    have : ¬ ((0 : Nat) : Int) > 0 := by omega
    simp only [l10_0_5, decide_eq_false this, sumE, sS]
  | succ k ih =>
    intro c d hk h hd
    obtain ⟨b, e1, c1, d1, rfl, h1, _, hd1, ht1, hw1⟩ := m53_ok h hd
    obtain ⟨c', d', e2, h2, hd2, ht2, hw2⟩ := ih c1 d1 (by omega) h1 hd1
    refine ⟨c', d', ?_, h2, hd2, fun T hT => (ht2 _ (ht1 T hT)).le (by omega), by omega⟩
    rw [← e2]
    refine loopT_inl ?_
    have hp : ((k + 1 : Nat) : Int) > 0 := by omega
    have hw : w64 (((k + 1 : Nat) : Int) - 1) = (k : Int) := by rw [w64_id (by omega) (by omega)]; omega
    simp only [l10_0_5, decide_eq_true hp, sumE, sS, e1, hw]

theorem stand_new {n i : Int} (h1 : 1 ≤ n) (h5 : n ≤ 5) (i0 : 0 ≤ i) (i1 : i < n) : readyE (newC n) i = 0 ∧ (standC (newC n) i).1 = 0 := by
  obtain ⟨hg, hl⟩ := cg_new h1 h5
  have hr : readyE (newC n) i = 0 := ready_iff.2 ⟨hg.v, i0, by omega⟩
  refine ⟨hr, ?_⟩
  unfold standC
  have hd : downAt (newC n) i = false := by
    show ((List.replicate n.toNat false)[i.toNat]?.getD false) = false
    rw [List.getElem?_replicate]; split <;> rfl
  obtain ⟨r, e1, e1'⟩ := rep_at (c := newC n) i0 (by omega)
  have hC := (hg.v.rp _ _ e1).2
  have ht : r.term = 0 := by
    have : ((List.range n.toNat).map (rep0 : Nat → RT))[i.toNat]? = some r := e1
    simp only [List.getElem?_map, Option.map_eq_some_iff] at this
    obtain ⟨j, _, rfl⟩ := this
    rfl
  rw [if_pos hr, if_neg (by rw [hd]; simp), e1']
  simp only
  have hs : (stand ((newC n).reps.length : Int) r).1 = 0 := by
    unfold stand
    rw [if_pos (chk_iff.2 hC), if_neg (by omega)]
  have hsl := stand_len ((newC n).reps.length : Int) r
  rw [if_pos hs, if_neg]
  show ¬ (([] : List MT).length + _ > 256)
  simp only [List.length_nil]; omega

theorem m10_okw (n : Int) (hn0 : 0 ≤ n) (hn : n ≤ 100) {d : Dice} (hd : DOK d) : ∃ (c : CT) (d' : Dice), m10 ((n, ()), ((d, ()), ())) = some ((), ((d', ()), ((c, ()), ()))) ∧ CG c ∧ DOK d' ∧ TB c (n + 1) ∧ (c.wire.length : Int) ≤ 5 * n := by
  obtain ⟨q, d1, e1, hd1, hq⟩ := one_spec [3, 3, 2, 5, 1] d hd (by simp) (by simp)
  have hq : 1 ≤ q ∧ q ≤ 5 := by simp at hq; omega
  obtain ⟨hg, hl⟩ := cg_new hq.1 hq.2
  obtain ⟨e2, _, _⟩ := m50_eq q
  have hne : newE q = (0, newC q) := by
    unfold newE
    rw [if_neg (by rw [quorum_eq hq.1 hq.2]; omega)]
  rw [hne] at e2
  have key : ∃ b, m10 ((n, ()), ((d, ()), ())) = some b ∧ ∃ (c : CT) (d' : Dice), b = ((), ((d', ()), ((c, ()), ()))) ∧ CG c ∧ DOK d' ∧ TB c (n + 1) ∧ (c.wire.length : Int) ≤ 5 * n := by
    unfold m10
    simp only [e1, Option.bind_some, e2]
    refine bind_ex (P := fun v => ∃ (d : Dice) (c : CT), v = ((n, ()), ((d, ()), ((c, ()), (u2, ())))) ∧ DOK d ∧ CG c ∧ TB c 1 ∧ c.wire = []) ?_ ?_
    · obtain ⟨a, d2, e3, hd2, _, _⟩ := next_spec 2 d1 hd1 (by omega)
      simp only [e3, Option.bind_some, beq_decide]
      by_cases ha : a = 0
      · obtain ⟨i, d3, e4, hd3, b3, _⟩ := next_spec (newC q).reps.length d2 hd2 (by omega)
        have b3 := b3 (by omega)
        obtain ⟨s1, s2⟩ := stand_new hq.1 hq.2 b3.1 (by omega)
        obtain ⟨e, c', e5, g1, _, g3⟩ := m41_okw hg i
        have he := g3 s1 s2
        simp only [decide_eq_true ha, sumE, sS, e4]
        rw [show m41 ((((newC q).reps, ([], ((newC q).down, ([], ())))), (i, ())), ()) = _ from e5]
        exact ⟨_, rfl, d3, c', rfl, hd3, (g1 he).1, (g1 he).2.2.1 0 (tb_new q), (g1 he).2.2.2⟩
      · simp only [decide_eq_false ha, sumE, sS]
        exact ⟨_, rfl, d2, newC q, rfl, hd2, hg, (tb_new q).le (by omega), rfl⟩
    · rintro _ ⟨d2, c, rfl, hd2, hc, hT, hw0⟩
      have hw : w64 (n + 1) = n + 1 := w64_id (by omega) (by omega)
      obtain ⟨k, d3, e3, hd3, b3, _⟩ := next_spec (n + 1) d2 hd2 (by omega)
      have b3 := b3 (by omega)
      obtain ⟨c', d', e4, g1, g2, g3, g4⟩ := acts_ok k.toNat c d3 (by omega) hc hd3
      rw [Int.toNat_of_nonneg b3.1] at e4
      simp only [hw, e3, Option.bind_some]
      rw [show loopT l10_0_5 ((k, ()), ((d3, ()), ((c, ()), (((), ()), ())))) = _ from e4]
      exact ⟨_, rfl, c', d', rfl, g1, g2, (g3 _ hT).le (by omega), by rw [hw0, List.length_nil] at g4; omega⟩
  obtain ⟨b, h1, c, d', rfl, h2, h3, h4, h5⟩ := key
  exact ⟨c, d', h1, h2, h3, h4, h5⟩

end Go.Proofs.YtfbikpbejkgegaaGreat

namespace Go.Proofs.YtfbikpbejkgegaaGreat
open Go Go.Abs Go.Raft
theorem CG.voted {c : CT} (h : CG c) {j : Nat} {r : RT} (hj : c.reps[j]? = some r) (hr : r.role = 1 ∨ r.role = 2) : r.voted = (j : Int) := by
  obtain ⟨g, hi, _⟩ := h.gd
  have hn := hi.nod j r hj
  rcases hr with hr | hr
  · exact hn.v1 _ _ (hn.cd hr).1
  · obtain ⟨R, hR, hw, _⟩ := hn.ld hr
    have := (hi.rcd _ R hR).vt
    rw [hw] at this
    exact hn.v1 _ _ this

theorem light (l : List Int) : m6 ((l, ()), ()) = some ((decide (l.length ≤ 500), ()), ()) := by
  unfold m6
  have : decide ((l.length : Int) ≤ 500) = decide (l.length ≤ 500) := by
    by_cases h : l.length ≤ 500
    · rw [decide_eq_true h, decide_eq_true (by omega)]
    · rw [decide_eq_false h, decide_eq_false (by omega)]
  rw [this]

theorem roll (l : List Int) : m8 ((l, ()), ()) = some ((), (((l, (0, ())), ()), ())) := rfl

theorem dok0 {l : List Int} (h : l.length ≤ 500) : DOK (l, 0, ()) := ⟨Int.le_refl _, by simp only; omega, h⟩

end Go.Proofs.YtfbikpbejkgegaaGreat

namespace Go.Proofs.YtfbikpbejkgegaaGreat
open Go Go.Abs Go.Raft
end Go.Proofs.YtfbikpbejkgegaaGreat

namespace Go.Proofs.YtfbikpbejkgegaaGreat
open Go Go.Abs Go.Raft
end Go.Proofs.YtfbikpbejkgegaaGreat

namespace Go.Proofs.YtfbikpbejkgegaaGreat
open Go Go.Abs Go.Raft
end Go.Proofs.YtfbikpbejkgegaaGreat

namespace Go.Proofs.YtfbikpbejkgegaaGreat
open Go Go.Abs Go.Raft
theorem m83_eq (a b c : Int) : m83 ((a, b, c, ()), ()) = some ((inn a b c, ()), ()) := by
  unfold m83 inn
  simp only []
  by_cases h : a ≥ b
  · simp only [decide_eq_true h, sumE, sS]
  · simp only [decide_eq_false h, sumE, sS]

def has (l : List CutT) (a b : Int) : Bool := l.any (fun p => decide (p.1 = a) && decide (p.2.1 = b))

theorem has_cut (l : List CutT) (a b : Int) : has l (min a b) (max a b) = isCut l a b := rfl

theorem loop134 (l : List CutT) (a b : Int) (hl : l.length ≤ 4294967295) : ∀ (k i : Nat), i + k = l.length →
    ∃ j : Int, loopT l107_0_2 (((i : Int), l, (l.length : Int), ()), (((a, b, ()), ()), ())) = some (if has (l.drop i) a b = true then .inl ((j, ()), ()) else .inr ((), ())) ∧ 0 ≤ j := by
  intro k
  induction k with
  | zero =>
    intro i h
    rw [List.drop_eq_nil_of_le (by omega)]
    refine ⟨0, loopT_inr ?_, Int.le_refl _⟩
    have : ¬ (i : Int) < (l.length : Int) := by omega
    simp only [l107_0_2, decide_eq_false this, sumE, sS, has, List.any_nil, Bool.false_eq_true, if_false]
  | succ k ih =>
    intro i h
    obtain ⟨e, he, hd⟩ := drop_at (l := l) (i := i) (by omega)
    have hlt : (i : Int) < (l.length : Int) := by omega
    rw [hd]
    unfold has
    rw [List.any_cons]
    cases hq : (decide (e.1 = a) && decide (e.2.1 = b))
    · obtain ⟨j, e1, e2⟩ := ih (i + 1) (by omega)
      refine ⟨j, ?_, e2⟩
      rw [Bool.false_or]
      refine (loopT_inl ?_).trans e1
      have hq' : (a == e.1 && (b == e.2.1 && true)) = false := by
        rw [← hq, Bool.and_true, beq_decide, beq_decide, decide_eq_decide.2 (eq_comm (a := a) (b := e.1)), decide_eq_decide.2 (eq_comm (a := b) (b := e.2.1))]
      simp only [l107_0_2, decide_eq_true hlt, sumE, sS, rowAt_G, rowG_nat he]
      rw [show (a == e.1 && (b == e.2.1)) = false by simpa using hq']
      simp only [sumE, sS, w64_nat (show i ≤ 4294967296 by omega)]
    · refine ⟨(i : Int), ?_, by omega⟩
      rw [Bool.true_or, if_pos rfl]
      refine loopT_inr ?_
      have hq' : (a == e.1 && (b == e.2.1)) = true := by
        rw [← hq, beq_decide, beq_decide, decide_eq_decide.2 (eq_comm (a := a) (b := e.1)), decide_eq_decide.2 (eq_comm (a := b) (b := e.2.1))]
      simp only [l107_0_2, decide_eq_true hlt, sumE, sS, rowAt_G, rowG_nat he]
      rw [hq']
      simp only [sumE, sS]

theorem m81_eq (l : List CutT) (a b : Int) (hl : l.length ≤ 4294967295) : m81 ((l, (a, b, ()), ()), ()) = some ((has l a b, ()), ()) := by
  unfold m81 m107
  obtain ⟨j, e, hj⟩ := loop134 l a b hl l.length 0 (by omega)
  rw [List.drop_zero] at e
  simp only []
  rw [show loopT l107_0_2 ((0, (l, ((l.length : Int), ()))), (((a, b, ()), ()), ())) = _ from e]
  cases has l a b
  · simp only [Bool.false_eq_true, if_false, sumE, sS]
    rfl
  · simp only [if_true, sumE, sS, decide_eq_true (show j ≥ 0 by omega)]

theorem loop106a (c : CT) (n : Int) (reps : List RT) (hr : ∀ r ∈ reps, Shrt r) (hl : reps.length ≤ 2147483647) : ∀ (k i : Nat), i + k = reps.length →
    loopT l44_0_5 (((i : Int), n, reps, (reps.length : Int), ()), ((c, ()), ())) = some (if repsOK n i (reps.drop i) then .inr ((n, ()), ((c, ()), ())) else .inl ((false, ()), ())) := by
  intro k
  induction k with
  | zero =>
    intro i h
    rw [List.drop_eq_nil_of_le (by omega)]
    refine loopT_inr ?_
    have : ¬ (i : Int) < (reps.length : Int) := by omega
    simp only [l44_0_5, decide_eq_false this, sumE, sS, repsOK, if_true]
  | succ k ih =>
    intro i h
    obtain ⟨e, he, hd⟩ := drop_at (l := reps) (i := i) (by omega)
    have hlt : (i : Int) < (reps.length : Int) := by omega
    have hsh := hr e (List.mem_of_getElem? he)
    rw [hd, repsOK]
    rcases Bool.eq_false_or_eq_true (decide (e.id = (i : Int))) with h1 | h1
    · cases h2 : chk n e
      · rw [h1, Bool.true_and, Bool.false_and, if_neg (by simp)]
        refine loopT_inr ?_
        simp only [l44_0_5, rowAt_G, rowG_nat he, decide_eq_true hlt, bne_decide, decide_not, h1, m84_eq n e hsh, h2, sumE, sS]
      · rw [show loopT l44_0_5 (((i : Int), n, reps, (reps.length : Int), ()), ((c, ()), ())) = loopT l44_0_5 ((((i + 1 : Nat) : Int), n, reps, (reps.length : Int), ()), ((c, ()), ())) from loopT_inl (by
          simp only [l44_0_5, rowAt_G, rowG_nat he, decide_eq_true hlt, bne_decide, decide_not, h1, m84_eq n e hsh, h2, sumE, sS, w64_nat (show i ≤ 4294967296 by omega)])]
        rw [ih (i + 1) (by omega), h1]
        simp only [sumE, sS]
    · rw [h1, Bool.false_and, Bool.false_and, if_neg (by simp)]
      refine loopT_inr ?_
      simp only [l44_0_5, rowAt_G, rowG_nat he, decide_eq_true hlt, bne_decide, decide_not, h1, sumE, sS]

theorem loop106b (c : CT) (n : Int) (wire : List MT) (hl : wire.length ≤ 2147483647) (hn : inn n 1 5 = true) : ∀ (k i : Nat), i + k = wire.length →
    loopT l44_0_11 (((i : Int), n, wire, (wire.length : Int), ()), ((c, ()), ())) = some (if wireOK n (wire.drop i) then .inr ((n, ()), ((c, ()), ())) else .inl ((false, ()), ())) := by
  intro k
  induction k with
  | zero =>
    intro i h
    rw [List.drop_eq_nil_of_le (by omega)]
    refine loopT_inr ?_
    have : ¬ (i : Int) < (wire.length : Int) := by omega
    simp only [l44_0_11, decide_eq_false this, sumE, sS, wireOK, List.all_nil, if_true]
  | succ k ih =>
    intro i h
    obtain ⟨e, he, hd⟩ := drop_at (l := wire) (i := i) (by omega)
    have hlt : (i : Int) < (wire.length : Int) := by omega
    rw [hd]
    unfold wireOK
    rw [List.all_cons]
    have hw := w64_pred hn
    have hbad : (inn e.frm 0 (n - 1) && inn e.to 0 (n - 1) && decide (e.frm ≠ e.to)) = false → l44_0_11 (((i : Int), n, wire, (wire.length : Int), ()), ((c, ()), ())) = some (.inr (.inl ((false, ()), ()))) := by
      intro hb
      cases h1 : inn e.frm 0 (n - 1)
      · simp only [l44_0_11, rowAt_G, rowG_nat he, decide_eq_true hlt, m83_eq, hw, h1, sumE, sS]
      · cases h2 : inn e.to 0 (n - 1)
        · simp only [l44_0_11, rowAt_G, rowG_nat he, decide_eq_true hlt, m83_eq, hw, h1, h2, sumE, sS]
        · rw [h1, h2] at hb
          have h3 : e.frm = e.to := by simpa using hb
          simp only [l44_0_11, rowAt_G, rowG_nat he, decide_eq_true hlt, m83_eq, hw, h1, h2, sumE, sS, h3]
    cases hq : (inn e.frm 0 (n - 1) && inn e.to 0 (n - 1) && decide (e.frm ≠ e.to))
    · rw [Bool.false_and, if_neg (by simp)]
      exact loopT_inr (hbad hq)
    · have hq' := hq
      simp only [Bool.and_eq_true, decide_eq_true_eq] at hq'
      obtain ⟨⟨h1, h2⟩, h3⟩ := hq'
      rw [show loopT l44_0_11 (((i : Int), n, wire, (wire.length : Int), ()), ((c, ()), ())) = loopT l44_0_11 ((((i + 1 : Nat) : Int), n, wire, (wire.length : Int), ()), ((c, ()), ())) from loopT_inl (by
        simp only [l44_0_11, rowAt_G, rowG_nat he, decide_eq_true hlt, m83_eq, hw, h1, h2, beq_decide, decide_eq_false h3, sumE, sS, w64_nat (show i ≤ 4294967296 by omega)])]
      rw [ih (i + 1) (by omega), Bool.true_and]
      rfl

theorem cutOK1_in (n : Int) (hn : inn n 1 5 = true) (x : CutT) : cutOK1 n x = (inn x.1 0 (n - 1) && inn x.2.1 (w64 (x.1 + 1)) (n - 1)) := by
  obtain ⟨n1, n5⟩ := inn_iff.1 hn
  unfold cutOK1
  by_cases h : 0 ≤ x.1 ∧ x.1 ≤ n - 1
  · rw [w64_id (x := x.1 + 1) (by omega) (by omega)]
    unfold inn
    rw [Bool.eq_iff_iff]
    simp only [Bool.and_eq_true, decide_eq_true_eq]
    omega
  · rw [show inn x.1 0 (n - 1) = false from Bool.eq_false_iff.2 fun e => h (inn_iff.1 e)]
    rw [Bool.eq_iff_iff]
    simp only [Bool.and_eq_true, decide_eq_true_eq, Bool.false_and, Bool.false_eq_true, iff_false]
    omega

theorem loop106c (reps : List RT) (wire : List MT) (down : List Bool) (cut : List CutT) (n : Int) (hl : cut.length ≤ 2147483647) (hn : inn n 1 5 = true) : ∀ (k i : Nat), i + k = cut.length →
    loopT l44_0_17 (((i : Int), n, cut, (cut.length : Int), ()), ((cl reps wire down cut, ()), ())) = some (if cutsOK n (cut.take i) (cut.drop i) then .inr ((), ()) else .inl ((false, ()), ())) := by
  intro k
  induction k with
  | zero =>
    intro i h
    rw [List.drop_eq_nil_of_le (by omega)]
    refine loopT_inr ?_
    have : ¬ (i : Int) < (cut.length : Int) := by omega
    simp only [l44_0_17, decide_eq_false this, sumE, sS, cutsOK, if_true]
  | succ k ih =>
    intro i h
    obtain ⟨e, he, hd⟩ := drop_at (l := cut) (i := i) (by omega)
    have hlt : (i : Int) < (cut.length : Int) := by omega
    rw [hd, cutsOK, ← take_at he]
    have b1 : (0 : Int) ≤ (i : Int) := by omega
    have b2 : 0 ≤ i ∧ i ≤ cut.length := by omega
    have b3 : (cut.take i).length ≤ 4294967295 := by simp; omega
    have hw := w64_pred hn
    rw [cutOK1_in n hn]
    cases h1 : inn e.1 0 (n - 1)
    · simp only [sumE, sS, Bool.false_eq_true, if_false]
      refine loopT_inr ?_
      simp only [l44_0_17, rowAt_G, rowG_nat he, decide_eq_true hlt, m83_eq, hw, h1, sumE, sS]
    · cases h2 : inn e.2.1 (w64 (e.1 + 1)) (n - 1)
      · simp only [sumE, sS, Bool.false_eq_true, if_false]
        refine loopT_inr ?_
        simp only [l44_0_17, rowAt_G, rowG_nat he, decide_eq_true hlt, m83_eq, hw, h1, h2, sumE, sS]
      · have hcut : isCut (cut.take i) e.1 e.2.1 = has (cut.take i) e.1 e.2.1 := by
          obtain ⟨a1, a2⟩ := inn_iff.1 h1
          obtain ⟨a3, a4⟩ := inn_iff.1 h2
          obtain ⟨n1, n5⟩ := inn_iff.1 hn
          rw [w64_id (x := e.1 + 1) (by omega) (by omega)] at a3
          rw [← has_cut, show min e.1 e.2.1 = e.1 by omega, show max e.1 e.2.1 = e.2.1 by omega]
        rw [hcut]
        cases h4 : has (cut.take i) e.1 e.2.1
        · rw [show loopT l44_0_17 (((i : Int), n, cut, (cut.length : Int), ()), ((cl reps wire down cut, ()), ())) = loopT l44_0_17 ((((i + 1 : Nat) : Int), n, cut, (cut.length : Int), ()), ((cl reps wire down cut, ()), ())) from loopT_inl (by
            simp only [l44_0_17, rowAt_G, rowG_nat he, decide_eq_true hlt, m83_eq, hw, h1, h2, sumE, sS, decide_eq_true b1]
            simp only [Int.toNat_natCast, b2, and_self, decide_true, cond_true]
            rw [show m81 ((cut.take i, (e, ())), ()) = _ from m81_eq (cut.take i) e.1 e.2.1 b3]
            simp only [h4, w64_nat (show i ≤ 4294967296 by omega), sumE, sS])]
          rw [ih (i + 1) (by omega)]
          simp only [sumE, sS]
        · simp only [sumE, sS, Bool.false_eq_true, if_false]
          refine loopT_inr ?_
          simp only [l44_0_17, rowAt_G, rowG_nat he, decide_eq_true hlt, m83_eq, hw, h1, h2, sumE, sS, decide_eq_true b1]
          simp only [Int.toNat_natCast, b2, and_self, decide_true, cond_true]
          rw [show m81 ((cut.take i, (e, ())), ()) = _ from m81_eq (cut.take i) e.1 e.2.1 b3]
          simp only [h4, sumE, sS]

theorem m44_eq (c : CT) (hs : ShC c) : m44 ((c, ()), ()) = some ((chkC c, ()), ()) := by
  obtain ⟨reps, wire, down, cut, ⟨⟩⟩ := c
  unfold m44 chkC
  have l1 := loop106a (cl reps wire down cut) reps.length reps hs.r hs.rl reps.length 0 (by omega)
  have l2 := fun h => loop106b (cl reps wire down cut) reps.length wire hs.wl h wire.length 0 (by omega)
  have l3 := fun h => loop106c reps wire down cut reps.length hs.cl h cut.length 0 (by omega)
  rw [List.drop_zero] at l1
  simp only [List.drop_zero, List.take_zero] at l2 l3
  simp only [CT.reps, CT.wire, CT.down, CT.cut, m83_eq, Option.bind_some]
  cases hn : inn (reps.length : Int) 1 5
  · simp only [sumE, sS]
  simp only [sumE, sS]
  by_cases hd : down.length = reps.length
  · have : ((down.length : Int) != (reps.length : Int)) = false := by rw [hd]; simp
    simp only [this, decide_eq_true hd, sumE, sS]
    by_cases hw : wire.length ≤ 256
    · have : ¬ (wire.length : Int) > 256 := by omega
      simp only [decide_eq_false this, decide_eq_true hw, sumE, sS]
      rw [show loopT l44_0_5 ((0, ((reps.length : Int), (reps, ((reps.length : Int), ())))), (((reps, wire, down, cut, PUnit.unit), ()), ())) = _ from l1]
      cases repsOK reps.length 0 reps
      · simp only [Bool.false_eq_true, if_false, sumE, sS]
      simp only [if_true, sumE, sS]
      rw [show loopT l44_0_11 ((0, ((reps.length : Int), (wire, ((wire.length : Int), ())))), ((cl reps wire down cut, ()), ())) = _ from l2 hn]
      cases wireOK reps.length wire
      · simp only [Bool.false_eq_true, if_false, sumE, sS]
      simp only [if_true, sumE, sS]
      rw [show loopT l44_0_17 ((0, ((reps.length : Int), (cut, ((cut.length : Int), ())))), ((cl reps wire down cut, ()), ())) = _ from l3 hn]
      cases cutsOK reps.length [] cut
      · simp only [Bool.false_eq_true, if_false, sumE, sS]
      · simp only [if_true, sumE, sS]
    · have : (wire.length : Int) > 256 := by omega
      simp only [decide_eq_true this, decide_eq_false hw, sumE, sS]
  · have : ((down.length : Int) != (reps.length : Int)) = true := by rw [bne_decide, decide_eq_true_eq]; omega
    simp only [this, decide_eq_false hd, sumE, sS]

theorem m62_eq (c : CT) (i : Int) (n : Nat) (hn : n ≤ 2147483647) (hs : ShC c) : m62 ((c, i, (n : Int), ()), ()) = some ((if chkC c = true then (if inn i 0 ((n : Int) - 1) = true then 0 else 3) else 8, ()), ()) := by
  unfold m62
  simp only [m44_eq c hs, Option.bind_some, w64_len hn, m83_eq]
  cases chkC c
  · simp only [sumE, sS, Bool.false_eq_true, if_false]
  · cases h : inn i 0 ((n : Int) - 1)
    · simp only [sumE, sS, Bool.false_eq_true, if_false, if_true]
    · simp only [sumE, sS, if_true]

theorem m62_w (c : CT) (k : Int) (hs : ShC c) : m62 ((c, k, (c.wire.length : Int), ()), ()) = some ((wireE c k, ()), ()) := m62_eq c k c.wire.length hs.wl hs

theorem m56_eq (c : CT) (hs : ShC c) : m56 ((c, ()), ()) = some ((), oC c) := by
  unfold m56
  obtain ⟨reps, wire, down, cut, ⟨⟩⟩ := c
  obtain ⟨s1, s2, s3, s4, s5, s6⟩ := hs
  simp only [CT.reps, CT.wire, CT.down, CT.cut] at s1 s2 s3 s4 s5 s6
  have a1 : reps.length ≤ 4294967296 := by omega
  have a2 : wire.length ≤ 4294967296 := by omega
  have a3 : down.length ≤ 4294967296 := by omega
  have a4 : cut.length ≤ 4294967296 := by omega
  simp only [m90, m91, m92, m93, a1, a2, a3, a4, decide_true, cond_true, Option.bind_some]
  have l1 := loop_up (f := l56_0_3) (fun i => (((i : Int), (reps.length : Int), ()), (u2, (u2, (reps, (wire, (down, (cut, ())))))))) ((), (u2, (u2, (reps, (wire, (down, (cut, ()))))))) reps.length (fun i hi => by
    obtain ⟨e, he⟩ := getD_some hi
    have hlt : (i : Int) < (reps.length : Int) := by omega
    have h2 : (0 : Int) ≤ (i : Int) ∧ (i : Int) < (reps.length : Int) := by omega
    simp only [l56_0_3, hlt, h2, and_self, decide_true, sumE, sS, Int.toNat_natCast, he, m94_eq e (s1 e (List.mem_of_getElem? he)), hi, w64_nat (show i ≤ 4294967296 by omega)]
    rw [show reps.set i ((cpR e).2.1.1.1, (cpR e).2.1.1.2.1, (cpR e).2.1.1.2.2.1, (cpR e).2.1.1.2.2.2.1, (cpR e).2.2.1, (cpR e).2.1.1.2.2.2.2.1, (cpR e).2.2.2.1, (cpR e).2.2.2.2.1, ()) = reps from set_same he]) (by
    have : ¬ (reps.length : Int) < (reps.length : Int) := by omega
    simp only [l56_0_3, this, decide_false, sumE, sS]) reps.length 0 (by omega)
  have l2 := loop_up (f := l56_0_8) (fun i => (((i : Int), (wire.length : Int), ()), (u2, (u2, (reps, (wire, (down, (cut, ())))))))) ((), (u2, (u2, (reps, (wire, (down, (cut, ()))))))) wire.length (fun i hi => by
    obtain ⟨e, he⟩ := getD_some hi
    have hlt : (i : Int) < (wire.length : Int) := by omega
    have h2 : (0 : Int) ≤ (i : Int) ∧ (i : Int) < (wire.length : Int) := by omega
    have h3 : (e.2.2.2.2.2.2.2.1).length ≤ 4294967296 := Nat.le_trans (s3 e (List.mem_of_getElem? he)) (by omega)
    simp only [l56_0_8, hlt, h2, and_self, decide_true, sumE, sS, Int.toNat_natCast, he, m65, h3, w64_nat (show i ≤ 4294967296 by omega)]
    rw [show wire.set i (e.1, e.2.1, e.2.2.1, e.2.2.2.1, e.2.2.2.2.1, e.2.2.2.2.2.1, e.2.2.2.2.2.2.1, e.2.2.2.2.2.2.2.1, e.2.2.2.2.2.2.2.2) = wire from set_same he]) (by
    have : ¬ (wire.length : Int) < (wire.length : Int) := by omega
    simp only [l56_0_8, this, decide_false, sumE, sS]) wire.length 0 (by omega)
  rw [show loopT l56_0_3 ((0, ((reps.length : Int), ())), (((), ()), (((), ()), (reps, (wire, (down, (cut, ()))))))) = _ from l1]
  simp only [Option.bind_some]
  rw [show loopT l56_0_8 ((0, ((wire.length : Int), ())), (((), ()), (((), ()), (reps, (wire, (down, (cut, ()))))))) = _ from l2]
  simp only [Option.bind_some]

end Go.Proofs.YtfbikpbejkgegaaGreat

namespace Go.Proofs.YtfbikpbejkgegaaGreat
open Go Go.Abs Go.Raft
theorem m21_eq (c : CT) (k : Int) (hs : ShC c) : m21 ((c, k, ()), ()) = some (((dropC c k).1, ()), oC (dropC c k).2) := by
  unfold m21 dropC
  simp only []
  rw [show m62 ((c, (k, ((c.2.1.length : Int), ()))), ()) = _ from m62_w c k hs]
  simp only [Option.bind_some, bne_decide, decide_not]
  by_cases hr : wireE c k = 0
  · obtain ⟨V, k0, k1⟩ := wire_iff.1 hr
    have hwl := V.wl
    have hw : w64 (k + 1) = k + 1 := w64_id (by omega) (by omega)
    have b1 : (0 : Int) ≤ k ∧ k < k + 1 ∧ k + 1 ≤ (c.2.1.length : Int) ∧ c.2.1.length ≤ 4294967296 := ⟨k0, by omega, show k + 1 ≤ (c.wire.length : Int) by omega, show c.wire.length ≤ _ by omega⟩
    simp only [hr, decide_true, sumE, sS, if_true, m56_eq c hs, hw]
    rw [show decide ((0 : Int) ≤ k ∧ k < k + 1 ∧ k + 1 ≤ (c.2.1.length : Int) ∧ c.2.1.length ≤ 4294967296) = true from decide_eq_true b1]
    simp only [sumE, sS, decide_true]
    unfold cutOut
    rw [show (k + 1).toNat = k.toNat + 1 by omega]
  · simp only [hr, decide_false, sumE, sS, if_false]

theorem m22_eq (c : CT) (k : Int) (hs : ShC c) : m22 ((c, k, ()), ()) = some (((doubleC c k).1, ()), oC (doubleC c k).2) := by
  unfold m22 doubleC
  simp only []
  rw [show m62 ((c, (k, ((c.2.1.length : Int), ()))), ()) = _ from m62_w c k hs]
  simp only [Option.bind_some, bne_decide, decide_not]
  by_cases hr : wireE c k = 0
  · obtain ⟨V, k0, k1⟩ := wire_iff.1 hr
    have hwl := V.wl
    obtain ⟨m, e1, e1'⟩ := wire_at k0 k1
    rw [e1']
    have b1 : (0 : Int) ≤ k ∧ k < (c.2.1.length : Int) := ⟨k0, k1⟩
    have hme : m.2.2.2.2.2.2.2.1.length ≤ 4294967296 := Nat.le_trans (hs.w m (List.mem_of_getElem? e1)) (by omega)
    have hw : w64 ((c.2.1.length : Int) + 1) = (c.2.1.length : Int) + 1 := w64_id (show _ ≤ (c.wire.length : Int) + 1 by omega) (show (c.wire.length : Int) + 1 ≤ _ by omega)
    simp only [hr, decide_true, sumE, sS, if_true, m56_eq c hs, b1, and_self, e1, m65, hme, List.length_singleton, Int.natCast_one, Int.ofNat_eq_natCast]
    have hwlc : c.wire.length = c.2.1.length := rfl
    by_cases hg : c.wire.length ≥ 256
    · have h1 : (c.wire.length : Int) + 1 > 256 := by omega
      simp only [hw, h1, hg, decide_true, sumE, sS, if_true]
    · have h1 : ¬ (c.wire.length : Int) + 1 > 256 := by omega
      have h2 : c.wire.length + 1 ≤ 4294967296 := by omega
      simp only [hw, h1, h2, hg, decide_true, decide_false, sumE, sS, if_false]
  · simp only [hr, decide_false, sumE, sS, if_false]

theorem lens4 (a b c d : Nat) : (decide (a = a) && (decide (b = b) && (decide (c = c) && (decide (d = d) && true)))) = true := by simp

theorem m20_eq (c : CT) (k : Int) (hs : ShC c) : m20 ((c, k, ()), ()) = some (((deliverC c k).1, ()), oC (deliverC c k).2) := by
  unfold m20 deliverC
  simp only [min_if, max_if]
  rw [show m62 ((c, (k, ((c.2.1.length : Int), ()))), ()) = _ from m62_w c k hs]
  simp only [Option.bind_some, bne_decide, decide_not]
  by_cases hr : wireE c k = 0
  · obtain ⟨V, k0, k1⟩ := wire_iff.1 hr
    have hwl := V.wl
    obtain ⟨m, e1, e1'⟩ := wire_at k0 k1
    rw [e1']
    have hmm := List.mem_of_getElem? e1
    obtain ⟨f0, f1, t0, t1, hft⟩ := V.wm m hmm
    have hme := hs.w m hmm
    have hdn := V.dn
    obtain ⟨r, e2, e2'⟩ := rep_at t0 t1
    obtain ⟨d, e3, e3'⟩ := down_at (c := c) t0 (by omega)
    rw [e2', e3']
    have hrs := shrt_of (V.rp _ _ e2).2
    have hw : w64 (k + 1) = k + 1 := w64_id (by omega) (by omega)
    have b1 : decide ((0 : Int) ≤ k ∧ k < k + 1 ∧ k + 1 ≤ (c.2.1.length : Int) ∧ c.2.1.length ≤ 4294967296) = true := decide_eq_true ⟨k0, by omega, show k + 1 ≤ (c.wire.length : Int) by omega, show c.wire.length ≤ _ by omega⟩
    have b8 : decide ((0 : Int) ≤ k ∧ k < (c.2.1.length : Int)) = true := decide_eq_true ⟨k0, k1⟩
    have hcl := hs.cl
    have e108 := m81_eq c.cut (min m.to m.frm) (max m.to m.frm) (by omega)
    rw [has_cut, isCut_comm] at e108
    have t2 : decide ((0 : Int) ≤ m.2.2.1 ∧ m.2.2.1 < (c.1.length : Int)) = true := decide_eq_true ⟨t0, t1⟩
    have t4 : decide ((0 : Int) ≤ m.2.2.1 ∧ m.2.2.1 < (c.2.2.1.length : Int)) = true := decide_eq_true ⟨t0, show m.to < (c.down.length : Int) by omega⟩
    have t3 : decide (m.2.2.1.toNat < c.1.length) = true := decide_eq_true (show m.to.toNat < c.reps.length by omega)
    have e3x : c.2.2.1[m.2.2.1.toNat]? = some d := e3
    have e2x : c.1[m.2.2.1.toNat]? = some r := e2
    have hW : c.2.1.take k.toNat ++ c.2.1.drop (k + 1).toNat = cutOut c.wire k.toNat := by unfold cutOut; rw [show (k + 1).toNat = k.toNat + 1 by omega]
    have hWl : (cutOut c.wire k.toNat).length ≤ 1000 := by unfold cutOut; simp; omega
    simp only [hr, decide_true, sumE, sS, if_true, m56_eq c hs, hw, b8, e1, b1, hW, t4, e3x, beq_decide]
    have e24 := m115_eq (c.reps.length : Int) r m hrs
    have e36 := m116_eq (c.reps.length : Int) r m hrs
    have e47 := m117_eq (c.reps.length : Int) r m hrs hme
    have e44 := m118_eq (c.reps.length : Int) r m hrs
    have hh := hear_ents (c.reps.length : Int) r m
    have ha := accept_ents (c.reps.length : Int) r m
    have e108' : m81 ((c.2.2.2.1, ((min m.2.2.1 m.2.1, (max m.2.2.1 m.2.1, ())), ())), ()) = some ((isCut c.cut m.frm m.to, ()), ()) := e108
    generalize cutOut c.wire k.toNat = W at hWl
    have hap : ∀ x : MT, decide (W.length + [x].length ≤ 4294967296) = true := by intro x; simp; omega
    by_cases q1 : m.1 = 1
    · have hA : hearAny (c.reps.length : Int) r m = hear (c.reps.length : Int) r m := by unfold hearAny; rw [if_pos q1]
      rw [hA]
      simp only [q1, decide_true, sumE, sS]
      cases d
      · simp only [sumE, sS, e108']
        cases isCut c.cut m.frm m.to
        · simp only [sumE, sS, t2, t3, e2x, e24, Bool.false_eq_true, or_self, if_false]
          cases hb : (hear (c.reps.length : Int) r m).2.2
          · simp only [sumE, sS, List.length_set, lens4, Bool.false_eq_true, if_false, List.append_nil]
          · simp only [sumE, sS, hap, List.length_set, lens4, if_true]
            rw [← re_nil _ hh]
        · simp only [sumE, sS, lens4, or_true, if_true]
      · simp only [sumE, sS, lens4, true_or, if_true]
    by_cases q2 : m.1 = 2
    · have hA : hearAny (c.reps.length : Int) r m = (voted (c.reps.length : Int) r m, zeroM, false) := by unfold hearAny; rw [if_neg q1, if_pos q2]
      rw [hA]
      simp only [Int.reduceEq, q1, q2, decide_true, decide_false, sumE, sS]
      cases d
      · simp only [sumE, sS, e108']
        cases isCut c.cut m.frm m.to
        · simp only [sumE, sS, t2, t3, e2x, e36, List.length_set, lens4, Bool.false_eq_true, or_self, if_false, List.append_nil]
        · simp only [sumE, sS, lens4, or_true, if_true]
      · simp only [sumE, sS, lens4, true_or, if_true]
    by_cases q3 : m.1 = 3
    · have hA : hearAny (c.reps.length : Int) r m = accept (c.reps.length : Int) r m := by unfold hearAny; rw [if_neg q1, if_neg q2, if_pos q3]
      rw [hA]
      simp only [Int.reduceEq, q1, q2, q3, decide_true, decide_false, sumE, sS]
      cases d
      · simp only [sumE, sS, e108']
        cases isCut c.cut m.frm m.to
        · simp only [sumE, sS, t2, t3, e2x, e47, Bool.false_eq_true, or_self, if_false]
          cases hb : (accept (c.reps.length : Int) r m).2.2
          · simp only [sumE, sS, List.length_set, lens4, Bool.false_eq_true, if_false, List.append_nil]
          · simp only [sumE, sS, hap, List.length_set, lens4, if_true]
            rw [← re_nil _ ha]
        · simp only [sumE, sS, lens4, or_true, if_true]
      · simp only [sumE, sS, lens4, true_or, if_true]
    by_cases q4 : m.1 = 4
    · have hA : hearAny (c.reps.length : Int) r m = (appended (c.reps.length : Int) r m, zeroM, false) := by unfold hearAny; rw [if_neg q1, if_neg q2, if_neg q3, if_pos q4]
      rw [hA]
      simp only [Int.reduceEq, q1, q2, q3, q4, decide_true, decide_false, sumE, sS]
      cases d
      · simp only [sumE, sS, e108']
        cases isCut c.cut m.frm m.to
        · simp only [sumE, sS, t2, t3, e2x, e44, List.length_set, lens4, Bool.false_eq_true, or_self, if_false, List.append_nil]
        · simp only [sumE, sS, lens4, or_true, if_true]
      · simp only [sumE, sS, lens4, true_or, if_true]
    · have hA : hearAny (c.reps.length : Int) r m = (r, zeroM, false) := by unfold hearAny; rw [if_neg q1, if_neg q2, if_neg q3, if_neg q4]
      rw [hA]
      simp only [q1, q2, q3, q4, decide_false, sumE, sS, lens4]
      have hset : c.1.set m.2.2.1.toNat r = c.1 := set_same e2x
      split
      · rfl
      · simp only [Bool.false_eq_true, if_false, List.append_nil]
        rw [show c.reps.set m.to.toNat r = c.reps from hset]
  · simp only [hr, decide_false, sumE, sS, if_false]

end Go.Proofs.YtfbikpbejkgegaaGreat

namespace Go.Proofs.YtfbikpbejkgegaaGreat
open Go Go.Abs Go.Raft
end Go.Proofs.YtfbikpbejkgegaaGreat

namespace Go.Proofs.YtfbikpbejkgegaaGreat
open Go Go.Abs Go.Raft
/-! ### What was committed stays, in each region -/
def KC (c c' : CT) : Prop := ∀ (j : Nat) (r : RT), c.reps[j]? = some r → ∃ r', c'.reps[j]? = some r' ∧ Keeps r r'

theorem KC.refl (c : CT) : KC c c := fun _ r h => ⟨r, h, Keeps.refl r⟩

end Go.Proofs.YtfbikpbejkgegaaGreat

namespace Go.Proofs.YtfbikpbejkgegaaGreat
open Go Go.Abs Go.Raft
theorem sane34 : m7 ((), ()) = some ((true, ()), ()) := by kernel_rfl

end Go.Proofs.YtfbikpbejkgegaaGreat

namespace Go.Proofs.YtfbikpbejkgegaaGreat
open Go Go.Abs Go.Raft
theorem m23_refl (c : CT) (hs : ShC c) : m23 ((c, c, ()), ()) = some ((true, ()), ()) := by
  have hr := hs.r; have hrl := hs.rl; have hw := hs.w; have hwl := hs.wl; have hdl := hs.dl; have hcl := hs.cl
  obtain ⟨reps, wire, down, cut, ⟨⟩⟩ := c
  simp only [CT.reps, CT.wire, CT.down, CT.cut] at hr hrl hw hwl hdl hcl
  unfold m23
  simp only [sumE, sS, m67_refl wire (by omega) (fun m hm => by have := hw m hm; omega)]
  rw [show loopT l23_0_4 ((0, ()), (((reps, (wire, (down, (cut, ())))), ()), (((reps, (wire, (down, (cut, ())))), ()), ()))) = some (.inr ((), (((reps, wire, down, cut, ()), ()), (((reps, wire, down, cut, ()), ()), ())))) from loop_up (fun i => (((i : Int), ()), (((reps, wire, down, cut, ()), ()), (((reps, wire, down, cut, ()), ()), ())))) _ reps.length (fun i hi => by
    obtain ⟨e, he⟩ := getD_some (l := reps) (i := i) hi
    have hlt : (i : Int) < (reps.length : Int) := by omega
    simp only [l23_0_4, decide_eq_true hlt, sumE, sS]
    rw [rowAt_G, rowG_nat he, rowAt_G, rowG_nat he]
    simp only [m68_refl e (hr e (List.mem_of_getElem? he)), sumE, sS, w64_nat (show i ≤ 4294967296 by omega)]) (by
    have : ¬ (reps.length : Int) < (reps.length : Int) := by omega
    simp only [l23_0_4, decide_eq_false this, sumE, sS]) reps.length 0 (by omega)]
  simp only [sumE, sS]
  rw [show loopT l23_0_9 ((0, ()), (((reps, (wire, (down, (cut, ())))), ()), (((reps, (wire, (down, (cut, ())))), ()), ()))) = some (.inr ((), (((reps, wire, down, cut, ()), ()), (((reps, wire, down, cut, ()), ()), ())))) from loop_up (fun i => (((i : Int), ()), (((reps, wire, down, cut, ()), ()), (((reps, wire, down, cut, ()), ()), ())))) _ down.length (fun i hi => by
    obtain ⟨e, he⟩ := getD_some (l := down) (i := i) hi
    have hlt : (i : Int) < (down.length : Int) := by omega
    simp only [l23_0_9, decide_eq_true hlt, sumE, sS]
    rw [rowAt_G, rowG_nat he, rowAt_G, rowG_nat he]
    simp only [sumE, sS, w64_nat (show i ≤ 4294967296 by omega)]) (by
    have : ¬ (down.length : Int) < (down.length : Int) := by omega
    simp only [l23_0_9, decide_eq_false this, sumE, sS]) down.length 0 (by omega)]
  simp only [sumE, sS]
  rw [show loopT l23_0_14 ((0, ()), (((reps, (wire, (down, (cut, ())))), ()), (((reps, (wire, (down, (cut, ())))), ()), ()))) = some (.inr ((), ())) from loop_up (fun i => (((i : Int), ()), (((reps, wire, down, cut, ()), ()), (((reps, wire, down, cut, ()), ()), ())))) _ cut.length (fun i hi => by
    obtain ⟨e, he⟩ := getD_some (l := cut) (i := i) hi
    have hlt : (i : Int) < (cut.length : Int) := by omega
    simp only [l23_0_14, decide_eq_true hlt, sumE, sS]
    rw [rowAt_G, rowG_nat he, rowAt_G, rowG_nat he]
    simp only [sumE, sS, w64_nat (show i ≤ 4294967296 by omega)]) (by
    have : ¬ (cut.length : Int) < (cut.length : Int) := by omega
    simp only [l23_0_14, decide_eq_false this, sumE, sS]) cut.length 0 (by omega)]
  simp only [sumE, sS]

theorem down_set {c : CT} {i : Int} (i0 : 0 ≤ i) (i1 : i < (c.down.length : Int)) : downAt (cl c.reps c.wire (c.down.set i.toNat true) c.cut) i = true := by
  show ((c.down.set i.toNat true)[i.toNat]?.getD false) = true
  rw [List.getElem?_set_self (by omega)]; rfl

theorem isCut_snoc (l : List CutT) (a b : Int) : isCut (l ++ [(min a b, max a b, ())]) a b = true := by
  unfold isCut
  rw [List.any_append]
  simp

/-- A message to a region that is down, or cut off from its sender, is lost. -/
theorem silent {c : CT} (h : CG c) {k : Int} (k0 : 0 ≤ k) (k1 : k < (c.wire.length : Int)) (hq : downAt c (wireAt c k).to = true ∨ isCut c.cut (wireAt c k).frm (wireAt c k).to = true) :
    deliverC c k = (0, cl c.reps (cutOut c.wire k.toNat) c.down c.cut) ∧ dropC c k = (0, cl c.reps (cutOut c.wire k.toNat) c.down c.cut) := by
  have hw : wireE c k = 0 := wire_iff.2 ⟨h.v, k0, k1⟩
  constructor
  · unfold deliverC
    rw [if_pos hw]
    simp only
    rw [if_pos hq]
  · unfold dropC
    rw [if_pos hw]

theorem silent_mid {c : CT} (h : CG c) {d : Dice} (hd : DOK d) {k : Int} (k0 : 0 ≤ k) (k1 : k < (c.wire.length : Int)) : ∃ v : (Int × Unit) × (MT × Unit) × (CT × Unit) × Unit, ((m17 ((2, ()), ((d, ()), ()))).bind fun u64 =>
bif ((u64.1.1 : Int) == 0) then ((m18 ((c, ((wireAt c k).2.2.1, ())), ())).bind fun u65 =>
bif ((u65.1.1 : Int) == 0) then (some ((k, ()), ((wireAt c k, ()), (((u65.2.2.1, (u65.2.2.2.1, (u65.2.2.2.2.1, (u65.2.2.2.2.2.1, ())))), ()), ()))))
else (some ((k, ()), ((wireAt c k, ()), ((c, ()), ())))))
else ((m19 ((c, ((wireAt c k).2.1, ((wireAt c k).2.2.1, ()))), ())).bind fun u66 =>
bif ((u66.1.1 : Int) == 0) then (some ((k, ()), ((wireAt c k, ()), (((u66.2.2.1, (u66.2.2.2.1, (u66.2.2.2.2.1, (u66.2.2.2.2.2.1, ())))), ()), ()))))
else (some ((k, ()), ((wireAt c k, ()), ((c, ()), ())))))) = some v ∧ ∃ x : CT, v = ((k, ()), ((wireAt c k, ()), ((x, ()), ()))) ∧ CG x ∧ x.wire = c.wire ∧ (downAt x (wireAt c k).to = true ∨ isCut x.cut (wireAt c k).frm (wireAt c k).to = true) := by
  have hs := h.sh
  obtain ⟨m, e1, e1'⟩ := wire_at k0 k1
  rw [e1']
  obtain ⟨f0, f1, t0, t1, hft⟩ := h.v.wm m (List.mem_of_getElem? e1)
  obtain ⟨q, d1, e2, _, _⟩ := next_spec 2 d hd (by omega)
  simp only [e2, Option.bind_some, beq_decide]
  have hdn := h.dn
  by_cases hq : q = 0
  · simp only [hq, decide_true, sumE, sS]
    rw [show m18 ((c, (m.2.2.1, ())), ()) = _ from m18_eq c m.to hs]
    simp only [sumE, sS]
    by_cases h0 : (crashC c m.to).1 = 0
    · have hg := cg_crash h h0
      simp only [h0, decide_true, sumE, sS]
      refine ⟨_, rfl, (crashC c m.to).2, rfl, hg.1, ?_⟩
      unfold crashC at h0 ⊢
      split at h0
      · rename_i hr
        rw [if_pos hr]
        split at h0
        · cases h0
        · rename_i hdo
          rw [if_neg hdo]
          exact ⟨rfl, .inl (down_set t0 (by omega))⟩
      · rename_i hr; exact absurd h0 hr
    · simp only [h0, decide_false, sumE, sS]
      refine ⟨_, rfl, c, rfl, h, rfl, .inl ?_⟩
      unfold crashC at h0
      rw [if_pos (ready_iff.2 ⟨h.v, t0, t1⟩)] at h0
      split at h0
      · assumption
      · exact absurd rfl h0
  · simp only [hq, decide_false, sumE, sS]
    rw [show m19 ((c, (m.2.1, (m.2.2.1, ()))), ()) = _ from m19_eq c m.frm m.to hs]
    simp only [sumE, sS]
    by_cases h0 : (cutC c m.frm m.to).1 = 0
    · have hg := cg_cut h h0
      simp only [h0, decide_true, sumE, sS]
      refine ⟨_, rfl, (cutC c m.frm m.to).2, rfl, hg.1, ?_⟩
      unfold cutC at h0 ⊢
      rw [if_pos (ready_iff.2 ⟨h.v, f0, f1⟩)] at h0 ⊢
      rw [if_pos (inn_iff.2 ⟨t0, by omega⟩), if_neg hft] at h0 ⊢
      split at h0
      · cases h0
      · rename_i hc
        rw [if_neg hc]
        exact ⟨rfl, .inr (isCut_snoc _ _ _)⟩
    · simp only [h0, decide_false, sumE, sS]
      refine ⟨_, rfl, c, rfl, h, rfl, .inr ?_⟩
      unfold cutC at h0
      rw [if_pos (ready_iff.2 ⟨h.v, f0, f1⟩), if_pos (inn_iff.2 ⟨t0, by omega⟩), if_neg hft] at h0
      split at h0
      · assumption
      · exact absurd rfl h0

theorem law4c (l : List Int) : m4 ((l, ()), ()) = some ((true, ()), ()) := by
  unfold m4
  simp only [light, Option.bind_some, sane34]
  by_cases hl : l.length ≤ 500
  · simp only [decide_eq_true hl, sumE, sS, roll]
    obtain ⟨c, d1, e1, h, hd1, _, hwb⟩ := m10_okw 16 (by omega) (by omega) (dok0 hl)
    simp only [e1, sumE, sS, beq_decide]
    by_cases hw : (c.2.1.length : Int) = 0
    · simp only [hw, decide_true, sumE, sS]
    · obtain ⟨k, d2, e2, hd2, hk, _⟩ := next_spec c.wire.length d1 hd1 (by omega)
      have hk := hk (by have : c.wire.length = c.2.1.length := rfl; omega)
      obtain ⟨m, e3, e3'⟩ := wire_at hk.1 hk.2
      simp only [hw, decide_false, sumE, sS]
      rw [show m17 (((c.2.1.length : Int), ()), ((d1, ()), ())) = _ from e2]
      simp only [sumE, sS]
      rw [rowAt_G, rowG_int hk.1 (show c.2.1[k.toNat]? = some m from e3), ← e3']
      obtain ⟨_, e4, x, rfl, hx, hxw, hq⟩ := silent_mid h hd2 hk.1 hk.2
      simp only [beq_decide] at e4
      rw [e4]
      have hwx : wireAt x k = wireAt c k := by unfold wireAt; rw [hxw]
      rw [← hwx] at hq
      have k1 : k < (x.wire.length : Int) := by rw [hxw]; exact hk.2
      obtain ⟨s1, s2⟩ := silent hx hk.1 k1 hq
      have hwe : wireE x k = 0 := wire_iff.2 ⟨hx.v, hk.1, k1⟩
      have hdb : doubleC x k = (0, cl x.reps (x.wire ++ [wireAt x k]) x.down x.cut) := by
        unfold doubleC
        rw [if_pos hwe, if_neg (by rw [hxw]; omega)]
      have g1 : CG (cl x.reps (cutOut x.wire k.toNat) x.down x.cut) := by
        have h0 : (dropC x k).1 = 0 := by rw [s2]
        have := (cg_drop hx h0).1
        rw [s2] at this; exact this
      have hlen : (cutOut x.wire k.toNat).length + 1 = x.wire.length := by
        have hk' : k.toNat < x.wire.length := by omega
        unfold cutOut
        rw [List.length_append, List.length_take, List.length_drop]; omega
      have hmem := hx.we (wireAt x k) (by rw [hwx, e3', hxw]; exact List.mem_of_getElem? e3)
      simp only [sumE, sS, m20_eq x k hx.sh, m21_eq x k hx.sh, m22_eq x k hx.sh, s1, s2, hdb, decide_true]
      rw [show m23 (((x.reps, (cutOut x.wire k.toNat, (x.down, (x.cut, ())))), ((x.reps, (cutOut x.wire k.toNat, (x.down, (x.cut, ())))), ())), ()) = _ from m23_refl _ g1.sh]
      have hwl := hx.wl
      have b1 : decide (((cutOut x.wire k.toNat).length : Int) = w64 ((x.2.1.length : Int) - 1)) = true := decide_eq_true (by
        show _ = w64 ((x.wire.length : Int) - 1)
        rw [w64_id (by omega) (by omega)]; omega)
      have b2 : decide (((x.wire ++ [wireAt x k]).length : Int) = w64 ((x.2.1.length : Int) + 1)) = true := decide_eq_true (by
        show _ = w64 ((x.wire.length : Int) + 1)
        rw [w64_id (by omega) (by omega), List.length_append, List.length_singleton]; omega)
      have b3 : decide ((0 : Int) ≤ (x.2.1.length : Int) ∧ (x.2.1.length : Int) < ((x.wire ++ [wireAt x k]).length : Int)) = true := decide_eq_true ⟨by omega, by
        show (x.wire.length : Int) < _
        rw [List.length_append, List.length_singleton]; omega⟩
      have b4 : (x.wire ++ [wireAt x k])[x.wire.length]? = some (wireAt x k) := by simp
      simp only [sumE, sS, b1, b2, b3]
      rw [show ((x.2.1.length : Int)).toNat = x.wire.length from Int.toNat_natCast _]
      simp only [CT.wire] at b4
      simp only [CT.wire, b4, sumE, sS]
      rw [← hwx]
      rw [show m24 ((wireAt x k, (wireAt x k, ())), ()) = _ from m24_refl _ (by omega)]
      simp only [sumE, sS]
  · simp only [decide_eq_false hl, sumE, sS]

theorem law4 : ∀ x, Abs.InRs [.row (.int .i64)] x → m4 (x, ()) = some ((true, ()), ()) := fun x _ => law4c x.1

end Go.Proofs.YtfbikpbejkgegaaGreat
