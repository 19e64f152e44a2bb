/- Lemmas for the statement of the last text of this claim. -/
import Derived.Test.YtfbikpbejkgegaaChecked
import Derived.Test.YtfbikpbejkgegaaPxL
import Derived.ProofKit
import Derived.Test.YtfbikpbejkgegaaPxK
import Derived.Test.YtfbikpbejkgegaaV4C
set_option linter.unusedSimpArgs false
set_option linter.unusedVariables false
namespace Go.Proofs.Ytfbikpbejkgegaa
open Go Go.Abs Go.Raft
/-! ### Cuts are few -/
theorem nodup_lt : ∀ (N : Nat) (l : List Nat), l.Nodup → (∀ x ∈ l, x < N) → l.length ≤ N := by
  intro N
  induction N with
  | zero =>
    intro l _ h
    cases l with
    | nil => simp
    | cons a l => exact absurd (h a (by simp)) (by omega)
  | succ N ih =>
    intro l hn h
    by_cases hm : N ∈ l
    · have h1 := ih (l.erase N) (hn.erase N) (fun x hx => by
        have h2 := h x (List.mem_of_mem_erase hx)
        have h3 : x ≠ N := fun e => by subst e; exact (hn.not_mem_erase hx).elim
        omega)
      rw [List.length_erase_of_mem hm] at h1
      omega
    · have := ih l hn (fun x hx => by
        have h2 := h x hx
        have h3 : x ≠ N := fun e => hm (e ▸ hx)
        omega)
      omega

def key (p : CutT) : Nat := p.1.toNat * 8 + p.2.1.toNat

theorem cuts_nodup {n : Int} (hn : n ≤ 5) : ∀ {l pre : List CutT}, (pre.map key).Nodup → (∀ p ∈ pre, cutOK1 n p = true) → cutsOK n pre l = true → ((pre ++ l).map key).Nodup ∧ ∀ p ∈ pre ++ l, cutOK1 n p = true := by
  intro l
  induction l with
  | nil => intro pre h1 h2 _; rw [List.append_nil]; exact ⟨h1, h2⟩
  | cons x l ih =>
    intro pre h1 h2 h
    simp only [cutsOK, Bool.and_eq_true, Bool.not_eq_true'] at h
    obtain ⟨⟨hx, hic⟩, hl⟩ := h
    have hx' := hx
    simp only [cutOK1, Bool.and_eq_true, decide_eq_true_eq] at hx'
    have := ih (pre := pre ++ [x]) (by
      rw [List.map_append, List.nodup_append]
      refine ⟨h1, by simp, fun a ha b hb => ?_⟩
      simp at hb
      subst hb
      obtain ⟨p, hp, rfl⟩ := List.mem_map.1 ha
      have hp1 := h2 p hp
      simp only [cutOK1, Bool.and_eq_true, decide_eq_true_eq] at hp1
      intro e
      unfold key at e
      have e1 : p.1 = x.1 := by omega
      have e2 : p.2.1 = x.2.1 := by omega
      have : isCut pre x.1 x.2.1 = true := by
        unfold isCut
        rw [List.any_eq_true]
        refine ⟨p, hp, ?_⟩
        rw [Bool.and_eq_true, decide_eq_true_eq, decide_eq_true_eq]
        omega
      rw [hic] at this; cases this) (fun p hp => by
      rcases List.mem_append.1 hp with hp | hp
      · exact h2 p hp
      · simp at hp; subst hp; exact hx) hl
    rw [List.append_assoc, List.singleton_append] at this
    exact this

theorem cuts_len {n : Int} (hn : n ≤ 5) {l : List CutT} (h : cutsOK n [] l = true) : l.length ≤ 48 := by
  obtain ⟨h1, h2⟩ := cuts_nodup (pre := []) hn (by simp) (by simp) h
  rw [List.nil_append] at h1 h2
  have := nodup_lt 48 (l.map key) h1 (fun x hx => by
    obtain ⟨p, hp, rfl⟩ := List.mem_map.1 hx
    have := h2 p hp
    simp only [cutOK1, Bool.and_eq_true, decide_eq_true_eq] at this
    unfold key; omega)
  simpa using this

theorem cutsOK_snoc {n : Int} : ∀ {l pre : List CutT} {x : CutT}, cutsOK n pre l = true → cutOK1 n x = true → isCut (pre ++ l) x.1 x.2.1 = false → cutsOK n pre (l ++ [x]) = true := by
  intro l
  induction l with
  | nil =>
    intro pre x _ h2 h3
    rw [List.append_nil] at h3
    simp [cutsOK, h2, h3]
  | cons y l ih =>
    intro pre x h1 h2 h3
    simp only [cutsOK, Bool.and_eq_true, List.cons_append] at h1 ⊢
    exact ⟨h1.1, ih h1.2 h2 (by rw [List.append_assoc, List.singleton_append]; exact h3)⟩

/-! ### Good clusters -/
structure CG (c : CT) : Prop where
  n1 : 1 ≤ c.reps.length
  n5 : c.reps.length ≤ 5
  dn : c.down.length = c.reps.length
  wl : c.wire.length ≤ 256
  wm : ∀ m ∈ c.wire, 0 ≤ m.frm ∧ m.frm < (c.reps.length : Int) ∧ 0 ≤ m.to ∧ m.to < (c.reps.length : Int) ∧ m.frm ≠ m.to
  we : ∀ m ∈ c.wire, m.ents.length ≤ 256
  cs : cutsOK (c.reps.length : Int) [] c.cut = true
  gd : ∃ g, Inv c.reps.length c.reps g ∧ ∀ m ∈ c.wire, MsgOK c.reps.length g m

theorem CG.v {c : CT} (h : CG c) : VC c := by
  obtain ⟨g, hi, _⟩ := h.gd
  exact ⟨h.n1, h.n5, h.dn, h.wl, fun j r hj => ⟨(hi.nod j r hj).id, (hi.nod j r hj).chk⟩, h.wm, h.cs⟩

theorem VC.sh {c : CT} (V : VC c) (we : ∀ m ∈ c.wire, m.ents.length ≤ 1000000) : ShC c := by
  have h1 := V.n5
  have h2 := V.wl
  have h3 := V.dn
  have h4 := cuts_len (by omega) V.cs
  refine ⟨fun r hr => ?_, by omega, we, by omega, by omega, by omega⟩
  obtain ⟨j, hj⟩ := List.mem_iff_getElem?.1 hr
  exact shrt_of (V.rp j r hj).2

theorem CG.sh {c : CT} (h : CG c) : ShC c := h.v.sh fun m hm => by have := h.we m hm; omega

theorem CG.put {c : CT} (h : CG c) {reps' : List RT} {new : List MT} (hl : reps'.length = c.reps.length)
    (hs : ∀ g, Inv c.reps.length c.reps g → (∀ m ∈ c.wire, MsgOK c.reps.length g m) → Step c.reps.length g reps' new)
    {w' : List MT} (hw : ∀ m ∈ w', m ∈ c.wire ∨ m ∈ new)
    (hn : ∀ m ∈ new, (0 ≤ m.frm ∧ m.frm < (c.reps.length : Int) ∧ 0 ≤ m.to ∧ m.to < (c.reps.length : Int) ∧ m.frm ≠ m.to) ∧ m.ents.length ≤ 256)
    (hwl : w'.length ≤ 256) {down' : List Bool} (hd : down'.length = c.reps.length) {cut' : List CutT} (hc : cutsOK (c.reps.length : Int) [] cut' = true) : CG (cl reps' w' down' cut') := by
  obtain ⟨g, hi, hm⟩ := h.gd
  obtain ⟨g', a, b, d⟩ := hs g hi hm
  have h1 := h.n1
  have h5 := h.n5
  refine ⟨by show 1 ≤ reps'.length; omega, by show reps'.length ≤ 5; omega, by show down'.length = reps'.length; omega, hwl, ?_, ?_, by show cutsOK (reps'.length : Int) [] cut' = true; rw [hl]; exact hc, ?_⟩
  · intro m hm'
    show _ ∧ m.frm < (reps'.length : Int) ∧ _ ∧ m.to < (reps'.length : Int) ∧ _
    rw [hl]
    rcases hw m hm' with hm' | hm'
    · exact h.wm m hm'
    · exact (hn m hm').1
  · intro m hm'
    rcases hw m hm' with hm' | hm'
    · exact h.we m hm'
    · exact (hn m hm').2
  · show ∃ g, Inv reps'.length reps' g ∧ ∀ m ∈ w', MsgOK reps'.length g m
    rw [hl]
    refine ⟨g', a, fun m hm' => ?_⟩
    rcases hw m hm' with hm' | hm'
    · exact b m (hm m hm')
    · exact d m hm'

theorem CG.same {c : CT} (h : CG c) {w' : List MT} (hw : ∀ m ∈ w', m ∈ c.wire) (hwl : w'.length ≤ 256) {down' : List Bool} (hd : down'.length = c.reps.length) {cut' : List CutT} (hc : cutsOK (c.reps.length : Int) [] cut' = true) : CG (cl c.reps w' down' cut') :=
  h.put rfl (fun g hi _ => hi.refl) (new := []) (fun m hm => .inl (hw m hm)) (fun m hm => by cases hm) hwl hd hc

theorem CG.id {c : CT} (h : CG c) {i : Int} {r : RT} (hr : c.reps[i.toNat]? = some r) (i0 : 0 ≤ i) : r.id = i := by
  have := (h.v.rp _ _ hr).1; omega

theorem cg_stand {c : CT} (h : CG c) {i : Int} (h0 : (standC c i).1 = 0) : CG (standC c i).2 ∧ (standC c i).2.reps.length = c.reps.length := by
  unfold standC at h0 ⊢
  by_cases hr : readyE c i = 0
  · obtain ⟨V, i0, i1⟩ := ready_iff.1 hr
    obtain ⟨r, e1, e1'⟩ := rep_at i0 i1
    rw [if_pos hr] at h0 ⊢
    rw [e1'] at h0 ⊢
    split at h0
    · cases h0
    · rename_i hd
      rw [if_neg hd]
      simp only at h0 ⊢
      split at h0
      · rename_i hs
        rw [if_pos hs]
        split at h0
        · cases h0
        · rename_i hg
          rw [if_neg hg]
          have hid := h.id e1 i0
          have hC := (V.rp _ _ e1).2
          unfold stand at hs hg ⊢
          rw [if_pos (chk_iff.2 hC)] at hs hg ⊢
          split at hs
          · cases hs
          · rename_i ht
            rw [if_neg ht] at hg ⊢
            simp only at hg ⊢
            refine ⟨h.put (by simp) (fun g hi _ => hi.standS e1 ht) (new := asks (c.reps.length : Int) r) (fun m hm => List.mem_append.1 hm) ?_ (by show (c.wire ++ asks (c.reps.length : Int) r).length ≤ 256; rw [List.length_append]; omega) h.dn h.cs, List.length_set⟩
            intro m hm
            simp only [asks, List.mem_map, List.mem_filter, List.mem_range, decide_eq_true_eq] at hm
            obtain ⟨j, ⟨hj1, hj2⟩, rfl⟩ := hm
            simp only [mg_frm, mg_to, mg_ents]
            refine ⟨⟨by omega, by omega, by omega, by omega, fun e => hj2 e.symm⟩, by simp⟩
      · rename_i hs
        exact absurd h0 hs
  · rw [if_neg hr] at h0
    exact absurd h0 hr

theorem cg_propose {c : CT} (h : CG c) {i : Int} {o : OpT} (h0 : (proposeC c i o).1 = 0) : CG (proposeC c i o).2 ∧ (proposeC c i o).2.reps.length = c.reps.length := by
  unfold proposeC at h0 ⊢
  by_cases hr : readyE c i = 0
  · obtain ⟨V, i0, i1⟩ := ready_iff.1 hr
    obtain ⟨r, e1, e1'⟩ := rep_at i0 i1
    rw [if_pos hr] at h0 ⊢
    rw [e1'] at h0 ⊢
    split at h0
    · cases h0
    · rename_i hd
      rw [if_neg hd]
      simp only at h0 ⊢
      split at h0
      · rename_i hs
        rw [if_pos hs]
        unfold proposeE at hs ⊢
        have hC := (V.rp _ _ e1).2
        rw [if_pos (chk_iff.2 hC)] at hs ⊢
        split at hs
        · rename_i h2
          rw [if_pos h2]
          split at hs
          · cases hs
          · rename_i hh
            rw [if_neg hh]
            split at hs
            · rename_i hl
              rw [if_pos hl]
              exact ⟨h.put (by simp) (fun g hi _ => hi.proposeS e1 h2 hl o) (new := []) (fun m hm => .inl hm) (fun m hm => by cases hm) h.wl h.dn h.cs, List.length_set⟩
            · cases hs
        · cases hs
      · rename_i hs
        exact absurd h0 hs
  · rw [if_neg hr] at h0
    exact absurd h0 hr

theorem cg_beat {c : CT} (h : CG c) {i : Int} (h0 : (beatC c i).1 = 0) : CG (beatC c i).2 ∧ (beatC c i).2.reps = c.reps := by
  unfold beatC at h0 ⊢
  by_cases hr : readyE c i = 0
  · obtain ⟨V, i0, i1⟩ := ready_iff.1 hr
    obtain ⟨r, e1, e1'⟩ := rep_at i0 i1
    rw [if_pos hr] at h0 ⊢
    rw [e1'] at h0 ⊢
    split at h0
    · cases h0
    · rename_i hd
      rw [if_neg hd]
      split at h0
      · rename_i h2
        rw [if_pos h2]
        simp only at h0 ⊢
        split at h0
        · cases h0
        · rename_i hg
          rw [if_neg hg]
          have hid := h.id e1 i0
          have hC := (V.rp _ _ e1).2
          unfold appendsE at hg ⊢
          rw [if_pos ⟨chk_iff.2 hC, h2⟩] at hg ⊢
          refine ⟨h.put rfl (fun g hi _ => ⟨g, hi, fun _ h => h, hi.appends e1 h2⟩) (new := appends (c.reps.length : Int) r) (fun m hm => List.mem_append.1 hm) ?_ (by simp only [List.length_append]; omega) h.dn h.cs, rfl⟩
          intro m hm
          simp only [appends, List.mem_map, List.mem_filter, List.mem_range, decide_eq_true_eq] at hm
          obtain ⟨j, ⟨hj1, hj2⟩, rfl⟩ := hm
          simp only [mg_frm, mg_to, mg_ents]
          have := hC.ll
          refine ⟨⟨by omega, by omega, by omega, by omega, fun e => hj2 e.symm⟩, by simp only [List.length_drop]; omega⟩
      · cases h0
  · rw [if_neg hr] at h0
    exact absurd h0 hr

theorem cutOut_mem {l : List MT} {k : Nat} {m : MT} (h : m ∈ cutOut l k) : m ∈ l := by
  rcases List.mem_append.1 h with h | h
  · exact List.mem_of_mem_take h
  · exact List.mem_of_mem_drop h

theorem cutOut_len {l : List MT} {k : Nat} (h : k < l.length) : (cutOut l k).length = l.length - 1 := by
  unfold cutOut; simp; omega

theorem cg_drop {c : CT} (h : CG c) {k : Int} (h0 : (dropC c k).1 = 0) : CG (dropC c k).2 ∧ (dropC c k).2.reps = c.reps := by
  unfold dropC at h0 ⊢
  split at h0
  · rename_i hr
    rw [if_pos hr]
    obtain ⟨V, k0, k1⟩ := wire_iff.1 hr
    have := h.wl
    exact ⟨h.same (fun m hm => cutOut_mem hm) (by rw [cutOut_len (by omega)]; omega) h.dn h.cs, rfl⟩
  · rename_i hr; exact absurd h0 hr

theorem cg_double {c : CT} (h : CG c) {k : Int} (h0 : (doubleC c k).1 = 0) : CG (doubleC c k).2 ∧ (doubleC c k).2.reps = c.reps := by
  unfold doubleC at h0 ⊢
  split at h0
  · rename_i hr
    rw [if_pos hr]
    split at h0
    · cases h0
    · rename_i hg
      rw [if_neg hg]
      obtain ⟨V, k0, k1⟩ := wire_iff.1 hr
      obtain ⟨m, e1, e1'⟩ := wire_at k0 k1
      rw [e1']
      refine ⟨h.same (fun x hx => ?_) (by simp; omega) h.dn h.cs, rfl⟩
      rcases List.mem_append.1 hx with hx | hx
      · exact hx
      · simp at hx; subst hx; exact List.mem_of_getElem? e1
  · rename_i hr; exact absurd h0 hr

theorem hearAny_step {n : Nat} {reps : List RT} {g : Gh OpT} (hi : Inv n reps g) {i : Nat} {r : RT} (h : reps[i]? = some r) {m : MT} (hm : MsgOK n g m) :
    Step n g (reps.set i (hearAny (n : Int) r m).1) (if (hearAny (n : Int) r m).2.2 then [(hearAny (n : Int) r m).2.1] else []) := by
  unfold hearAny
  split
  · exact hi.hearS h hm
  split
  · exact hi.votedS h hm
  split
  · exact hi.acceptS h hm
  split
  · exact hi.appendedS h hm
  · exact hi.stay h

theorem hearAny_reply {n : Int} {r : RT} {m : MT} (h : (hearAny n r m).2.2 = true) : (hearAny n r m).2.1.frm = r.id ∧ (hearAny n r m).2.1.to = m.frm ∧ (hearAny n r m).2.1.ents = [] ∧ ((hearAny n r m).2.1.kind = 2 ∨ (hearAny n r m).2.1.kind = 4) ∧ (m.kind = 1 ∨ m.kind = 3) := by
  unfold hearAny at h ⊢
  by_cases h1 : m.kind = 1
  · rw [if_pos h1] at h ⊢
    unfold hear at h ⊢
    split
    · exact ⟨rfl, rfl, rfl, .inl rfl, .inl h1⟩
    · rename_i ho; rw [if_neg ho] at h; cases h
  rw [if_neg h1] at h ⊢
  by_cases h2 : m.kind = 2
  · rw [if_pos h2] at h; cases h
  rw [if_neg h2] at h ⊢
  by_cases h3 : m.kind = 3
  · rw [if_pos h3] at h ⊢
    unfold accept at h ⊢
    split
    · rename_i ha
      rw [if_pos ha] at h
      simp only at h ⊢
      split
      · rename_i hf
        rw [if_pos hf] at h
        split
        · exact ⟨rfl, rfl, rfl, .inr rfl, .inr h3⟩
        · rename_i hj; rw [if_neg hj] at h; cases h
      · exact ⟨rfl, rfl, rfl, .inr rfl, .inr h3⟩
    · rename_i ha; rw [if_neg ha] at h; cases h
  rw [if_neg h3] at h
  by_cases h4 : m.kind = 4
  · rw [if_pos h4] at h; cases h
  · rw [if_neg h4] at h; cases h

def weight (l : List MT) : Nat := (l.map fun m => if m.kind = 1 ∨ m.kind = 3 then 2 else 1).sum

theorem weight_append (a b : List MT) : weight (a ++ b) = weight a + weight b := by unfold weight; rw [List.map_append, List.sum_append]

theorem weight_pos (m : MT) (l : List MT) : weight (m :: l) = (if m.kind = 1 ∨ m.kind = 3 then 2 else 1) + weight l := by unfold weight; rw [List.map_cons, List.sum_cons]

theorem weight_cut {l : List MT} {k : Nat} {m : MT} (h : l[k]? = some m) : weight l = weight (cutOut l k) + (if m.kind = 1 ∨ m.kind = 3 then 2 else 1) := by
  have hk := (List.getElem?_eq_some_iff.1 h).1
  have e : l = l.take k ++ m :: l.drop (k + 1) := by
    conv => lhs; rw [← List.take_append_drop k l]
    rw [List.drop_eq_getElem_cons hk, (List.getElem?_eq_some_iff.1 h).2]
  conv => lhs; rw [e]
  rw [weight_append, weight_pos]
  unfold cutOut
  rw [weight_append]
  omega

theorem cg_deliver {c : CT} (h : CG c) {k : Int} (h0 : (deliverC c k).1 = 0) : CG (deliverC c k).2 ∧ (deliverC c k).2.reps.length = c.reps.length ∧ weight (deliverC c k).2.wire < weight c.wire ∧ (deliverC c k).2.down = c.down ∧ (deliverC c k).2.cut = c.cut := by
  unfold deliverC at h0 ⊢
  split at h0
  · rename_i hr
    rw [if_pos hr]
    obtain ⟨V, k0, k1⟩ := wire_iff.1 hr
    obtain ⟨m, e1, e1'⟩ := wire_at k0 k1
    rw [e1']
    have hmm := List.mem_of_getElem? e1
    obtain ⟨f0, f1, t0, t1, hft⟩ := V.wm m hmm
    have hwl := h.wl
    have hcl := cutOut_len (l := c.wire) (k := k.toNat) (by omega)
    have hwt := weight_cut e1
    simp only
    split
    · refine ⟨h.same (fun m hm => cutOut_mem hm) (by omega) h.dn h.cs, rfl, ?_, rfl, rfl⟩
      show weight (cutOut c.wire k.toNat) < _
      rw [hwt]; split <;> omega
    · obtain ⟨r, e2, e2'⟩ := rep_at t0 t1
      rw [e2']
      have hid := h.id e2 t0
      have hC := (V.rp _ _ e2).2
      have hrep := hearAny_reply (n := (c.reps.length : Int)) (r := r) (m := m)
      refine ⟨h.put (by simp) (fun g hi hm => hearAny_step hi e2 (hm m hmm)) (fun x hx => (List.mem_append.1 hx).imp (fun a => cutOut_mem a) (fun a => a)) ?_ ?_ h.dn h.cs, List.length_set, ?_, rfl, rfl⟩
      · intro x hx
        cases hb : (hearAny (c.reps.length : Int) r m).2.2
        · rw [hb] at hx; simp at hx
        · rw [hb] at hx
          simp at hx
          subst hx
          obtain ⟨a1, a2, a3, _, _⟩ := hrep hb
          rw [a1, a2, a3, hid]
          exact ⟨⟨t0, t1, f0, f1, fun e => hft e.symm⟩, by simp⟩
      · rw [List.length_append, hcl]
        split <;> simp <;> omega
      · show weight (cutOut c.wire k.toNat ++ _) < _
        rw [weight_append, hwt]
        cases hb : (hearAny (c.reps.length : Int) r m).2.2
        · simp only [Bool.false_eq_true, if_false]
          show weight (cutOut c.wire k.toNat) + weight [] < _
          have : weight [] = 0 := rfl
          split <;> omega
        · obtain ⟨_, _, _, a4, a5⟩ := hrep hb
          simp only [if_true]
          rw [if_pos a5, weight_pos, if_neg (by omega)]
          have : weight [] = 0 := rfl
          omega
  · rename_i hr; exact absurd h0 hr

theorem cg_crash {c : CT} (h : CG c) {i : Int} (h0 : (crashC c i).1 = 0) : CG (crashC c i).2 ∧ (crashC c i).2.reps = c.reps := by
  unfold crashC at h0 ⊢
  split at h0
  · rename_i hr
    rw [if_pos hr]
    split at h0
    · cases h0
    · rename_i hd
      rw [if_neg hd]
      exact ⟨h.same (fun m hm => hm) h.wl (by simp [h.dn]) h.cs, rfl⟩
  · rename_i hr; exact absurd h0 hr

theorem cg_restart {c : CT} (h : CG c) {i : Int} (h0 : (restartC c i).1 = 0) : CG (restartC c i).2 ∧ (restartC c i).2.reps.length = c.reps.length := by
  unfold restartC at h0 ⊢
  split at h0
  · rename_i hr
    rw [if_pos hr]
    split at h0
    · rename_i hd
      rw [if_pos hd]
      obtain ⟨V, i0, i1⟩ := ready_iff.1 hr
      obtain ⟨r, e1, e1'⟩ := rep_at i0 i1
      rw [e1']
      unfold restartE
      rw [if_pos (chk_iff.2 (V.rp _ _ e1).2)]
      exact ⟨h.put (by simp) (fun g hi _ => (hi.restart e1).refl) (new := []) (fun m hm => .inl hm) (fun m hm => by cases hm) h.wl (by simp [h.dn]) h.cs, List.length_set⟩
    · cases h0
  · rename_i hr; exact absurd h0 hr

theorem isCut_mm (l : List CutT) (i j : Int) : isCut l (min i j) (max i j) = isCut l i j := by
  unfold isCut
  rw [show min (min i j) (max i j) = min i j by omega, show max (min i j) (max i j) = max i j by omega]

theorem cg_cut {c : CT} (h : CG c) {i j : Int} (h0 : (cutC c i j).1 = 0) : CG (cutC c i j).2 ∧ (cutC c i j).2.reps = c.reps := by
  unfold cutC at h0 ⊢
  split at h0
  · rename_i hr
    rw [if_pos hr]
    obtain ⟨V, i0, i1⟩ := ready_iff.1 hr
    split at h0
    · rename_i hj
      rw [if_pos hj]
      rw [inn_iff] at hj
      split at h0
      · cases h0
      · rename_i hij
        rw [if_neg hij]
        split at h0
        · cases h0
        · rename_i hic
          rw [if_neg hic]
          refine ⟨h.same (fun m hm => hm) h.wl h.dn (cutsOK_snoc h.cs ?_ ?_), rfl⟩
          · simp only [cutOK1, Bool.and_eq_true, decide_eq_true_eq]
            omega
          · rw [List.nil_append, isCut_mm]
            simpa using hic
    · cases h0
  · rename_i hr; exact absurd h0 hr

theorem cg_heal {c : CT} (h : CG c) : CG (healC c) ∧ (healC c).reps = c.reps ∧ (healC c).wire = c.wire ∧ (healC c).down = c.down := by
  unfold healC
  rw [if_pos (chkC_iff.2 h.v)]
  exact ⟨h.same (fun m hm => hm) h.wl h.dn rfl, rfl, rfl, rfl⟩

theorem cg_new {n : Int} (h1 : 1 ≤ n) (h5 : n ≤ 5) : CG (newC n) ∧ (newC n).reps.length = n.toNat := by
  have hl : (newC n).reps.length = n.toNat := by show ((List.range n.toNat).map (rep0 : Nat → RT)).length = n.toNat; simp
  refine ⟨⟨by rw [hl]; omega, by rw [hl]; omega, by rw [hl]; show (List.replicate n.toNat false).length = n.toNat; simp, Nat.zero_le _, fun m hm => (by cases hm), fun m hm => (by cases hm), rfl, ?_⟩, hl⟩
  rw [hl]
  exact ⟨_, inv0 (by omega), fun m hm => (by cases hm)⟩

/-! ### Terms -/
def TB (c : CT) (T : Int) : Prop := (∀ r ∈ c.reps, r.term ≤ T) ∧ ∀ m ∈ c.wire, m.term ≤ T

theorem TB.le {c : CT} {T U : Int} (h : TB c T) (hu : T ≤ U) : TB c U := ⟨fun r hr => by have := h.1 r hr; omega, fun m hm => by have := h.2 m hm; omega⟩

theorem TB.put {c : CT} {T U : Int} (h : TB c T) (hu : T ≤ U) {i : Nat} {r' : RT} (hr : r'.term ≤ U) {w' : List MT} (hw : ∀ m ∈ w', m ∈ c.wire ∨ m.term ≤ U) {d : List Bool} {k : List CutT} : TB (cl (c.reps.set i r') w' d k) U := by
  refine ⟨fun r hr' => ?_, fun m hm => ?_⟩
  · rcases List.mem_or_eq_of_mem_set hr' with hr' | hr'
    · have := h.1 r hr'; omega
    · subst hr'; exact hr
  · rcases hw m hm with hm | hm
    · have := h.2 m hm; omega
    · exact hm

theorem TB.same {c : CT} {T : Int} (h : TB c T) {w' : List MT} (hw : ∀ m ∈ w', m ∈ c.wire ∨ m.term ≤ T) {d : List Bool} {k : List CutT} : TB (cl c.reps w' d k) T := by
  refine ⟨h.1, fun m hm => ?_⟩
  rcases hw m hm with hm | hm
  · exact h.2 m hm
  · exact hm

theorem fol_term (r : RT) (t : Int) : (fol r t).term ≤ max r.term t := by
  unfold fol; split
  · show t ≤ _; omega
  · omega

theorem back_term' (r : RT) (t : Int) : (back r t).term ≤ max r.term t := by
  have := fol_term r t
  unfold back; simp only; split
  · exact this
  · exact this

theorem hearAny_term (n : Int) (r : RT) (m : MT) : (hearAny n r m).1.term ≤ max r.term m.term ∧ ((hearAny n r m).2.2 = true → (hearAny n r m).2.1.term ≤ max r.term m.term) := by
  have hf := fol_term r m.term
  have hb := back_term' r m.term
  have hs : r.term ≤ max r.term m.term := by omega
  unfold hearAny
  split
  · unfold hear
    split
    · refine ⟨?_, fun _ => hf⟩
      unfold hearR; simp only; split
      · exact hf
      · exact hf
    · exact ⟨hs, fun h => by cases h⟩
  split
  · refine ⟨?_, fun h => by cases h⟩
    show (voted n r m).term ≤ _
    unfold voted; split
    · split
      · exact hf
      · split
        · unfold votedR; simp only; split <;> exact hs
        · exact hs
    · exact hs
  split
  · unfold accept
    split
    · simp only
      split
      · split
        · exact ⟨hb, fun _ => hb⟩
        · exact ⟨hs, fun h => by cases h⟩
      · exact ⟨hb, fun _ => hb⟩
    · exact ⟨hs, fun h => by cases h⟩
  split
  · refine ⟨?_, fun h => by cases h⟩
    show (appended n r m).term ≤ _
    unfold appended; split
    · split
      · exact hf
      · split
        · exact hs
        · exact hs
    · exact hs
  · exact ⟨hs, fun h => by cases h⟩

theorem tb_stand {c : CT} {T : Int} (h : CG c) (ht : TB c T) {i : Int} (h0 : (standC c i).1 = 0) : TB (standC c i).2 (T + 1) := by
  unfold standC at h0 ⊢
  by_cases hr : readyE c i = 0
  · obtain ⟨V, i0, i1⟩ := ready_iff.1 hr
    obtain ⟨r, e1, e1'⟩ := rep_at i0 i1
    have htr := ht.1 r (List.mem_of_getElem? e1)
    rw [if_pos hr] at h0 ⊢
    rw [e1'] at h0 ⊢
    split at h0
    · cases h0
    · rename_i hd
      rw [if_neg hd]
      simp only at h0 ⊢
      split at h0
      · rename_i hs
        rw [if_pos hs]
        split at h0
        · cases h0
        · rename_i hg
          rw [if_neg hg]
          have hC := (V.rp _ _ e1).2
          unfold stand at hs ⊢
          rw [if_pos (chk_iff.2 hC)] at hs ⊢
          split at hs
          · cases hs
          · rename_i htm
            rw [if_neg htm]
            refine ht.put (by omega) ?_ (fun m hm => (List.mem_append.1 hm).imp id fun hm => ?_)
            · show (standR _ r).term ≤ _
              unfold standR; simp only; split <;> (show r.term + 1 ≤ T + 1; omega)
            · simp only [asks, List.mem_map] at hm
              obtain ⟨j, _, rfl⟩ := hm
              show r.term + 1 ≤ T + 1; omega
      · rename_i hs
        exact absurd h0 hs
  · rw [if_neg hr] at h0
    exact absurd h0 hr

theorem tb_propose {c : CT} {T : Int} (h : CG c) (ht : TB c T) {i : Int} {o : OpT} (h0 : (proposeC c i o).1 = 0) : TB (proposeC c i o).2 T := by
  unfold proposeC at h0 ⊢
  by_cases hr : readyE c i = 0
  · obtain ⟨V, i0, i1⟩ := ready_iff.1 hr
    obtain ⟨r, e1, e1'⟩ := rep_at i0 i1
    have htr := ht.1 r (List.mem_of_getElem? e1)
    rw [if_pos hr] at h0 ⊢
    rw [e1'] at h0 ⊢
    split at h0
    · cases h0
    · rename_i hd
      rw [if_neg hd]
      simp only at h0 ⊢
      split at h0
      · rename_i hs
        rw [if_pos hs]
        refine ht.put (Int.le_refl _) ?_ (fun m hm => .inl hm)
        unfold proposeE at hs ⊢
        rw [if_pos (chk_iff.2 (V.rp _ _ e1).2)] at hs ⊢
        split at hs
        · rename_i h2
          rw [if_pos h2]
          split at hs
          · cases hs
          · rename_i hh
            rw [if_neg hh]
            split at hs
            · rename_i hl
              rw [if_pos hl]
              exact htr
            · cases hs
        · cases hs
      · rename_i hs
        exact absurd h0 hs
  · rw [if_neg hr] at h0
    exact absurd h0 hr

theorem tb_beat {c : CT} {T : Int} (ht : TB c T) {i : Int} (h0 : (beatC c i).1 = 0) : TB (beatC c i).2 T := by
  unfold beatC at h0 ⊢
  by_cases hr : readyE c i = 0
  · obtain ⟨V, i0, i1⟩ := ready_iff.1 hr
    obtain ⟨r, e1, e1'⟩ := rep_at i0 i1
    have htr := ht.1 r (List.mem_of_getElem? e1)
    rw [if_pos hr] at h0 ⊢
    rw [e1'] at h0 ⊢
    split at h0
    · cases h0
    · rename_i hd
      rw [if_neg hd]
      split at h0
      · rename_i h2
        rw [if_pos h2]
        simp only at h0 ⊢
        split at h0
        · cases h0
        · rename_i hg
          rw [if_neg hg]
          refine ht.same fun m hm => (List.mem_append.1 hm).imp id fun hm => ?_
          unfold appendsE at hm
          split at hm
          · simp only [appends, List.mem_map] at hm
            obtain ⟨j, _, rfl⟩ := hm
            exact htr
          · cases hm
      · cases h0
  · rw [if_neg hr] at h0
    exact absurd h0 hr

theorem tb_drop {c : CT} {T : Int} (ht : TB c T) {k : Int} (h0 : (dropC c k).1 = 0) : TB (dropC c k).2 T := by
  unfold dropC at h0 ⊢
  split at h0
  · rename_i hr
    rw [if_pos hr]
    exact ht.same fun m hm => .inl (cutOut_mem hm)
  · rename_i hr; exact absurd h0 hr

theorem tb_double {c : CT} {T : Int} (ht : TB c T) {k : Int} (h0 : (doubleC c k).1 = 0) : TB (doubleC c k).2 T := by
  unfold doubleC at h0 ⊢
  split at h0
  · rename_i hr
    rw [if_pos hr]
    split at h0
    · cases h0
    · rename_i hg
      rw [if_neg hg]
      obtain ⟨V, k0, k1⟩ := wire_iff.1 hr
      obtain ⟨m, e1, e1'⟩ := wire_at k0 k1
      rw [e1']
      refine ht.same fun x hx => (List.mem_append.1 hx).imp id fun hx => ?_
      simp at hx; subst hx
      exact ht.2 _ (List.mem_of_getElem? e1)
  · rename_i hr; exact absurd h0 hr

theorem tb_deliver {c : CT} {T : Int} (ht : TB c T) {k : Int} (h0 : (deliverC c k).1 = 0) : TB (deliverC c k).2 T := by
  unfold deliverC at h0 ⊢
  split at h0
  · rename_i hr
    rw [if_pos hr]
    obtain ⟨V, k0, k1⟩ := wire_iff.1 hr
    obtain ⟨m, e1, e1'⟩ := wire_at k0 k1
    rw [e1']
    have hmm := List.mem_of_getElem? e1
    obtain ⟨_, _, t0, t1, _⟩ := V.wm m hmm
    simp only
    split
    · exact ht.same fun m hm => .inl (cutOut_mem hm)
    · obtain ⟨r, e2, e2'⟩ := rep_at t0 t1
      rw [e2']
      have h1 := ht.1 r (List.mem_of_getElem? e2)
      have h2 := ht.2 m hmm
      obtain ⟨a1, a2⟩ := hearAny_term (c.reps.length : Int) r m
      refine ht.put (Int.le_refl _) (by omega) fun x hx => (List.mem_append.1 hx).imp (fun a => cutOut_mem a) fun hx => ?_
      cases hb : (hearAny (c.reps.length : Int) r m).2.2
      · rw [hb] at hx; simp at hx
      · rw [hb] at hx
        simp at hx
        subst hx
        have := a2 hb
        omega
  · rename_i hr; exact absurd h0 hr

theorem tb_crash {c : CT} {T : Int} (ht : TB c T) {i : Int} (h0 : (crashC c i).1 = 0) : TB (crashC c i).2 T := by
  unfold crashC at h0 ⊢
  split at h0
  · rename_i hr
    rw [if_pos hr]
    split at h0
    · cases h0
    · rename_i hd
      rw [if_neg hd]
      exact ht.same fun m hm => .inl hm
  · rename_i hr; exact absurd h0 hr

theorem tb_restart {c : CT} {T : Int} (ht : TB c T) {i : Int} (h0 : (restartC c i).1 = 0) : TB (restartC c i).2 T := by
  unfold restartC at h0 ⊢
  split at h0
  · rename_i hr
    rw [if_pos hr]
    split at h0
    · rename_i hd
      rw [if_pos hd]
      obtain ⟨V, i0, i1⟩ := ready_iff.1 hr
      obtain ⟨r, e1, e1'⟩ := rep_at i0 i1
      rw [e1']
      unfold restartE
      rw [if_pos (chk_iff.2 (V.rp _ _ e1).2)]
      exact ht.put (r' := restartR r) (Int.le_refl _) (ht.1 r (List.mem_of_getElem? e1)) fun m hm => .inl hm
    · cases h0
  · rename_i hr; exact absurd h0 hr

theorem tb_cut {c : CT} {T : Int} (ht : TB c T) {i j : Int} (h0 : (cutC c i j).1 = 0) : TB (cutC c i j).2 T := by
  unfold cutC at h0 ⊢
  split at h0
  · rename_i hr
    rw [if_pos hr]
    split at h0
    · rename_i hj
      rw [if_pos hj]
      split at h0
      · cases h0
      · rename_i hij
        rw [if_neg hij]
        split at h0
        · cases h0
        · rename_i hic
          rw [if_neg hic]
          exact ht.same fun m hm => .inl hm
    · cases h0
  · rename_i hr; exact absurd h0 hr

theorem tb_heal {c : CT} {T : Int} (h : CG c) (ht : TB c T) : TB (healC c) T := by
  unfold healC
  rw [if_pos (chkC_iff.2 h.v)]
  exact ht.same fun m hm => .inl hm

theorem tb_new (n : Int) : TB (newC n) 0 := by
  refine ⟨fun r hr => ?_, fun m hm => by cases hm⟩
  have hr : r ∈ (List.range n.toNat).map (rep0 : Nat → RT) := hr
  obtain ⟨j, _, rfl⟩ := List.mem_map.1 hr
  exact Int.le_refl _

end Go.Proofs.Ytfbikpbejkgegaa

namespace Go.Proofs.Ytfbikpbejkgegaa
open Go Go.Abs Go.Raft
theorem deliver_zero {c : CT} (V : VC c) (h : c.wire ≠ []) : (deliverC c 0).1 = 0 := by
  have hl := List.length_pos_iff.2 h
  have hw : wireE c 0 = 0 := wire_iff.2 ⟨V, Int.le_refl _, by omega⟩
  unfold deliverC
  rw [if_pos hw]
  simp only
  split <;> rfl

/-- Delivering all messages. -/
theorem flush_ok : ∀ (w : Nat) (c : CT), weight c.wire ≤ w → CG c → ∃ c' : CT, loopT l65_0_1 ((), (u2, ((c, ()), ()))) = some ((), (u2, ((c', ()), ()))) ∧ CG c' ∧ c'.wire = [] ∧ c'.reps.length = c.reps.length ∧ c'.down = c.down ∧ c'.cut = c.cut ∧ ∀ T, TB c T → TB c' T := by
  have base : ∀ c : CT, c.wire = [] → loopT l65_0_1 ((), (u2, ((c, ()), ()))) = some ((), (u2, ((c, ()), ()))) := by
    intro c h
    refine loopT_inr ?_
    have : ¬ (c.2.1.length : Int) > 0 := by show ¬ (c.wire.length : Int) > 0; rw [h]; simp
    simp only [l65_0_1, decide_eq_false this, decide_true, decide_false, cond_true, cond_false, Option.bind_some, Bool.not_true, Bool.not_false, sumE, Bool.true_and, Bool.and_true, Bool.false_and, Bool.and_false, beq_self_eq_true, bne_self_eq_false]
  intro w
  induction w with
  | zero =>
    intro c hw h
    have : c.wire = [] := by
      cases hc : c.wire with
      | nil => rfl
      | cons m l => rw [hc, weight_pos] at hw; split at hw <;> omega
    exact ⟨c, base c this, h, this, rfl, rfl, rfl, fun _ h => h⟩
  | succ w ih =>
    intro c hw h
    by_cases hc : c.wire = []
    · exact ⟨c, base c hc, h, hc, rfl, rfl, rfl, fun _ h => h⟩
    · have h0 := deliver_zero h.v hc
      obtain ⟨g1, g2, g3, g4, g5⟩ := cg_deliver h h0
      obtain ⟨c', a1, a2, a3, a4, a5, a6, a7⟩ := ih (deliverC c 0).2 (by omega) g1
      refine ⟨c', ?_, a2, a3, by rw [a4, g2], by rw [a5, g4], by rw [a6, g5], fun T hT => a7 T (tb_deliver hT h0)⟩
      rw [← a1]
      refine loopT_inl ?_
      have hp : (c.2.1.length : Int) > 0 := by have := List.length_pos_iff.2 hc; show (c.wire.length : Int) > 0; omega
      simp only [l65_0_1, decide_eq_true hp, decide_true, decide_false, cond_true, cond_false, Option.bind_some, Bool.not_true, Bool.not_false, sumE, Bool.true_and, Bool.and_true, Bool.false_and, Bool.and_false, beq_self_eq_true, bne_self_eq_false, m105_eq c 0 h.sh, h0]

theorem m65_ok {c : CT} (h : CG c) : ∃ c' : CT, m65 ((c, ()), ()) = some ((), ((c', ()), ())) ∧ CG c' ∧ c'.wire = [] ∧ c'.reps.length = c.reps.length ∧ c'.down = c.down ∧ c'.cut = c.cut ∧ ∀ T, TB c T → TB c' T := by
  obtain ⟨c', a1, a2⟩ := flush_ok _ c (Nat.le_refl _) h
  refine ⟨c', ?_, a2⟩
  unfold m65
  simp only []
  rw [show loopT l65_0_1 ((), (((), ()), ((c, ()), ()))) = _ from a1]
  rfl

theorem beat_zero {c : CT} (h : CG c) {i : Int} (i0 : 0 ≤ i) (i1 : i < (c.reps.length : Int)) (hd : downAt c i = false) (hr : (repAt c i).role = 2) (hw : c.wire = []) : (beatC c i).1 = 0 := by
  unfold beatC
  rw [if_pos (ready_iff.2 ⟨h.v, i0, i1⟩), if_neg (by rw [hd]; simp), if_pos hr]
  simp only
  have := appends_len (c.reps.length : Int) (repAt c i)
  rw [if_neg (by rw [hw]; simp; omega)]

theorem settle_loop {i : Int} (i0 : 0 ≤ i) : ∀ (k j : Nat) (c : CT), j + k = 2 → CG c → i < (c.reps.length : Int) → downAt c i = false → c.wire = [] → ∃ c' : CT, loopT l73_0_11 (((j : Int), i, ()), ((c, ()), (u2, ()))) = some ((), (u2, ((c', ()), ()))) ∧ CG c' ∧ c'.reps.length = c.reps.length ∧ ∀ T, TB c T → TB c' T := by
  intro k
  induction k with
  | zero =>
    intro j c hj h _ _ _
    refine ⟨c, loopT_inr ?_, h, rfl, fun _ h => h⟩
    have : ¬ (j : Int) < 2 := by omega
    simp only [l73_0_11, decide_eq_false this, decide_true, decide_false, cond_true, cond_false, Option.bind_some, Bool.not_true, Bool.not_false, sumE, Bool.true_and, Bool.and_true, Bool.false_and, Bool.and_false, beq_self_eq_true, bne_self_eq_false]
  | succ k ih =>
    intro j c hj h i1 hd hw
    have hlt : (j : Int) < 2 := by omega
    obtain ⟨r, e1, e1'⟩ := rep_at (c := c) i0 i1
    by_cases hr : r.role = 2
    · have h0 := beat_zero h i0 i1 hd (by rw [e1']; exact hr) hw
      obtain ⟨g1, g2⟩ := cg_beat h h0
      obtain ⟨c1, a1, a2, a3, a4, a5, a6, a7⟩ := m65_ok g1
      have hlen : c1.reps.length = c.reps.length := by rw [a4, g2]
      have hdown : (beatC c i).2.down = c.down := by
        unfold beatC
        rw [if_pos (ready_iff.2 ⟨h.v, i0, i1⟩), if_neg (by rw [hd]; simp), if_pos (by rw [e1']; exact hr)]
        simp only
        split
        · rename_i hg; exfalso
          have := appends_len (c.reps.length : Int) (repAt c i)
          rw [hw] at hg; simp at hg; omega
        · rfl
      obtain ⟨c', b1, b2, b3, b4⟩ := ih (j + 1) c1 (by omega) a2 (by omega) (by show (c1.down[i.toNat]?.getD false) = false; rw [a5, hdown]; exact hd) a3
      refine ⟨c', ?_, b2, by rw [b3, hlen], fun T hT => b4 T (a7 T (tb_beat hT h0))⟩
      rw [← b1]
      refine loopT_inl ?_
      have hr' : (r.2.2.2.1 : Int) = 2 := hr
      simp only [l73_0_11, decide_eq_true hlt, decide_true, decide_false, cond_true, cond_false, Option.bind_some, Bool.not_true, Bool.not_false, sumE, Bool.true_and, Bool.and_true, Bool.false_and, Bool.and_false, beq_self_eq_true, bne_self_eq_false, rowAt_G, rowG_int i0 e1, beq_decide, decide_eq_true hr', m117_eq c i h.sh]
      rw [show m65 (((((beatC c i).2.1, ((beatC c i).2.2.1, ((beatC c i).2.2.2.1, ((beatC c i).2.2.2.2.1, ())))) : CT), ()), ()) = some ((), ((c1, ()), ())) from a1]
      simp only [Option.bind_some, w64_nat (show j ≤ 4294967296 by omega)]
    · refine ⟨c, loopT_inr ?_, h, rfl, fun _ h => h⟩
      have hr' : ¬ (r.2.2.2.1 : Int) = 2 := hr
      simp only [l73_0_11, decide_eq_true hlt, decide_true, decide_false, cond_true, cond_false, Option.bind_some, Bool.not_true, Bool.not_false, sumE, Bool.true_and, Bool.and_true, Bool.false_and, Bool.and_false, beq_self_eq_true, bne_self_eq_false, rowAt_G, rowG_int i0 e1, beq_decide, decide_eq_false hr']

/-- Settle gives an error or a good cluster of the same size. -/
theorem m73_ok {c : CT} (h : CG c) (i : Int) : ∃ (e : Int) (c' : CT), m73 ((c, i, ()), ()) = some ((e, ()), ((c', ()), ())) ∧ (e = 0 → CG c' ∧ c'.reps.length = c.reps.length ∧ ∀ T, TB c T → TB c' (T + 1)) ∧ (e ≠ 0 → c' = zeroC) ∧ (readyE c i = 0 → (standC (cl c.reps [] c.down c.cut) i).1 = 0 → e = 0) := by
  unfold m73
  simp only [m114_eq c i h.sh, Option.bind_some, bne_decide, decide_not]
  by_cases hr : readyE c i = 0
  · obtain ⟨V, i0, i1⟩ := ready_iff.1 hr
    simp only [hr, decide_true, decide_true, decide_false, cond_true, cond_false, Option.bind_some, Bool.not_true, Bool.not_false, sumE, Bool.true_and, Bool.and_true, Bool.false_and, Bool.and_false, beq_self_eq_true, bne_self_eq_false, m115_eq c h.sh]
    have h1 : CG (cl c.reps [] c.down c.cut) := h.same (fun m hm => (by cases hm)) (Nat.zero_le _) h.dn h.cs
    rw [show m116 (((c.reps, ([], (c.down, (c.cut, ())))), (i, ())), ()) = _ from m116_eq (cl c.reps [] c.down c.cut) i h1.sh]
    simp only [Option.bind_some]
    by_cases h0 : (standC (cl c.reps [] c.down c.cut) i).1 = 0
    · obtain ⟨g1, g2⟩ := cg_stand h1 h0
      obtain ⟨c1, a1, a2, a3, a4, a5, a6, a7⟩ := m65_ok g1
      simp only [h0, decide_true, decide_true, decide_false, cond_true, cond_false, Option.bind_some, Bool.not_true, Bool.not_false, sumE, Bool.true_and, Bool.and_true, Bool.false_and, Bool.and_false, beq_self_eq_true, bne_self_eq_false]
      rw [show m65 (((((standC (cl c.reps [] c.down c.cut) i).2.1, ((standC (cl c.reps [] c.down c.cut) i).2.2.1, ((standC (cl c.reps [] c.down c.cut) i).2.2.2.1, ((standC (cl c.reps [] c.down c.cut) i).2.2.2.2.1, ())))) : CT), ()), ()) = some ((), ((c1, ()), ())) from a1]
      have hd : downAt c i = false ∧ (standC (cl c.reps [] c.down c.cut) i).2.down = c.down := by
        unfold standC at h0 ⊢
        rw [if_pos (ready_iff.2 ⟨h1.v, i0, i1⟩)] at h0 ⊢
        split at h0
        · cases h0
        · rename_i hd
          refine ⟨by simpa using hd, ?_⟩
          rw [if_neg hd]
          simp only at h0 ⊢
          split at h0
          · rename_i hs
            rw [if_pos hs]
            split at h0
            · cases h0
            · rename_i hg; rw [if_neg hg]
          · rename_i hs; exact absurd h0 hs
      have hlen : c1.reps.length = c.reps.length := by rw [a4, g2]
      obtain ⟨c', b1, b2, b3, b4⟩ := settle_loop i0 2 0 c1 rfl a2 (by omega) (by show (c1.down[i.toNat]?.getD false) = false; rw [a5, hd.2]; exact hd.1) a3
      refine ⟨0, c', ?_, fun _ => ⟨b2, by rw [b3, hlen], fun T hT => b4 _ (a7 _ (tb_stand h1 (hT.same (fun m hm => (by cases hm))) h0))⟩, fun hn => absurd rfl hn, fun _ _ => rfl⟩
      simp only [Option.bind_some]
      rw [show loopT l73_0_11 ((0, (i, ())), ((c1, ()), (((), ()), ()))) = _ from b1]
      rfl
    · simp only [h0, decide_false, decide_true, decide_false, cond_true, cond_false, Option.bind_some, Bool.not_true, Bool.not_false, sumE, Bool.true_and, Bool.and_true, Bool.false_and, Bool.and_false, beq_self_eq_true, bne_self_eq_false]
      exact ⟨(standC (cl c.reps [] c.down c.cut) i).1, zeroC, rfl, fun e => absurd e h0, fun _ => rfl, fun _ e => False.elim e⟩
  · simp only [hr, decide_false, decide_true, decide_false, cond_true, cond_false, Option.bind_some, Bool.not_true, Bool.not_false, sumE, Bool.true_and, Bool.and_true, Bool.false_and, Bool.and_false, beq_self_eq_true, bne_self_eq_false]
    exact ⟨readyE c i, zeroC, rfl, fun e => absurd e hr, fun _ => rfl, fun e => False.elim e⟩

/-! ### Leader -/
def leadL (reps : List RT) (down : List Bool) : Nat → List RT → Int → Bool → Int × Bool
  | _, [], b, f => (b, f)
  | i, r :: l, b, f =>
    if decide (r.role = 2) && !(down[i]?.getD false) && (!f || decide (r.term > (reps[b.toNat]?.getD zeroR).term)) then leadL reps down (i + 1) l (i : Int) true else leadL reps down (i + 1) l b f

def leaderC (c : CT) : Int × Bool := if chkC c = true then leadL c.reps c.down 0 c.reps 0 false else (0, false)

theorem leadL_spec (reps : List RT) (down : List Bool) : ∀ (l : List RT) (i : Nat) (b : Int) (f : Bool), reps.drop i = l → (f = true → 0 ≤ b ∧ b < (reps.length : Int) ∧ (reps[b.toNat]?.getD zeroR).role = 2 ∧ (down[b.toNat]?.getD false) = false) →
    (leadL reps down i l b f).2 = true → 0 ≤ (leadL reps down i l b f).1 ∧ (leadL reps down i l b f).1 < (reps.length : Int) ∧ (reps[(leadL reps down i l b f).1.toNat]?.getD zeroR).role = 2 ∧ (down[(leadL reps down i l b f).1.toNat]?.getD false) = false := by
  intro l
  induction l with
  | nil => intro i b f _ hf h; exact hf h
  | cons r l ih =>
    intro i b f hd hf h
    have hi : reps[i]? = some r := by
      have := congrArg (fun l => l[0]?) hd
      simpa using this
    have hd' : reps.drop (i + 1) = l := by
      rw [← List.drop_drop, hd]; rfl
    unfold leadL at h ⊢
    split at h
    · rename_i hc
      rw [if_pos hc]
      refine ih (i + 1) (i : Int) true hd' (fun _ => ?_) h
      simp only [Bool.and_eq_true, Bool.not_eq_true', decide_eq_true_eq] at hc
      have := (List.getElem?_eq_some_iff.1 hi).1
      refine ⟨by omega, by omega, ?_, ?_⟩
      · rw [Int.toNat_natCast, hi]; exact hc.1.1
      · rw [Int.toNat_natCast]; exact hc.1.2
    · rename_i hc
      rw [if_neg hc]
      exact ih (i + 1) b f hd' hf h

theorem leader_spec {c : CT} (h : (leaderC c).2 = true) : VC c ∧ 0 ≤ (leaderC c).1 ∧ (leaderC c).1 < (c.reps.length : Int) ∧ (repAt c (leaderC c).1).role = 2 ∧ downAt c (leaderC c).1 = false := by
  unfold leaderC at h ⊢
  split at h
  · rename_i hc
    rw [if_pos hc]
    exact ⟨chkC_iff.1 hc, leadL_spec c.reps c.down c.reps 0 0 false rfl (fun h => by cases h) h⟩
  · cases h

theorem loop43 (reps : List RT) (wire : List MT) (down : List Bool) (cut : List CutT) (hs : ShC (cl reps wire down cut)) (V : VC (cl reps wire down cut)) : ∀ (k i : Nat) (b : Int) (f : Bool), i + k = reps.length → 0 ≤ b → b < (reps.length : Int) →
    loopT l43_0_3 (((i : Int), b, f, ()), ((cl reps wire down cut, ()), ())) = some (((leadL reps down i (reps.drop i) b f).2, (leadL reps down i (reps.drop i) b f).1, ()), ()) := by
  have hck := chkC_iff.2 V
  have hdn : down.length = reps.length := V.dn
  have hrl : reps.length ≤ 5 := V.n5
  intro k
  induction k with
  | zero =>
    intro i b f h _ _
    rw [List.drop_eq_nil_of_le (by omega)]
    refine loopT_inr ?_
    have : ¬ (i : Int) < (reps.length : Int) := by omega
    simp only [l43_0_3, decide_eq_false this, decide_true, decide_false, cond_true, cond_false, Option.bind_some, Bool.not_true, Bool.not_false, sumE, Bool.true_and, Bool.and_true, Bool.false_and, Bool.and_false, beq_self_eq_true, bne_self_eq_false, leadL]
  | succ k ih =>
    intro i b f h b0 b1
    obtain ⟨e, he, hd⟩ := drop_at (l := reps) (i := i) (by omega)
    obtain ⟨d, hde⟩ := getD_some (l := down) (i := i) (by omega)
    obtain ⟨x, hx⟩ := getD_some (l := reps) (i := b.toNat) (by omega)
    have hlt : (i : Int) < (reps.length : Int) := by omega
    rw [hd]
    unfold leadL
    rw [hde, hx]
    simp only [Option.getD_some]
    have e71 := m71_eq (cl reps wire down cut) hs
    rw [hck] at e71
    have yes_ : loopT l43_0_3 (((i : Int), b, f, ()), ((cl reps wire down cut, ()), ())) = loopT l43_0_3 ((((i + 1 : Nat) : Int), (if decide (e.role = 2) && !d && (!f || decide (e.term > x.term)) then (i : Int) else b), (if decide (e.role = 2) && !d && (!f || decide (e.term > x.term)) then true else f), ()), ((cl reps wire down cut, ()), ())) := by
      refine loopT_inl ?_
      rcases Bool.eq_false_or_eq_true (decide (e.role = 2)) with h1 | h1
      · cases d
        · cases f
          · simp only [l43_0_3, decide_eq_true hlt, decide_true, decide_false, cond_true, cond_false, Option.bind_some, Bool.not_true, Bool.not_false, sumE, Bool.true_and, Bool.and_true, Bool.false_and, Bool.and_false, beq_self_eq_true, bne_self_eq_false, e71, rowAt_G, rowG_nat he, rowG_nat hde, rowG_int b0 hx, beq_decide, h1, w64_nat (show i ≤ 4294967296 by omega), Bool.true_or, if_true]
          · rcases Bool.eq_false_or_eq_true (decide (e.term > x.term)) with h2 | h2
            · simp only [l43_0_3, decide_eq_true hlt, decide_true, decide_false, cond_true, cond_false, Option.bind_some, Bool.not_true, Bool.not_false, sumE, Bool.true_and, Bool.and_true, Bool.false_and, Bool.and_false, beq_self_eq_true, bne_self_eq_false, e71, rowAt_G, rowG_nat he, rowG_nat hde, rowG_int b0 hx, beq_decide, h1, h2, w64_nat (show i ≤ 4294967296 by omega), Bool.false_or, if_true]
            · simp only [l43_0_3, decide_eq_true hlt, decide_true, decide_false, cond_true, cond_false, Option.bind_some, Bool.not_true, Bool.not_false, sumE, Bool.true_and, Bool.and_true, Bool.false_and, Bool.and_false, beq_self_eq_true, bne_self_eq_false, e71, rowAt_G, rowG_nat he, rowG_nat hde, rowG_int b0 hx, beq_decide, h1, h2, w64_nat (show i ≤ 4294967296 by omega), Bool.false_or, Bool.false_eq_true, if_false]
        · simp only [l43_0_3, decide_eq_true hlt, decide_true, decide_false, cond_true, cond_false, Option.bind_some, Bool.not_true, Bool.not_false, sumE, Bool.true_and, Bool.and_true, Bool.false_and, Bool.and_false, beq_self_eq_true, bne_self_eq_false, e71, rowAt_G, rowG_nat he, rowG_nat hde, rowG_int b0 hx, beq_decide, h1, w64_nat (show i ≤ 4294967296 by omega), Bool.false_eq_true, if_false]
      · simp only [l43_0_3, decide_eq_true hlt, decide_true, decide_false, cond_true, cond_false, Option.bind_some, Bool.not_true, Bool.not_false, sumE, Bool.true_and, Bool.and_true, Bool.false_and, Bool.and_false, beq_self_eq_true, bne_self_eq_false, e71, rowAt_G, rowG_nat he, rowG_nat hde, rowG_int b0 hx, beq_decide, h1, w64_nat (show i ≤ 4294967296 by omega), Bool.false_eq_true, if_false]
    rw [yes_]
    split
    · exact ih (i + 1) (i : Int) true (by omega) (by omega) (by omega)
    · exact ih (i + 1) b f (by omega) b0 b1

theorem m43_eq (c : CT) (hs : ShC c) : m43 ((c, ()), ()) = some (((leaderC c).1, (leaderC c).2, ()), ()) := by
  obtain ⟨reps, wire, down, cut, ⟨⟩⟩ := c
  unfold m43 leaderC
  simp only []
  cases hc : chkC (reps, wire, down, cut, PUnit.unit)
  · rw [show loopT l43_0_3 ((0, (0, (false, ()))), (((reps, wire, down, cut, PUnit.unit), ()), ())) = some ((false, 0, ()), ()) from ?_]
    · rfl
    · have e71 := m71_eq (cl reps wire down cut) hs
      rw [show chkC (cl reps wire down cut) = false from hc] at e71
      refine loopT_inr ?_
      by_cases h : (0 : Int) < (reps.length : Int)
      · simp only [l43_0_3, decide_eq_true h, decide_true, decide_false, cond_true, cond_false, Option.bind_some, Bool.not_true, Bool.not_false, sumE, Bool.true_and, Bool.and_true, Bool.false_and, Bool.and_false, beq_self_eq_true, bne_self_eq_false, e71]
      · simp only [l43_0_3, decide_eq_false h, decide_true, decide_false, cond_true, cond_false, Option.bind_some, Bool.not_true, Bool.not_false, sumE, Bool.true_and, Bool.and_true, Bool.false_and, Bool.and_false, beq_self_eq_true, bne_self_eq_false]
  · have V := chkC_iff.1 hc
    have h1 : 1 ≤ reps.length := V.n1
    have := loop43 reps wire down cut hs V reps.length 0 0 false (by omega) (Int.le_refl _) (by omega)
    rw [List.drop_zero] at this
    rw [show loopT l43_0_3 ((0, (0, (false, ()))), (((reps, wire, down, cut, PUnit.unit), ()), ())) = _ from this]
    rfl

end Go.Proofs.Ytfbikpbejkgegaa

namespace Go.Proofs.Ytfbikpbejkgegaa
open Go Go.Abs Go.Raft
abbrev Dice := List Int × Int × Unit

def DOK (d : Dice) : Prop := 0 ≤ d.2.1 ∧ d.2.1 ≤ d.1.length ∧ d.1.length ≤ 500

theorem next_spec (n : Int) (d : Dice) (hd : DOK d) (hn : n ≤ 9223372036854775807) :
    ∃ (r : Int) (d' : Dice), m20 ((n, ()), ((d, ()), ())) = some ((r, ()), ((d', ()), ())) ∧ DOK d' ∧ (1 ≤ n → 0 ≤ r ∧ r < n) ∧ (n < 1 → r = 0) := by
  obtain ⟨l, at_, u⟩ := d
  obtain ⟨h1, h2, h3⟩ := hd
  simp only at h1 h2 h3
  unfold m20
  simp only [rowAt_G]
  by_cases c1 : at_ ≥ (l.length : Int)
  · refine ⟨0, (l, at_, ()), ?_, ⟨h1, h2, h3⟩, fun h => ⟨by omega, by omega⟩, fun _ => rfl⟩
    simp only [decide_eq_true c1, decide_true, decide_false, cond_true, cond_false, Option.bind_some, Bool.not_true, Bool.not_false, sumE, Bool.true_and, Bool.and_true, Bool.false_and, Bool.and_false, beq_self_eq_true, bne_self_eq_false]
  · by_cases c2 : n < 1
    · refine ⟨0, (l, at_, ()), ?_, ⟨h1, h2, h3⟩, fun h => ⟨by omega, by omega⟩, fun _ => rfl⟩
      simp only [decide_eq_false c1, decide_eq_true c2, decide_true, decide_false, cond_true, cond_false, Option.bind_some, Bool.not_true, Bool.not_false, sumE, Bool.true_and, Bool.and_true, Bool.false_and, Bool.and_false, beq_self_eq_true, bne_self_eq_false]
    · have hat : w64 (at_ + 1) = at_ + 1 := w64_id (by omega) (by omega)
      have hne : n ≠ 0 := by omega
      obtain ⟨e, he⟩ := getD_some (l := l) (i := at_.toNat) (by omega)
      have hb := Int.tmod_lt_of_pos e (show (0 : Int) < n by omega)
      have hb2 : -n < e.tmod n := by
        have := Int.lt_tmod_of_pos e (show (0 : Int) < n by omega)
        omega
      by_cases c3 : e.tmod n < 0
      · refine ⟨e.tmod n + n, (l, at_ + 1, ()), ?_, ⟨by simp only; omega, by simp only; omega, h3⟩, fun h => ⟨by omega, by omega⟩, fun h => by omega⟩
        simp only [decide_eq_false c1, decide_eq_false c2, decide_true, decide_false, cond_true, cond_false, Option.bind_some, Bool.not_true, Bool.not_false, sumE, Bool.true_and, Bool.and_true, Bool.false_and, Bool.and_false, beq_self_eq_true, bne_self_eq_false, rowG_int h1 he, decide_eq_true hne, decide_eq_true c3, hat, w64_id (x := e.tmod n + n) (by omega) (by omega)]
      · refine ⟨e.tmod n, (l, at_ + 1, ()), ?_, ⟨by simp only; omega, by simp only; omega, h3⟩, fun h => ⟨by omega, by omega⟩, fun h => by omega⟩
        simp only [decide_eq_false c1, decide_eq_false c2, decide_true, decide_false, cond_true, cond_false, Option.bind_some, Bool.not_true, Bool.not_false, sumE, Bool.true_and, Bool.and_true, Bool.false_and, Bool.and_false, beq_self_eq_true, bne_self_eq_false, rowG_int h1 he, decide_eq_true hne, decide_eq_false c3, hat]

theorem one_spec (l : List Int) (d : Dice) (hd : DOK d) (h0 : 0 < l.length) (h1 : l.length ≤ 4294967296) :
    ∃ (r : Int) (d' : Dice), m41 ((l, ()), ((d, ()), ())) = some ((r, ()), ((d', ()), ())) ∧ DOK d' ∧ r ∈ l := by
  obtain ⟨n, d', e1, e2, e3, _⟩ := next_spec l.length d hd (by omega)
  obtain ⟨hn0, hn1⟩ := e3 (by omega)
  obtain ⟨r, hr⟩ := getD_some (l := l) (i := n.toNat) (by omega)
  refine ⟨r, d', ?_, e2, List.mem_of_getElem? hr⟩
  unfold m41
  simp only [e1, Option.bind_some, rowAt_G, rowG_int hn0 hr]

theorem bind_ex {A B : Type} {o : Option A} {f : A → Option B} {P : A → Prop} {Q : B → Prop} (h : ∃ a, o = some a ∧ P a) (h2 : ∀ a, P a → ∃ b, f a = some b ∧ Q b) : ∃ b, o.bind f = some b ∧ Q b := by
  obtain ⟨a, rfl, ha⟩ := h
  exact h2 a ha

/-- What a step of the dice leaves. -/
def ActP (c0 : CT) (b : Unit × ((Dice × Unit) × (CT × Unit) × Unit)) : Prop := ∃ (c : CT) (d : Dice), b = ((), ((d, ()), ((c, ()), ()))) ∧ CG c ∧ c.reps.length = c0.reps.length ∧ DOK d ∧ ∀ T, TB c0 T → TB c (T + 1)

theorem m74_ok {c : CT} (h : CG c) {d : Dice} (hd : DOK d) : ∃ b, m74 ((c, ()), ((d, ()), ())) = some b ∧ ActP c b := by
  have n1 := h.n1; have n5 := h.n5; have wl := h.wl
  have hs := h.sh
  unfold m74
  obtain ⟨i, d1, e1, hd1, b1, _⟩ := next_spec c.reps.length d hd (by omega)
  have b1 := b1 (by omega)
  simp only []
  rw [show m20 (((c.1.length : Int), ()), ((d, ()), ())) = _ from e1]
  simp only [Option.bind_some]
  refine bind_ex (P := fun v => ∃ (i : Int) (d : Dice), v = ((i, ()), ((d, ()), (u2, ((c, ()), ())))) ∧ 0 ≤ i ∧ i < (c.reps.length : Int) ∧ DOK d) ?_ ?_
  · simp only [m43_eq c hs, Option.bind_some]
    cases hl : (leaderC c).2
    · simp only [decide_true, decide_false, cond_true, cond_false, Option.bind_some, Bool.not_true, Bool.not_false, sumE, Bool.true_and, Bool.and_true, Bool.false_and, Bool.and_false, beq_self_eq_true, bne_self_eq_false]
      exact ⟨_, rfl, i, d1, rfl, b1.1, b1.2, hd1⟩
    · obtain ⟨n, d2, e2, hd2, b2, _⟩ := next_spec 3 d1 hd1 (by omega)
      have hk := leader_spec hl
      simp only [decide_true, decide_false, cond_true, cond_false, Option.bind_some, Bool.not_true, Bool.not_false, sumE, Bool.true_and, Bool.and_true, Bool.false_and, Bool.and_false, beq_self_eq_true, bne_self_eq_false, e2]
      by_cases hn : n > 0
      · simp only [decide_eq_true hn, decide_true, decide_false, cond_true, cond_false, Option.bind_some, Bool.not_true, Bool.not_false, sumE, Bool.true_and, Bool.and_true, Bool.false_and, Bool.and_false, beq_self_eq_true, bne_self_eq_false]
        exact ⟨_, rfl, _, d2, rfl, hk.2.1, hk.2.2.1, hd2⟩
      · simp only [decide_eq_false hn, decide_true, decide_false, cond_true, cond_false, Option.bind_some, Bool.not_true, Bool.not_false, sumE, Bool.true_and, Bool.and_true, Bool.false_and, Bool.and_false, beq_self_eq_true, bne_self_eq_false]
        exact ⟨_, rfl, _, d2, rfl, b1.1, b1.2, hd2⟩
  clear e1 hd1
  rintro _ ⟨i, d1, rfl, i0, i1, hd1⟩
  obtain ⟨k, d2, e2, hd2, _, _⟩ := next_spec c.wire.length d1 hd1 (by omega)
  simp only []
  rw [show m20 (((c.2.1.length : Int), ()), ((d1, ()), ())) = _ from e2]
  simp only [Option.bind_some]
  refine bind_ex (P := fun v => ∃ (k : Int) (d : Dice), v = ((i, (k, ())), ((d, ()), (u2, ((c, ()), ())))) ∧ DOK d) ?_ ?_
  · obtain ⟨n, d3, e3, hd3, _, _⟩ := next_spec 2 d2 hd2 (by omega)
    simp only [e3, Option.bind_some, beq_decide]
    by_cases hn : n = 0
    · simp only [decide_eq_true hn, decide_true, decide_false, cond_true, cond_false, Option.bind_some, Bool.not_true, Bool.not_false, sumE, Bool.true_and, Bool.and_true, Bool.false_and, Bool.and_false, beq_self_eq_true, bne_self_eq_false]
      exact ⟨_, rfl, 0, d3, rfl, hd3⟩
    · simp only [decide_eq_false hn, decide_true, decide_false, cond_true, cond_false, Option.bind_some, Bool.not_true, Bool.not_false, sumE, Bool.true_and, Bool.and_true, Bool.false_and, Bool.and_false, beq_self_eq_true, bne_self_eq_false]
      exact ⟨_, rfl, k, d3, rfl, hd3⟩
  clear e2 hd2 hd1
  rintro _ ⟨k, d1, rfl, hd1⟩
  refine bind_ex (P := fun v => ∃ (e : Int) (d : Dice) (x : CT), v = ((e, ()), ((d, ()), (u2, ((c, ()), ((x, ()), ()))))) ∧ DOK d ∧ (e = 0 → CG x ∧ x.reps.length = c.reps.length ∧ ∀ T, TB c T → TB x (T + 1))) ?_ ?_
  · obtain ⟨n, d2, e2, hd2, b2, _⟩ := next_spec 16 d1 hd1 (by omega)
    have b2 := b2 (by omega)
    simp only [e2, Option.bind_some, beq_decide]
    have hn : n = 0 ∨ n = 1 ∨ n = 2 ∨ n = 3 ∨ n = 4 ∨ n = 5 ∨ n = 6 ∨ n = 7 ∨ n = 8 ∨ n = 9 ∨ n = 10 ∨ n = 11 ∨ n = 12 ∨ n = 13 ∨ n = 14 ∨ n = 15 := by omega
    have up : ∀ {x : CT} {T : Int}, TB x T → TB x (T + 1) := fun h => h.le (by omega)
    rcases hn with rfl | rfl | rfl | rfl | rfl | rfl | rfl | rfl | rfl | rfl | rfl | rfl | rfl | rfl | rfl | rfl
    · simp only [decide_true, decide_false, cond_true, cond_false, Option.bind_some, Bool.not_true, Bool.not_false, sumE, Bool.true_and, Bool.and_true, Bool.false_and, Bool.and_false, beq_self_eq_true, bne_self_eq_false, m116_eq c i hs]
      exact ⟨_, rfl, _, d2, _, rfl, hd2, fun h0 => ⟨(cg_stand h h0).1, (cg_stand h h0).2, fun T hT => tb_stand h hT h0⟩⟩
    · obtain ⟨q, d3, e3, hd3, _, _⟩ := next_spec 60 d2 hd2 (by omega)
      simp only [Int.reduceEq, decide_true, decide_false, cond_true, cond_false, Option.bind_some, Bool.not_true, Bool.not_false, sumE, Bool.true_and, Bool.and_true, Bool.false_and, Bool.and_false, beq_self_eq_true, bne_self_eq_false, e3, m118_eq c _ _ hs]
      exact ⟨_, rfl, _, d3, _, rfl, hd3, fun h0 => ⟨(cg_propose h h0).1, (cg_propose h h0).2, fun T hT => up (tb_propose h hT h0)⟩⟩
    · obtain ⟨q, d3, e3, hd3, _, _⟩ := next_spec 60 d2 hd2 (by omega)
      simp only [Int.reduceEq, decide_true, decide_false, cond_true, cond_false, Option.bind_some, Bool.not_true, Bool.not_false, sumE, Bool.true_and, Bool.and_true, Bool.false_and, Bool.and_false, beq_self_eq_true, bne_self_eq_false, e3, m118_eq c _ _ hs]
      exact ⟨_, rfl, _, d3, _, rfl, hd3, fun h0 => ⟨(cg_propose h h0).1, (cg_propose h h0).2, fun T hT => up (tb_propose h hT h0)⟩⟩
    · simp only [Int.reduceEq, decide_true, decide_false, cond_true, cond_false, Option.bind_some, Bool.not_true, Bool.not_false, sumE, Bool.true_and, Bool.and_true, Bool.false_and, Bool.and_false, beq_self_eq_true, bne_self_eq_false, m117_eq c _ hs]
      exact ⟨_, rfl, _, d2, _, rfl, hd2, fun h0 => ⟨(cg_beat h h0).1, congrArg List.length (cg_beat h h0).2, fun T hT => up (tb_beat hT h0)⟩⟩
    · simp only [Int.reduceEq, decide_true, decide_false, cond_true, cond_false, Option.bind_some, Bool.not_true, Bool.not_false, sumE, Bool.true_and, Bool.and_true, Bool.false_and, Bool.and_false, beq_self_eq_true, bne_self_eq_false, m117_eq c _ hs]
      exact ⟨_, rfl, _, d2, _, rfl, hd2, fun h0 => ⟨(cg_beat h h0).1, congrArg List.length (cg_beat h h0).2, fun T hT => up (tb_beat hT h0)⟩⟩
    · simp only [Int.reduceEq, decide_true, decide_false, cond_true, cond_false, Option.bind_some, Bool.not_true, Bool.not_false, sumE, Bool.true_and, Bool.and_true, Bool.false_and, Bool.and_false, beq_self_eq_true, bne_self_eq_false, m105_eq c _ hs]
      exact ⟨_, rfl, _, d2, _, rfl, hd2, fun h0 => ⟨(cg_deliver h h0).1, (cg_deliver h h0).2.1, fun T hT => up (tb_deliver hT h0)⟩⟩
    · simp only [Int.reduceEq, decide_true, decide_false, cond_true, cond_false, Option.bind_some, Bool.not_true, Bool.not_false, sumE, Bool.true_and, Bool.and_true, Bool.false_and, Bool.and_false, beq_self_eq_true, bne_self_eq_false, m105_eq c _ hs]
      exact ⟨_, rfl, _, d2, _, rfl, hd2, fun h0 => ⟨(cg_deliver h h0).1, (cg_deliver h h0).2.1, fun T hT => up (tb_deliver hT h0)⟩⟩
    · simp only [Int.reduceEq, decide_true, decide_false, cond_true, cond_false, Option.bind_some, Bool.not_true, Bool.not_false, sumE, Bool.true_and, Bool.and_true, Bool.false_and, Bool.and_false, beq_self_eq_true, bne_self_eq_false, m105_eq c _ hs]
      exact ⟨_, rfl, _, d2, _, rfl, hd2, fun h0 => ⟨(cg_deliver h h0).1, (cg_deliver h h0).2.1, fun T hT => up (tb_deliver hT h0)⟩⟩
    · simp only [Int.reduceEq, decide_true, decide_false, cond_true, cond_false, Option.bind_some, Bool.not_true, Bool.not_false, sumE, Bool.true_and, Bool.and_true, Bool.false_and, Bool.and_false, beq_self_eq_true, bne_self_eq_false, m105_eq c _ hs]
      exact ⟨_, rfl, _, d2, _, rfl, hd2, fun h0 => ⟨(cg_deliver h h0).1, (cg_deliver h h0).2.1, fun T hT => up (tb_deliver hT h0)⟩⟩
    · simp only [Int.reduceEq, decide_true, decide_false, cond_true, cond_false, Option.bind_some, Bool.not_true, Bool.not_false, sumE, Bool.true_and, Bool.and_true, Bool.false_and, Bool.and_false, beq_self_eq_true, bne_self_eq_false, m105_eq c _ hs]
      exact ⟨_, rfl, _, d2, _, rfl, hd2, fun h0 => ⟨(cg_deliver h h0).1, (cg_deliver h h0).2.1, fun T hT => up (tb_deliver hT h0)⟩⟩
    · simp only [Int.reduceEq, decide_true, decide_false, cond_true, cond_false, Option.bind_some, Bool.not_true, Bool.not_false, sumE, Bool.true_and, Bool.and_true, Bool.false_and, Bool.and_false, beq_self_eq_true, bne_self_eq_false, m105_eq c _ hs]
      exact ⟨_, rfl, _, d2, _, rfl, hd2, fun h0 => ⟨(cg_deliver h h0).1, (cg_deliver h h0).2.1, fun T hT => up (tb_deliver hT h0)⟩⟩
    · simp only [Int.reduceEq, decide_true, decide_false, cond_true, cond_false, Option.bind_some, Bool.not_true, Bool.not_false, sumE, Bool.true_and, Bool.and_true, Bool.false_and, Bool.and_false, beq_self_eq_true, bne_self_eq_false, m119_eq c _ hs]
      exact ⟨_, rfl, _, d2, _, rfl, hd2, fun h0 => ⟨(cg_drop h h0).1, congrArg List.length (cg_drop h h0).2, fun T hT => up (tb_drop hT h0)⟩⟩
    · simp only [Int.reduceEq, decide_true, decide_false, cond_true, cond_false, Option.bind_some, Bool.not_true, Bool.not_false, sumE, Bool.true_and, Bool.and_true, Bool.false_and, Bool.and_false, beq_self_eq_true, bne_self_eq_false, m120_eq c _ hs]
      exact ⟨_, rfl, _, d2, _, rfl, hd2, fun h0 => ⟨(cg_double h h0).1, congrArg List.length (cg_double h h0).2, fun T hT => up (tb_double hT h0)⟩⟩
    · simp only [Int.reduceEq, decide_true, decide_false, cond_true, cond_false, Option.bind_some, Bool.not_true, Bool.not_false, sumE, Bool.true_and, Bool.and_true, Bool.false_and, Bool.and_false, beq_self_eq_true, bne_self_eq_false, m121_eq c _ hs]
      exact ⟨_, rfl, _, d2, _, rfl, hd2, fun h0 => ⟨(cg_crash h h0).1, congrArg List.length (cg_crash h h0).2, fun T hT => up (tb_crash hT h0)⟩⟩
    · obtain ⟨q, d3, e3, hd3, _, _⟩ := next_spec c.reps.length d2 hd2 (by omega)
      simp only [Int.reduceEq, decide_true, decide_false, cond_true, cond_false, Option.bind_some, Bool.not_true, Bool.not_false, sumE, Bool.true_and, Bool.and_true, Bool.false_and, Bool.and_false, beq_self_eq_true, bne_self_eq_false, e3, m122_eq c _ hs]
      exact ⟨_, rfl, _, d3, _, rfl, hd3, fun h0 => ⟨(cg_restart h h0).1, (cg_restart h h0).2, fun T hT => up (tb_restart hT h0)⟩⟩
    · obtain ⟨q, d3, e3, hd3, _, _⟩ := next_spec 2 d2 hd2 (by omega)
      obtain ⟨h1, h2⟩ := m123_eq c hs
      simp only [Int.reduceEq, decide_true, decide_false, cond_true, cond_false, Option.bind_some, Bool.not_true, Bool.not_false, sumE, Bool.true_and, Bool.and_true, Bool.false_and, Bool.and_false, beq_self_eq_true, bne_self_eq_false, h1, e3]
      by_cases hq : q = 0
      · obtain ⟨j, d4, e4, hd4, _, _⟩ := next_spec c.reps.length d3 hd3 (by omega)
        simp only [decide_eq_true hq, decide_true, decide_false, cond_true, cond_false, Option.bind_some, Bool.not_true, Bool.not_false, sumE, Bool.true_and, Bool.and_true, Bool.false_and, Bool.and_false, beq_self_eq_true, bne_self_eq_false, e4, m124_eq c _ _ hs]
        exact ⟨_, rfl, _, d4, _, rfl, hd4, fun h0 => ⟨(cg_cut h h0).1, congrArg List.length (cg_cut h h0).2, fun T hT => up (tb_cut hT h0)⟩⟩
      · simp only [decide_eq_false hq, decide_true, decide_false, cond_true, cond_false, Option.bind_some, Bool.not_true, Bool.not_false, sumE, Bool.true_and, Bool.and_true, Bool.false_and, Bool.and_false, beq_self_eq_true, bne_self_eq_false]
        refine ⟨_, rfl, 0, d3, (healC c), ?_, hd3, fun _ => ⟨(cg_heal h).1, congrArg List.length (cg_heal h).2.1, fun T hT => up (tb_heal h hT)⟩⟩
        rw [← h2]
  · rintro _ ⟨e, d2, x, rfl, hd2, hx⟩
    simp only [bne_decide]
    by_cases he : e = 0
    · simp only [he, ne_eq, not_true_eq_false, not_false_eq_true, eq_self, decide_true, decide_false, cond_true, cond_false, Option.bind_some, Bool.not_true, Bool.not_false, sumE, Bool.true_and, Bool.and_true, Bool.false_and, Bool.and_false, beq_self_eq_true, bne_self_eq_false]
      exact ⟨_, rfl, x, d2, rfl, (hx he).1, (hx he).2.1, hd2, (hx he).2.2⟩
    · simp only [he, ne_eq, not_true_eq_false, not_false_eq_true, eq_self, decide_true, decide_false, cond_true, cond_false, Option.bind_some, Bool.not_true, Bool.not_false, sumE, Bool.true_and, Bool.and_true, Bool.false_and, Bool.and_false, beq_self_eq_true, bne_self_eq_false]
      exact ⟨_, rfl, c, d2, rfl, h, rfl, hd2, fun T hT => hT.le (by omega)⟩

theorem acts_ok : ∀ (k : Nat) (c : CT) (d : Dice), k ≤ 1000 → CG c → DOK d → ∃ (c' : CT) (d' : Dice), loopT l19_0_5 (((k : Int), ()), ((d, ()), ((c, ()), (u2, ())))) = some ((), ((d', ()), (u2, ((c', ()), ())))) ∧ CG c' ∧ DOK d' ∧ ∀ T, TB c T → TB c' (T + k) := by
  intro k
  induction k with
  | zero =>
    intro c d _ h hd
    refine ⟨c, d, loopT_inr ?_, h, hd, fun T hT => hT.le (by omega)⟩
    have : ¬ ((0 : Nat) : Int) > 0 := by omega
    simp only [l19_0_5, decide_eq_false this, decide_true, decide_false, cond_true, cond_false, Option.bind_some, Bool.not_true, Bool.not_false, sumE, Bool.true_and, Bool.and_true, Bool.false_and, Bool.and_false, beq_self_eq_true, bne_self_eq_false]
  | succ k ih =>
    intro c d hk h hd
    obtain ⟨b, e1, c1, d1, rfl, h1, _, hd1, ht1⟩ := m74_ok h hd
    obtain ⟨c', d', e2, h2, hd2, ht2⟩ := ih c1 d1 (by omega) h1 hd1
    refine ⟨c', d', ?_, h2, hd2, fun T hT => (ht2 _ (ht1 T hT)).le (by omega)⟩
    rw [← e2]
    refine loopT_inl ?_
    have hp : ((k + 1 : Nat) : Int) > 0 := by omega
    have hw : w64 (((k + 1 : Nat) : Int) - 1) = (k : Int) := by rw [w64_id (by omega) (by omega)]; omega
    simp only [l19_0_5, decide_eq_true hp, decide_true, decide_false, cond_true, cond_false, Option.bind_some, Bool.not_true, Bool.not_false, sumE, Bool.true_and, Bool.and_true, Bool.false_and, Bool.and_false, beq_self_eq_true, bne_self_eq_false, e1, hw]

theorem stand_new {n i : Int} (h1 : 1 ≤ n) (h5 : n ≤ 5) (i0 : 0 ≤ i) (i1 : i < n) : readyE (newC n) i = 0 ∧ (standC (newC n) i).1 = 0 := by
  obtain ⟨hg, hl⟩ := cg_new h1 h5
  have hr : readyE (newC n) i = 0 := ready_iff.2 ⟨hg.v, i0, by omega⟩
  refine ⟨hr, ?_⟩
  unfold standC
  have hd : downAt (newC n) i = false := by
    show ((List.replicate n.toNat false)[i.toNat]?.getD false) = false
    rw [List.getElem?_replicate]; split <;> rfl
  obtain ⟨r, e1, e1'⟩ := rep_at (c := newC n) i0 (by omega)
  have hC := (hg.v.rp _ _ e1).2
  have ht : r.term = 0 := by
    have : ((List.range n.toNat).map (rep0 : Nat → RT))[i.toNat]? = some r := e1
    simp only [List.getElem?_map, Option.map_eq_some_iff] at this
    obtain ⟨j, _, rfl⟩ := this
    rfl
  rw [if_pos hr, if_neg (by rw [hd]; simp), e1']
  simp only
  have hs : (stand ((newC n).reps.length : Int) r).1 = 0 := by
    unfold stand
    rw [if_pos (chk_iff.2 hC), if_neg (by omega)]
  have hsl := stand_len ((newC n).reps.length : Int) r
  rw [if_pos hs, if_neg]
  show ¬ (([] : List MT).length + _ > 256)
  simp only [List.length_nil]; omega

theorem m19_ok (n : Int) (hn0 : 0 ≤ n) (hn : n ≤ 100) {d : Dice} (hd : DOK d) : ∃ (c : CT) (d' : Dice), m19 ((n, ()), ((d, ()), ())) = some ((), ((d', ()), ((c, ()), ()))) ∧ CG c ∧ DOK d' ∧ TB c (n + 1) := by
  obtain ⟨q, d1, e1, hd1, hq⟩ := one_spec [3, 3, 2, 5, 1] d hd (by simp) (by simp)
  have hq : 1 ≤ q ∧ q ≤ 5 := by simp at hq; omega
  obtain ⟨hg, hl⟩ := cg_new hq.1 hq.2
  obtain ⟨e2, _, _⟩ := m72_eq q
  have hne : newE q = (0, newC q) := by
    unfold newE
    rw [if_neg (by rw [quorum_eq hq.1 hq.2]; omega)]
  rw [hne] at e2
  have key : ∃ b, m19 ((n, ()), ((d, ()), ())) = some b ∧ ∃ (c : CT) (d' : Dice), b = ((), ((d', ()), ((c, ()), ()))) ∧ CG c ∧ DOK d' ∧ TB c (n + 1) := by
    unfold m19
    simp only [e1, Option.bind_some, e2]
    refine bind_ex (P := fun v => ∃ (d : Dice) (c : CT), v = ((n, ()), ((d, ()), ((c, ()), (u2, ())))) ∧ DOK d ∧ CG c ∧ TB c 1) ?_ ?_
    · obtain ⟨a, d2, e3, hd2, _, _⟩ := next_spec 2 d1 hd1 (by omega)
      simp only [e3, Option.bind_some, beq_decide]
      by_cases ha : a = 0
      · obtain ⟨i, d3, e4, hd3, b3, _⟩ := next_spec (newC q).reps.length d2 hd2 (by omega)
        have b3 := b3 (by omega)
        obtain ⟨s1, s2⟩ := stand_new hq.1 hq.2 b3.1 (by omega)
        obtain ⟨e, c', e5, g1, _, g3⟩ := m73_ok hg i
        have he := g3 s1 s2
        simp only [decide_eq_true ha, decide_true, decide_false, cond_true, cond_false, Option.bind_some, Bool.not_true, Bool.not_false, sumE, Bool.true_and, Bool.and_true, Bool.false_and, Bool.and_false, beq_self_eq_true, bne_self_eq_false, e4]
        rw [show m73 ((((newC q).reps, ([], ((newC q).down, ([], ())))), (i, ())), ()) = _ from e5]
        exact ⟨_, rfl, d3, c', rfl, hd3, (g1 he).1, (g1 he).2.2 0 (tb_new q)⟩
      · simp only [decide_eq_false ha, decide_true, decide_false, cond_true, cond_false, Option.bind_some, Bool.not_true, Bool.not_false, sumE, Bool.true_and, Bool.and_true, Bool.false_and, Bool.and_false, beq_self_eq_true, bne_self_eq_false]
        exact ⟨_, rfl, d2, newC q, rfl, hd2, hg, (tb_new q).le (by omega)⟩
    · rintro _ ⟨d2, c, rfl, hd2, hc, hT⟩
      have hw : w64 (n + 1) = n + 1 := w64_id (by omega) (by omega)
      obtain ⟨k, d3, e3, hd3, b3, _⟩ := next_spec (n + 1) d2 hd2 (by omega)
      have b3 := b3 (by omega)
      obtain ⟨c', d', e4, g1, g2, g3⟩ := acts_ok k.toNat c d3 (by omega) hc hd3
      rw [Int.toNat_of_nonneg b3.1] at e4
      simp only [hw, e3, Option.bind_some]
      rw [show loopT l19_0_5 ((k, ()), ((d3, ()), ((c, ()), (((), ()), ())))) = _ from e4]
      exact ⟨_, rfl, c', d', rfl, g1, g2, (g3 _ hT).le (by omega)⟩
  obtain ⟨b, h1, c, d', rfl, h2, h3, h4⟩ := key
  exact ⟨c, d', h1, h2, h3, h4⟩

end Go.Proofs.Ytfbikpbejkgegaa

namespace Go.Proofs.Ytfbikpbejkgegaa
open Go Go.Abs Go.Raft
theorem sane32 : m17 ((), ()) = some ((true, ()), ()) := by kernel_rfl

theorem CG.voted {c : CT} (h : CG c) {j : Nat} {r : RT} (hj : c.reps[j]? = some r) (hr : r.role = 1 ∨ r.role = 2) : r.voted = (j : Int) := by
  obtain ⟨g, hi, _⟩ := h.gd
  have hn := hi.nod j r hj
  rcases hr with hr | hr
  · exact hn.v1 _ _ (hn.cd hr).1
  · obtain ⟨R, hR, hw, _⟩ := hn.ld hr
    have := (hi.rcd _ R hR).vt
    rw [hw] at this
    exact hn.v1 _ _ this

theorem light (l : List Int) : m16 ((l, ()), ()) = some ((decide (l.length ≤ 500), ()), ()) := by
  unfold m16
  have : decide ((l.length : Int) ≤ 500) = decide (l.length ≤ 500) := by
    by_cases h : l.length ≤ 500
    · rw [decide_eq_true h, decide_eq_true (by omega)]
    · rw [decide_eq_false h, decide_eq_false (by omega)]
  rw [this]

theorem roll (l : List Int) : m18 ((l, ()), ()) = some ((), (((l, (0, ())), ()), ())) := rfl

theorem dok0 {l : List Int} (h : l.length ≤ 500) : DOK (l, 0, ()) := ⟨Int.le_refl _, by simp only; omega, h⟩

end Go.Proofs.Ytfbikpbejkgegaa

namespace Go.Proofs.Ytfbikpbejkgegaa
open Go Go.Abs Go.Raft
theorem shrt_hear {n : Int} {r : RT} {m : MT} (hs : Shrt r) : Shrt (hear n r m).1 := by
  by_cases ha : toOK n r m 1 = true
  · exact shrt_of (chk_hear (toOK_iff.1 ha).1)
  · unfold hear
    rw [if_neg ha]
    exact hs

theorem shrt_voted {n : Int} {r : RT} {m : MT} (hs : Shrt r) : Shrt (voted n r m) := by
  by_cases ha : toOK n r m 2 = true
  · exact shrt_of (chk_voted (toOK_iff.1 ha).1)
  · unfold voted
    rw [if_neg ha]
    exact hs

theorem shrt_z : Shrt zeroR := by simp [Shrt, Rep.log, Rep.votes, Rep.mtch, rp]

theorem shrt_stand {n : Int} {r : RT} : Shrt (stand n r).2.1 := by
  unfold stand
  split
  · rename_i hc
    split
    · exact shrt_z
    · rename_i ht
      exact shrt_of (chk_stand (chk_iff.1 hc) ht)
  · exact shrt_z

theorem stand_ents {n : Int} {r : RT} : ∀ m ∈ (stand n r).2.2, m.ents.length ≤ 4294967295 := by
  intro m hm
  unfold stand at hm
  split at hm
  · split at hm
    · cases hm
    · simp only [asks, List.mem_map] at hm
      obtain ⟨j, _, rfl⟩ := hm
      simp
  · cases hm

def newV (i n : Int) : Int × Int := if inn n 1 5 = true ∧ inn i 0 (n - 1) = true then (0, i) else (1, 0)

abbrev newI (i n : Int) : (Int × Int × Int × Int × Int × Unit) × Unit := if inn n 1 5 = true ∧ inn i 0 (n - 1) = true then ((i, 0, -1, 0, 0, ()), ()) else ((0, 0, 0, 0, 0, ()), ())

theorem m39_eq (i n : Int) : m39 ((i, n, ()), ()) = some (((newV i n).1, ()), (newI i n, ())) := by
  unfold m39
  simp only [m81_eq, Option.bind_some]
  cases h : inn n 1 5
  · simp only [decide_true, decide_false, cond_true, cond_false, Option.bind_some, Bool.not_true, Bool.not_false, sumE, Bool.true_and, Bool.and_true, Bool.false_and, Bool.and_false, beq_self_eq_true, bne_self_eq_false, newV, newI, h, Bool.false_eq_true, false_and, if_false]
  · simp only [decide_true, decide_false, cond_true, cond_false, Option.bind_some, Bool.not_true, Bool.not_false, sumE, Bool.true_and, Bool.and_true, Bool.false_and, Bool.and_false, beq_self_eq_true, bne_self_eq_false, w64_pred h]
    cases h2 : inn i 0 (n - 1)
    · simp only [decide_true, decide_false, cond_true, cond_false, Option.bind_some, Bool.not_true, Bool.not_false, sumE, Bool.true_and, Bool.and_true, Bool.false_and, Bool.and_false, beq_self_eq_true, bne_self_eq_false, newV, newI, h2, Bool.false_eq_true, and_false, if_false]
    · simp only [decide_true, decide_false, cond_true, cond_false, Option.bind_some, Bool.not_true, Bool.not_false, sumE, Bool.true_and, Bool.and_true, Bool.false_and, Bool.and_false, beq_self_eq_true, bne_self_eq_false, newV, newI, h, h2, and_self, if_true]

theorem m40_any (i n : Int) : m40 ((i, n, ()), ()) = some (((newV i n).1, ()), (newI i n, ())) := by
  unfold m40
  simp only [m29_eq, m45_eq, Option.bind_some, inn_quorum]
  cases h : inn n 1 5
  · simp only [decide_true, decide_false, cond_true, cond_false, Option.bind_some, Bool.not_true, Bool.not_false, sumE, Bool.true_and, Bool.and_true, Bool.false_and, Bool.and_false, beq_self_eq_true, bne_self_eq_false, newV, newI, h, Bool.false_eq_true, false_and, if_false]
  · simp only [decide_true, decide_false, cond_true, cond_false, Option.bind_some, Bool.not_true, Bool.not_false, sumE, Bool.true_and, Bool.and_true, Bool.false_and, Bool.and_false, beq_self_eq_true, bne_self_eq_false, w64_pred h]
    cases h2 : inn i 0 (n - 1)
    · simp only [decide_true, decide_false, cond_true, cond_false, Option.bind_some, Bool.not_true, Bool.not_false, sumE, Bool.true_and, Bool.and_true, Bool.false_and, Bool.and_false, beq_self_eq_true, bne_self_eq_false, newV, newI, h2, Bool.false_eq_true, and_false, if_false]
    · simp only [decide_true, decide_false, cond_true, cond_false, Option.bind_some, Bool.not_true, Bool.not_false, sumE, Bool.true_and, Bool.and_true, Bool.false_and, Bool.and_false, beq_self_eq_true, bne_self_eq_false, newV, newI, h, h2, and_self, if_true]

theorem m33_ok (r : RT) (hs : Shrt r) (k : Int) (k0 : 0 ≤ k) (k5 : k ≤ 5) {d : Dice} (hd : DOK d) :
    ∃ (m8 : Int × Int × Int × Int × Int × Int × Int × Bool × Unit) (d' : Dice), m33 ((r, k, ()), ((d, ()), ())) = some ((), ((d', ()), ((m8, ()), ()))) ∧ DOK d' := by
  unfold m33
  obtain ⟨a1, d1, e1, hd1, _⟩ := next_spec 6 d hd (by omega)
  obtain ⟨a2, d2, e2, hd2, _⟩ := one_spec [1, 2, a1] d1 hd1 (by simp) (by simp)
  obtain ⟨a3, d3, e3, hd3, _⟩ := next_spec (k + 1) d2 hd2 (by omega)
  obtain ⟨a4, d4, e4, hd4, _⟩ := next_spec 2 d3 hd3 (by omega)
  obtain ⟨a5, d5, e5, hd5, _⟩ := one_spec [r.1, r.1, 0] d4 hd4 (by simp) (by simp)
  obtain ⟨a6, d6, e6, hd6, _⟩ := one_spec [r.2.1, r.2.1, w64 (r.2.1 + 1), w64 (r.2.1 - 1), 1, 0, 1048576, 1048577] d5 hd5 (by simp) (by simp)
  obtain ⟨a7, d7, e7, hd7, _⟩ := one_spec [(r.2.2.2.2.1.length : Int), 0, w64 ((r.2.2.2.2.1.length : Int) + 1)] d6 hd6 (by simp) (by simp)
  obtain ⟨a8, d8, e8, hd8, _⟩ := one_spec [lastT r.log, 0, r.2.1] d7 hd7 (by simp) (by simp)
  obtain ⟨a9, d9, e9, hd9, _⟩ := next_spec 3 d8 hd8 (by omega)
  simp only [e1, e2, Option.bind_some, w64_id (x := k + 1) (by omega) (by omega), e3, e4, e5, e6, e7, m22_eq r hs, e8, e9]
  exact ⟨_, _, rfl, hd9⟩

theorem m25_ok (r : RT) (h1 : r.log.length ≤ 1000) (h2 : r.votes.length ≤ 1000) (h3 : r.mtch.length ≤ 1000) {d : Dice} (hd : DOK d) :
    ∃ b, m25 ((r, ()), ((d, ()), ())) = some b ∧ ∃ (r' : RT) (d' : Dice), b = ((), ((d', ()), (cpR r').2)) ∧ DOK d' ∧ Shrt r' := by
  have hs : Shrt r := ⟨by omega, by omega, by omega⟩
  unfold m25
  simp only [m80_eq r hs, Option.bind_some]
  obtain ⟨a, d1, e1, hd1, _⟩ := next_spec 9 d hd (by omega)
  refine bind_ex (P := fun v => ∃ (r' : RT) (d' : Dice), v = ((), ((d', ()), (z5, (cpR r').2))) ∧ DOK d' ∧ Shrt r') ?_ ?_
  · obtain ⟨id, term, voted, role, log, commit, votes, mtch, ⟨⟩⟩ := r
    simp only [Rep.id, Rep.term, Rep.voted, Rep.role, Rep.log, Rep.commit, Rep.votes, Rep.mtch, rp] at h1 h2 h3 hs ⊢
    simp only [e1, decide_true, decide_false, cond_true, cond_false, Option.bind_some, Bool.not_true, Bool.not_false, sumE, Bool.true_and, Bool.and_true, Bool.false_and, Bool.and_false, beq_self_eq_true, bne_self_eq_false, beq_decide]
    by_cases c0 : a = 0
    · obtain ⟨b, d2, e2, hd2, _⟩ := one_spec [-1, 0, 7] d1 hd1 (by simp) (by simp)
      simp only [decide_eq_true c0, decide_true, decide_false, cond_true, cond_false, Option.bind_some, Bool.not_true, Bool.not_false, sumE, Bool.true_and, Bool.and_true, Bool.false_and, Bool.and_false, beq_self_eq_true, bne_self_eq_false, e2]
      exact ⟨_, rfl, rp b term voted role log commit votes mtch, d2, rfl, hd2, hs⟩
    by_cases c1 : a = 1
    · obtain ⟨b, d2, e2, hd2, _⟩ := one_spec [-1, 0, 1048576, 1048577] d1 hd1 (by simp) (by simp)
      simp only [decide_eq_false c0, decide_eq_true c1, decide_true, decide_false, cond_true, cond_false, Option.bind_some, Bool.not_true, Bool.not_false, sumE, Bool.true_and, Bool.and_true, Bool.false_and, Bool.and_false, beq_self_eq_true, bne_self_eq_false, e2]
      exact ⟨_, rfl, rp id b voted role log commit votes mtch, d2, rfl, hd2, hs⟩
    by_cases c2 : a = 2
    · obtain ⟨b, d2, e2, hd2, _⟩ := one_spec [-2, -1, 0, 9] d1 hd1 (by simp) (by simp)
      simp only [decide_eq_false c0, decide_eq_false c1, decide_eq_true c2, decide_true, decide_false, cond_true, cond_false, Option.bind_some, Bool.not_true, Bool.not_false, sumE, Bool.true_and, Bool.and_true, Bool.false_and, Bool.and_false, beq_self_eq_true, bne_self_eq_false, e2]
      exact ⟨_, rfl, rp id term b role log commit votes mtch, d2, rfl, hd2, hs⟩
    by_cases c3 : a = 3
    · obtain ⟨b, d2, e2, hd2, _⟩ := next_spec 5 d1 hd1 (by omega)
      simp only [decide_eq_false c0, decide_eq_false c1, decide_eq_false c2, decide_eq_true c3, decide_true, decide_false, cond_true, cond_false, Option.bind_some, Bool.not_true, Bool.not_false, sumE, Bool.true_and, Bool.and_true, Bool.false_and, Bool.and_false, beq_self_eq_true, bne_self_eq_false, e2]
      exact ⟨_, rfl, rp id term voted (w64 (b - 1)) log commit votes mtch, d2, rfl, hd2, hs⟩
    by_cases c4 : a = 4
    · obtain ⟨b, d2, e2, hd2, _⟩ := one_spec [0, 1, term, w64 (term + 1)] d1 hd1 (by simp) (by simp)
      simp only [decide_eq_false c0, decide_eq_false c1, decide_eq_false c2, decide_eq_false c3, decide_eq_true c4, decide_true, decide_false, cond_true, cond_false, Option.bind_some, Bool.not_true, Bool.not_false, sumE, Bool.true_and, Bool.and_true, Bool.false_and, Bool.and_false, beq_self_eq_true, bne_self_eq_false, e2]
      rw [show decide (log.length + ([(b, (0, 0, 0, 0, 0, 0, 0, 0, 0, (0, 0, 0, 0, 0, 0, ()), (0, 0, 0, 0, 0, ()), ()), ())] : Log OpT).length ≤ 4294967296) = true from decide_eq_true (by simp only [List.length_singleton]; omega)]
      refine ⟨_, rfl, rp id term voted role (log ++ [(b, (0, 0, 0, 0, 0, 0, 0, 0, 0, (0, 0, 0, 0, 0, 0, ()), (0, 0, 0, 0, 0, ()), ()), ())]) commit votes mtch, d2, rfl, hd2, ?_, hs.2⟩
      simp only [rp_log, List.length_append, List.length_singleton]; omega
    by_cases c5 : a = 5
    · obtain ⟨b, d2, e2, hd2, _⟩ := one_spec [-1, (log.length : Int), w64 ((log.length : Int) + 1)] d1 hd1 (by simp) (by simp)
      simp only [decide_eq_false c0, decide_eq_false c1, decide_eq_false c2, decide_eq_false c3, decide_eq_false c4, decide_eq_true c5, decide_true, decide_false, cond_true, cond_false, Option.bind_some, Bool.not_true, Bool.not_false, sumE, Bool.true_and, Bool.and_true, Bool.false_and, Bool.and_false, beq_self_eq_true, bne_self_eq_false, e2]
      exact ⟨_, rfl, rp id term voted role log b votes mtch, d2, rfl, hd2, hs⟩
    by_cases c6 : a = 6
    · simp only [decide_eq_false c0, decide_eq_false c1, decide_eq_false c2, decide_eq_false c3, decide_eq_false c4, decide_eq_false c5, decide_eq_true c6, decide_true, decide_false, cond_true, cond_false, Option.bind_some, Bool.not_true, Bool.not_false, sumE, Bool.true_and, Bool.and_true, Bool.false_and, Bool.and_false, beq_self_eq_true, bne_self_eq_false]
      rw [show decide (votes.length + [true].length ≤ 4294967296) = true from decide_eq_true (by simp only [List.length_singleton]; omega)]
      refine ⟨_, rfl, rp id term voted role log commit (votes ++ [true]) mtch, d1, rfl, hd1, hs.1, ?_, hs.2.2⟩
      simp only [rp_votes, List.length_append, List.length_singleton]; omega
    by_cases c7 : a = 7
    · simp only [decide_eq_false c0, decide_eq_false c1, decide_eq_false c2, decide_eq_false c3, decide_eq_false c4, decide_eq_false c5, decide_eq_false c6, decide_eq_true c7, decide_true, decide_false, cond_true, cond_false, Option.bind_some, Bool.not_true, Bool.not_false, sumE, Bool.true_and, Bool.and_true, Bool.false_and, Bool.and_false, beq_self_eq_true, bne_self_eq_false]
      rw [show decide (mtch.length + [0].length ≤ 4294967296) = true from decide_eq_true (by simp only [List.length_singleton]; omega)]
      refine ⟨_, rfl, rp id term voted role log commit votes (mtch ++ [0]), d1, rfl, hd1, hs.1, hs.2.1, ?_⟩
      simp only [rp_mtch, List.length_append, List.length_singleton]; omega
    by_cases c8 : a = 8
    · by_cases c9 : (votes.length : Int) > 0
      · obtain ⟨b, d2, e2, hd2, b2, _⟩ := next_spec (votes.length : Int) d1 hd1 (by omega)
        have b2 := b2 (by omega)
        obtain ⟨b', d3, e3, hd3, _⟩ := next_spec 2 d2 hd2 (by omega)
        simp only [decide_eq_false c0, decide_eq_false c1, decide_eq_false c2, decide_eq_false c3, decide_eq_false c4, decide_eq_false c5, decide_eq_false c6, decide_eq_false c7, decide_eq_true c8, decide_eq_true c9, decide_true, decide_false, cond_true, cond_false, Option.bind_some, Bool.not_true, Bool.not_false, sumE, Bool.true_and, Bool.and_true, Bool.false_and, Bool.and_false, beq_self_eq_true, bne_self_eq_false, e2, e3, decide_eq_true b2, decide_eq_true (show b.toNat < votes.length by omega)]
        refine ⟨_, rfl, rp id term voted role log commit (votes.set b.toNat (decide (b' = 0))) mtch, d3, rfl, hd3, hs.1, ?_, hs.2.2⟩
        simp only [rp_votes, List.length_set]; exact hs.2.1
      · simp only [decide_eq_false c0, decide_eq_false c1, decide_eq_false c2, decide_eq_false c3, decide_eq_false c4, decide_eq_false c5, decide_eq_false c6, decide_eq_false c7, decide_eq_true c8, decide_eq_false c9, decide_true, decide_false, cond_true, cond_false, Option.bind_some, Bool.not_true, Bool.not_false, sumE, Bool.true_and, Bool.and_true, Bool.false_and, Bool.and_false, beq_self_eq_true, bne_self_eq_false]
        exact ⟨_, rfl, rp id term voted role log commit votes mtch, d1, rfl, hd1, hs⟩
    · simp only [decide_eq_false c0, decide_eq_false c1, decide_eq_false c2, decide_eq_false c3, decide_eq_false c4, decide_eq_false c5, decide_eq_false c6, decide_eq_false c7, decide_eq_false c8, decide_true, decide_false, cond_true, cond_false, Option.bind_some, Bool.not_true, Bool.not_false, sumE, Bool.true_and, Bool.and_true, Bool.false_and, Bool.and_false, beq_self_eq_true, bne_self_eq_false]
      exact ⟨_, rfl, rp id term voted role log commit votes mtch, d1, rfl, hd1, hs⟩
  · rintro _ ⟨r', d', rfl, h⟩
    exact ⟨_, rfl, r', d', rfl, h⟩

theorem loop4a (q a2 a3 a4 a5 a6 a7 a8 : Int) (x : RT) (hs : Shrt x) (ms : List MT) (hl : ms.length ≤ 10) (hm : ∀ m ∈ ms, m.ents.length ≤ 1000) (raw : MT) (d : Dice) (qs : List Int) (xs : List RT) : ∀ (w j : Nat), j + w = ms.length →
    loopT l4_0_20 (((j : Int), q, a2, a3, a4, a5, a6, a7, a8, (ms.length : Int), ()), ((x, ()), (ms, ((raw, ()), ((d, ()), (qs, (xs, ()))))))) = some (.inr ((a2, a3, a4, a5, a6, a7, a8, q, ()), ((x, ()), ((raw, ()), ((d, ()), (qs, (xs, ()))))))) := by
  intro w
  induction w with
  | zero =>
    intro j hj
    refine loopT_inr ?_
    have : ¬ (j : Int) < (ms.length : Int) := by omega
    simp only [l4_0_20, decide_eq_false this, decide_true, decide_false, cond_true, cond_false, Option.bind_some, Bool.not_true, Bool.not_false, sumE, Bool.true_and, Bool.and_true, Bool.false_and, Bool.and_false, beq_self_eq_true, bne_self_eq_false]
  | succ w ih =>
    intro j hj
    have hlt : decide ((j : Int) < (ms.length : Int)) = true := decide_eq_true (by omega)
    have hbd : decide ((0 : Int) ≤ (j : Int) ∧ (j : Int) < (ms.length : Int)) = true := decide_eq_true (by omega)
    obtain ⟨m, hmj⟩ := getD_some (l := ms) (i := j) (by omega)
    have hme := hm m (List.mem_of_getElem? hmj)
    rw [← ih (j + 1) (by omega)]
    refine loopT_inl ?_
    have e1 := m24_eq q x m hs
    have e2 := m34_eq q x m hs
    have e3 := m31_refl (hear q x m).1 (shrt_hear hs)
    have e4 := m35_refl (mg (hear q x m).2.1.kind (hear q x m).2.1.frm (hear q x m).2.1.to (hear q x m).2.1.term (hear q x m).2.1.prev (hear q x m).2.1.pterm (hear q x m).2.1.commit [] (hear q x m).2.1.ok) (by simp)
    have e5 := m36_eq q x m hs
    have e6 := m37_eq q x m hs
    have e7 := m31_refl (voted q x m) (shrt_voted hs)
    have e8 := m21_eq x m.prev m.pterm hs
    have e9 := m38_eq x m.prev m.pterm hs
    simp only [l4_0_20, hlt, hbd, decide_true, decide_false, cond_true, cond_false, Option.bind_some, Bool.not_true, Bool.not_false, sumE, Bool.true_and, Bool.and_true, Bool.false_and, Bool.and_false, beq_self_eq_true, bne_self_eq_false, Int.toNat_natCast, hmj, e1, e2]
    refine bind_of ((false, q, a2, a3, a4, a5, a6, a7, a8, (ms.length : Int), (j : Int), ()), ((x, ()), (ms, ((raw, ()), ((d, ()), (qs, (xs, ()))))))) ?_ ?_
    · simp only [decide_true, decide_false, cond_true, cond_false, Option.bind_some, Bool.not_true, Bool.not_false, sumE, Bool.true_and, Bool.and_true, Bool.false_and, Bool.and_false, beq_self_eq_true, bne_self_eq_false, e3]
      rw [show m35 ((((nm (hear q x m).2.1).1, ((nm (hear q x m).2.1).2.1, ((nm (hear q x m).2.1).2.2.1, ((nm (hear q x m).2.1).2.2.2.1, ((nm (hear q x m).2.1).2.2.2.2.1, ((nm (hear q x m).2.1).2.2.2.2.2.1, ((nm (hear q x m).2.1).2.2.2.2.2.2.1, ([], ((nm (hear q x m).2.1).2.2.2.2.2.2.2.1, ()))))))))), (((nm (hear q x m).2.1).1, ((nm (hear q x m).2.1).2.1, ((nm (hear q x m).2.1).2.2.1, ((nm (hear q x m).2.1).2.2.2.1, ((nm (hear q x m).2.1).2.2.2.2.1, ((nm (hear q x m).2.1).2.2.2.2.2.1, ((nm (hear q x m).2.1).2.2.2.2.2.2.1, ([], ((nm (hear q x m).2.1).2.2.2.2.2.2.2.1, ()))))))))), ())), ()) = _ from e4]
      simp only [decide_true, decide_false, cond_true, cond_false, Option.bind_some, Bool.not_true, Bool.not_false, sumE, Bool.true_and, Bool.and_true, Bool.false_and, Bool.and_false, beq_self_eq_true, bne_self_eq_false, e5, e6, e7]
      rw [show m21 ((x, (m.2.2.2.2.1, (m.2.2.2.2.2.1, ()))), ()) = _ from e8, show m38 ((x, (m.2.2.2.2.1, (m.2.2.2.2.2.1, ()))), ()) = _ from e9]
      simp only [decide_true, decide_false, cond_true, cond_false, Option.bind_some, Bool.not_true, Bool.not_false, sumE, Bool.true_and, Bool.and_true, Bool.false_and, Bool.and_false, beq_self_eq_true, bne_self_eq_false]
    · simp only [decide_true, decide_false, cond_true, cond_false, Option.bind_some, Bool.not_true, Bool.not_false, sumE, Bool.true_and, Bool.and_true, Bool.false_and, Bool.and_false, beq_self_eq_true, bne_self_eq_false, w64_nat (show j ≤ 4294967296 by omega)]

theorem loop4b (id k b3 b4 b5 : Int) (k0 : 0 ≤ k) (k5 : k ≤ 5) (x : RT) (hs : Shrt x) (raw : MT) (hr : raw.ents.length ≤ 1000) (qs : List Int) (hq : qs.length ≤ 10) (xs : List RT) : ∀ (w j : Nat) (d : Dice), j + w = qs.length → DOK d →
    ∃ d', loopT l4_0_11 (((j : Int), id, k, b3, b4, b5, (qs.length : Int), ()), ((x, ()), ((raw, ()), ((d, ()), (qs, (xs, ())))))) = some (.inr ((id, k, b3, b4, b5, ()), ((raw, ()), ((d', ()), (xs, ()))))) ∧ DOK d' := by
  intro w
  induction w with
  | zero =>
    intro j d hj hd
    refine ⟨d, loopT_inr ?_, hd⟩
    have : ¬ (j : Int) < (qs.length : Int) := by omega
    simp only [l4_0_11, decide_eq_false this, decide_true, decide_false, cond_true, cond_false, Option.bind_some, Bool.not_true, Bool.not_false, sumE, Bool.true_and, Bool.and_true, Bool.false_and, Bool.and_false, beq_self_eq_true, bne_self_eq_false]
  | succ w ih =>
    intro j d hj hd
    have hlt : decide ((j : Int) < (qs.length : Int)) = true := decide_eq_true (by omega)
    have hbd : decide ((0 : Int) ≤ (j : Int) ∧ (j : Int) < (qs.length : Int)) = true := decide_eq_true (by omega)
    obtain ⟨q, hqj⟩ := getD_some (l := qs) (i := j) (by omega)
    obtain ⟨m1, d1, e1, hd1⟩ := m33_ok x hs k k0 k5 hd
    obtain ⟨m2, d2, e2, hd2⟩ := m33_ok x hs k k0 k5 hd1
    obtain ⟨d', e9, h9⟩ := ih (j + 1) d2 (by omega) hd2
    refine ⟨d', ?_, h9⟩
    rw [← e9]
    refine loopT_inl ?_
    have e3 := m23_eq q x hs
    have e4 := m30_eq q x hs
    have e5 := m31_refl (stand q x).2.1 shrt_stand
    have e6 := m32_refl (stand q x).2.2 (by have := stand_len q x; omega) stand_ents
    simp only [l4_0_11, hlt, hbd, decide_true, decide_false, cond_true, cond_false, Option.bind_some, Bool.not_true, Bool.not_false, sumE, Bool.true_and, Bool.and_true, Bool.false_and, Bool.and_false, beq_self_eq_true, bne_self_eq_false, Int.toNat_natCast, hqj]
    refine bind_of ((false, q, id, k, b3, b4, b5, (qs.length : Int), (j : Int), ()), ((x, ()), ((raw, ()), ((d, ()), (qs, (xs, ())))))) ?_ ?_
    · simp only [m26_eq q x hs, m27_eq q x hs, m28_eq, m29_eq, decide_true, decide_false, cond_true, cond_false, Option.bind_some, Bool.not_true, Bool.not_false, sumE, Bool.true_and, Bool.and_true, Bool.false_and, Bool.and_false, beq_self_eq_true, bne_self_eq_false]
    · simp only [decide_true, decide_false, cond_true, cond_false, Option.bind_some, Bool.not_true, Bool.not_false, sumE, Bool.true_and, Bool.and_true, Bool.false_and, Bool.and_false, beq_self_eq_true, bne_self_eq_false, e3, e4]
      refine bind_of ((false, q, id, k, b3, b4, b5, (qs.length : Int), (j : Int), ()), ((x, ()), ((raw, ()), ((d, ()), (qs, (xs, ())))))) ?_ ?_
      · rw [show m31 (((stand q x).2.1, (((r7 (stand q x).2.1).1, ((r7 (stand q x).2.1).2.1, ((r7 (stand q x).2.1).2.2.1, ((r7 (stand q x).2.1).2.2.2.1, ((r7 (stand q x).2.1).2.2.2.2.1, ((r7 (stand q x).2.1).2.2.2.2.2.1, ((r7 (stand q x).2.1).2.2.2.2.2.2.1, ((stand q x).2.1.mtch, ())))))))), ())), ()) = _ from e5]
        simp only [decide_true, decide_false, cond_true, cond_false, Option.bind_some, Bool.not_true, Bool.not_false, sumE, Bool.true_and, Bool.and_true, Bool.false_and, Bool.and_false, beq_self_eq_true, bne_self_eq_false, e6]
      · simp only [decide_true, decide_false, cond_true, cond_false, Option.bind_some, Bool.not_true, Bool.not_false, sumE, Bool.true_and, Bool.and_true, Bool.false_and, Bool.and_false, beq_self_eq_true, bne_self_eq_false, e1, e2]
        have e7 := loop4a q id k b3 b4 b5 (qs.length : Int) (j : Int) x hs [(m1.1, m1.2.1, m1.2.2.1, m1.2.2.2.1, m1.2.2.2.2.1, m1.2.2.2.2.2.1, m1.2.2.2.2.2.2.1, [], m1.2.2.2.2.2.2.2.1, ()), (m2.1, m2.2.1, m2.2.2.1, m2.2.2.2.1, m2.2.2.2.2.1, m2.2.2.2.2.2.1, m2.2.2.2.2.2.2.1, [], m2.2.2.2.2.2.2.2.1, ()), raw] (by simp) (by
          intro m hm
          simp only [List.mem_cons, List.not_mem_nil, or_false] at hm
          rcases hm with rfl | rfl | rfl
          · simp [Msg.ents]
          · simp [Msg.ents]
          · exact hr) raw d2 qs xs 3 0 (by simp)
        refine bind_of _ e7 ?_
        simp only [decide_true, decide_false, cond_true, cond_false, Option.bind_some, Bool.not_true, Bool.not_false, sumE, Bool.true_and, Bool.and_true, Bool.false_and, Bool.and_false, beq_self_eq_true, bne_self_eq_false, m39_eq, m40_any]
        refine bind_of ((false, id, k, b3, b4, b5, (qs.length : Int), (j : Int), ()), ((x, ()), ((raw, ()), ((d2, ()), (qs, (xs, ())))))) ?_ ?_
        · have e8 := m31_refl (rp (newI id q).1.1 (newI id q).1.2.1 (newI id q).1.2.2.1 (newI id q).1.2.2.2.1 [] (newI id q).1.2.2.2.2.1 [] []) (by simp [Shrt, Rep.log, Rep.votes, Rep.mtch, rp])
          rw [show m31 ((((newI id q).1.1, ((newI id q).1.2.1, ((newI id q).1.2.2.1, ((newI id q).1.2.2.2.1, ([], ((newI id q).1.2.2.2.2.1, ([], ([], ())))))))), (((newI id q).1.1, ((newI id q).1.2.1, ((newI id q).1.2.2.1, ((newI id q).1.2.2.2.1, ([], ((newI id q).1.2.2.2.2.1, ([], ([], ())))))))), ())), ()) = _ from e8]
          simp only [decide_true, decide_false, cond_true, cond_false, Option.bind_some, Bool.not_true, Bool.not_false, sumE, Bool.true_and, Bool.and_true, Bool.false_and, Bool.and_false, beq_self_eq_true, bne_self_eq_false]
        · simp only [decide_true, decide_false, cond_true, cond_false, Option.bind_some, Bool.not_true, Bool.not_false, sumE, Bool.true_and, Bool.and_true, Bool.false_and, Bool.and_false, beq_self_eq_true, bne_self_eq_false, w64_nat (show j ≤ 4294967296 by omega)]

theorem loop4c (id k n : Int) (k0 : 0 ≤ k) (k5 : k ≤ 5) (raw : MT) (hr : raw.ents.length ≤ 1000) (xs : List RT) (hl : xs.length ≤ 10) (hx : ∀ x ∈ xs, Shrt x) : ∀ (w i : Nat) (d : Dice), i + w = xs.length → DOK d →
    loopT l4_0_8 ((id, k, (i : Int), n, (xs.length : Int), ()), ((raw, ()), ((d, ()), (xs, ())))) = some (.inr ((), ())) := by
  intro w
  induction w with
  | zero =>
    intro i d hi hd
    refine loopT_inr ?_
    have : ¬ (i : Int) < (xs.length : Int) := by omega
    simp only [l4_0_8, decide_eq_false this, decide_true, decide_false, cond_true, cond_false, Option.bind_some, Bool.not_true, Bool.not_false, sumE, Bool.true_and, Bool.and_true, Bool.false_and, Bool.and_false, beq_self_eq_true, bne_self_eq_false]
  | succ w ih =>
    intro i d hi hd
    have hlt : decide ((i : Int) < (xs.length : Int)) = true := decide_eq_true (by omega)
    have hbd : decide ((0 : Int) ≤ (i : Int) ∧ (i : Int) < (xs.length : Int)) = true := decide_eq_true (by omega)
    obtain ⟨x, hxi⟩ := getD_some (l := xs) (i := i) (by omega)
    obtain ⟨a, d1, e1, hd1, _⟩ := next_spec 7 d hd (by omega)
    obtain ⟨d2, e2, hd2⟩ := loop4b id k n (xs.length : Int) (i : Int) k0 k5 x (hx x (List.mem_of_getElem? hxi)) raw hr [k, n, a] (by simp) xs 3 0 d1 (by simp) hd1
    rw [← ih (i + 1) d2 (by omega) hd2]
    refine loopT_inl ?_
    simp only [l4_0_8, hlt, hbd, decide_true, decide_false, cond_true, cond_false, Option.bind_some, Bool.not_true, Bool.not_false, sumE, Bool.true_and, Bool.and_true, Bool.false_and, Bool.and_false, beq_self_eq_true, bne_self_eq_false, Int.toNat_natCast, hxi, e1]
    refine bind_of _ e2 ?_
    simp only [decide_true, decide_false, cond_true, cond_false, Option.bind_some, Bool.not_true, Bool.not_false, sumE, Bool.true_and, Bool.and_true, Bool.false_and, Bool.and_false, beq_self_eq_true, bne_self_eq_false, w64_nat (show i ≤ 4294967296 by omega)]

theorem law4c (l : List Int) (raw : MT) (n id : Int) : m4 ((l, raw, n, id, ()), ()) = some ((true, ()), ()) := by
  unfold m4
  refine bind_of ((!decide (l.length ≤ 500) || decide ((raw.ents.length : Int) > 20), id, n, l, ()), ((raw, ()), ())) ?_ ?_
  · simp only [light, decide_true, decide_false, cond_true, cond_false, Option.bind_some, Bool.not_true, Bool.not_false, sumE, Bool.true_and, Bool.and_true, Bool.false_and, Bool.and_false, beq_self_eq_true, bne_self_eq_false]
    cases decide (l.length ≤ 500) <;> simp only [decide_true, decide_false, cond_true, cond_false, Option.bind_some, Bool.not_true, Bool.not_false, sumE, Bool.true_and, Bool.and_true, Bool.false_and, Bool.and_false, beq_self_eq_true, bne_self_eq_false, Bool.true_or, Bool.false_or]
  · simp only [sane32]
    cases hb : (!decide (l.length ≤ 500) || decide ((raw.ents.length : Int) > 20))
    · rw [Bool.or_eq_false_iff] at hb
      have hl : l.length ≤ 500 := by simpa using hb.1
      have hraw : raw.ents.length ≤ 20 := by have := of_decide_eq_false hb.2; omega
      simp only [decide_true, decide_false, cond_true, cond_false, Option.bind_some, Bool.not_true, Bool.not_false, sumE, Bool.true_and, Bool.and_true, Bool.false_and, Bool.and_false, beq_self_eq_true, bne_self_eq_false, roll]
      obtain ⟨c, d1, e1, hc, hd1, ht⟩ := m19_ok 14 (by omega) (by omega) (dok0 hl)
      have n1 := hc.n1; have n5 := hc.n5
      simp only [e1, Option.bind_some]
      obtain ⟨i, d2, e2, hd2, b2, _⟩ := next_spec c.reps.length d1 hd1 (by omega)
      have b2 := b2 (by omega)
      obtain ⟨r, hr, _⟩ := rep_at b2.1 b2.2
      have hC := (hc.v.rp _ r hr).2
      have hs := shrt_of hC
      rw [show m20 (((c.1.length : Int), ()), ((d1, ()), ())) = _ from e2]
      have hvl : r.votes.length ≤ 1000 ∧ r.mtch.length ≤ 1000 := by
        rcases role_cases hC.ro with h0 | h0 | h0
        · have := (role0_iff h0).1 hC.ro; rw [this.1, this.2]; simp
        · have := (role1_iff h0).1 hC.ro; rw [this.2.2]; simp; omega
        · have := (role2_iff h0).1 hC.ro; omega
      have hll := hC.ll
      obtain ⟨_, e3, r', d3, rfl, hd3, hs'⟩ := m25_ok r (by omega) hvl.1 hvl.2 hd2
      simp only [decide_true, decide_false, cond_true, cond_false, Option.bind_some, Bool.not_true, Bool.not_false, sumE, Bool.true_and, Bool.and_true, Bool.false_and, Bool.and_false, beq_self_eq_true, bne_self_eq_false, rowAt_G, rowG_int b2.1 (show c.1[i.toNat]? = some r from hr), e3]
      have e4 := loop4c id (c.reps.length : Int) n (by omega) (by omega) raw (by omega) [r, r'] (by simp) (by
        intro x hx
        simp only [List.mem_cons, List.not_mem_nil, or_false] at hx
        rcases hx with rfl | rfl
        · exact hs
        · exact hs') 2 0 d3 (by simp) hd3
      refine bind_of _ e4 ?_
      simp only [decide_true, decide_false, cond_true, cond_false, Option.bind_some, Bool.not_true, Bool.not_false, sumE, Bool.true_and, Bool.and_true, Bool.false_and, Bool.and_false, beq_self_eq_true, bne_self_eq_false]
    · simp only [decide_true, decide_false, cond_true, cond_false, Option.bind_some, Bool.not_true, Bool.not_false, sumE, Bool.true_and, Bool.and_true, Bool.false_and, Bool.and_false, beq_self_eq_true, bne_self_eq_false]

theorem law4 : ∀ x, Abs.InRs [.row (.int .i64), (.cons (.int .i64) (.cons (.int .i64) (.cons (.int .i64) (.cons (.int .i64) (.cons (.int .i64) (.cons (.int .i64) (.cons (.int .i64) (.cons (.row Z1) (.cons .bool .unit))))))))), .int .i64, .int .i64] x → m4 (x, ()) = some ((true, ()), ()) := fun x _ => law4c x.1 x.2.1 x.2.2.1 x.2.2.2.1

end Go.Proofs.Ytfbikpbejkgegaa
