/- A region on typed values is one on abstract values. -/
import Derived.Test.YtcblbcpnfidndaaPxD
set_option linter.unusedSimpArgs false
set_option linter.unusedVariables false
namespace Go.Abs
open Go

section
variable {P : Program} {N : FuncId → Note} {ℓ : Lens}

theorem stepOp_nocall {o : Oper} {fr : Fr} {H : Heap} {slot : Nat} (hm : makes o.op = false) (c c' : CL) : stepOp P N c o fr H slot = stepOp P N c' o fr H slot := by
  obtain ⟨dst, op, type, pos, after, guard⟩ := o
  cases op with
  | call cl =>
    simp only [stepOp]
    cases hcal : cl.callee with
    | value f =>
      obtain ⟨callee, args, argTypes⟩ := cl
      simp only at hcal
      subst hcal
      cases hm
    | builtin b => cases b <;> rfl
    | invoke r m => rfl
  | makeFunc fn first caps => cases fn <;> rfl
  | makeMap t rv => cases rv <;> rfl
  | _ => rfl

/-! ### A new group -/

theorem getS_group {H : SHeap} {slot : Nat} {new : List SB} (h : H[slot]? = some []) : (∀ g b, getS H g = some b → getS (H.set slot new) g = some b) ∧ ∀ (k : Nat) (b : SB), new[k]? = some b → getS (H.set slot new) (slot, k) = some b := by
  have hlt : slot < H.length := (List.getElem?_eq_some_iff.1 h).1
  refine ⟨fun g b hg => ?_, fun k b hk => ?_⟩
  · by_cases e : slot = g.1
    · simp only [getS, ← e, h] at hg
      simp at hg
    · simp only [getS] at hg ⊢
      rw [List.getElem?_set_ne e]
      exact hg
  · simp [getS, hlt, hk]

theorem newGroupS_spec {H H' : SHeap} {slot : Nat} {mk : Bool} {new : List SB} (h : newGroupS H slot mk new = some H') :
    (∀ ℓ : Lens, newGroup (dH ℓ H) slot mk (new.map (dN ℓ)) = some (dH ℓ H')) ∧ (∀ ℓ, Agr ℓ H' → Agr ℓ H ∧ NewOK ℓ slot new) ∧ (new ≠ [] → H[slot]? = some []) := by
  cases mk with
  | true =>
    simp only [newGroupS] at h
    split at h
    · rename_i hs
      split at h
      · rename_i hal
        cases h
        have hal : ∀ b ∈ new, b.alive = true := by simpa using hal
        obtain ⟨h1, h2⟩ := getS_group (new := new) hs
        refine ⟨fun ℓ => ?_, fun ℓ ha => ⟨fun g b hg => ha g b (h1 g b hg), fun k b hk => ha _ b (h2 k b hk)⟩, fun _ => hs⟩
        simp only [newGroup, if_true, dH, List.map_set, List.map_map]
        congr 2
        refine List.map_congr_left fun b hb => ?_
        simp only [Function.comp, dN_alive (hal b hb)]
      · cases h
    · cases h
  | false =>
    simp only [newGroupS] at h
    split at h
    · cases h
      exact ⟨fun ℓ => rfl, fun ℓ ha => ⟨ha, fun k b hk => by simp at hk⟩, fun e => absurd rfl e⟩
    · cases h

theorem group_putAllS {slot : Nat} : ∀ (wr : List (Nm × SB)) (H : SHeap), (putAllS H wr)[slot]? = some [] → H[slot]? = some [] := by
  intro wr
  induction wr with
  | nil => intro H h; exact h
  | cons p r ih =>
    intro H h
    obtain ⟨g, b⟩ := p
    have := ih _ h
    unfold setS at this
    by_cases e : g.1 = slot
    · subst e
      cases hl : H[g.1]? with
      | none => simp [hl] at this
      | some l =>
        simp [hl] at this
        rw [this]
    · rw [List.getElem?_modify_ne _ _ e] at this
      exact this

/-- Lengths with which an operation goes through. -/
theorem lenOK_of {call : FuncId → SCall} (hc : ∀ f, CallOK P f (call f)) {o : Oper} {fr : SFr} {H H' : SHeap} {slot : Nat} {mk : Bool} {r : SRes} (h : (stepOpS P N call o fr H slot).mean = some r) (hg : newGroupS (putAllS H r.wr) slot mk r.new = some H') : LenOK H r.wr := by
  let l : Lens := fun g => match getS H g with
    | some b => b.len
    | none => match r.new[g.2]? with
      | some b => b.len
      | none => 0
  have ha : Agr l H := fun g b hb => by show (match getS H g with | some b => b.len | none => _) = _; rw [hb]
  have hn : NewOK l slot r.new := by
    intro k b hk
    have hs := group_putAllS r.wr H ((newGroupS_spec hg).2.2 (fun e => by rw [e] at hk; simp at hk))
    show (match getS H (slot, k) with | some b => b.len | none => match r.new[k]? with | some b => b.len | none => 0) = _
    have : getS H (slot, k) = none := by simp [getS, hs]
    rw [this, hk]
  exact (stepOpS_spec hc ha h hn).choose_spec.2.2

/-! ### An operation in a region -/

def EnvIs (E : SEnv) (E' : Env) : Prop := E'.P = E.P ∧ E'.N = E.N ∧ E'.nt = E.nt ∧ E'.locs = E.locs ∧ E'.pairs = E.pairs ∧ E'.keep = E.keep

theorem putDst_dF (fr : SFr) (d : Option Nat) (v : SV) : putDst (dF ℓ fr) d (dV ℓ v) = dF ℓ (putDstS fr d v) := by
  cases d with
  | none => rfl
  | some d => exact (ins_dF ℓ d v fr).symm

variable {E : SEnv} {ops : Array Oper} {base : Nat}

theorem setLit_same {x : SV} {d : Nat} : ∀ (fr : SFr), lookS fr d = x → setLit x d fr = fr := by
  intro fr
  induction fr with
  | nil => intro _; rfl
  | cons p r ih =>
    intro h
    obtain ⟨s, y⟩ := p
    simp only [lookS] at h
    simp only [setLit]
    split at h
    · rename_i e; rw [if_pos e, h]
    · rename_i e; rw [if_neg e, ih h]

theorem stepIS_spec {call : Nat → FuncId → SCall} {i : Nat} (hc : ∀ f, CallOK E.P f (call i f)) {s s' : SSt} {x : Option SRes} (h : (stepIS E call ops base i s).mean = some (s', x)) (ha' : Agr ℓ s'.hp) :
    Agr ℓ s.hp ∧ ∃ c : CL, Sound E.P c ∧ ∀ E' : Env, EnvIs E E' → (makesAt ops i = true → E'.call (slotOf ops base i) = c) → stepI E' ops base i (dS ℓ s) = some (dS ℓ s', x.map (dR ℓ)) := by
  unfold stepIS at h
  split at h
  · rename_i ho
    have := Tr.mean_ret h
    cases this
    refine ⟨ha', fun _ _ _ => none, none_sound, fun E' _ _ => ?_⟩
    unfold stepI
    simp only [ho, Option.map_none]
  · rename_i o ho
    obtain ⟨hd, h⟩ := Tr.mean_when h
    simp only at h
    -- it is passed by
    have skip : ∀ h : (Tr.ret (({ s with fr := putDstS s.fr o.dst (.tup []) } : SSt), (none : Option SRes))).mean = some (s', x), goesOn ops (dS ℓ s).fr o = some false →
        Agr ℓ s.hp ∧ ∃ c : CL, Sound E.P c ∧ ∀ E' : Env, EnvIs E E' → (makesAt ops i = true → E'.call (slotOf ops base i) = c) → stepI E' ops base i (dS ℓ s) = some (dS ℓ s', x.map (dR ℓ)) := by
      intro h hgo
      have := Tr.mean_ret h
      cases this
      refine ⟨ha', fun _ _ _ => none, none_sound, fun E' hE _ => ?_⟩
      unfold stepI
      simp only [ho, hE.2.2.1]
      rw [if_pos hd]
      simp only [hgo, Option.map_none]
      have := putDst_dF (ℓ := ℓ) s.fr o.dst (.tup [])
      simp only [dV_tup, List.map_nil] at this
      simp only [dS, this]
    -- it is run
    have doit : ((stepOpS E.P E.N (call i) o s.fr s.hp (slotOf ops base i)).bind fun r =>
        match newGroupS (putAllS s.hp r.wr) (slotOf ops base i) (makes o.op) r.new with
        | some H => Tr.ret (({ fr := putDstS s.fr o.dst r.val, hp := H } : SSt), some r)
        | none => .fail).mean = some (s', x) → goesOn ops (dS ℓ s).fr o = some true →
        Agr ℓ s.hp ∧ ∃ c : CL, Sound E.P c ∧ ∀ E' : Env, EnvIs E E' → (makesAt ops i = true → E'.call (slotOf ops base i) = c) → stepI E' ops base i (dS ℓ s) = some (dS ℓ s', x.map (dR ℓ)) := by
      intro h hgo
      obtain ⟨r, h1, h2⟩ := Tr.mean_bind h
      split at h2
      · rename_i H hH
        have := Tr.mean_ret h2
        cases this
        obtain ⟨g1, g2, g3⟩ := newGroupS_spec hH
        have hlen := lenOK_of hc h1 hH
        obtain ⟨a1, a2⟩ := g2 ℓ ha'
        have a0 := a1.putAllS hlen
        obtain ⟨c, c1, c2, _⟩ := stepOpS_spec hc a0 h1 a2
        refine ⟨a0, c, c1, fun E' hE hcall => ?_⟩
        unfold stepI
        simp only [ho, hE.1, hE.2.1, hE.2.2.1]
        rw [if_pos hd]
        simp only [hgo]
        have hop : stepOp E.P E.N (E'.call (slotOf ops base i)) o (dS ℓ s).fr (dS ℓ s).hp (slotOf ops base i) = some (dR ℓ r) := by
          cases hm : makes o.op with
          | true => rw [hcall (by rw [makesAt_some ho]; exact hm)]; exact c2
          | false => rw [stepOp_nocall hm _ c]; exact c2
        rw [hop]
        simp only
        have := g1 ℓ
        rw [dH_putAllS] at this
        rw [show newGroup (putAll (dS ℓ s).hp (dR ℓ r).wr) (slotOf ops base i) (makes o.op) (dR ℓ r).new = some (dH ℓ H) from this]
        simp only [Option.map_some, dS, ← putDst_dF]
        rfl
      · exact (Tr.mean_fail h2).elim
    split at h
    · rename_i hg
      exact doit h (by simp [goesOn, hg])
    · rename_i j want hg
      split at h
      · rename_i d hdj
        have hlook : look (dS ℓ s).fr d = dV ℓ (lookS s.fr d) := look_dF ℓ s.fr d
        split at h
        · rename_i b hb
          have hgo : goesOn ops (dS ℓ s).fr o = some (b == want) := by
            simp only [goesOn, hg, hdj, hlook, hb, dV_bool]
          cases want with
          | true =>
            cases b with
            | true => simp only [Tr.mean, cond_true, setLit_same _ hb] at h; exact doit h hgo
            | false => simp only [Tr.mean, cond_false, setLit_same _ hb] at h; exact skip h hgo
          | false =>
            cases b with
            | true => simp only [Tr.mean, cond_true, setLit_same _ hb] at h; exact skip h hgo
            | false => simp only [Tr.mean, cond_false, setLit_same _ hb] at h; exact doit h hgo
        · rename_i hb
          exact skip h (by simp only [goesOn, hg, hdj, hlook, hb, dV_tup, List.map_nil])
        · exact (Tr.mean_fail h).elim
      · exact (Tr.mean_fail h).elim

theorem runLS_spec {call : Nat → FuncId → SCall} (hc : ∀ i f, CallOK E.P f (call i f)) : ∀ (l : List Nat) (s s' : SSt) (xs : List (Option SRes)), (runLS E call ops base l s).mean = some (s', xs) → l.Pairwise (· < ·) → Agr ℓ s'.hp →
    Agr ℓ s.hp ∧ ∃ calls : Nat → CL, (∀ k, Sound E.P (calls k)) ∧ ∀ E' : Env, EnvIs E E' → (∀ i ∈ l, makesAt ops i = true → E'.call (slotOf ops base i) = calls (slotOf ops base i)) →
      runL E' ops base l (dS ℓ s) = some (dS ℓ s', xs.map (Option.map (dR ℓ))) := by
  intro l
  induction l with
  | nil =>
    intro s s' xs h _ ha
    have := Tr.mean_ret h
    cases this
    exact ⟨ha, fun _ _ _ _ => none, fun _ => none_sound, fun E' _ _ => rfl⟩
  | cons i r ih =>
    intro s s' xs h hp ha
    simp only [runLS] at h
    obtain ⟨⟨s1, x⟩, h1, h⟩ := Tr.mean_bind h
    obtain ⟨⟨s2, ys⟩, h2, h⟩ := Tr.mean_bind h
    have := Tr.mean_ret h
    cases this
    rw [List.pairwise_cons] at hp
    obtain ⟨a1, calls, c1, c2⟩ := ih s1 _ _ h2 hp.2 ha
    obtain ⟨a0, c, c3, c4⟩ := stepIS_spec (hc i) h1 a1
    refine ⟨a0, fun k => if k = slotOf ops base i ∧ makesAt ops i = true then c else calls k, fun k => ?_, fun E' hE hcall => ?_⟩
    · simp only
      split
      · exact c3
      · exact c1 k
    · simp only [runL]
      rw [c4 E' hE (fun hm => by rw [hcall i (by simp) hm]; exact if_pos ⟨rfl, hm⟩)]
      simp only
      rw [c2 E' hE (fun j hj hm => ?_)]
      · rfl
      · rw [hcall j (by simp [hj]) hm]
        show (if slotOf ops base j = slotOf ops base i ∧ makesAt ops i = true then c else calls (slotOf ops base j)) = _
        split
        · rename_i hh
          exact absurd hh.1 (Ne.symm (slotOf_ne (Nat.ne_of_lt (hp.1 j hj)) hh.2 hm))
        · rfl

theorem apart3_names {i j : Nat} {x y : Option SRes} : apart3 ops base i j (x.map (dR ℓ)) (y.map (dR ℓ)) = apart3 ops base i j (x.map resN) (y.map resN) := by
  have hw : ∀ r : SRes, (dR ℓ r).wr.map (·.1) = (resN r).wr.map (·.1) := fun r => by simp [dR, resN, dW]
  have hr : ∀ r : SRes, (dR ℓ r).rd = (resN r).rd := fun r => rfl
  cases x <;> cases y <;> simp only [apart3, apart2, noSlot, Option.map_none, Option.map_some, hw, hr]

theorem clear_dF (locs : List Nat) (fr : SFr) : clear locs (dF ℓ fr) = dF ℓ (clearS locs fr) := by
  simp only [clear, clearS, dF, List.filter_map]
  rfl

theorem Agr.more {H : SHeap} {n : Nat} (h : Agr ℓ (H ++ List.replicate n [])) : Agr ℓ H := h.append

theorem runRegionS_spec {call : Nat → FuncId → SCall} (hc : ∀ i f, CallOK E.P f (call i f)) {id : Nat} {ops : Array Oper} {draw : Bool} {s s' : SSt} (h : (runRegionS E call id ops draw s).mean = some s') (ha : Agr ℓ s'.hp) :
    Agr ℓ s.hp ∧ ∃ calls : Nat → CL, (∀ k, Sound E.P (calls k)) ∧ ∀ E' : Env, EnvIs E E' → E'.call = calls → runRegion E' id ops draw (dS ℓ s) = some (dS ℓ s') := by
  unfold runRegionS at h
  obtain ⟨⟨s1, xs⟩, h1, h2⟩ := Tr.mean_bind h
  split at h2
  · exact (Tr.mean_fail h2).elim
  · rename_i hd
    have := Tr.mean_ret h2
    subst this
    obtain ⟨a1, calls, c1, c2⟩ := runLS_spec (ℓ := ℓ) hc _ _ _ _ h1 List.pairwise_lt_range ha
    refine ⟨a1.more, calls, c1, fun E' hE hcall => ?_⟩
    have := c2 E' hE (fun i _ _ => by rw [hcall])
    unfold runRegion
    have hrep : dH ℓ (s.hp ++ List.replicate (nMakes ops) []) = (dS ℓ s).hp ++ List.replicate (nMakes ops) [] := by
      rw [dH_append]
      simp [dS, dH]
    have hlen : (dS ℓ s).hp.length = s.hp.length := length_dH ℓ s.hp
    rw [hlen]
    have e : ({ dS ℓ s with hp := (dS ℓ s).hp ++ List.replicate (nMakes ops) [] } : St) = dS ℓ { s with hp := s.hp ++ List.replicate (nMakes ops) [] } := by
      simp only [dS] at hrep ⊢
      rw [hrep]
    rw [e, this]
    simp only
    have hpairs : ((E'.pairs id).all fun p => apart3 ops s.hp.length p.1 p.2 ((xs.map (Option.map (dR ℓ))).getD p.1 none) ((xs.map (Option.map (dR ℓ))).getD p.2 none)) =
        (E.pairs id).all fun q => apart3 ops s.hp.length q.1 q.2 ((xs.getD q.1 none).map resN) ((xs.getD q.2 none).map resN) := by
      rw [hE.2.2.2.2.1]
      congr 1
      funext p
      have hgd : ∀ i, (xs.map (Option.map (dR ℓ))).getD i none = (xs.getD i none).map (dR ℓ) := fun i => by
        simp only [List.getD_eq_getElem?_getD, List.getElem?_map]
        cases xs[i]? <;> rfl
      rw [hgd, hgd, apart3_names]
    rw [hpairs, if_neg (by simpa using hd)]
    simp only [dS, hE.2.2.2.1, clear_dF]

/-! ### Names that are there -/

def validV (H : SHeap) (v : SV) : Bool := (refsVS v).all fun g => (getS H g).isSome
def validA (H : SHeap) (v : SV) : Bool := (refsAS v).all fun g => (getS H g).isSome
def validB (H : SHeap) : SB → Bool
  | .box _ v => validA H v
  | _ => true
def validS (s : SSt) : Bool := (s.fr.all fun p => validV s.hp p.2) && s.hp.all fun l => l.all (validB s.hp)

section
variable {ℓ' : Lens}
theorem d1_congr {v : SV} (h : ∀ g ∈ refs1S v, ℓ g = ℓ' g) : d1 ℓ v = d1 ℓ' v := by
  cases v with
  | own t g => simp only [d1, h g (by simp [refs1S])]
  | _ => rfl
theorem map_congr' {d d' : SV → AV} {rf : SV → List Nm} (hd : ∀ v, (∀ g ∈ rf v, ℓ g = ℓ' g) → d v = d' v) {l : List SV} (h : ∀ g ∈ l.flatMap rf, ℓ g = ℓ' g) : l.map d = l.map d' :=
  List.map_congr_left fun v hv => hd v fun g hg => h g (List.mem_flatMap.2 ⟨v, hv, hg⟩)
theorem dC_congr {v : SV} (h : ∀ g ∈ refsCS v, ℓ g = ℓ' g) : dC ℓ v = dC ℓ' v := by
  cases v with
  | clo f cs => simp only [dC]; rw [map_congr' (fun v hv => d1_congr hv) h]
  | own t g => exact d1_congr (v := .own t g) h
  | _ => rfl
theorem dA_congr {v : SV} (h : ∀ g ∈ refsAS v, ℓ g = ℓ' g) : dA ℓ v = dA ℓ' v := by
  cases v with
  | agg cs => simp only [dA]; rw [map_congr' (fun v hv => dC_congr hv) h]
  | clo f cs => exact dC_congr (v := .clo f cs) h
  | own t g => exact d1_congr (v := .own t g) h
  | _ => rfl
theorem dV_congr {v : SV} (h : ∀ g ∈ refsVS v, ℓ g = ℓ' g) : dV ℓ v = dV ℓ' v := by
  cases v with
  | tup vs => simp only [dV]; rw [map_congr' (fun v hv => dA_congr hv) h]
  | agg cs => exact dA_congr (v := .agg cs) h
  | clo f cs => exact dA_congr (v := .clo f cs) h
  | own t g => exact d1_congr (v := .own t g) h
  | _ => rfl

theorem agr_eq {H : SHeap} (ha : Agr ℓ H) (hb : Agr ℓ' H) {g : Nm} (h : (getS H g).isSome = true) : ℓ g = ℓ' g := by
  obtain ⟨b, hb'⟩ := Option.isSome_iff_exists.1 h
  rw [ha g b hb', hb g b hb']

theorem dS_congr {s : SSt} (hv : validS s = true) (ha : Agr ℓ s.hp) (hb : Agr ℓ' s.hp) : dS ℓ s = dS ℓ' s := by
  simp only [validS, Bool.and_eq_true, List.all_eq_true] at hv
  obtain ⟨h1, h2⟩ := hv
  simp only [dS, dF, dH]
  congr 1
  · refine List.map_congr_left fun p hp => ?_
    rw [dV_congr fun g hg => agr_eq ha hb ((List.all_eq_true.1 (h1 p hp)) g hg)]
  · refine List.map_congr_left fun l hl => List.map_congr_left fun b hb' => ?_
    have := h2 l hl b hb'
    cases b with
    | box sz v => simp only [dB, dA_congr fun g hg => agr_eq ha hb ((List.all_eq_true.1 this) g hg)]
    | _ => rfl
end

end
end Go.Abs
