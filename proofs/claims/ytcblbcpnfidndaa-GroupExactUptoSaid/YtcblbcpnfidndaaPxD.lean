/- Operations on typed values are those on abstract ones, fourth part: calls, all operations. -/
import Derived.Test.YtcblbcpnfidndaaPxC
set_option linter.unusedSimpArgs false
set_option linter.unusedVariables false
namespace Go.Abs
open Go

/-- The lengths of the blocks that are handed over. -/
def SubAgr (ℓ : Lens) (sub : List SB) : Prop := ∀ (j : Nat) (b : SB), sub[j]? = some b → ℓ (j, 0) = b.len

def dO (ℓ : Lens) (out : SOut) : Out := (dV ℓ out.1, out.2.1.map (dB ℓ), out.2.2.map (dN ℓ))

/-- The call is the model's. -/
def CallOK (P : Program) (f : FuncId) (c : SCall) : Prop := ∀ (args : List SV) (sub : List SB) (out : SOut), (c args sub).mean = some out →
  ∀ ℓ0 ℓ' : Lens, SubAgr ℓ0 sub → SubAgr ℓ' (out.2.1 ++ out.2.2) → Entered P f ∧ Contract P f (args.map (dV ℓ0)) (sub.map (dN ℓ0)) (dO ℓ' out)

open Classical in
/-- One call alone is told. -/
noncomputable def only (f : FuncId) (args : List AV) (sub : List Blk) (out : Out) : CL := fun f' args' sub' => if f' = f ∧ args' = args ∧ sub' = sub then some out else none

theorem only_self (f : FuncId) (args : List AV) (sub : List Blk) (out : Out) : only f args sub out f args sub = some out := by simp [only]

theorem only_sound {P : Program} {f : FuncId} {args : List AV} {sub : List Blk} {out : Out} (h : Entered P f ∧ Contract P f args sub out) : Sound P (only f args sub out) := by
  intro f' args' sub' out' h'
  unfold only at h'
  split at h'
  · rename_i e
    obtain ⟨rfl, rfl, rfl⟩ := e
    cases h'
    exact h
  · cases h'

theorem none_sound {P : Program} : Sound P (fun _ _ _ => none) := fun _ _ _ _ h => by cases h

section
variable {P : Program} {H : SHeap} {ℓ ℓ0 ℓ' : Lens}

theorem dN_alive {b : SB} (h : b.alive = true) : dB ℓ b = some (dN ℓ b) := by cases b <;> first | rfl | cases h

theorem pure1S_row {v u : SV} {l : List Nm} (h : (pure1S H v).mean = some (u, l)) : (∀ ℓ ℓ' : Lens, dC ℓ u = dC ℓ' u) ∧ isOne u = true := by
  cases v with
  | own t g =>
    simp only [pure1S] at h
    split at h
    · split at h
      · split at h
        · have := Tr.mean_ret h; cases this; exact ⟨fun _ _ => rfl, rfl⟩
        · exact (Tr.mean_fail h).elim
      · exact (Tr.mean_fail h).elim
    · exact (Tr.mean_fail h).elim
  | part t g off len =>
    simp only [pure1S] at h
    split at h
    · split at h
      · split at h
        · obtain ⟨_, h⟩ := Tr.mean_need h
          have := Tr.mean_ret h; cases this; exact ⟨fun _ _ => rfl, rfl⟩
        · exact (Tr.mean_fail h).elim
      · exact (Tr.mean_fail h).elim
    · exact (Tr.mean_fail h).elim
  | row t l' tg => have := Tr.mean_ret h; cases this; exact ⟨fun _ _ => rfl, rfl⟩
  | undef | int k n | bool b | str s | nilp | nilf => have := Tr.mean_ret h; cases this; exact ⟨fun _ _ => rfl, rfl⟩
  | _ => exact (Tr.mean_fail h).elim

theorem lend1S_spec (ha : Agr ℓ H) {share : Bool} {f : Ren} (hg : Goes f ℓ ℓ0) {v u : SV} (h : (lend1S H share f v).mean = some u) :
    lend1 (dH ℓ H) share f (dC ℓ v) = some (dC ℓ0 u) ∧ isOne v = true ∧ isOne u = true ∧ (share = false → ∀ g ∈ lentNamesS v, IsArr H g) := by
  have own : ∀ (w : SV), (match share with | true => False | false => True) → w.isAgg = false → dC ℓ w = d1 ℓ w → ((pure1S H w).map (·.1)).mean = some u →
      (pure1 (dH ℓ H) (dC ℓ w)).map (·.1) = some (dC ℓ0 u) ∧ isOne u = true ∧ ∃ l, (pure1S H w).mean = some (u, l) := by
    intro w _ _ hd hm
    obtain ⟨⟨u', l⟩, h1, rfl⟩ := Tr.mean_map hm
    obtain ⟨e1, _, _, _, _, e2⟩ := pure1S_spec ha h1
    obtain ⟨e3, e4⟩ := pure1S_row h1
    refine ⟨?_, e4, l, h1⟩
    rw [hd, e1, Option.map_some]
    simp only
    rw [← e2, e3 ℓ ℓ0]
  cases v with
  | own t g =>
    cases share with
    | true =>
      simp only [lend1S, if_true] at h
      split at h
      · rename_i g' hgg
        have := Tr.mean_ret h; subst this
        exact ⟨by simp only [dC, d1, lend1, if_true, hgg, hg g g' hgg], rfl, rfl, fun e => by cases e⟩
      · exact (Tr.mean_fail h).elim
    | false =>
      simp only [lend1S, Bool.false_eq_true, if_false] at h
      obtain ⟨e1, e2, l, e3⟩ := own _ trivial rfl rfl h
      refine ⟨e1, rfl, e2, fun _ g' hg' => ?_⟩
      simp [lentNamesS] at hg'
      subst hg'
      simp only [pure1S] at e3
      split at e3
      · rename_i hq; exact ⟨_, _, _, hq⟩
      · exact (Tr.mean_fail e3).elim
  | part t g off len =>
    cases share with
    | true =>
      simp only [lend1S, if_true] at h
      split at h
      · rename_i g' hgg
        have := Tr.mean_ret h; subst this
        exact ⟨by simp only [dC, d1, lend1, if_true, hgg], rfl, rfl, fun e => by cases e⟩
      · exact (Tr.mean_fail h).elim
    | false =>
      simp only [lend1S, Bool.false_eq_true, if_false] at h
      obtain ⟨e1, e2, l, e3⟩ := own _ trivial rfl rfl h
      refine ⟨e1, rfl, e2, fun _ g' hg' => ?_⟩
      simp [lentNamesS] at hg'
      subst hg'
      simp only [pure1S] at e3
      split at e3
      · rename_i hq; exact ⟨_, _, _, hq⟩
      · exact (Tr.mean_fail e3).elim
  | row t l tg =>
    have := Tr.mean_ret h; subst this
    refine ⟨?_, rfl, rfl, fun _ g' hg' => by simp [lentNamesS] at hg'⟩
    simp only [dC, d1, rowAV, lend1, lsz_idem]
  | agg cs => exact (Tr.mean_fail h).elim
  | tup vs => exact (Tr.mean_fail h).elim
  | ptr g sz i off =>
    have := Tr.mean_ret h; subst this
    refine ⟨?_, rfl, ?_, fun _ g' hg' => by simp [lentNamesS] at hg'⟩
    · rw [← renC_d hg]; rfl
    · simp only [renCS, ren1S]; cases f g <;> rfl
  | clo fn cs =>
    have := Tr.mean_ret h; subst this
    exact ⟨by rw [← renC_d hg]; rfl, rfl, rfl, fun _ g' hg' => by simp [lentNamesS] at hg'⟩
  | _ =>
    have := Tr.mean_ret h; subst this
    exact ⟨by rw [← renC_d hg]; rfl, rfl, rfl, fun _ g' hg' => by simp [lentNamesS] at hg'⟩

theorem flatMap_same {α β : Type} {l : List α} {f g : α → List β} (h : ∀ a ∈ l, f a = g a) : l.flatMap f = l.flatMap g := by
  induction l with
  | nil => rfl
  | cons a r ih => rw [List.flatMap_cons, List.flatMap_cons, h a (by simp), ih (fun x hx => h x (by simp [hx]))]

theorem mapM_of {α β : Type} {f : α → Option β} : ∀ {l : List α} {m : List β}, m.length = l.length → (∀ (i : Nat) (a : α), l[i]? = some a → ∃ b, m[i]? = some b ∧ f a = some b) → l.mapM f = some m := by
  intro l
  induction l with
  | nil =>
    intro m hl _
    cases m with
    | nil => rfl
    | cons _ _ => cases hl
  | cons a r ih =>
    intro m hl h
    cases m with
    | nil => cases hl
    | cons b m =>
      obtain ⟨b', h1, h2⟩ := h 0 a rfl
      cases h1
      rw [List.mapM_cons, h2, ih (by simpa using hl) (fun i x hx => h (i + 1) x (by simpa using hx))]
      rfl

theorem lendVS_spec (ha : Agr ℓ H) {share : Bool} {f : Ren} (hg : Goes f ℓ ℓ0) {v u : SV} (hv : notTup v = true) (h : (lendVS H share f v).mean = some u) :
    lendV (dH ℓ H) share f (dV ℓ v) = some (dV ℓ0 u) ∧ (share = false → ∀ g ∈ lentNamesS v, IsArr H g) := by
  have one : (lend1S H share f v).mean = some u → v.isAgg = false → lendV (dH ℓ H) share f (dV ℓ v) = some (dV ℓ0 u) ∧ (share = false → ∀ g ∈ lentNamesS v, IsArr H g) := by
    intro h hagg
    obtain ⟨e1, e2, e3, e4⟩ := lend1S_spec ha hg h
    rw [(isOne_d e2 ℓ).1, (isOne_d e3 ℓ0).1]
    refine ⟨?_, e4⟩
    rw [← e1]
    cases v <;> first | rfl | cases hagg
  cases v with
  | agg cs =>
    obtain ⟨us, h1, rfl⟩ := Tr.mean_map h
    obtain ⟨e1, e2⟩ := Tr.mean_mapM h1
    refine ⟨?_, fun hs g hgm => ?_⟩
    · simp only [dV_agg, lendV]
      rw [mapM_of (m := us.map (dC ℓ0)) (by simp [e1]) (fun i a hi => ?_)]
      · rfl
      · rw [List.getElem?_map] at hi
        obtain ⟨c, h2, rfl⟩ := Option.map_eq_some_iff.1 hi
        obtain ⟨b, h3, h4⟩ := e2 i c h2
        exact ⟨dC ℓ0 b, by rw [List.getElem?_map, h3]; rfl, (lend1S_spec ha hg h4).1⟩
    · simp only [lentNamesS, List.mem_flatMap] at hgm
      obtain ⟨c, hc, hgc⟩ := hgm
      obtain ⟨i, hi⟩ := List.getElem?_of_mem hc
      obtain ⟨b, h3, h4⟩ := e2 i c hi
      refine (lend1S_spec ha hg h4).2.2.2 hs g ?_
      cases c <;> first | exact hgc | (simp at hgc; done)
  | tup vs => cases hv
  | _ => exact one h rfl

theorem lentNames_d {v : SV} (hv : notTup v = true) : lentNames (dV ℓ v) = lentNamesS v := by
  cases v with
  | agg cs =>
    simp only [dV_agg, lentNames, lentNamesS, List.flatMap_map]
    congr 1
    funext c
    cases c <;> rfl
  | tup vs => cases hv
  | _ => rfl

theorem scal_d (v : SV) : scal (dV ℓ v) = scalS v := by
  have h1 : ∀ c, scal1 (d1 ℓ c) = scal1 (d1 (fun _ => 0) c) := fun c => by cases c <;> rfl
  have hC : ∀ c, scal1 (dC ℓ c) = scal1 (dC (fun _ => 0) c) := fun c => by cases c <;> rfl
  have hA : ∀ c, scalA (dA ℓ c) = scalA (dA (fun _ => 0) c) := fun c => by
    cases c with
    | agg cs => simp only [dA, scalA, List.all_map]; congr 1; funext c; exact hC c
    | _ => rfl
  unfold scalS
  cases v with
  | tup vs => simp only [dV, scal, List.all_map]; congr 1; funext c; exact hA c
  | agg cs => exact hA (.agg cs)
  | _ => rfl

theorem lensEq_spec : ∀ (a b : List SB), lensEq a b = true → b.length = a.length ∧ ∀ (i : Nat) (x y : SB), a[i]? = some x → b[i]? = some y → y.len = x.len := by
  intro a
  induction a with
  | nil =>
    intro b h
    cases b with
    | nil => exact ⟨rfl, fun i x y h => by simp at h⟩
    | cons _ _ => simp [lensEq] at h
  | cons x r ih =>
    intro b h
    cases b with
    | nil => cases x <;> simp [lensEq] at h
    | cons y r' =>
      have key : y.len = x.len ∧ lensEq r r' = true := by
        unfold lensEq at h
        split at h
        · rename_i e1 e2; cases e1; cases e2; exact ⟨rfl, h⟩
        · rename_i e1 e2; cases e1; cases e2; simpa using h
        · rename_i e1 e2; cases e1
        · cases h
      obtain ⟨h1, h2⟩ := ih r' key.2
      refine ⟨by simp [h1], fun i u w e1 e2 => ?_⟩
      cases i with
      | zero => simp at e1 e2; subst e1; subst e2; exact key.1
      | succ i => exact h2 i u w (by simpa using e1) (by simpa using e2)

theorem renBS_alive (f : Ren) (b : SB) : (renBS f b).alive = b.alive := by cases b <;> rfl

theorem opCallS_spec (ha : Agr ℓ H) {f : FuncId} {share : Bool} {call : SCall} (hc : CallOK P f call) {args : List SV} {slot : Nat} {r : SRes} (h : (opCallS share call args H slot).mean = some r) (hn : NewOK ℓ slot r.new) :
    ∃ c : CL, Sound P c ∧ opCall share (c f) (args.map (dV ℓ)) (dH ℓ H) slot = some (dR ℓ r) ∧ LenOK H r.wr := by
  unfold opCallS at h
  simp only at h
  generalize hlent : (if share = true then [] else args.flatMap lentNamesS) = lent at h
  generalize hR : reachS H (args.flatMap (if share = true then fun v => seedsVS v ++ lentNamesS v else seedsVS)) = R at h
  split at h
  · exact (Tr.mean_fail h).elim
  · rename_i hcond
    simp only [Bool.or_eq_true, not_or, Bool.not_eq_true, Bool.not_eq_false', Bool.not_eq_eq_eq_not, Bool.not_true, Bool.not_false] at hcond
    obtain ⟨hdis, hnt⟩ := hcond
    have hnt : ∀ v ∈ args, notTup v = true := by simpa using hnt
    obtain ⟨args', h1, h⟩ := Tr.mean_bind h
    split at h
    · rename_i sub hsub
      obtain ⟨out, h2, h⟩ := Tr.mean_bind h
      obtain ⟨h3, h⟩ := Tr.mean_need h
      obtain ⟨h4, h⟩ := Tr.mean_when h
      have := Tr.mean_ret h; subst this
      obtain ⟨L1, L2⟩ := lensEq_spec _ _ h3
      have hal : ∀ b ∈ out.2.2, b.alive = true := by simpa using h4
      obtain ⟨S1, S2⟩ := mapM_some _ _ _ hsub
      let f0 : Ren := fun g => (idxOf g R 0).map fun i => (i, 0)
      let l0 : Lens := fun g => match R[g.1]? with
        | some g' => ℓ g'
        | none => 0
      let b := renBack R slot
      let l1 : Lens := fun g => match b g with
        | some g' => ℓ g'
        | none => 0
      have hg0 : Goes f0 ℓ l0 := by
        intro g g' e
        obtain ⟨i, hi, rfl⟩ := Option.map_eq_some_iff.1 e
        obtain ⟨_, hR⟩ := idxOf_spec g R 0 i hi
        simp only [Nat.sub_zero] at hR
        show (match R[i]? with | some g' => ℓ g' | none => 0) = ℓ g
        rw [hR]
      have hg1 : Goes b l1 ℓ := by
        intro g g' e
        show ℓ g' = (match b g with | some g' => ℓ g' | none => 0)
        rw [e]
      have hsub0 : SubAgr l0 sub := by
        intro j x hj
        have hjR : j < R.length := by rw [← S1]; exact (List.getElem?_eq_some_iff.1 hj).1
        obtain ⟨y, e1, e2⟩ := S2 j R[j] (List.getElem?_eq_getElem hjR)
        rw [hj] at e1
        cases e1
        obtain ⟨b0, e3, e4⟩ := Option.bind_eq_some_iff.1 e2
        split at e4
        · cases e4
          show (match R[j]? with | some g' => ℓ g' | none => 0) = _
          rw [List.getElem?_eq_getElem hjR, renBS_len]
          exact ha _ _ e3
        · cases e4
      have hlenR : out.2.1.length = R.length := by rw [L1, S1]
      have hout : SubAgr l1 (out.2.1 ++ out.2.2) := by
        intro j x hj
        rcases Nat.lt_or_ge j R.length with hlt | hge
        · rw [List.getElem?_append_left (by omega)] at hj
          have hb : b (j, 0) = some R[j] := by simp [b, renBack, hlt]
          show (match b (j, 0) with | some g' => ℓ g' | none => 0) = _
          rw [hb]
          have hjs : j < sub.length := by omega
          obtain ⟨y, e1, e2⟩ := S2 j R[j] (List.getElem?_eq_getElem hlt)
          obtain ⟨b0, e3, e4⟩ := Option.bind_eq_some_iff.1 e2
          split at e4
          · cases e4
            rw [L2 j _ x e1 hj, renBS_len]
            exact ha _ _ e3
          · cases e4
        · rw [List.getElem?_append_right (by omega), hlenR] at hj
          have hb : b (j, 0) = some (slot, j - R.length) := by simp [b, renBack, Nat.not_lt.2 hge]
          show (match b (j, 0) with | some g' => ℓ g' | none => 0) = _
          rw [hb]
          simp only
          rw [hn (j - R.length) (renBS b x) (by simp only [List.getElem?_map, hj]; rfl), renBS_len]
      have hcall := hc args' sub out h2 l0 l1 hsub0 hout
      refine ⟨only f (args'.map (dV l0)) (sub.map (dN l0)) (dO l1 out), only_sound hcall, ?_, ?_⟩
      · -- the abstract call
        unfold opCall
        simp only
        have elent : (if share = true then [] else (args.map (dV ℓ)).flatMap lentNames) = lent := by
          rw [← hlent]
          split
          · rfl
          · rw [List.flatMap_map]
            exact flatMap_same fun v hv => lentNames_d (hnt v hv)
        have eR : reach (dH ℓ H) ((args.map (dV ℓ)).flatMap (if share = true then fun v => seedsV v ++ lentNames v else seedsV)) = R := by
          rw [← hR, reach_d, List.flatMap_map]
          congr 1
          refine flatMap_same fun v hv => ?_
          have hs : seedsV (dV ℓ v) = seedsVS v := by rw [notTup_d (hnt v hv)]; exact seedsV_d ℓ v
          split
          · simp only [hs, lentNames_d (hnt v hv)]
          · exact hs
        rw [elent, eR]
        obtain ⟨M1, M2⟩ := Tr.mean_mapM h1
        have eargs : (args.map (dV ℓ)).mapM (lendV (dH ℓ H) share f0) = some (args'.map (dV l0)) := by
          refine mapM_of (by simp [M1]) (fun i a hi => ?_)
          rw [List.getElem?_map] at hi
          obtain ⟨v, e1, rfl⟩ := Option.map_eq_some_iff.1 hi
          obtain ⟨u, e2, e3⟩ := M2 i v e1
          exact ⟨dV l0 u, by rw [List.getElem?_map, e2]; rfl, (lendVS_spec ha hg0 (hnt v (List.mem_of_getElem? e1)) e3).1⟩
        have esub : R.mapM (fun g => (get (dH ℓ H) g).map (renB f0)) = some (sub.map (dN l0)) := by
          refine mapM_of (by simp [S1]) (fun i g hi => ?_)
          obtain ⟨y, e1, e2⟩ := S2 i g hi
          obtain ⟨b0, e3, e4⟩ := Option.bind_eq_some_iff.1 e2
          split at e4
          · rename_i hb0
            cases e4
            refine ⟨dN l0 (renBS f0 b0), by rw [List.getElem?_map, e1]; rfl, ?_⟩
            rw [get_dH, e3, Option.bind_some, renB_d hg0]
            exact dN_alive (by rw [renBS_alive]; exact hb0)
          · cases e4
        rw [if_neg (by simpa using hdis)]
        show (match (args.map (dV ℓ)).mapM (lendV (dH ℓ H) share f0), R.mapM (fun g => (get (dH ℓ H) g).map (renB f0)) with
          | some args', some sub => _
          | _, _ => none) = _
        rw [eargs, esub]
        simp only [only_self, dO]
        rw [if_pos (by simpa using hlenR)]
        have harr : ∀ g ∈ lent, IsArr H g := by
          intro g hg
          rw [← hlent] at hg
          split at hg
          · cases hg
          · rename_i hs
            obtain ⟨v, hv, hgv⟩ := List.mem_flatMap.1 hg
            obtain ⟨i, hi⟩ := List.getElem?_of_mem hv
            obtain ⟨u, e2, e3⟩ := M2 i v hi
            exact (lendVS_spec ha hg0 (hnt v hv) e3).2 (by simpa using hs) g hgv
        have ewr : ((R.zip (out.2.1.map (dB l1))).map fun p => (p.1, p.2.map (renB (renBack R slot)))) = dW ℓ ((R.zip out.2.1).map fun p => (p.1, renBS (renBack R slot) p.2)) := by
          simp only [dW, List.map_map, List.zip_map_right]
          refine List.map_congr_left fun p _ => ?_
          simp only [Function.comp, Prod.map, id]
          exact congrArg (Prod.mk p.1) (renB_d hg1 p.2)
        have enew : (out.2.2.map (dN l1)).map (renB (renBack R slot)) = (out.2.2.map (renBS (renBack R slot))).map (dN ℓ) := by
          simp only [List.map_map]
          refine List.map_congr_left fun x hx => ?_
          have e := renB_d hg1 x
          rw [dN_alive (hal x hx), Option.map_some, dN_alive (by rw [renBS_alive]; exact hal x hx)] at e
          exact Option.some.inj e
        have eval : renV (renBack R slot) (dV l1 out.1) = dV ℓ (renVS (renBack R slot) out.1) := renV_d hg1 out.1
        have ewr2 : (if (scalS out.1 && out.2.2.isEmpty && R.isEmpty) = true then [] else stops (dH ℓ H) lent) = dW ℓ (if (scalS out.1 && out.2.2.isEmpty && R.isEmpty) = true then [] else stopsS H lent) := by
          split
          · rfl
          · exact (stopsS_spec harr).symm
        simp only [dR, eval, ewr, enew, scal_d, List.isEmpty_map, ewr2]
        simp only [dW, List.map_append]
      · -- lengths
        refine LenOK.append ?_ ?_
        · intro p hp x hx
          simp only [List.mem_map] at hp
          obtain ⟨⟨g, y⟩, hz, rfl⟩ := hp
          obtain ⟨i, hi⟩ := List.getElem?_of_mem hz
          rw [List.getElem?_zip_eq_some] at hi
          obtain ⟨i1, i2⟩ := hi
          obtain ⟨z, e1, e2⟩ := S2 i g i1
          obtain ⟨b0, e3, e4⟩ := Option.bind_eq_some_iff.1 e2
          split at e4
          · cases e4
            simp only at hx
            rw [e3] at hx
            cases hx
            simp only [renBS_len]
            rw [L2 i _ y e1 i2, renBS_len]
          · cases e4
        · split
          · exact LenOK.nil
          · exact stopsS_len _
    · exact (Tr.mean_fail h).elim

theorem pickS_spec {c : Bool} {a b u : SV} (h : (pickS c a b).mean = some u) : boolIte c (dV ℓ a) (dV ℓ b) = dV ℓ u := by
  unfold pickS at h
  split at h
  · have := Tr.mean_ret h; subst this
    simp only [dV_bool, boolIte]
    cases c <;> rfl
  · rename_i hn
    have key : boolIte c (dV ℓ a) (dV ℓ b) = if c then dV ℓ a else dV ℓ b := by
      unfold boolIte
      split
      · rename_i p q e1 e2
        cases a <;> first | (cases e1; done) | skip
        cases b <;> first | (cases e2; done) | skip
        exact absurd rfl (hn _ _ rfl)
      · rfl
    rw [key]
    cases c with
    | true => have := Tr.mean_ret (show (Tr.ret a).mean = some u from h); subst this; rfl
    | false => have := Tr.mean_ret (show (Tr.ret b).mean = some u from h); subst this; rfl

theorem okTy_enc {ty : Ty} (h : okTy ty = true) (x : ty.den) : okS (enc ty x) = true ∧ dV ℓ (unT ty x) = enc ty x ∧ dA ℓ (unT ty x) = enc ty x := by
  cases ty <;> first | exact ⟨rfl, rfl, rfl⟩ | cases h

theorem okTy_pa {ty : Ty} (h : okTy ty = true) {v : SV} {x : ty.den} (hx : paT ty v = some x) : dV ℓ v = enc ty x ∧ dA ℓ v = enc ty x := by
  unfold paT at hx
  split at hx
  · split at hx
    · rename_i y hy
      cases hx
      cases ty with
      | int k => cases v <;> simp [SV.cells, paC] at hy <;> first | (obtain ⟨rfl, hy⟩ := hy; cases hy; exact ⟨rfl, rfl⟩) | (rename_i ha; simp [SV.isAgg, Ty.agg] at ha)
      | bool => cases v <;> simp [SV.cells, paC] at hy <;> first | (cases hy; exact ⟨rfl, rfl⟩) | (rename_i ha; simp [SV.isAgg, Ty.agg] at ha)
      | str => cases v <;> simp [SV.cells, paC] at hy <;> first | (cases hy; exact ⟨rfl, rfl⟩) | (rename_i ha; simp [SV.isAgg, Ty.agg] at ha)
      | _ => cases h
    · cases hx
  · cases hx

theorem mpFind_map {ty : Ty} (n : Int) : ∀ l : List (Int × ty.den), mpFind n (l.map fun p => AV.agg [.int .i64 p.1, enc ty p.2]) = (mpGet n l).map (enc ty)
  | [] => rfl
  | p :: r => by
    simp only [List.map_cons, mpFind, mpGet]
    split
    · rfl
    · exact mpFind_map n r

theorem mpPut_map {ty : Ty} (n : Int) (x : ty.den) : ∀ l : List (Int × ty.den), mpPut n (enc ty x) (l.map fun p => AV.agg [.int .i64 p.1, enc ty p.2]) = (mpSet n x l).map fun p => AV.agg [.int .i64 p.1, enc ty p.2]
  | [] => rfl
  | p :: r => by
    simp only [List.map_cons, mpPut, mpSet]
    split
    · rfl
    · simp only [List.map_cons, mpPut_map n x r]

theorem mpBlk_d {g : Nm} {ty : Ty} {l : List (Int × ty.den)} (hg : getS H g = some (.mp ty l)) : mpBlk (dH ℓ H) (.ptr g 0 0 0) = some (g, ⟨0, l.map fun p => AV.agg [.int .i64 p.1, enc ty p.2], 0, false⟩) := by
  simp only [mpBlk, get_dH, hg, Option.bind_some, dB, true_and, if_true]

theorem opLookupMS_spec {t : TypeId} {m k : SV} {ok : Bool} {r : SRes} (h : (opLookupMS P t m k ok H).mean = some r) : opLookupM P t (dV ℓ m) (dV ℓ k) ok (dH ℓ H) = some (dR ℓ r) ∧ LenOK H r.wr := by
  unfold opLookupMS at h
  split at h
  · rename_i et g n ht
    split at h
    · rename_i ty l z hg hz
      obtain ⟨h1, h⟩ := Tr.mean_when h
      obtain ⟨x, h2, h⟩ := Tr.mean_bind h
      have := Tr.mean_ret h; subst this
      refine ⟨?_, LenOK.nil⟩
      obtain ⟨zv, h3, rfl⟩ := szero_spec hz
      have h4 : cv zv = enc ty x := by rw [← (svC_d ℓ zv).2]; exact (okTy_pa h1 (Tr.mean_of h2)).1
      have h5 := fun y => okTy_enc (ℓ := ℓ) h1 y
      have h6 : (Option.map (enc ty) (mpGet n l)).getD (enc ty x) = enc ty ((mpGet n l).getD x) := by cases mpGet n l <;> rfl
      have h7 : (Option.map (enc ty) (mpGet n l)).isSome = (mpGet n l).isSome := by cases mpGet n l <;> rfl
      simp only [opLookupM, ht, dV_ptr, dV_int, mpBlk_d hg, h3, h4, mpFind_map, h6, h7]
      rw [if_pos (h5 x).1]
      cases ok with
      | true => simp only [if_true, dR, dV_tup, List.map_cons, List.map_nil, (h5 _).2.2, dW]; rfl
      | false => simp only [Bool.false_eq_true, if_false, dR, (h5 _).2.1, dW, List.map_nil]
    · exact (Tr.mean_fail h).elim
  · exact (Tr.mean_fail h).elim

theorem opMapUpdateS_spec {t : TypeId} {m k v : SV} {r : SRes} (h : (opMapUpdateS P t m k v H).mean = some r) : opMapUpdate P t (dV ℓ m) (dV ℓ k) (dV ℓ v) (dH ℓ H) = some (dR ℓ r) ∧ LenOK H r.wr := by
  unfold opMapUpdateS at h
  split at h
  · rename_i et g n ht
    split at h
    · rename_i ty l hg
      obtain ⟨h1, h⟩ := Tr.mean_when h
      obtain ⟨x, h2, h⟩ := Tr.mean_bind h
      have := Tr.mean_ret h; subst this
      refine ⟨?_, LenOK.one hg rfl⟩
      simp only [opMapUpdate, ht, dV_ptr, dV_int, mpBlk_d hg, (okTy_pa (ℓ := ℓ) h1 (Tr.mean_of h2)).1, mpPut_map]
      rw [if_pos (okTy_enc (ℓ := ℓ) h1 x).1]
      rfl
    · exact (Tr.mean_fail h).elim
  · exact (Tr.mean_fail h).elim

theorem opBoxS_spec {t : TypeId} {v : SV} {slot : Nat} {r : SRes} (h : (opBoxS P t v slot).mean = some r) : opBox P t (dV ℓ v) slot = some (dR ℓ r) ∧ LenOK H r.wr := by
  unfold opBoxS at h
  unfold opBox
  split at h
  · rename_i size hs
    obtain ⟨h1, h⟩ := Tr.mean_when h
    obtain ⟨c1, c2, c3⟩ := of_decide_eq_true h1
    have := Tr.mean_ret h; subst this
    simp only [hs, notTup_d (okSV_notTup c2)]
    rw [if_pos ⟨by rw [cells_dA, List.length_map]; exact c1, by rw [okV_dA]; exact c2, c3⟩]
    exact ⟨rfl, LenOK.nil⟩
  · exact (Tr.mean_fail h).elim

theorem opAssignS_spec {fr : SFr} {t : TypeId} {x : Operand} {slot : Nat} {r : SRes} (h : (opAssignS P fr t x slot).mean = some r) (hn : NewOK ℓ slot r.new) : opAssign P (dF ℓ fr) t x slot = some (dR ℓ r) ∧ LenOK H r.wr := by
  unfold opAssignS at h
  split at h
  · unfold opAssign
    split at h
    · rename_i e he
      split at h
      · rename_i size ty h1 h2
        obtain ⟨h3, h⟩ := Tr.mean_when h
        have h3 := of_decide_eq_true h3
        have := Tr.mean_ret h; subst this
        have hl := hn.one
        simp only [SB.len, List.length_nil] at hl
        simp only [he, h1]
        refine ⟨?_, LenOK.nil⟩
        simp only [dR, dV_own, hl, h3, dW, List.map_nil, List.map_cons, dN, dB, Fz.n]
      · exact (Tr.mean_fail h).elim
    · exact (Tr.mean_fail h).elim
  · rename_i hx
    have := Tr.mean_ret h; subst this
    refine ⟨?_, LenOK.nil⟩
    have e : opAssign P (dF ℓ fr) t x slot = some { val := evO (dF ℓ fr) x } := by
      unfold opAssign
      split
      · exact absurd rfl hx
      · rfl
    rw [e]
    simp only [dR, evS_d, dW, List.map_nil]

theorem isCap_d {v : SV} (h : isCap v = true) (ℓ : Lens) : dV ℓ v = d1 ℓ v := by cases v <;> first | rfl | cases h

/-- An operation. -/
theorem stepOpS_spec {N : FuncId → Note} {call : FuncId → SCall} (hc : ∀ f, CallOK P f (call f)) {o : Oper} {fr : SFr} {slot : Nat} {r : SRes} (ha : Agr ℓ H) (h : (stepOpS P N call o fr H slot).mean = some r) (hn : NewOK ℓ slot r.new) :
    ∃ c : CL, Sound P c ∧ stepOp P N c o (dF ℓ fr) (dH ℓ H) slot = some (dR ℓ r) ∧ LenOK H r.wr := by
  obtain ⟨dst, op, type, pos, after, guard⟩ := o
  have plain : (∀ c : CL, stepOp P N c ⟨dst, op, type, pos, after, guard⟩ (dF ℓ fr) (dH ℓ H) slot = some (dR ℓ r)) ∧ LenOK H r.wr → ∃ c : CL, Sound P c ∧ stepOp P N c ⟨dst, op, type, pos, after, guard⟩ (dF ℓ fr) (dH ℓ H) slot = some (dR ℓ r) ∧ LenOK H r.wr :=
    fun h => ⟨fun _ _ _ => none, none_sound, h.1 _, h.2⟩
  have val : ∀ {t : Tr SV}, (t.map val1).mean = some r → ∃ u, t.mean = some u ∧ dR ℓ r = { val := dV ℓ u } ∧ LenOK H r.wr := by
    intro t h
    obtain ⟨u, h1, rfl⟩ := Tr.mean_map h
    exact ⟨u, h1, rfl, LenOK.nil⟩
  cases op with
  | move x =>
    have := Tr.mean_ret h; subst this
    exact plain ⟨fun c => by simp only [stepOp, dR, evS_d, dW, List.map_nil], LenOK.nil⟩
  | assign x =>
    obtain ⟨e1, e2⟩ := opAssignS_spec (H := H) (show (opAssignS P fr type x slot).mean = some r from h) hn
    exact plain ⟨fun c => e1, e2⟩
  | pick c a b =>
    simp only [stepOpS] at h
    split at h
    · rename_i p hp
      obtain ⟨u, h1, e1, e2⟩ := val h
      refine plain ⟨fun c' => ?_, e2⟩
      have := evS_d ℓ fr c
      rw [hp] at this
      simp only [stepOp, ← evS_d, e1]
      rw [show dV ℓ (evS fr c) = .bool p from by rw [hp]; rfl]
      simp only [pickS_spec h1]
    · exact (Tr.mean_fail h).elim
  | alloc t =>
    simp only [stepOpS] at h
    split at h
    · rename_i z hz
      obtain ⟨zv, h1, rfl⟩ := szero_spec hz
      obtain ⟨e1, e2⟩ := opBoxS_spec (ℓ := ℓ) (H := H) h
      rw [(svC_d ℓ zv).2] at e1
      exact plain ⟨fun c => by simp only [stepOp, h1, e1], e2⟩
    · exact (Tr.mean_fail h).elim
  | box t x =>
    obtain ⟨e1, e2⟩ := opBoxS_spec (ℓ := ℓ) (H := H) (show (opBoxS P t (evS fr x) slot).mean = some r from h)
    exact plain ⟨fun c => by simp only [stepOp, ← evS_d, e1], e2⟩
  | build t ps =>
    obtain ⟨u, h1, e1, e2⟩ := val h
    have := opBuildS_spec (ℓ := ℓ) (Tr.mean_of h1)
    rw [partsOfS_d] at this
    exact plain ⟨fun c => by simp only [stepOp, one, this, e1, Option.map_some], e2⟩
  | buildSlice t n ps =>
    obtain ⟨e1, e2⟩ := opBuildSliceS_spec ha (show (opBuildSliceS P t n (partsOfS fr ps) H slot).mean = some r from h) hn
    rw [partsOfS_d] at e1
    exact plain ⟨fun c => e1, e2⟩
  | load t a =>
    obtain ⟨e1, e2⟩ := opLoadS_spec (ℓ := ℓ) (show (opLoadS P t (evS fr a) H).mean = some r from h)
    exact plain ⟨fun c => by simp only [stepOp, ← evS_d, e1], by rw [e2]; exact LenOK.nil⟩
  | store t a x =>
    obtain ⟨e1, e2, _⟩ := opStoreS_spec ha (show (opStoreS P t (evS fr a) (evS fr x) H).mean = some r from h)
    exact plain ⟨fun c => by simp only [stepOp, ← evS_d, e1], e2⟩
  | nilCheck x =>
    simp only [stepOpS] at h
    split at h
    · rename_i hx
      obtain ⟨h0, h⟩ := Tr.mean_when h
      have := Tr.mean_ret h; subst this
      exact plain ⟨fun c => by simp only [stepOp, ← evS_d, hx, dV_ptr]; rw [if_pos (of_decide_eq_true h0)]; rfl, LenOK.nil⟩
    · rename_i hx
      have := Tr.mean_ret h; subst this
      exact plain ⟨fun c => by simp only [stepOp, ← evS_d, hx]; rfl, LenOK.nil⟩
    · exact (Tr.mean_fail h).elim
  | binOp op t x y yt =>
    obtain ⟨u, h1, e1, e2⟩ := val h
    exact plain ⟨fun c => by simp only [stepOp, one, ← evS_d, opBin3S_spec (ℓ := ℓ) h1, e1, Option.map_some], e2⟩
  | unOp op t x =>
    obtain ⟨u, h1, e1, e2⟩ := val h
    exact plain ⟨fun c => by simp only [stepOp, one, ← evS_d, opUnS_spec (ℓ := ℓ) (Tr.mean_of h1), e1, Option.map_some], e2⟩
  | convert a b x =>
    obtain ⟨u, h1, e1, e2⟩ := val h
    exact plain ⟨fun c => by simp only [stepOp, one, ← evS_d, opConvertS_spec (ℓ := ℓ) (Tr.mean_of h1), e1, Option.map_some], e2⟩
  | makeFunc fn first caps =>
    cases fn with
    | func f =>
      simp only [stepOpS] at h
      split at h
      · rename_i hf
        obtain ⟨h1, h⟩ := Tr.mean_when h
        have := Tr.mean_ret h; subst this
        refine plain ⟨fun c => ?_, LenOK.nil⟩
        simp only [stepOp]
        rw [if_pos hf]
        simp only [dR, dV_clo, dW, List.map_nil, List.map_map]
        congr 3
        refine List.map_congr_left fun x hx => ?_
        simp only [Function.comp, ← evS_d]
        have : isCap (evS fr x) = true := (List.all_eq_true.1 h1) x hx
        exact isCap_d this ℓ
      · exact (Tr.mean_fail h).elim
    | _ => exact (Tr.mean_fail h).elim
  | makeSlice t l c =>
    obtain ⟨e1, e2⟩ := opMakeSliceS_spec (ℓ := ℓ) (H := H) (show (opMakeSliceS P t (evS fr l) (evS fr c) slot).mean = some r from h) hn
    exact plain ⟨fun c => by simp only [stepOp, ← evS_d, e1], e2⟩
  | slice t x lo hi mx =>
    obtain ⟨e1, e2, _⟩ := opSliceS_spec ha (show (opSliceS P t (evS fr x) (lo.map (evS fr)) (hi.map (evS fr)) (mx.map (evS fr)) H).mean = some r from h)
    refine plain ⟨fun c => ?_, e2⟩
    simp only [stepOp, ← evS_d]
    have conv : ∀ o : Option Operand, Option.map (fun x => dV ℓ (evS fr x)) o = (o.map (evS fr)).map (dV ℓ) := fun o => by cases o <;> rfl
    have ev' : evO (dF ℓ fr) = fun x => dV ℓ (evS fr x) := funext fun x => (evS_d ℓ fr x).symm
    rw [ev', conv, conv, conv]
    exact e1
  | fieldAddr t x f =>
    obtain ⟨u, h1, e1, e2⟩ := val h
    exact plain ⟨fun c => by simp only [stepOp, one, ← evS_d, opFieldAddrS_spec (ℓ := ℓ) (Tr.mean_of h1), e1, Option.map_some], e2⟩
  | field t x f =>
    obtain ⟨u, h1, e1, e2⟩ := val h
    exact plain ⟨fun c => by simp only [stepOp, one, ← evS_d, opFieldS_spec (ℓ := ℓ) (Tr.mean_of h1), e1, Option.map_some], e2⟩
  | indexAddr t x i =>
    obtain ⟨u, h1, e1, e2⟩ := val h
    exact plain ⟨fun c => by simp only [stepOp, one, ← evS_d, opIndexAddrS_spec ha h1, e1, Option.map_some], e2⟩
  | index t x i =>
    obtain ⟨u, h1, e1, e2⟩ := val h
    exact plain ⟨fun c => by simp only [stepOp, one, ← evS_d, opIndex3S_spec (ℓ := ℓ) h1, e1, Option.map_some], e2⟩
  | lookup t m k ok =>
    simp only [stepOpS] at h
    split at h
    · rename_i hm
      obtain ⟨e1, e2⟩ := opLookupMS_spec (ℓ := ℓ) h
      have h0 : ∀ (g : Nm) (a b c : Nat) (w : AV), opLookup P t (.ptr g a b c) w ok = none := fun g a b c w => by
        unfold opLookup
        split
        · exact AV.noConfusion ‹AV.ptr g a b c = AV.fm _›
        · rfl
      rw [dV_ptr] at e1
      exact plain ⟨fun c => by simp only [stepOp, ← evS_d, hm, dV_ptr, h0]; exact e1, e2⟩
    · obtain ⟨u, h1, e1, e2⟩ := val h
      exact plain ⟨fun c => by simp only [stepOp, ← evS_d, opLookupS_spec (ℓ := ℓ) h1]; exact congrArg some e1.symm, e2⟩
  | mapUpdate t m k v =>
    obtain ⟨e1, e2⟩ := opMapUpdateS_spec (ℓ := ℓ) (show (opMapUpdateS P t (evS fr m) (evS fr k) (evS fr v) H).mean = some r from h)
    exact plain ⟨fun c => by simp only [stepOp, ← evS_d, e1], e2⟩
  | makeMap t rv =>
    cases rv with
    | none =>
      have h : (opMakeMapS P t slot).mean = some r := h
      unfold opMakeMapS at h
      split at h
      · have := Tr.mean_ret h; subst this
        exact plain ⟨fun c => rfl, LenOK.nil⟩
      · exact (Tr.mean_fail h).elim
    | some _ => exact (Tr.mean_fail h).elim
  | extract x i =>
    simp only [stepOpS] at h
    split at h
    · rename_i vs hx
      split at h
      · rename_i v hv
        obtain ⟨h1, h⟩ := Tr.mean_when h
        have := Tr.mean_ret h; subst this
        refine plain ⟨fun c => ?_, LenOK.nil⟩
        simp only [stepOp, ← evS_d, hx, dV_tup, List.getElem?_map, hv, Option.map_some, dR, notTup_d h1, dW, List.map_nil]
      · exact (Tr.mean_fail h).elim
    · exact (Tr.mean_fail h).elim
  | call c =>
    simp only [stepOpS] at h
    split at h
    · rename_i f hcal
      split at h
      · rename_i fn caps hf
        obtain ⟨h1, h⟩ := Tr.mean_when h
        obtain ⟨cl, s1, s2, s3⟩ := opCallS_spec ha (hc fn) h hn
        refine ⟨cl, s1, ?_, s3⟩
        simp only [stepOp, hcal, ← evS_d, hf, dV_clo]
        have ev' : evO (dF ℓ fr) = fun x => dV ℓ (evS fr x) := funext fun x => (evS_d ℓ fr x).symm
        rw [ev', ← s2, List.map_append, List.map_map]
        congr 2
        refine List.map_congr_left fun x hx => ?_
        have : isCap x = true := (List.all_eq_true.1 h1) x hx
        exact (isCap_d this ℓ).symm
      · exact (Tr.mean_fail h).elim
    · rename_i hcal
      split at h
      · rename_i x t hx ht
        obtain ⟨u, h1, e1, e2⟩ := val h
        exact plain ⟨fun c' => by simp only [stepOp, hcal, hx, ht, one, ← evS_d, opLenS_spec ha (Tr.mean_of h1), e1, Option.map_some], e2⟩
      · exact (Tr.mean_fail h).elim
    · rename_i hcal
      split at h
      · rename_i s x t t' hx ht
        obtain ⟨h1, h⟩ := Tr.mean_when h
        obtain ⟨e1, e2⟩ := opAppendS_spec ha h hn
        exact plain ⟨fun c' => by simp only [stepOp, hcal, hx, ht]; rw [if_pos (of_decide_eq_true h1), ← evS_d, ← evS_d]; exact e1, e2⟩
      · exact (Tr.mean_fail h).elim
    · rename_i hcal
      split at h
      · rename_i d x t t' hx ht
        obtain ⟨e1, e2⟩ := opCopyS_spec ha h
        exact plain ⟨fun c' => by simp only [stepOp, hcal, hx, ht]; rw [← evS_d, ← evS_d]; exact e1, e2⟩
      · exact (Tr.mean_fail h).elim
    · rename_i hcal
      split at h
      · rename_i d t hx ht
        obtain ⟨e1, e2⟩ := opClearS_spec ha h
        exact plain ⟨fun c' => by simp only [stepOp, hcal, hx, ht]; rw [← evS_d]; exact e1, e2⟩
      · exact (Tr.mean_fail h).elim
    · rename_i hcal
      split at h
      · rename_i x rr hx
        obtain ⟨u, h1, e1, e2⟩ := val h
        have := minS_spec (ℓ := ℓ) _ _ _ (Tr.mean_of h1)
        refine plain ⟨fun c' => ?_, e2⟩
        have ev' : evO (dF ℓ fr) = fun x => dV ℓ (evS fr x) := funext fun x => (evS_d ℓ fr x).symm
        simp only [stepOp, hcal]
        rw [ev', show c.args.toList.map (fun x => dV ℓ (evS fr x)) = (c.args.toList.map (evS fr)).map (dV ℓ) from by rw [List.map_map]; rfl, hx]
        simp only [List.map_cons, one, this, e1, Option.map_some]
      · exact (Tr.mean_fail h).elim
    · rename_i hcal
      split at h
      · rename_i x rr hx
        obtain ⟨u, h1, e1, e2⟩ := val h
        have := maxS_spec (ℓ := ℓ) _ _ _ (Tr.mean_of h1)
        refine plain ⟨fun c' => ?_, e2⟩
        have ev' : evO (dF ℓ fr) = fun x => dV ℓ (evS fr x) := funext fun x => (evS_d ℓ fr x).symm
        simp only [stepOp, hcal]
        rw [ev', show c.args.toList.map (fun x => dV ℓ (evS fr x)) = (c.args.toList.map (evS fr)).map (dV ℓ) from by rw [List.map_map]; rfl, hx]
        simp only [List.map_cons, one, this, e1, Option.map_some]
      · exact (Tr.mean_fail h).elim
    · exact (Tr.mean_fail h).elim
  | _ => exact (Tr.mean_fail h).elim

end
end Go.Abs
