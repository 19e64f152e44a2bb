/- Lemmas for the statement of the last text of this claim. -/
import Derived.Test.YtoihpnpfnechdaaGreatDoorV3AC
import Derived.Carry
import Derived.OpenShut
import Derived.ChangeSame
import Derived.Deep.OwnRows
set_option linter.unusedSimpArgs false
set_option linter.unusedVariables false
namespace Go.Abs
open Go
/-! ### The end of a function -/

def resOfS (P : Program) (fr : SFr) (H : SHeap) : ResultVar → Tr SV
  | .tmp t => .ret (lookS fr t)
  | .cell a t => (opLoadS P t (lookS fr a) H).bind fun r => .ret r.val

def valOfS : List SV → SV
  | [v] => v
  | vs => .tup vs

def finishS (P : Program) (fn : Func) (m : Nat) (s : SSt) : Tr SOut :=
  (Tr.mapM (resOfS P s.fr s.hp) fn.results.toList).bind fun vs =>
  .when (vs.all notTup) (
    let R := reachedS s.hp m (refsVS (valOfS vs))
    let f := renTo m R
    match R.mapM (fun g => (getS s.hp g).bind fun b => if b.alive = true then some (renBS f b) else none), (firstNames m).mapM (fun g => (getS s.hp g).map (renBS f)) with
    | some new, some sub => .ret (renVS f (valOfS vs), sub, new)
    | _, _ => .fail)

theorem resOfS_spec {P : Program} {fr : SFr} {H : SHeap} {ℓ : Lens} {x : ResultVar} {u : SV} (h : (resOfS P fr H x).mean = some u) : resOf P (dF ℓ fr) (dH ℓ H) x = some (dV ℓ u) := by
  cases x with
  | tmp t => have := Tr.mean_ret h; subst this; simp only [resOf, look_dF]
  | cell a t =>
    obtain ⟨r, h1, h2⟩ := Tr.mean_bind h
    have := Tr.mean_ret h2
    subst this
    simp only [resOf, look_dF, (opLoadS_spec (ℓ := ℓ) h1).1, Option.map_some]
    rfl

theorem valOfS_d {ℓ : Lens} {vs : List SV} (h : vs.all notTup = true) : (match vs.map (dV ℓ) with | [v] => v | vs => .tup vs) = dV ℓ (valOfS vs) := by
  cases vs with
  | nil => rfl
  | cons v r =>
    cases r with
    | nil => rfl
    | cons w r =>
      simp only [List.map_cons, valOfS, dV_tup]
      simp only [List.all_cons, Bool.and_eq_true, List.all_eq_true] at h
      rw [notTup_d h.1, notTup_d h.2.1, List.map_congr_left fun x hx => notTup_d (h.2.2 x hx) ℓ]

set_option maxHeartbeats 4000000 in
theorem finishS_spec {P : Program} {fn : Func} {m : Nat} {s : SSt} {out : SOut} (h : (finishS P fn m s).mean = some out) {ℓ' : Lens} (ha' : SubAgr ℓ' (out.2.1 ++ out.2.2)) :
    finish P fn m (dS (lenS s.hp) s) = some (dO ℓ' out) := by
  unfold finishS at h
  obtain ⟨vs, h1, h⟩ := Tr.mean_bind h
  obtain ⟨h2, h⟩ := Tr.mean_when h
  simp only at h
  generalize hR : reachedS s.hp m (refsVS (valOfS vs)) = R at h
  split at h
  · rename_i new sub hnew hsub
    have := Tr.mean_ret h
    subst this
    simp only at ha'
    obtain ⟨M1, M2⟩ := Tr.mean_mapM h1
    obtain ⟨N1, N2⟩ := mapM_some _ _ _ hnew
    obtain ⟨S1, S2⟩ := mapM_some _ _ _ hsub
    have hl0 : (firstNames m).length = m := by simp [firstNames]
    have hgoes : Goes (renTo m R) (lenS s.hp) ℓ' := by
      intro g g' hg
      unfold renTo at hg
      split at hg
      · rename_i hlt
        split at hg
        · rename_i h0
          cases hg
          have hi : (firstNames m)[g.1]? = some (g.1, 0) := by simp [firstNames, hlt]
          obtain ⟨b, e1, e2⟩ := S2 g.1 _ hi
          obtain ⟨b0, e3, rfl⟩ := Option.map_eq_some_iff.1 e2
          have e : g = (g.1, 0) := by rw [← h0]
          rw [e, ha' g.1 _ (by rw [List.getElem?_append_left (List.getElem?_eq_some_iff.1 e1).1]; exact e1), renBS_len, lenS_agr _ _ _ e3]
        · cases hg
      · cases hi : idxOf g R 0 with
        | none => simp [hi] at hg
        | some i =>
          simp [hi] at hg
          obtain ⟨_, hRi⟩ := idxOf_spec g R 0 i hi
          simp only [Nat.sub_zero] at hRi
          obtain ⟨b, e1, e2⟩ := N2 i g hRi
          obtain ⟨b0, e3, e4⟩ := Option.bind_eq_some_iff.1 e2
          split at e4
          · cases e4
            rw [← hg, ha' (m + i) (renBS (renTo m R) b0) (by rw [List.getElem?_append_right (by omega), show m + i - sub.length = i from by omega]; exact e1), renBS_len, lenS_agr _ _ _ e3]
          · cases e4
    have hres : resAll P (dS (lenS s.hp) s).fr (dS (lenS s.hp) s).hp fn.results.toList = some (dV (lenS s.hp) (valOfS vs)) := by
      unfold resAll
      have : fn.results.toList.mapM (resOf P (dS (lenS s.hp) s).fr (dS (lenS s.hp) s).hp) = some (vs.map (dV (lenS s.hp))) := by
        refine mapM_of (by simp [M1]) (fun i x hx => ?_)
        obtain ⟨u, e1, e2⟩ := M2 i x hx
        exact ⟨dV (lenS s.hp) u, by rw [List.getElem?_map, e1]; rfl, resOfS_spec e2⟩
      rw [this, ← valOfS_d h2]
      cases vs with
      | nil => rfl
      | cons v r => cases r <;> rfl
    unfold finish
    rw [hres]
    simp only
    rw [show reached (dS (lenS s.hp) s).hp m (refsV (dV (lenS s.hp) (valOfS vs))) = R from by rw [refsV_d, ← hR]; exact reached_d _ s.hp m _]
    have enew : R.mapM (fun g => (get (dS (lenS s.hp) s).hp g).map (renB (renTo m R))) = some (new.map (dN ℓ')) := by
      refine mapM_of (by simp [N1]) (fun i g hi => ?_)
      obtain ⟨y, e1, e2⟩ := N2 i g hi
      obtain ⟨b0, e3, e4⟩ := Option.bind_eq_some_iff.1 e2
      split at e4
      · rename_i hb0
        cases e4
        refine ⟨dN ℓ' (renBS (renTo m R) b0), by rw [List.getElem?_map, e1]; rfl, ?_⟩
        rw [show get (dS (lenS s.hp) s).hp g = _ from get_dH _ s.hp g, e3, Option.bind_some, renB_d hgoes]
        exact dN_alive (by rw [renBS_alive]; exact hb0)
      · cases e4
    rw [enew]
    simp only [dO, renV_d hgoes]
    congr 3
    apply List.ext_getElem?
    intro i
    simp only [List.getElem?_map]
    cases hi : (firstNames m)[i]? with
    | none =>
      have : sub[i]? = none := by rw [List.getElem?_eq_none_iff, S1]; exact List.getElem?_eq_none_iff.1 hi
      rw [this]; rfl
    | some g =>
      obtain ⟨b, e1, e2⟩ := S2 i g hi
      obtain ⟨b0, e3, rfl⟩ := Option.map_eq_some_iff.1 e2
      rw [e1]
      simp only [Option.map_some]
      rw [show get (dS (lenS s.hp) s).hp g = _ from get_dH _ s.hp g, e3, Option.bind_some, renB_d hgoes]
  · exact (Tr.mean_fail h).elim

/-! ### Calls -/

/-- A function told by a law: its state at the begin and at the end, and what it makes of it. -/
structure Spec where
  keep : Nat
  σi : Sg
  σo : Sg
  m : σi.den → Option σo.den

def senvOf (P : Program) (N : FuncId → Note) (f : FuncId) (fn : Func) (m : Nat) : SEnv :=
  { P, N, nt := fn.ntmps, locs := (N f).locs, pairs := (N f).pairs, keep := m }

def frOfS : List SV → Nat → SFr
  | [], _ => []
  | x :: r, i => (i, x) :: frOfS r (i + 1)

def startS (args : List SV) (sub : List SB) : SSt := { fr := frOfS args 0, hp := sub.map fun b => [b] }

noncomputable def callS (P : Program) (N : FuncId → Note) (gv : FuncId → Option Nat) (C : FuncId → Option SCall) (mv : FuncId → Option Nat) (T : FuncId → Option Spec) (an : Nat → FAn) : Nat → Nat → FuncId → SCall
  | 0, _, _, _, _ => .fail
  | n + 1, c, f, args, sub =>
    match C f with
    | some q => q args sub
    | none =>
    match P.funcs[f]? with
    | some fn =>
      match fn.body with
      | some body =>
        .when (decide ((N f).on = true ∧ args.length ≤ fn.ntmps) && sub.all SB.alive && validS (startS args sub)) (
          match T f with
          | some sp => if sub.length = sp.keep then (fit sp.keep sp.σi (startS args sub)).bind fun v => .ask (sp.m v) fun u => finishS P fn sp.keep (sp.σo.un u) else .fail
          | none => match mv f with
            | some m => .when (decide (m ≤ sub.length)) ((execK (senvOf P N f fn m) gv (fun r i => callS P N gv C mv T an n ((an c).inl r i)) (an c) body m (startS args sub)).bind fun p => match p.1 with
              | .exit _ => .fail
              | _ => (finishS P fn m p.2).bind fun o => .ret (renVS (shiftM m sub.length) o.1, o.2.1.map (renBS (shiftM m sub.length)) ++ (sub.drop m).map (fun b => .dead b.len), o.2.2.map (renBS (shiftM m sub.length))))
            | none => (execK (senvOf P N f fn sub.length) gv (fun r i => callS P N gv C mv T an n ((an c).inl r i)) (an c) body sub.length (startS args sub)).bind fun p => match p.1 with
              | .exit _ => .fail
              | _ => finishS P fn sub.length p.2)
      | none => .fail
    | none => .fail

/-- What is asked of a law of a function. -/
def SpecOK (P : Program) (f : FuncId) (sp : Spec) : Prop :=
  ∀ fn body, P.funcs[f]? = some fn → fn.body = some body → ∀ v u, sp.m v = some u → ∀ ℓ' : Lens, Agr ℓ' (sp.σo.un u).hp →
    ∃ ℓ, Agr ℓ (sp.σi.un v).hp ∧ ∃ e, (e = .normal ∨ e = .ret) ∧ To P fn.ntmps sp.keep body (dS ℓ (sp.σi.un v)) e (dS ℓ' (sp.σo.un u))

theorem frOfS_d (ℓ : Lens) : ∀ (args : List SV) (i : Nat), dF ℓ (frOfS args i) = frOf (args.map (dV ℓ)) i := by
  intro args
  induction args with
  | nil => intro i; rfl
  | cons a r ih => intro i; simp only [frOfS, dF, List.map_cons, frOf] at ih ⊢; rw [ih]

theorem startS_d {ℓ : Lens} {args : List SV} {sub : List SB} (h : ∀ b ∈ sub, b.alive = true) : dS ℓ (startS args sub) = { fr := frOf (args.map (dV ℓ)) 0, hp := heapOf (sub.map (dN ℓ)) } := by
  simp only [dS, startS, frOfS_d]
  congr 1
  simp only [dH, heapOf, List.map_map]
  refine List.map_congr_left fun b hb => ?_
  simp only [Function.comp, List.map_cons, List.map_nil, dN_alive (h b hb)]

theorem startS_agr {ℓ : Lens} {args : List SV} {sub : List SB} (h : SubAgr ℓ sub) : Agr ℓ (startS args sub).hp := by
  intro g b hg
  obtain ⟨i, k⟩ := g
  simp only [getS, startS, List.getElem?_map] at hg
  cases hi : sub[i]? with
  | none => simp [hi] at hg
  | some b0 =>
    cases k with
    | succ k => simp [hi] at hg
    | zero =>
      simp [hi] at hg
      subst hg
      exact h i b0 hi

theorem callS_ok {P : Program} {N : FuncId → Note} {gv : FuncId → Option Nat} {C : FuncId → Option SCall} {mv : FuncId → Option Nat} {T : FuncId → Option Spec} {an : Nat → FAn} (hg : Good P N) (hV : ∀ f sz, gv f = some sz → Gives1 P f sz ∧ Entered P f) (hm : P.follows .mixedOrders = true) (hC : ∀ f q, C f = some q → CallOK P f q) (hT : ∀ f sp, T f = some sp → SpecOK P f sp) :
    ∀ n c f, CallOK P f (callS P N gv C mv T an n c f) := by
  intro n
  induction n with
  | zero => intro c f args sub out h; exact (Tr.mean_fail h).elim
  | succ n ih =>
    intro c f args sub out h ℓ0 ℓ' hs0 hs'
    simp only [callS] at h
    split at h
    · rename_i q hq
      exact hC f q hq args sub out h ℓ0 ℓ' hs0 hs'
    split at h
    · rename_i fn hfn
      split at h
      · rename_i body hbody
        obtain ⟨h1, h⟩ := Tr.mean_when h
        simp only [Bool.and_eq_true, decide_eq_true_eq, List.all_eq_true] at h1
        obtain ⟨⟨⟨hon, hlen⟩, hal⟩, hval⟩ := h1
        obtain ⟨hname, hok⟩ := hg f fn hon hfn
        refine ⟨entered hfn hbody hname, ?_⟩
        have start : ∀ {ℓ}, Agr ℓ (startS args sub).hp → dS ℓ (startS args sub) = { fr := frOf (args.map (dV ℓ0)) 0, hp := heapOf (sub.map (dN ℓ0)) } := by
          intro ℓ ha
          rw [dS_congr hval ha (startS_agr hs0), startS_d hal]
        split at h
        · rename_i sp hsp
          split at h
          · rename_i hk
            obtain ⟨v, h2, h⟩ := Tr.mean_bind h
            obtain ⟨u, h3, h4⟩ := Tr.mean_ask h
            obtain ⟨l1, a1, e, he, hto⟩ := hT f sp hsp fn body hfn hbody v u h3 (lenS (sp.σo.un u).hp) (lenS_agr _)
            obtain ⟨l0, a0, w0⟩ := fit_spec (nt := fn.ntmps) h2 a1
            have hto := hto.pre w0
            rw [start a0] at hto
            have hfin := finishS_spec h4 hs'
            rw [← hk] at hto hfin
            refine contract_of (s1 := dS (lenS (sp.σo.un u).hp) (sp.σo.un u)) hfn hbody (by simpa using hlen) ?_ he ?_
            · rw [List.length_map]; exact hto
            · rw [List.length_map]; exact hfin
          · exact (Tr.mean_fail h).elim
        · split at h
          · -- all blocks but the first are handed over for good
            rename_i m _
            obtain ⟨hm0, h⟩ := Tr.mean_when h
            have hm0 := of_decide_eq_true hm0
            obtain ⟨⟨e, s1⟩, h2, h3⟩ := Tr.mean_bind h
            have fin : (e = .normal ∨ e = .ret) → ((finishS P fn m s1).bind fun o => Tr.ret ((renVS (shiftM m sub.length) o.1, o.2.1.map (renBS (shiftM m sub.length)) ++ (sub.drop m).map (fun b => SB.dead b.len), o.2.2.map (renBS (shiftM m sub.length))) : SOut)).mean = some out → Contract P f (args.map (dV ℓ0)) (sub.map (dN ℓ0)) (dO ℓ' out) := by
              intro he h4
              obtain ⟨o, h5, h6⟩ := Tr.mean_bind h4
              have := Tr.mean_ret h6
              subst this
              simp only at hs'
              obtain ⟨l0, a0, hto⟩ := execK_spec (E := senvOf P N f fn m) hV hm (fun r i f => ih _ f) body (hok body hbody) _ _ _ _ h2 (lenS s1.hp) (lenS_agr _)
              rw [start a0] at hto
              have ho : o.2.1.length = m := by
                unfold finishS at h5
                obtain ⟨_, _, h7⟩ := Tr.mean_bind h5
                obtain ⟨_, h8⟩ := Tr.mean_when h7
                simp only at h8
                split at h8
                · rename_i hsub
                  have := Tr.mean_ret h8
                  subst this
                  have hl := (mapM_some _ _ _ hsub).1
                  simpa [firstNames] using hl
                · exact (Tr.mean_fail h8).elim
              have hsub2 : SubAgr (fun g => ℓ' (if g.1 < m then g else (g.1 - m + sub.length, g.2))) (o.2.1 ++ o.2.2) := by
                intro j b hj
                by_cases hjm : j < m
                · rw [List.getElem?_append_left (by omega)] at hj
                  have := hs' j (renBS (shiftM m sub.length) b) (by
                    rw [List.append_assoc, List.getElem?_append_left (by simp; omega), List.getElem?_map, hj]
                    rfl)
                  rw [renBS_len] at this
                  simp only [hjm, if_true]
                  exact this
                · rw [List.getElem?_append_right (by omega), ho] at hj
                  have := hs' (j - m + sub.length) (renBS (shiftM m sub.length) b) (by
                    rw [List.getElem?_append_right (by simp; omega)]
                    simp only [List.length_append, List.length_map, List.length_drop, ho]
                    rw [show j - m + sub.length - (m + (sub.length - m)) = j - m by omega, List.getElem?_map, hj]
                    rfl)
                  rw [renBS_len] at this
                  simp only [hjm, if_false]
                  exact this
              have hfin := finishS_spec h5 hsub2
              have hcon := contract_part (s1 := dS (lenS s1.hp) s1) (args := args.map (dV ℓ0)) (sub := sub.map (dN ℓ0)) (m := m) (by simpa using hm0) hfn hbody (by simpa using hlen) hto he hfin
              have hgoes : Goes (shiftM m sub.length) (fun g => ℓ' (if g.1 < m then g else (g.1 - m + sub.length, g.2))) ℓ' := by
                intro g g' hg
                simp only [shiftM, Option.some.injEq] at hg
                subst hg
                rfl
              have hN : ∀ b, renB (shiftM m sub.length) (dN (fun g => ℓ' (if g.1 < m then g else (g.1 - m + sub.length, g.2))) b) = dN ℓ' (renBS (shiftM m sub.length) b) := by
                intro b
                have := renB_d hgoes b
                cases b with
                | box sz v => simp only [dN, dB, Option.map_some, Option.some.injEq, renBS] at this ⊢; exact this
                | arr t l z => simp only [dN, dB, Option.map_some, Option.some.injEq, renBS] at this ⊢; exact this
                | mp st t l => simp only [dN, dB, Option.map_some, Option.some.injEq, renBS] at this ⊢; exact this
                | dead q => simp [dN, dB, renBS, renB]
              have heq : (renV (shiftM m (sub.map (dN ℓ0)).length) (dO (fun g => ℓ' (if g.1 < m then g else (g.1 - m + sub.length, g.2))) o).1,
                  (dO (fun g => ℓ' (if g.1 < m then g else (g.1 - m + sub.length, g.2))) o).2.1.map (fun b => b.map (renB (shiftM m (sub.map (dN ℓ0)).length))) ++ ((sub.map (dN ℓ0)).drop m).map (fun _ => (none : Option Blk)),
                  (dO (fun g => ℓ' (if g.1 < m then g else (g.1 - m + sub.length, g.2))) o).2.2.map (renB (shiftM m (sub.map (dN ℓ0)).length))) =
                  dO ℓ' (renVS (shiftM m sub.length) o.1, o.2.1.map (renBS (shiftM m sub.length)) ++ (sub.drop m).map (fun b => SB.dead b.len), o.2.2.map (renBS (shiftM m sub.length))) := by
                simp only [dO, List.length_map, List.map_map, List.map_append, ← List.map_drop]
                rw [renV_d hgoes]
                congr 3
                · refine List.map_congr_left fun b _ => ?_
                  exact renB_d hgoes b
                · funext b
                  exact hN b
              rw [heq] at hcon
              exact hcon
            cases e with
            | normal => exact fin (.inl rfl) h3
            | ret => exact fin (.inr rfl) h3
            | exit id => exact (Tr.mean_fail h3).elim
          · obtain ⟨⟨e, s1⟩, h2, h3⟩ := Tr.mean_bind h
            have fin : (e = .normal ∨ e = .ret) → (finishS P fn sub.length s1).mean = some out → Contract P f (args.map (dV ℓ0)) (sub.map (dN ℓ0)) (dO ℓ' out) := by
              intro he h4
              obtain ⟨l0, a0, hto⟩ := execK_spec (E := senvOf P N f fn sub.length) hV hm (fun r i f => ih _ f) body (hok body hbody) _ _ _ _ h2 (lenS s1.hp) (lenS_agr _)
              rw [start a0] at hto
              refine contract_of (s1 := dS (lenS s1.hp) s1) hfn hbody (by simpa using hlen) ?_ he ?_
              · rw [List.length_map]; exact hto
              · rw [List.length_map]; exact finishS_spec h4 hs'
            cases e with
            | normal => exact fin (.inl rfl) h3
            | ret => exact fin (.inr rfl) h3
            | exit id => exact (Tr.mean_fail h3).elim
      · exact (Tr.mean_fail h).elim
    · exact (Tr.mean_fail h).elim

/-- The run of a function that is told by a law. -/
noncomputable def bodyC (P : Program) (N : FuncId → Note) (gv : FuncId → Option Nat) (C : FuncId → Option SCall) (mv : FuncId → Option Nat) (T : FuncId → Option Spec) (an : Nat → FAn) (n : Nat) (f : FuncId) (keep : Nat) (σi σo : Sg) (v : σi.den) : Tr σo.den :=
  match P.funcs[f]? with
  | some fn =>
    match fn.body with
    | some body => (execK (senvOf P N f fn keep) gv (fun r i => callS P N gv C mv T an n ((an 0).inl r i)) (an 0) body keep (σi.un v)).bind fun p => match p.1 with
      | .exit _ => .fail
      | _ => fit keep σo p.2
    | none => .fail
  | none => .fail

/-- A law of a function, by its run. -/
theorem specOG_of {P : Program} {N : FuncId → Note} {gv : FuncId → Option Nat} {C : FuncId → Option SCall} {mv : FuncId → Option Nat} {T : FuncId → Option Spec} {an : Nat → FAn} {n : Nat} {f : FuncId} {sp : Spec} (hV : ∀ f sz, gv f = some sz → Gives1 P f sz ∧ Entered P f) (hC : ∀ f q, C f = some q → CallOK P f q) (hg : Good P N) (hm : P.follows .mixedOrders = true) (hT : ∀ f sp, T f = some sp → SpecOK P f sp)
    (hon : (N f).on = true) (h : ∀ v, (bodyC P N gv C mv T an n f sp.keep sp.σi sp.σo v).mean = sp.m v) : SpecOK P f sp := by
  intro fn body hfn hbody v u hv ℓ' ha
  rw [← h v] at hv
  simp only [bodyC, hfn, hbody] at hv
  obtain ⟨⟨e, s1⟩, h1, h2⟩ := Tr.mean_bind hv
  have fin : (e = .normal ∨ e = .ret) → (fit sp.keep sp.σo s1).mean = some u → ∃ ℓ, Agr ℓ (sp.σi.un v).hp ∧ ∃ e, (e = .normal ∨ e = .ret) ∧ To P fn.ntmps sp.keep body (dS ℓ (sp.σi.un v)) e (dS ℓ' (sp.σo.un u)) := by
    intro he h3
    obtain ⟨l1, a1, w1⟩ := fit_spec (nt := fn.ntmps) h3 ha
    obtain ⟨l0, a0, hto⟩ := execK_spec (E := senvOf P N f fn sp.keep) hV hm (fun r i f => callS_ok hg hV hm hC hT n _ f) body ((hg f fn hon hfn).2 body hbody) _ _ _ _ h1 l1 a1
    exact ⟨l0, a0, e, he, hto.post w1⟩
  cases e with
  | normal => exact fin (.inl rfl) h2
  | ret => exact fin (.inr rfl) h2
  | exit id => exact (Tr.mean_fail h2).elim

theorem specOC_of {P : Program} {N : FuncId → Note} {C : FuncId → Option SCall} {mv : FuncId → Option Nat} {T : FuncId → Option Spec} {an : Nat → FAn} {n : Nat} {f : FuncId} {sp : Spec} (hC : ∀ f q, C f = some q → CallOK P f q) (hg : Good P N) (hm : P.follows .mixedOrders = true) (hT : ∀ f sp, T f = some sp → SpecOK P f sp)
    (hon : (N f).on = true) (h : ∀ v, (bodyC P N (fun _ => none) C mv T an n f sp.keep sp.σi sp.σo v).mean = sp.m v) : SpecOK P f sp := specOG_of (fun _ _ h => by cases h) hC hg hm hT hon h

noncomputable abbrev bodyS (P : Program) (N : FuncId → Note) (T : FuncId → Option Spec) (an : Nat → FAn) (n : Nat) (f : FuncId) (keep : Nat) (σi σo : Sg) (v : σi.den) : Tr σo.den := bodyC P N (fun _ => none) (fun _ => none) (fun _ => none) T an n f keep σi σo v
theorem specOK_of {P : Program} {N : FuncId → Note} {T : FuncId → Option Spec} {an : Nat → FAn} {n : Nat} {f : FuncId} {sp : Spec} (hg : Good P N) (hm : P.follows .mixedOrders = true) (hT : ∀ f sp, T f = some sp → SpecOK P f sp)
    (hon : (N f).on = true) (h : ∀ v, (bodyS P N T an n f sp.keep sp.σi sp.σo v).mean = sp.m v) : SpecOK P f sp := specOC_of (fun _ _ h => by cases h) hg hm hT hon h

/-- How many blocks are kept by functions to which the others are handed over for good. -/
def mvOf : List (FuncId × Nat) → FuncId → Option Nat
  | [], _ => none
  | (g, q) :: r, f => if g = f then some q else mvOf r f

/-- A table of calls told by hand. -/
def ctabOf : List (FuncId × SCall) → FuncId → Option SCall
  | [], _ => none
  | (g, q) :: r, f => if g = f then some q else ctabOf r f

theorem ctabOf_ok {P : Program} : ∀ (l : List (FuncId × SCall)), (∀ p ∈ l, CallOK P p.1 p.2) → ∀ f q, ctabOf l f = some q → CallOK P f q := by
  intro l
  induction l with
  | nil => intro _ f q h; cases h
  | cons p r ih =>
    intro hl f q h
    obtain ⟨g, x⟩ := p
    simp only [ctabOf] at h
    split at h
    · rename_i e; subst e; cases h; exact hl _ (List.mem_cons_self ..)
    · exact ih (fun x hx => hl x (by simp [hx])) f q h

/-- A table out of a list. -/
def tabOf : List (FuncId × Spec) → FuncId → Option Spec
  | [], _ => none
  | (g, sp) :: r, f => if g = f then some sp else tabOf r f

theorem tabOf_ok {P : Program} : ∀ (l : List (FuncId × Spec)), (∀ p ∈ l, SpecOK P p.1 p.2) → ∀ f sp, tabOf l f = some sp → SpecOK P f sp := by
  intro l
  induction l with
  | nil => intro _ f sp h; cases h
  | cons p r ih =>
    intro hl f sp h
    obtain ⟨g, q⟩ := p
    simp only [tabOf] at h
    split at h
    · rename_i e; subst e; cases h; exact hl _ (List.mem_cons_self ..)
    · exact ih (fun x hx => hl x (by simp [hx])) f sp h

abbrev w64 (n : Int) : Int := IntKind.wrap .i64 n

/-- The bytes of a constant. -/
abbrev bs (l : List UInt8) : ByteArray := ⟨l.toArray⟩

def layFs (P : Program) (ok : TypeId → Bool) : List Field → Nat → Option Nat
  | [], off => some off
  | f :: r, off => if f.offset = off ∧ ok f.type = true then layFs P ok r (off + P.cellsOf f.type) else none

/-- The cells of a type lie as its parts say. -/
def layOK (P : Program) : Nat → TypeId → Bool
  | 0, _ => false
  | d + 1, t =>
    match P.underlying t with
    | some (.int _) | some .bool | some .string => decide (P.cellsOf t = 1)
    | some (.slice e) => decide (P.cellsOf t = 1 ∧ 0 < P.cellsOf e) && layOK P d e
    | some (.struct fs) => decide (layFs P (layOK P d) fs.toList 0 = some (P.cellsOf t))
    | some (.array n e) => decide (P.cellsOf t = n * P.cellsOf e) && layOK P d e
    | _ => false

/-- The numbers are of their kinds, the lengths such as they can be. -/
def InR : (t : Ty) → t.den → Prop
  | .int k, n => k.min ≤ (show Int from n) ∧ (show Int from n) ≤ k.max
  | .bool, _ => True
  | .str, s => s.size ≤ maxLen
  | .row t, l => List.length l ≤ maxLen ∧ ∀ x : t.den, x ∈ (show List t.den from l) → InR t x
  | .unit, _ => True
  | .cons a b, x => InR a x.1 ∧ InR b x.2

theorem exists_list {α : Type} {Q : Nat → α → Prop} : ∀ (n : Nat), (∀ i, i < n → ∃ x, Q i x) → ∃ l : List α, l.length = n ∧ ∀ (i : Nat) (x : α), l[i]? = some x → Q i x := by
  intro n
  induction n with
  | zero => intro _; exact ⟨[], rfl, fun i x h => by simp at h⟩
  | succ n ih =>
    intro h
    obtain ⟨l, h1, h2⟩ := ih (fun i hi => h i (by omega))
    obtain ⟨x, hx⟩ := h n (by omega)
    refine ⟨l ++ [x], by simp [h1], fun i y hy => ?_⟩
    rcases Nat.lt_or_ge i n with hi | hi
    · rw [List.getElem?_append_left (by omega)] at hy; exact h2 i y hy
    · rw [List.getElem?_append_right (by omega)] at hy
      have : i - l.length = 0 := by have := (List.getElem?_eq_some_iff.1 hy).1; simp at this; omega
      rw [this] at hy
      simp at hy
      subst hy
      have : i = n := by omega
      rw [this]; exact hx

section
variable {H : Type} {enc0 : TypeId × Value → H} {P : Program} {w : World} {sp : Nat → Bool} {held : Bool}
abbrev noX : XT := fun _ _ => False

def CellsOf (w : World) (cs : List Value) (off : Nat) (es : List AV) : Prop := ∀ (j : Nat) (u : AV), es[j]? = some u → ∃ c, cs[off + j]? = some c ∧ c.oneCell' = true ∧ PR w noX c u

theorem CellsOf.append {cs : List Value} {off : Nat} {a b : List AV} (h : CellsOf w cs off a) (k : CellsOf w cs (off + a.length) b) : CellsOf w cs off (a ++ b) := by
  intro j u hj
  rcases Nat.lt_or_ge j a.length with hlt | hge
  · rw [List.getElem?_append_left hlt] at hj; exact h j u hj
  · rw [List.getElem?_append_right hge] at hj
    obtain ⟨c, h1, h2⟩ := k (j - a.length) u hj
    refine ⟨c, ?_, h2⟩
    rw [← h1]
    congr 1
    omega

theorem CellsOf.piece {cs : List Value} {off n : Nat} {a : List AV} (h : CellsOf w ((cs.drop off).take n) 0 a) : CellsOf w cs off a := by
  intro j u hj
  obtain ⟨c, h1, h2⟩ := h j u hj
  refine ⟨c, ?_, h2⟩
  rw [Nat.zero_add] at h1
  have hj := (List.getElem?_eq_some_iff.1 h1).1
  simp at hj
  rw [List.getElem?_take_of_lt (by omega), List.getElem?_drop] at h1
  exact h1

def Reads (w : World) (t : Ty) (cs : List Value) : Prop := ∃ x : t.den, InR t x ∧ CellsOf w cs 0 (encC t x)

theorem addr_two {a : Addr} (h : a.spot = none) (n m : Nat) : (a.add n).add m = ⟨a.block, a.off + (n + m), none⟩ := by
  obtain ⟨b, o, s⟩ := a
  simp only at h
  subst h
  unfold Addr.add
  by_cases h1 : n = 0
  · by_cases h2 : m = 0
    · simp [h1, h2]
    · simp [h1, h2]
  · by_cases h2 : m = 0
    · simp [h1, h2]
    · simp [h1, h2]; omega

theorem trod_typed : ∀ (d : Nat) (t : TypeId) (ty : Ty), tyOf P d t = some ty → layOK P d t = true → P.cellsOf t = ty.size ∧
    ∀ (fuel : Nat) (cs : List Value) (y : DataW H × List MemPlace), DataW.trod enc0 P w 0 sp held fuel t cs = some y → cs.length = ty.size ∧ Reads w ty cs := by
  intro d
  induction d with
  | zero => intro t ty h; cases h
  | succ d ih =>
    intro t ty h hl
    unfold tyOf at h
    unfold layOK at hl
    split at h
    · rename_i k hu
      cases h
      rw [hu] at hl
      refine ⟨of_decide_eq_true hl, fun fuel cs y hy => ?_⟩
      obtain ⟨n, rfl, rfl, hw⟩ := DataW.trod_int hu hy
      simp only [Lit.wf, Bool.and_eq_true, decide_eq_true_eq] at hw
      refine ⟨rfl, n, hw, fun j u hj => ?_⟩
      cases j with
      | zero => simp [encC] at hj; subst hj; exact ⟨_, rfl, rfl, .int _ _⟩
      | succ j => simp [encC] at hj
    · rename_i hu
      cases h
      rw [hu] at hl
      refine ⟨of_decide_eq_true hl, fun fuel cs y hy => ?_⟩
      obtain ⟨b, rfl, rfl⟩ := DataW.trod_bool hu hy
      refine ⟨rfl, b, trivial, fun j u hj => ?_⟩
      cases j with
      | zero => simp [encC] at hj; subst hj; exact ⟨_, rfl, rfl, .bool _⟩
      | succ j => simp [encC] at hj
    · rename_i hu
      cases h
      rw [hu] at hl
      refine ⟨of_decide_eq_true hl, fun fuel cs y hy => ?_⟩
      obtain ⟨s, rfl, hs⟩ := DataW.trod_string hu hy
      refine ⟨rfl, s, hs.2, fun j u hj => ?_⟩
      cases j with
      | zero => simp [encC] at hj; subst hj; exact ⟨_, rfl, rfl, .str _⟩
      | succ j => simp [encC] at hj
    · rename_i e hu
      rw [hu] at hl
      obtain ⟨te, h1, rfl⟩ := Option.map_eq_some_iff.1 h
      simp only [Bool.and_eq_true, decide_eq_true_eq] at hl
      obtain ⟨⟨hl1, hl2⟩, hl3⟩ := hl
      obtain ⟨i1, i2⟩ := ih e te h1 hl3
      refine ⟨hl1, fun fuel cs y hy => ?_⟩
      rcases DataW.trod_slice hu hy with ⟨rfl, _⟩ | ⟨a, len, cap, elems, rest, n, _, rfl, _, _, hlc, hcap, hlen, hel, _, _⟩
      · refine ⟨rfl, [], ⟨Nat.zero_le _, fun x hx => by cases hx⟩, fun j u hj => ?_⟩
        cases j with
        | zero => simp [encC] at hj; subst hj; exact ⟨_, rfl, rfl, .lst0 _ _ _ _ (fun e => by cases e)⟩
        | succ j => simp [encC] at hj
      · refine ⟨rfl, ?_⟩
        have each : ∀ i, i < len → ∃ x : te.den, InR te x ∧ ∃ cs, w.cells? 0 (a.add (i * P.cellsOf e)) (P.cellsOf e) = some cs ∧ CellsOf w cs 0 (encC te x) := by
          intro i hi
          have hb := hel i hi
          rw [List.getElem?_eq_getElem (by omega)] at hb
          obtain ⟨cs, hcs, hy'⟩ := Option.bind_eq_some_iff.1 hb
          obtain ⟨_, x, hx1, hx2⟩ := i2 _ _ _ hy'
          exact ⟨x, hx1, cs, hcs, hx2⟩
        obtain ⟨l, hl4, hl5⟩ := exists_list len each
        refine ⟨l, ⟨by rw [hl4]; exact Nat.le_trans hlc hcap, fun x hx => ?_⟩, fun j u hj => ?_⟩
        · obtain ⟨i, hi⟩ := List.getElem?_of_mem hx
          exact (hl5 i x hi).1
        · cases j with
          | succ j => simp [encC] at hj
          | zero =>
            simp [encC] at hj
            subst hj
            refine ⟨_, rfl, rfl, ?_⟩
            cases len with
            | zero =>
              have : l = [] := List.length_eq_zero_iff.1 hl4
              subst this
              exact .lst0 _ _ _ _ (fun e => by cases e)
            | succ len =>
              have hne : 0 < (l.map fun x => wrap te.agg (encC te x)).length := by simp [hl4]
              have hz : lsz te.size (l.map fun x => wrap te.agg (encC te x)) = te.size := lsz_pos hne
              -- the row lies where its first element lies
              have hspot : a.spot = none := by
                obtain ⟨x, _, cs, hcs, _⟩ := each 0 (by omega)
                obtain ⟨_, hn, hc⟩ := World.cells?_some hcs
                have h0 := hc 0 hl2
                rw [List.getElem?_eq_getElem (by omega)] at h0
                simp only [Nat.zero_mul, Addr.add, if_true] at h0
                unfold World.cell? at h0
                split at h0
                · cases hs : a.spot with
                  | none => rfl
                  | some s => rw [hs] at h0; simp at h0
                · cases h0
              have ea : a = ⟨a.block, a.off, none⟩ := by obtain ⟨b, o, s⟩ := a; simp only at hspot; subst hspot; rfl
              have cell : ∀ (i : Nat) (x : AV), (l.map fun x => wrap te.agg (encC te x))[i]? = some x → ∀ (j : Nat) (u : AV), x.cells[j]? = some u →
                  ∃ c, w.cell? ⟨a.block, a.off + (i * te.size + j), none⟩ = some c ∧ c.oneCell' = true ∧ PR w noX c u := by
                intro i x hx j u hu'
                rw [List.getElem?_map] at hx
                obtain ⟨z, hz1, rfl⟩ := Option.map_eq_some_iff.1 hx
                have hz2 : (wrap te.agg (encC te z)).cells = encC te z := cells_enc te z
                rw [hz2] at hu'
                obtain ⟨_, cs, hcs, hcell⟩ := hl5 i z hz1
                obtain ⟨c, h3, h4, h5⟩ := hcell j u hu'
                obtain ⟨_, hn, hc⟩ := World.cells?_some hcs
                rw [Nat.zero_add] at h3
                have hj : j < P.cellsOf e := by rw [← hn]; exact (List.getElem?_eq_some_iff.1 h3).1
                refine ⟨c, ?_, h4, h5⟩
                rw [← h3, ← hc j hj, addr_two hspot, i1]
              rw [hz, ea]
              refine .lst a.block a.off (len + 1) cap te.size false _ (fun i j => (w.cell? ⟨a.block, a.off + (i * te.size + j), none⟩).getD undef) (by simp [hl4]) hlc (fun e => by cases e) (fun i x hx => ?_) (fun i x hx j u hu' => ?_) (fun i x hx j u hu' => ?_)
              · rw [List.getElem?_map] at hx
                obtain ⟨z, _, rfl⟩ := Option.map_eq_some_iff.1 hx
                rw [show (wrap te.agg (encC te z)).cells = encC te z from cells_enc te z, length_encC]
              · obtain ⟨c, h3, h4, h5⟩ := cell i x hx j u hu'
                rw [h3]
                exact ⟨fun e => e.elim, rfl, h4⟩
              · obtain ⟨c, h3, h4, h5⟩ := cell i x hx j u hu'
                simp only [h3, Option.getD_some]
                exact h5
    · rename_i fs hu
      rw [hu] at hl
      have hl := of_decide_eq_true hl
      -- field by field
      have flds : ∀ (l : List Field) (off fin : Nat) (ty : Ty), l.foldr (fun f r => match tyOf P d f.type, r with
          | some a, some b => some (Ty.cons a b)
          | _, _ => none) (some .unit) = some ty → layFs P (layOK P d) l off = some fin → fin = off + ty.size ∧
          ∀ (cs : List Value), (∀ f ∈ l, ∃ n y, DataW.trod enc0 P w 0 sp held n f.type ((cs.drop f.offset).take (P.cellsOf f.type)) = some y) → ∃ x : ty.den, InR ty x ∧ CellsOf w cs off (encC ty x) := by
        intro l
        induction l with
        | nil =>
          intro off fin ty h1 h2
          cases h1
          cases h2
          exact ⟨rfl, fun cs _ => ⟨(), trivial, fun j u hj => by simp [encC] at hj⟩⟩
        | cons f r ihl =>
          intro off fin ty h1 h2
          simp only [List.foldr_cons] at h1
          split at h1
          · rename_i a b ha hb
            cases h1
            simp only [layFs] at h2
            split at h2
            · rename_i hc
              obtain ⟨rfl, hok⟩ := hc
              obtain ⟨j1, j2⟩ := ih f.type a ha hok
              obtain ⟨k1, k2⟩ := ihl _ _ _ hb h2
              refine ⟨by rw [k1, j1]; simp only [Ty.size]; omega, fun cs hcs => ?_⟩
              obtain ⟨n, y, hy⟩ := hcs f (by simp)
              obtain ⟨_, x, hx1, hx2⟩ := j2 _ _ _ hy
              obtain ⟨z, hz1, hz2⟩ := k2 cs (fun g hg => hcs g (by simp [hg]))
              refine ⟨(x, z), ⟨hx1, hz1⟩, ?_⟩
              simp only [encC]
              refine hx2.piece.append ?_
              rw [length_encC, ← j1]
              exact hz2
            · cases h2
          · cases h1
      obtain ⟨f1, f2⟩ := flds _ 0 _ ty h hl
      refine ⟨by omega, fun fuel cs y hy => ?_⟩
      obtain ⟨xs, n, _, _, hlen, hxs, hf⟩ := DataW.trod_struct hu hy
      refine ⟨by omega, f2 cs (fun f hfm => ?_)⟩
      obtain ⟨i, hi⟩ := List.getElem?_of_mem hfm
      have hi' : fs[i]? = some f := by simpa using hi
      have hlt : i < fs.size := (Array.getElem?_eq_some_iff.1 hi').1
      exact ⟨n, xs[i]'(by omega), by rw [hf i f hi', List.getElem?_eq_getElem (by omega)]⟩
    · rename_i n e hu
      rw [hu] at hl
      simp only [Bool.and_eq_true, decide_eq_true_eq] at hl
      obtain ⟨hl1, hl2⟩ := hl
      split at h
      · rename_i te he
        cases h
        obtain ⟨i1, i2⟩ := ih e te he hl2
        have elts : ∀ (n off : Nat), ((List.replicate n te).foldr Ty.cons .unit).size = n * te.size ∧ ∀ (cs : List Value), (∀ i, i < n → ∃ m y, DataW.trod enc0 P w 0 sp held m e ((cs.drop (off + i * P.cellsOf e)).take (P.cellsOf e)) = some y) →
            ∃ x : ((List.replicate n te).foldr Ty.cons .unit).den, InR _ x ∧ CellsOf w cs off (encC _ x) := by
          intro n
          induction n with
          | zero => intro off; exact ⟨by simp [Ty.size], fun cs _ => ⟨(), trivial, fun j u hj => by simp [encC] at hj⟩⟩
          | succ n ihn =>
            intro off
            refine ⟨?_, fun cs hcs => ?_⟩
            · simp only [List.replicate_succ, List.foldr_cons, Ty.size, (ihn 0).1, Nat.succ_mul]; omega
            · obtain ⟨m, y, hy⟩ := hcs 0 (by omega)
              rw [Nat.zero_mul, Nat.add_zero] at hy
              obtain ⟨_, x, hx1, hx2⟩ := i2 _ _ _ hy
              obtain ⟨z, hz1, hz2⟩ := (ihn (off + P.cellsOf e)).2 cs (fun i hi => by
                obtain ⟨m, y, hy⟩ := hcs (i + 1) (by omega)
                refine ⟨m, y, ?_⟩
                rw [← hy]
                congr 3
                rw [Nat.succ_mul]; omega)
              refine ⟨(x, z), ⟨hx1, hz1⟩, ?_⟩
              show CellsOf w cs off (encC te x ++ encC _ z)
              refine hx2.piece.append ?_
              rw [length_encC, ← i1]
              exact hz2
        obtain ⟨f1, f2⟩ := elts n 0
        refine ⟨by rw [f1, hl1, i1], fun fuel cs y hy => ?_⟩
        obtain ⟨xs, m, _, _, hlen, hxs, hf⟩ := DataW.trod_array hu hy
        refine ⟨by rw [f1, hlen, hl1, i1], f2 cs (fun i hi => ?_)⟩
        exact ⟨m, xs[i]'(by omega), by rw [Nat.zero_add, hf i hi, List.getElem?_eq_getElem (by omega)]⟩
      · cases h
    · cases h

end
def datS : List Ty → Sh
  | [] => .nil
  | t :: r => .dat t (datS r)

def InRs : (ts : List Ty) → (datS ts).den → Prop
  | [], _ => True
  | t :: r, x => InR t x.1 ∧ InRs r x.2

section
variable {H : Type} {enc0 : TypeId × Value → H} {P : Program} {w : World} {sp : Nat → Bool} {held : Bool}
theorem agg_of {d : Nat} {t : TypeId} {ty : Ty} (h : tyOf P d t = some ty) : ty.agg = (match P.underlying t with | some (.struct _) | some (.array _ _) => true | _ => false) := by
  cases d with
  | zero => cases h
  | succ d =>
    unfold tyOf at h
    split at h
    · rename_i hu; cases h; rw [hu]; rfl
    · rename_i hu; cases h; rw [hu]; rfl
    · rename_i hu; cases h; rw [hu]; rfl
    · rename_i hu
      obtain ⟨te, _, rfl⟩ := Option.map_eq_some_iff.1 h
      rw [hu]; rfl
    · rename_i fs hu
      rw [hu]
      generalize fs.toList = l at h
      cases l with
      | nil => cases h; rfl
      | cons f r =>
        simp only [List.foldr_cons] at h
        split at h
        · cases h; rfl
        · cases h
    · rename_i n e hu
      rw [hu]
      split at h
      · cases h
        cases n <;> rfl
      · cases h
    · cases h

/-- An argument that is read is typed. -/
theorem arg_typed {d : Nat} {t : TypeId} {ty : Ty} (ht : tyOf P d t = some ty) (hl : layOK P d t = true) {v : Value} {y : DataW H} {ps : List MemPlace} (h : DataW.Trod enc0 P w 0 sp held t v y ps)
    {base : Nat} (hv : Value.okWide P w .any base t v) : ∃ x : ty.den, InR ty x ∧ PR w noX v (enc ty x) := by
  obtain ⟨fuel, hf⟩ := h
  obtain ⟨_, h2⟩ := trod_typed d t ty ht hl
  obtain ⟨hlen, x, hx, hc⟩ := h2 _ _ _ hf
  refine ⟨x, hx, ?_⟩
  have hagg := agg_of ht
  have cellwise : ∀ cs : Array Value, v = .agg cs → PR w noX v (.agg (encC ty x)) := by
    intro cs e
    subst e
    simp only [Value.cells] at hlen hc
    refine .agg cs _ (by rw [length_encC, ← hlen]; simp) (fun i hi => ?_) (fun i u hu => ?_)
    · obtain ⟨c, h3, h4, _⟩ := hc i ((encC ty x)[i]'(by rw [length_encC, ← hlen]; simpa using hi)) (List.getElem?_eq_getElem _)
      rw [Nat.zero_add] at h3
      have : cs.getD i undef = c := by
        simp only [Array.getD_eq_getD_getElem?]
        have : cs[i]? = some c := by simpa using h3
        rw [this]; rfl
      rw [this]; exact h4
    · obtain ⟨c, h3, _, h5⟩ := hc i u hu
      rw [Nat.zero_add] at h3
      have : cs.getD i undef = c := by
        simp only [Array.getD_eq_getD_getElem?]
        have : cs[i]? = some c := by simpa using h3
        rw [this]; rfl
      rw [this]; exact h5
  have single : (∀ cs, v ≠ .agg cs) → ty.agg = false → PR w noX v (enc ty x) := by
    intro hn ha
    have hcs : v.cells.toList = [v] := by
      cases v <;> first | rfl | exact absurd rfl (hn _)
    rw [hcs] at hc
    have hl1 : (encC ty x).length = 1 := by rw [length_encC]; exact size_one ha
    obtain ⟨c, h3, _, h5⟩ := hc 0 ((encC ty x)[0]'(by omega)) (List.getElem?_eq_getElem _)
    simp at h3
    subst h3
    have one : ∀ (l : List AV) (h : l.length = 1), wrap false l = l[0]'(by omega) := by
      intro l h
      match l, h with
      | [a], _ => rfl
    have : enc ty x = (encC ty x)[0]'(by omega) := by
      unfold enc
      rw [ha]
      exact one _ hl1
    rw [this]; exact h5
  unfold Value.okWide at hv
  cases ha : ty.agg with
  | true =>
    rw [ha] at hagg
    have : enc ty x = .agg (encC ty x) := by unfold enc wrap; rw [ha]
    rw [this]
    split at hv
    · obtain ⟨cs, e, _⟩ := hv; exact cellwise cs e
    · obtain ⟨cs, e, _⟩ := hv; exact cellwise cs e
    · rename_i h1 h2
      split at hagg
      · rename_i e; exact absurd e (h1 _)
      · rename_i e; exact absurd e (h2 _ _)
      · cases hagg
  | false =>
    rw [ha] at hagg
    refine single (fun cs e => ?_) ha
    subst e
    split at hv
    · rename_i fs e; rw [e] at hagg; cases hagg
    · rename_i n e0 e; rw [e] at hagg; cases hagg
    · unfold Cell.okWide at hv
      split at hv <;> first | (rename_i e _; cases e; done) | (rename_i e; cases e; done) | skip
      unfold Cell.ok at hv
      split at hv <;> first | (rename_i e _; cases e; done) | (rename_i e; cases e; done) | exact hv

/-- All arguments. -/
theorem args_typed {d base : Nat} : ∀ (ts : List TypeId) (tys : List Ty) (vs : List Value) (ds : List (DataW H)) (ps : List MemPlace), ts.mapM (tyOf P d) = some tys → (ts.all fun t => layOK P d t) = true →
    DataW.TrodAll enc0 P w 0 sp held ts vs ds ps → (∀ (j : Nat) t v, ts[j]? = some t → vs[j]? = some v → Value.okWide P w .any base t v) →
    vs.length = tys.length ∧ ds.length = tys.length ∧ ∃ x : (datS tys).den, InRs tys x ∧ ∀ (ℓ : Lens) (i : Nat) (u : SV), ((datS tys).un x)[i]? = some u → ∃ v, vs[i]? = some v ∧ PR w noX v (dV ℓ u) := by
  intro ts
  induction ts with
  | nil =>
    intro tys vs ds ps h1 _ h2 _
    have h1 : tys = [] := by simpa using h1.symm
    subst h1
    cases vs <;> cases ds <;> simp [DataW.TrodAll] at h2
    exact ⟨rfl, rfl, (), trivial, fun ℓ i u hu => by simp [datS, Sh.un] at hu⟩
  | cons t r ih =>
    intro tys vs ds ps h1 hl h2 hv
    rw [List.mapM_cons] at h1
    cases ha : tyOf P d t with
    | none => simp [ha] at h1
    | some ty =>
      cases hb : r.mapM (tyOf P d) with
      | none => simp [ha, hb] at h1
      | some tr =>
        simp [ha, hb] at h1
        subst h1
        simp only [List.all_cons, Bool.and_eq_true] at hl
        cases vs with
        | nil => cases ds <;> simp [DataW.TrodAll] at h2
        | cons v vs =>
          cases ds with
          | nil => simp [DataW.TrodAll] at h2
          | cons y ds =>
            simp only [DataW.TrodAll] at h2
            obtain ⟨p, q, h3, h4, _⟩ := h2
            obtain ⟨x, hx1, hx2⟩ := arg_typed ha hl.1 h3 (hv 0 t v rfl rfl)
            obtain ⟨k1, k2, z, hz1, hz2⟩ := ih tr vs ds q hb hl.2 h4 (fun j t' v' e1 e2 => hv (j + 1) t' v' (by simpa using e1) (by simpa using e2))
            refine ⟨by simp [k1], by simp [k2], (x, z), ⟨hx1, hz1⟩, fun ℓ i u hu => ?_⟩
            cases i with
            | zero =>
              simp only [datS, Sh.un, List.getElem?_cons_zero, Option.some.injEq] at hu
              subst hu
              refine ⟨v, rfl, ?_⟩
              have : dV ℓ (unT ty x) = enc ty x := by
                rw [← unT_enc ty x ℓ]
                exact notTup_d (by cases ty <;> rfl) ℓ
              rw [this]; exact hx2
            | succ i =>
              obtain ⟨v', e1, e2⟩ := hz2 ℓ i u (by simpa [datS, Sh.un] using hu)
              exact ⟨v', by simpa using e1, e2⟩

theorem length_datS (tys : List Ty) (x : (datS tys).den) : ((datS tys).un x).length = tys.length := by
  induction tys with
  | nil => rfl
  | cons t r ih => simp only [datS, Sh.un, List.length_cons, ih]

theorem zip_range : ∀ (vs : List SV) (i : Nat), zipFr (List.range' i vs.length) vs = frOfS vs i := by
  intro vs
  induction vs with
  | nil => intro i; rfl
  | cons v r ih => intro i; simp only [List.length_cons, List.range'_succ, zipFr, frOfS, ih]

/-- The call of a law. -/
theorem law_calls {f : FuncId} {fn : Func} {body : Code} (hfn : P.funcs[f]? = some fn) (hbody : fn.body = some body) {tys : List Ty} {r : Nat} {m : (Sg.den ⟨List.range' 0 tys.length, datS tys, .nil⟩) → Option (Sg.den ⟨[r], .dat .bool .nil, .nil⟩)}
    (hok : SpecOK P f ⟨0, ⟨List.range' 0 tys.length, datS tys, .nil⟩, ⟨[r], .dat .bool .nil, .nil⟩, m⟩) (hnt : tys.length ≤ fn.ntmps)
    (hfin : (finishS P fn 0 (Sg.un ⟨[r], .dat .bool .nil, .nil⟩ ((true, ()), ()))).mean = some (.bool true, [], []))
    {x : (datS tys).den} (hx : m (x, ()) = some ((true, ()), ())) {args : Array Value} (hargs : args.size = tys.length)
    (hrel : ∀ (ℓ : Lens) (i : Nat) (u : SV), ((datS tys).un x)[i]? = some u → ∃ v, args.toList[i]? = some v ∧ PR w noX v (dV ℓ u))
    (hgl : GlW w) (h11 : 11 ≤ w.heap.size) : Calls P f args w fun e w' => e = .returned (.bool true) ∧ RowKit.Below w.heap.size w w' := by
  obtain ⟨ℓ, _, e, he, hto⟩ := hok fn body hfn hbody (x, ()) ((true, ()), ()) hx (lenS (Sg.un ⟨[r], .dat .bool .nil, .nil⟩ ((true, ()), ())).hp) (lenS_agr _)
  have hst : dS ℓ (Sg.un ⟨List.range' 0 tys.length, datS tys, .nil⟩ (x, ())) = { fr := frOf (((datS tys).un x).map (dV ℓ)) 0, hp := heapOf [] } := by
    simp only [dS, Sg.un]
    congr 1
    rw [← frOfS_d]
    congr 1
    rw [← length_datS tys x]
    exact zip_range _ _
  rw [hst] at hto
  have hc := contract_of (args := ((datS tys).un x).map (dV ℓ)) (sub := []) hfn hbody (by rw [List.length_map, length_datS]; exact hnt) hto he
    (finishS_spec hfin (ℓ' := fun _ => 0) (fun j b hb => by simp at hb))
  have hemp : ∀ g, get (heapOf []) g = none := fun g => by simp [get, heapOf]
  have hXX : ∀ (ρ : Rho) b o, ¬ XX ρ (heapOf []) b o := fun ρ b o ⟨g, k, hg, _⟩ => by rw [hemp] at hg; cases hg
  have hr : HR noX w (fun _ => none) (heapOf []) := by
    refine ⟨fun g k hg => ?_, fun g g' k k' b hg => ?_, fun g b hb => ?_, fun g b hb => ?_, fun g k b o hg => ?_, fun b o h => h.elim, ⟨hgl, h11, fun g b hb => (by cases hb), fun b o h => h.elim⟩⟩
    · rw [hemp] at hg; cases hg
    · rw [hemp] at hg; cases hg
    · cases hb
    · cases hb
    · rw [hemp] at hg; cases hg
  refine (hc noX w (fun _ => none) args hr (by rw [List.length_map, length_datS]; exact hargs) (fun i u hu => ?_)).mono ?_
  · rw [List.getElem?_map] at hu
    obtain ⟨s, hs, rfl⟩ := Option.map_eq_some_iff.1 hu
    obtain ⟨v, h1, h2⟩ := hrel ℓ i s hs
    have : args.getD i undef = v := by
      simp only [Array.getD_eq_getD_getElem?]
      have : args[i]? = some v := by simpa using h1
      rw [this]; rfl
    rw [this]
    exact .pur _ _ (h2.mono ((Stable.refl w noX).less fun b o _ hxu => by
      rcases hxu with hxu | hxu
      · exact (hXX _ _ _ hxu).elim
      · exact hxu))
  · rintro e w' ⟨v, ρ', rfl, _, hv, hstab, _⟩
    refine ⟨?_, hstab.below (hXX _)⟩
    have := hv.boolInv
    rw [this]

/-- The arguments read behind the call as they read before. -/
theorem args_after (hl : laidOutB P = true) {W W' : World} (hb : RowKit.Below W.heap.size W W') {sp' : Nat → Bool} : ∀ (ts : List TypeId) (vs : List Value) (ds : List (DataW H)) (ps : List MemPlace), (ts.all fun t => P.readableRec t && decide (t < P.types.size)) = true →
    DataW.TrodAll enc0 P W 0 (fun _ => true) true ts vs ds ps → (∀ p ∈ ps, p.block < W.heap.size) → (∀ p ∈ ps, sp' p.block = true) → DataW.TrodAll enc0 P W' 0 sp' true ts vs ds ps := by
  intro ts
  induction ts with
  | nil => intro vs ds ps _ h _ _; cases vs <;> cases ds <;> simp [DataW.TrodAll] at h ⊢; exact h
  | cons t r ih =>
    intro vs ds ps ht h hlt hsp
    simp only [List.all_cons, Bool.and_eq_true, decide_eq_true_eq] at ht
    cases vs with
    | nil => cases ds <;> simp [DataW.TrodAll] at h
    | cons v vs =>
      cases ds with
      | nil => simp [DataW.TrodAll] at h
      | cons y ds =>
        simp only [DataW.TrodAll] at h ⊢
        obtain ⟨p, q, h1, h2, rfl⟩ := h
        refine ⟨p, q, WideElems.Trod_stays hl ht.1.1 ht.1.2 h1 (fun x hx => hb.same (hlt x (by simp [hx]))) (fun x hx => hsp x (by simp [hx])), ih vs ds q ht.2 h2 (fun x hx => hlt x (by simp [hx])) (fun x hx => hsp x (by simp [hx])), rfl⟩

/-- A law's row: the contract. -/
theorem law_contract {f : FuncId} {fn : Func} (hfn : P.funcs[f]? = some fn) (hsome : fn.body.isSome = true) {tys : List Ty} {r : Nat} {m : (Sg.den ⟨List.range' 0 tys.length, datS tys, .nil⟩) → Option (Sg.den ⟨[r], .dat .bool .nil, .nil⟩)}
    (hok : SpecOK P f ⟨0, ⟨List.range' 0 tys.length, datS tys, .nil⟩, ⟨[r], .dat .bool .nil, .nil⟩, m⟩) (hnt : tys.length ≤ fn.ntmps)
    (hfin : (finishS P fn 0 (Sg.un ⟨[r], .dat .bool .nil, .nil⟩ ((true, ()), ()))).mean = some (.bool true, [], []))
    (hlaid : laidOutB P = true) (htys : fn.params.toList.mapM (tyOf P 8) = some tys) (hlay : (fn.params.toList.all fun t => layOK P 8 t) = true)
    (hread : (fn.params.toList.all fun t => P.readableRec t && decide (t < P.types.size)) = true)
    {tb : TypeId} (hres : fn.resultTypes = #[tb]) (htb : P.underlying tb = some .bool)
    {s : ChangeSpec} (hvars : s.vars = []) (hs : ∀ ds : List (DataW H), ds.length = tys.length → s.fn H ds = { results := [.lit (.bool true)], args := ds })
    (hm : ∀ x, InRs tys x → m (x, ()) = some ((true, ()), ()))
    {W : World} {base : Nat} {args : Array Value} {ds gs : List (DataW H)} {before : List MemPlace}
    (hval : ∀ (j : Nat) t v, fn.params[j]? = some t → args[j]? = some v → Value.okWide P W .any base t v)
    (hW : DataW.Whole enc0 P fn.params.toList s.vars false W args.toList ds gs before) (hgl : GlW W) (h11 : 11 ≤ W.heap.size) :
    Calls P f args W fun e W' => ∃ v, e = .returned v ∧ s.post enc0 P fn false true false false W args v W' := by
  obtain ⟨body, hbody⟩ := Option.isSome_iff_exists.1 hsome
  have hW' := hW
  obtain ⟨p, q, hA, hV, rfl, hfz, hnd⟩ := hW
  rw [hvars] at hV
  obtain ⟨k1, k2, x, hx1, hx2⟩ := args_typed (d := 8) (base := base) fn.params.toList tys args.toList ds p htys hlay hA (fun j t v e1 e2 => hval j t v (by simpa using e1) (by simpa using e2))
  have hgs : gs = [] ∧ q = [] := by
    cases gs with
    | nil => exact ⟨rfl, by simpa [DataW.TrodVars] using hV⟩
    | cons _ _ => simp [DataW.TrodVars] at hV
  obtain ⟨rfl, rfl⟩ := hgs
  refine (law_calls (w := W) hfn hbody hok hnt hfin (hm x hx1) (by simpa using k1) hx2 hgl h11).mono ?_
  rintro e W' ⟨rfl, hb⟩
  have hlt : ∀ y ∈ p, y.block < W.heap.size := fun y hy => by simpa using hW'.lt y (by simpa using hy)
  refine ⟨_, rfl, ds, [], p ++ [], [], p, [], hW', ?_, ?_, ?_, ?_, fun h => by cases h⟩
  · rw [List.append_nil, hs ds k2, hres]
    show DataW.TrodAll enc0 P W' _ _ _ [tb] _ _ _
    simp only [Value.resultList, Array.size]
    exact ⟨[], [], RowKit.shut_bool htb true, rfl, rfl⟩
  · rw [List.append_nil, hs ds k2]
    exact args_after hlaid hb _ _ _ _ hread hA hlt (fun y hy => by simpa using hlt y hy)
  · rw [List.append_nil, hs ds k2, hvars]
    exact rfl
  · exact hb.frame _

end
theorem w64_id {x : Int} (h1 : -9223372036854775808 ≤ x) (h2 : x ≤ 9223372036854775807) : w64 x = x := by
  unfold w64 IntKind.wrap
  simp only [IntKind.bits, IntKind.signed, Bool.true_and]
  split <;> (rename_i h; simp at h; omega)

def lose : AV → AV
  | .slc _ => .lst 0 [] false
  | v => v
def loseS (s : St) : St := { fr := s.fr.map fun p => (p.1, lose p.2), hp := s.hp }

theorem VW.lose {H : Heap} (x : AV) : VW H H x (lose x) := by
  cases x with
  | slc b =>
    intro Y w ρ v hr hv
    cases hv with
    | pur v x h => cases h with
      | slc a cap => exact .pur _ _ (.lst0 a cap 0 false (fun e => by cases e))
  | _ => exact VW.refl _ _

theorem look_lose (t : Nat) : ∀ fr : Fr, look (fr.map fun p => (p.1, lose p.2)) t = lose (look fr t) := by
  intro fr
  induction fr with
  | nil => rfl
  | cons p r ih =>
    simp only [List.map_cons, look]
    split
    · rfl
    · exact ih

theorem Weak.lose {nt m : Nat} (s : St) : Weak nt m s (loseS s) :=
  Weak.of (HW.refl _) fun t => by
    simp only [loseS, look_lose]
    exact VW.lose _

/-- Code without loops, on abstract values. -/
def execA (E : Env) : Code → St → Option (Ex × St)
  | .skip, s => some (.normal, s)
  | .label _, s => some (.normal, s)
  | .exit i, s => some (.exit i, s)
  | .ret, s => some (.ret, s)
  | .region id ops draw, s => match okCode E.pairs (.region id ops draw) with
    | true => (runRegion E id ops draw s).map fun s => (.normal, s)
    | false => none
  | .seq a b, s => match execA E a s with
    | some (.normal, s1) => execA E b s1
    | some (e, s1) => some (e, s1)
    | none => none
  | .cond o x y, s => match evO s.fr o with
    | .bool true => execA E x (loseS s)
    | .bool false => execA E y (loseS s)
    | _ => none
  | .block id b, s => match execA E b s with
    | some (e, s1) => some (leave id e, s1)
    | none => none
  | _, _ => none

theorem execA_to {E : Env} (hS : ∀ i, Sound E.P (E.call i)) (hm : E.P.follows .mixedOrders = true) : ∀ (c : Code) (s : St) (e : Ex) (s' : St), execA E c s = some (e, s') → To E.P E.nt E.keep c s e s' := by
  intro c
  induction c with
  | skip => intro s e s' h; cases h; exact To.skip
  | label _ => intro s e s' h; cases h; exact To.label
  | exit i => intro s e s' h; cases h; exact To.exit
  | ret => intro s e s' h; cases h; exact To.ret
  | region id ops draw =>
    intro s e s' h
    simp only [execA] at h
    split at h
    · rename_i hok
      obtain ⟨s1, h1, h2⟩ := Option.map_eq_some_iff.1 h
      cases h2
      exact To.region hS hm hok h1
    · cases h
  | seq a b iha ihb =>
    intro s e s' h
    simp only [execA] at h
    split at h
    · rename_i s1 h1
      exact (iha _ _ _ h1).seq (ihb _ _ _ h)
    · rename_i e1 s1 hne h1
      cases h
      exact (iha _ _ _ h1).seq_out (fun he => hne he)
    · cases h
  | cond o x y ihx ihy =>
    intro s e s' h
    simp only [execA] at h
    split at h
    · rename_i hp
      exact To.cond hp ((ihx _ _ _ h).pre (Weak.lose s))
    · rename_i hp
      exact To.cond hp ((ihy _ _ _ h).pre (Weak.lose s))
    · cases h
  | block id b ih =>
    intro s e s' h
    simp only [execA] at h
    split at h
    · rename_i e1 s1 h1
      cases h
      exact To.block (ih _ _ _ h1)
    · cases h
  | _ => intro s e s' h; cases h

theorem To.split {P : Program} {nt keep sz : Nat} {H : Heap} {c : Code} {e : Ex} {s' : St} (hT : ∀ b, To P nt keep c { fr := [(0, .slc b)], hp := H } e s') : To P nt keep c { fr := [(0, .lst sz [] false)], hp := H } e s' := by
  intro Y a w ρ Q hsr hQ
  have h0 := hsr.fr 0
  simp only [look, if_true] at h0
  have hv : ∃ ad cap, a.tmps.getD 0 undef = .slice ad 0 cap := by
    generalize a.tmps.getD 0 undef = v at h0
    cases h0 with
    | pur v x h => cases h with
      | lst0 ad cap sz t ht => exact ⟨_, _, rfl⟩
      | lst b o n cap sz t xs f hn hc ht hsz hx hr => simp only [List.length_nil] at hn; subst hn; exact ⟨_, _, rfl⟩
  obtain ⟨ad, cap, hv⟩ := hv
  refine hT ad.isNone Y a w ρ Q ⟨hsr.1, hsr.2, fun t => ?_, hsr.4⟩ hQ
  simp only [look]
  split
  · rename_i ht
    subst ht
    rw [hv]
    exact .pur _ _ (.slc ad cap)
  · exact .undef _

/-! ### The copy of a row -/

def iC (t : Ty) : Sg := ⟨[0], .dat (.row t) .nil, .nil⟩
def oC (t : Ty) : Sg := ⟨[2], .st (.own t (0, 0)) .nil, .arr t false .nil⟩
/-- The copy, where a length is at most 2^32. -/
def mC (t : Ty) (v : (List t.den × Unit) × Unit) : Option (Unit × (List t.den × Unit)) :=
  bif decide (v.1.1.length ≤ 4294967296) then some ((), (v.1.1, ())) else none
def spC (t : Ty) : Spec := ⟨0, iC t, oC t, mC t⟩
/-- The copy of a row that is not empty. -/
def mP (t : Ty) (v : (List t.den × Unit) × Unit) : Option (Unit × (List t.den × Unit)) :=
  bif decide (0 < v.1.1.length) then (bif decide (([] : List t.den).length + v.1.1.length ≤ 4294967296) then some ((), ([] ++ v.1.1, ())) else none) else none
def spP (t : Ty) : Spec := ⟨0, iC t, oC t, mP t⟩

def noCall : CL := fun _ _ _ => none
theorem noCall_sound (P : Program) : Sound P noCall := fun _ _ _ _ h => by cases h
def envA (P : Program) (N : FuncId → Note) (f : FuncId) (fn : Func) : Env := { P, N, call := fun _ => noCall, nt := fn.ntmps, locs := (N f).locs, pairs := (N f).pairs, keep := 0 }

def target (t : Ty) : St := { fr := [(2, .own (0, 0) t.size 0 0)], hp := [[some ⟨t.size, [], 0, false⟩]] }
def isOwn (n : Nat) : AV → Bool
  | .own g sz off len => decide (g = (0, 0) ∧ sz = n ∧ off = 0 ∧ len = 0)
  | _ => false
def isBlk (n : Nat) : Option Blk → Bool
  | some ⟨sz, [], 0, false⟩ => decide (sz = n)
  | _ => false
def isNilRow : AV → Bool
  | .lst _ [] true => true
  | _ => false
/-- The result of an empty row's copy: nil, or an empty block of its own. -/
def endOK (t : Ty) (s : St) : Bool :=
  (isNilRow (look s.fr 2) && s.hp.isEmpty) || match tidy 0 { fr := [(2, look s.fr 2)], hp := s.hp } with
    | { fr := [(2, x)], hp := [[b]] } => isOwn t.size x && isBlk t.size b
    | _ => false
def emptyOK (P : Program) (N : FuncId → Note) (f : FuncId) (t : Ty) (b : Bool) : Bool :=
  match P.funcs[f]? with
  | some fn => match fn.body with
    | some body => match execA (envA P N f fn) body { fr := [(0, .slc b)], hp := [] } with
      | some (.ret, s) => endOK t s
      | _ => false
    | none => false
  | none => false

theorem Weak.drop {nt : Nat} (s : St) : Weak nt 0 s { fr := [(2, look s.fr 2)], hp := s.hp } :=
  Weak.of (HW.refl _) fun t => by
    simp only [look]
    split
    · rename_i h; subst h; exact VW.refl _ _
    · exact VW.undef

theorem endOK_weak {nt : Nat} {t : Ty} {s : St} (h : endOK t s = true) : Weak nt 0 s (target t) := by
  unfold endOK at h
  rw [Bool.or_eq_true] at h
  rcases h with h | h
  · rw [Bool.and_eq_true] at h
    obtain ⟨h1, h2⟩ := h
    refine (Weak.drop s).trans ?_
    have hp : s.hp = [] := by simpa using h2
    rw [hp]
    refine Weak.of (HW.grow [] t.size) fun k => ?_
    simp only [look, target]
    split
    · generalize look s.fr 2 = x at h1
      unfold isNilRow at h1
      split at h1
      · exact VW.virt
      · cases h1
    · exact VW.undef
  · split at h
    · rename_i x b he
      rw [Bool.and_eq_true] at h
      obtain ⟨h1, h2⟩ := h
      refine (Weak.drop s).trans ?_
      have e1 : target t = tidy 0 { fr := [(2, look s.fr 2)], hp := s.hp } := by
        rw [he]
        unfold isOwn at h1
        unfold isBlk at h2
        split at h1
        · split at h2
          · have h1 := of_decide_eq_true h1
            have h2 := of_decide_eq_true h2
            obtain ⟨rfl, rfl, rfl, rfl⟩ := h1
            subst h2
            rfl
          · cases h2
        · cases h1
      rw [e1]
      exact Weak.tidy _
    · cases h

theorem clone_ok {P : Program} {N : FuncId → Note} {f : FuncId} {t : Ty} (hm : P.follows .mixedOrders = true) (hp : SpecOK P f (spP t)) (h0 : emptyOK P N f t false = true) (h1 : emptyOK P N f t true = true) : SpecOK P f (spC t) := by
  intro fn body hfn hbody v u hv ℓ' ha
  obtain ⟨⟨l, u1⟩, u2⟩ := v
  simp only [spC, mC] at hv
  cases hl : decide (l.length ≤ 4294967296) with
  | false => rw [hl] at hv; cases hv
  | true =>
    rw [hl] at hv
    have hv := Option.some.inj hv
    subst hv
    cases l with
    | cons a r =>
      refine hp fn body hfn hbody ((a :: r, u1), u2) ((), (a :: r, ())) ?_ ℓ' ha
      have hl2 := of_decide_eq_true hl
      simp only [spP, mP]
      simp only [List.length_cons] at hl2 ⊢
      simp only [Nat.zero_lt_succ, decide_true, cond_true, List.length_nil, Nat.zero_add, hl2]
      rfl
    | nil =>
      refine ⟨fun _ => 0, ?_, .ret, .inr rfl, ?_⟩
      · intro g b hg; simp [spC, iC, Sg.un, Bks.un, getS] at hg
      · have ht : dS ℓ' ((spC t).σo.un ((), ([], ()))) = target t := by
          have h2 := ha (0, 0) (.arr t [] (fzOf false)) rfl
          simp only [SB.len, List.length_nil] at h2
          simp only [dS, dF, dH, spC, oC, Sg.un, Sh.un, Bks.un, zipFr, Stt.un, List.map_cons, List.map_nil, target, dV, dA, dC, d1, h2]
          rfl
        have key : ∀ b, To P fn.ntmps 0 body { fr := [(0, .slc b)], hp := [] } .ret (target t) := by
          intro b
          have hb : emptyOK P N f t b = true := by cases b <;> assumption
          simp only [emptyOK, hfn, hbody] at hb
          split at hb
          · rename_i s hs
            exact (execA_to (E := envA P N f fn) (fun _ => noCall_sound P) hm body _ _ _ hs).post (endOK_weak hb)
          · cases hb
        have goal : To P fn.ntmps 0 body { fr := [(0, .lst 0 [] false)], hp := [] } .ret (target t) := To.split key
        rw [← ht] at goal
        exact goal

theorem cell_same {w w' : World} {b : Nat} (h : w'.heap[b]? = w.heap[b]?) (o : Nat) : w'.cell? ⟨b, o, none⟩ = w.cell? ⟨b, o, none⟩ := World.cell?_of_block (w := w) h
/-- A value that is known whole. -/
def toV1 : SV → Option Value
  | .int k n => some (.int k n)
  | .bool b => some (.bool b)
  | .str s => some (.string s)
  | _ => none
def toVL : List SV → Option (List Value)
  | [] => some []
  | v :: r => match toV1 v, toVL r with
    | some x, some l => some (x :: l)
    | _, _ => none
def toV : SV → Option Value
  | .tup vs => (toVL vs).map fun l => .tuple l.toArray
  | v => toV1 v

/-- The world is as it was, but for new blocks and the count of draws. -/
structure Kept (w w' : World) : Prop where
  os : w'.os = w.os
  tape : w'.tape = w.tape
  output : w'.output = w.output
  size : w.heap.size ≤ w'.heap.size
  old : ∀ i, i < w.heap.size → w'.heap[i]? = w.heap[i]?

theorem Kept.refl (w : World) : Kept w w := ⟨rfl, rfl, rfl, Nat.le_refl _, fun _ _ => rfl⟩

def isPure : SV → Bool
  | .int .. | .bool _ | .str _ | .row .. => true
  | _ => false

def pureC (F : List SV → Tr SV) : SCall := fun args sub => match sub with
  | [] => .when (args.all isPure) ((F args).bind fun v => .ret (v, [], []))
  | _ => .fail

theorem toV1_rel {w : World} {X : XT} {v : SV} {u : Value} (h : toV1 v = some u) (ℓ : Lens) : PR w X u (dA ℓ v) ∧ dV ℓ v = dA ℓ v := by
  cases v <;> simp only [toV1, Option.some.injEq] at h <;> first | (cases h; done) | (subst h; exact ⟨by first | exact .int _ _ | exact .bool _ | exact .str _, rfl⟩)

theorem toVL_rel {w : World} {X : XT} {ℓ : Lens} : ∀ {vs : List SV} {us : List Value}, toVL vs = some us → us.length = vs.length ∧ ∀ (i : Nat) (v : SV), vs[i]? = some v → ∃ u, us[i]? = some u ∧ PR w X u (dA ℓ v)
  | [], us, h => by cases h; exact ⟨rfl, fun i v hi => by simp at hi⟩
  | v :: r, us, h => by
    simp only [toVL] at h
    split at h
    · rename_i x l h1 h2
      cases h
      obtain ⟨e1, e2⟩ := toVL_rel (w := w) (X := X) (ℓ := ℓ) h2
      refine ⟨by simp [e1], fun i y hi => ?_⟩
      cases i with
      | zero => simp at hi; subst hi; exact ⟨x, rfl, (toV1_rel h1 ℓ).1⟩
      | succ i => exact e2 i y (by simpa using hi)
    · cases h

theorem toV_rel {w : World} {X : XT} {ρ : Rho} {v : SV} {u : Value} (h : toV v = some u) (ℓ : Lens) : VR w X ρ u (dV ℓ v) := by
  have one : toV1 v = some u → VR w X ρ u (dV ℓ v) := fun h => by
    obtain ⟨a, b⟩ := toV1_rel (w := w) (X := X) h ℓ
    rw [b]
    exact .pur _ _ a
  cases v with
  | tup vs =>
    simp only [toV] at h
    obtain ⟨us, h1, rfl⟩ := Option.map_eq_some_iff.1 h
    obtain ⟨e1, e2⟩ := toVL_rel (w := w) (X := X) (ℓ := ℓ) h1
    refine .tup _ _ (by simp [e1]) (fun i x hi => ?_)
    rw [List.getElem?_map] at hi
    obtain ⟨y, hy, rfl⟩ := Option.map_eq_some_iff.1 hi
    obtain ⟨u, h3, h4⟩ := e2 i y hy
    have : us.toArray.getD i undef = u := by simp [Array.getD_eq_getD_getElem?, h3]
    rw [this]
    exact .pur _ _ h4
  | _ => exact one h

theorem isPure_rel {w : World} {X : XT} {ρ : Rho} {x : SV} {v : Value} {ℓ : Lens} (h : isPure x = true) (hv : VR w X ρ v (dV ℓ x)) : PR w X v (d1 ℓ x) := by
  cases x <;> first | (simp [isPure] at h; done) | skip
  case row t l tg =>
    obtain ⟨_, _, _, _, _, hp⟩ := VR.lstInv (show VR w X ρ v (.lst _ _ _) from hv)
    exact hp
  all_goals
    cases hv with
    | pur v x h => exact h

theorem pure_ok {P : Program} {f : FuncId} {F : List SV → Tr SV} (hent : Entered P f)
    (h : ∀ args v, (F args).mean = some v → ∃ u, toV v = some u ∧ ∀ (w : World) (X : XT) (vals : Array Value), vals.size = args.length → (∀ (i : Nat) (x : SV), args[i]? = some x → PR w X (vals.getD i undef) (d1 (fun _ => 0) x)) →
      Calls P f vals w fun e w' => e = .returned u ∧ Kept w w') : CallOK P f (pureC F) := by
  intro args sub out hc ℓ0 ℓ' _ _
  refine ⟨hent, ?_⟩
  unfold pureC at hc
  split at hc
  · obtain ⟨hall, hc⟩ := Tr.mean_when hc
    obtain ⟨v, h1, h2⟩ := Tr.mean_bind hc
    have := Tr.mean_ret h2
    subst this
    obtain ⟨u, hu, hw⟩ := h args v h1
    intro Y w ρ vals hr hsz hv
    refine (hw w (XU Y ρ (heapOf [])) vals (by simpa using hsz) (fun i x hi => ?_)).mono ?_
    · have hp : isPure x = true := (List.all_eq_true.1 hall) x (List.mem_of_getElem? hi)
      have := isPure_rel hp (hv i (dV ℓ0 x) (by rw [List.getElem?_map, hi]; rfl))
      cases x <;> first | exact this | (simp [isPure] at hp; done)
    rintro e w' ⟨rfl, k⟩
    have hH : ∀ g, get (heapBack (([] : List (Option Blk))) ([] : List Blk)) g = none := fun g => by simp [get, heapBack]
    have hXX : ∀ b o, ¬ XX ρ (heapBack [] []) b o := by
      rintro b o ⟨g, k, a1, _⟩
      rw [hH] at a1; cases a1
    refine ⟨u, ρ, rfl, ?_, ?_, ?_, fun _ _ h => h⟩
    · exact hr.lies ⟨k.os, k.tape, k.output, k.size, k.old⟩
    · exact toV_rel hu ℓ'
    · refine ⟨k.os, k.tape, k.output, k.size, fun b o hb _ => ⟨hXX b o, cell_same (k.old b hb) o⟩, fun b hb => ?_, fun b hb _ => k.old b hb⟩
      simp only [bsize, k.old b hb]
  · exact (Tr.mean_fail hc).elim

/-- A closed call that answers true. -/
def hfTrue : List SV → Tr SV
  | [] => .ret (.bool true)
  | _ => .fail

theorem PR.strInv {w : World} {X : XT} {v : Value} {s : ByteArray} (h : PR w X v (.str s)) : v = .string s := by cases h; rfl
theorem PR.int_inv {w : World} {X : XT} {v : Value} {k : IntKind} {n : Int} (h : PR w X v (.int k n)) : v = .int k n := by cases h; rfl

theorem two_vals {vals : Array Value} (h : vals.size = 2) : vals = #[vals.getD 0 undef, vals.getD 1 undef] := by
  apply Array.ext
  · simp [h]
  · intro k hk _
    have : k = 0 ∨ k = 1 := by omega
    rcases this with rfl | rfl <;> simp [Array.getD, h]

/-- A row of at least n cells. -/
def RowGe (w : World) (b : Nat) (t : TypeId) (n : Nat) (f : Nat → Value) : Prop := ∃ c : Array Value, w.heap[b]? = some (.cells c t (0, 0)) ∧ n ≤ c.size ∧ ∀ i, i < n → c[i]? = some (f i)

theorem RowGe.cell {w : World} {b t n : Nat} {f : Nat → Value} (h : RowGe w b t n f) {i : Nat} (hi : i < n) : w.cell? ⟨b, i, none⟩ = some (f i) := by
  obtain ⟨c, hb, _, hc⟩ := h
  simp [World.cell?, hb, hc i hi]
theorem RowGe.lt {w : World} {b t n : Nat} {f : Nat → Value} (h : RowGe w b t n f) : b < w.heap.size := by
  obtain ⟨c, hb, _, _⟩ := h
  exact (Array.getElem?_eq_some_iff.1 hb).1
theorem RowGe.congr {w : World} {b t n : Nat} {f g : Nat → Value} (h : RowGe w b t n f) (e : ∀ i, i < n → f i = g i) : RowGe w b t n g := by
  obtain ⟨c, hb, hn, hc⟩ := h
  exact ⟨c, hb, hn, fun i hi => by rw [hc i hi, e i hi]⟩
theorem RowGe.of_block {w w' : World} {b t n : Nat} {f : Nat → Value} (h : RowGe w b t n f) (e : w'.heap[b]? = w.heap[b]?) : RowGe w' b t n f := by
  obtain ⟨c, hb, hn, hc⟩ := h
  exact ⟨c, e.trans hb, hn, hc⟩
theorem RowGe.alloc {w : World} {b t n : Nat} {f : Nat → Value} (h : RowGe w b t n f) (X : Obj) : RowGe (w.alloc X) b t n f := by
  refine h.of_block ?_
  have := h.lt
  simp only [World.alloc]
  rw [Array.getElem?_push, if_neg (by omega)]
theorem RowGe.drew {w : World} {b t n : Nat} {f : Nat → Value} (h : RowGe w b t n f) : RowGe w.drew b t n f := h.of_block rfl
theorem RowGe.set {w : World} {b t n : Nat} {f : Nat → Value} (h : RowGe w b t n f) (i : Nat) (v : Value) : RowGe (w.setCell ⟨b, i, none⟩ v) b t n (fun j => if j = i then v else f j) := by
  obtain ⟨c, hb, hn, hc⟩ := h
  refine ⟨c.setIfInBounds i v, by simp [World.setCell, Array.getElem?_modify, hb], by simpa using hn, fun j hj => ?_⟩
  rw [Array.getElem?_setIfInBounds]
  by_cases e : j = i
  · subst e
    rw [if_pos rfl, if_pos (by omega)]
    simp
  · rw [if_neg (fun h => e h.symm)]
    simp only [if_neg e]
    exact hc j hj
theorem RowGe.setOther {w : World} {b t n : Nat} {f : Nat → Value} (h : RowGe w b t n f) {a : Addr} (hne : b ≠ a.block) (v : Value) : RowGe (w.setCell a v) b t n f := by
  refine h.of_block ?_
  simp only [World.setCell]
  rw [Array.getElem?_modify, if_neg (fun e => hne e.symm)]

/-- A row of integers of its own. -/
theorem ints_rel {w : World} {X : XT} {b T n : Nat} {M : Nat → Int} (h : RowGe w b T n (fun j => .int .i64 (M j))) (hX : ∀ o, ¬ X b o) (c : Nat) (hc : n ≤ c) :
    PR w X (.slice (some ⟨b, 0, none⟩) n c) (.lst (lsz 1 ((List.range n).map fun j => AV.int .i64 (M j))) ((List.range n).map fun j => AV.int .i64 (M j)) false) := by
  refine PR.canon (.lst b 0 n c 1 false _ (fun j _ => .int .i64 (M j)) (by simp) hc (by simp) ?_ ?_ ?_)
  · intro i x hi
    rw [List.getElem?_map] at hi
    obtain ⟨y, _, rfl⟩ := Option.map_eq_some_iff.1 hi
    rfl
  · intro i x hi j u hj
    have hl := (List.getElem?_eq_some_iff.1 hi).1
    rw [List.length_map, List.length_range] at hl
    rw [List.getElem?_map] at hi
    obtain ⟨y, _, rfl⟩ := Option.map_eq_some_iff.1 hi
    have hj0 : j = 0 := by
      have := (List.getElem?_eq_some_iff.1 hj).1
      simp [AV.cells] at this; exact this
    subst hj0
    refine ⟨hX _, ?_, rfl⟩
    rw [show 0 + (i * 1 + 0) = i by omega]
    exact h.cell hl
  · intro i x hi j u hj
    rw [List.getElem?_map] at hi
    obtain ⟨y, hy, rfl⟩ := Option.map_eq_some_iff.1 hi
    have hl := (List.getElem?_eq_some_iff.1 hy).1
    rw [List.length_range] at hl
    rw [List.getElem?_range hl] at hy
    cases hy
    have hj0 : j = 0 := by
      have := (List.getElem?_eq_some_iff.1 hj).1
      simp [AV.cells] at this; exact this
    subst hj0
    cases hj
    exact .int _ _

/-- Rows of integers of their own. -/
structure Grid (w : World) (b To Ti n m : Nat) (R : Nat → Nat) (C : Nat → Nat) (M : Nat → Nat → Int) : Prop where
  top : RowGe w b To n (fun i => .slice (some ⟨R i, 0, none⟩) m (C i))
  row : ∀ i, i < n → RowGe w (R i) Ti m (fun j => .int .i64 (M i j))
  inj : ∀ i j, i < n → j < n → R i = R j → i = j
  apart : ∀ i, i < n → R i ≠ b
  cap : ∀ i, i < n → m ≤ C i

def gridL (n m : Nat) (M : Nat → Nat → Int) : List (List Int) := (List.range n).map fun i => (List.range m).map (M i)

theorem Grid.set {w : World} {b To Ti n m : Nat} {R C : Nat → Nat} {M : Nat → Nat → Int} (h : Grid w b To Ti n m R C M) {i j : Nat} (hi : i < n) (v : Int) :
    Grid (w.setCell ⟨R i, j, none⟩ (.int .i64 v)) b To Ti n m R C (fun a c => if a = i ∧ c = j then v else M a c) := by
  refine ⟨h.top.setOther (fun e => h.apart i hi e.symm) _, fun a ha => ?_, h.inj, h.apart, h.cap⟩
  by_cases e : a = i
  · subst e
    refine ((h.row a ha).set j _).congr (fun c _ => ?_)
    by_cases e2 : c = j
    · simp [e2]
    · simp [e2]
  · refine ((h.row a ha).setOther (fun e2 => e (h.inj a i ha hi e2)) _).congr (fun c _ => ?_)
    simp [e]

theorem Grid.congr {w : World} {b To Ti n m : Nat} {R C : Nat → Nat} {M N : Nat → Nat → Int} (h : Grid w b To Ti n m R C M) (e : ∀ i j, i < n → j < m → M i j = N i j) : Grid w b To Ti n m R C N :=
  ⟨h.top, fun i hi => (h.row i hi).congr (fun j hj => by rw [e i j hi hj]), h.inj, h.apart, h.cap⟩

theorem Grid.drew {w : World} {b To Ti n m : Nat} {R C : Nat → Nat} {M : Nat → Nat → Int} (h : Grid w b To Ti n m R C M) : Grid w.drew b To Ti n m R C M :=
  ⟨h.top.drew, fun i hi => (h.row i hi).drew, h.inj, h.apart, h.cap⟩

theorem Grid.rel {w : World} {X : XT} {b To Ti n m : Nat} {R C : Nat → Nat} {M : Nat → Nat → Int} (h : Grid w b To Ti n m R C M) (hX : ∀ o, ¬ X b o) (hXR : ∀ i o, i < n → ¬ X (R i) o) (c : Nat) (hc : n ≤ c) (ℓ : Lens) :
    PR w X (.slice (some ⟨b, 0, none⟩) n c) (d1 ℓ (.row (.row (.int .i64)) (gridL n m M) false)) := by
  show PR w X _ (rowAV (.row (.int .i64)) (gridL n m M) false)
  have e : (@List.map (Ty.den (.row (.int .i64))) AV (enc (.row (.int .i64))) (gridL n m M)) = (List.range n).map fun i => AV.lst (lsz 1 ((List.range m).map fun j => AV.int .i64 (M i j))) ((List.range m).map fun j => AV.int .i64 (M i j)) false := by
    refine (List.map_map (g := enc (.row (.int .i64))) (f := fun i => (List.range m).map (M i)) (l := List.range n)).trans ?_
    refine List.map_congr_left (fun i _ => ?_)
    show AV.lst (lsz 1 (((List.range m).map (M i)).map (fun x => AV.int .i64 x))) (((List.range m).map (M i)).map (fun x => AV.int .i64 x)) false = _
    rw [List.map_map]
    rfl
  unfold rowAV
  rw [e]
  refine PR.canon (.lst b 0 n c 1 false _ (fun i _ => .slice (some ⟨R i, 0, none⟩) m (C i)) (by simp) hc (by simp) ?_ ?_ ?_)
  · intro i x hi
    rw [List.getElem?_map] at hi
    obtain ⟨y, _, rfl⟩ := Option.map_eq_some_iff.1 hi
    rfl
  · intro i x hi j u hj
    have hl := (List.getElem?_eq_some_iff.1 hi).1
    rw [List.length_map, List.length_range] at hl
    rw [List.getElem?_map] at hi
    obtain ⟨y, _, rfl⟩ := Option.map_eq_some_iff.1 hi
    have hj0 : j = 0 := by
      have := (List.getElem?_eq_some_iff.1 hj).1
      simp [AV.cells] at this; exact this
    subst hj0
    refine ⟨hX _, ?_, rfl⟩
    rw [show 0 + (i * 1 + 0) = i by omega]
    exact h.top.cell hl
  · intro i x hi j u hj
    rw [List.getElem?_map] at hi
    obtain ⟨y, hy, rfl⟩ := Option.map_eq_some_iff.1 hi
    have hl := (List.getElem?_eq_some_iff.1 hy).1
    rw [List.length_range] at hl
    rw [List.getElem?_range hl] at hy
    cases hy
    have hj0 : j = 0 := by
      have := (List.getElem?_eq_some_iff.1 hj).1
      simp [AV.cells] at this; exact this
    subst hj0
    cases hj
    exact ints_rel (h.row i hl) (hXR i · hl) _ (h.cap i hl)

section
variable {P : Program} {w : World}
end
/-- The row at b has new cells; all else lies as it did. -/
structure Placed (w w' : World) (b : Nat) (cs : Array Value) (T : TypeId) : Prop where
  os : w'.os = w.os
  tape : w'.tape = w.tape
  output : w'.output = w.output
  size : w.heap.size ≤ w'.heap.size
  at_ : w'.heap[b]? = some (.cells cs T (0, 0))
  block : ∀ i, i < w.heap.size → i ≠ b → w'.heap[i]? = w.heap[i]?

theorem contract_place {P : Program} {f : FuncId} {sz off len : Nat} {xs ys rest : List AV} (h0 : 0 < sz)
    (hnil : len = 0 → ys = xs ∧ ∀ (w : World) (X : XT) (ρ : Rho) (vals : Array Value) (a : Option Addr) (cap : Nat), vals.size = rest.length + 1 → vals.getD 0 undef = .slice a 0 cap → (∀ (i : Nat) (y : AV), rest[i]? = some y → VR w X ρ (vals.getD (i + 1) undef) y) →
      Calls P f vals w fun e w' => e = .returned (.tuple #[]) ∧ Lies w w')
    (h : 0 < len → ∀ (w : World) (X : XT) (ρ : Rho) (vals : Array Value) (b cap : Nat) (cs : Array Value) (T : TypeId), vals.size = rest.length + 1 → vals.getD 0 undef = .slice (some ⟨b, off * sz, none⟩) len cap → w.heap[b]? = some (.cells cs T (0, 0)) → len ≤ cap →
      ElemsAt false w X ρ cs sz xs → (∀ (i : Nat) (y : AV), rest[i]? = some y → VR w X ρ (vals.getD (i + 1) undef) y) →
      Calls P f vals w fun e w' => e = .returned (.tuple #[]) ∧ ∃ cs1, cs1.size = cs.size ∧ Placed w w' b cs1 T ∧ ∀ (X : XT) (ρ : Rho), ElemsAt false w X ρ cs1 sz ys) :
    Contract P f (.own (0, 0) sz off len :: rest) [⟨sz, xs, 0, false⟩] (.tup [], [some ⟨sz, ys, 0, false⟩], []) := by
  intro Y w ρ vals hr hsz hargs
  have hv0 := hargs 0 _ rfl
  have hg : get (heapOf [⟨sz, xs, 0, false⟩]) (0, 0) = some ⟨sz, xs, 0, false⟩ := rfl
  have hrest : ∀ (i : Nat) (y : AV), rest[i]? = some y → VR w (XU Y ρ (heapOf [⟨sz, xs, 0, false⟩])) ρ (vals.getD (i + 1) undef) y := fun i y hi => hargs (i + 1) y hi
  have hunit : ∀ (w : World) (X : XT) (ρ : Rho), VR w X ρ (.tuple #[]) (.tup []) := fun w X ρ => .tup _ _ rfl (fun i u hu => by simp at hu)
  have empty : ∀ (a : Option Addr) (cap : Nat), len = 0 → vals.getD 0 undef = .slice a 0 cap → Calls P f vals w fun e w' => ∃ v ρ', e = .returned v ∧ HR Y w' ρ' (heapBack [some ⟨sz, ys, 0, false⟩] []) ∧ VR w' (XU Y ρ' (heapBack [some ⟨sz, ys, 0, false⟩] [])) ρ' v (.tup []) ∧
      Stable w (XX ρ (heapOf [⟨sz, xs, 0, false⟩])) w' (XX ρ' (heapBack [some ⟨sz, ys, 0, false⟩] [])) ∧ ∀ g b, ρ g = some b → ρ' g = some b := by
    intro a cap hn he
    obtain ⟨rfl, hc⟩ := hnil hn
    refine (hc w _ ρ vals a cap (by simpa using hsz) he hrest).mono ?_
    rintro e w' ⟨rfl, hl⟩
    exact ⟨_, ρ, rfl, hr.lies hl, hunit _ _ _, hl.st _, fun _ _ h => h⟩
  rcases hv0.ownInv with ⟨a, he, hn⟩ | ⟨b, cap, he, hρ, hb, hcap, hk⟩
  · exact empty a 0 hn he
  · rcases Nat.eq_zero_or_pos len with hz | hpos
    · subst hz
      exact empty _ cap rfl he
    obtain ⟨cs, T, hh, hels⟩ := (hr.at hg hρ).cells h0
    refine (h hpos w _ ρ vals b cap cs T (by simpa using hsz) he hh hcap hels hrest).mono ?_
    rintro e w' ⟨rfl, cs1, h1, hp, h2⟩
    obtain ⟨w1, hw1⟩ : ∃ w1, w1 = ({ w with heap := w.heap.setIfInBounds b (.cells cs1 T (0, 0)) } : World) := ⟨_, rfl⟩
    have hlt : b < w.heap.size := (Array.getElem?_eq_some_iff.1 hh).1
    have hw := hr.write (w1 := w1) (k1 := ⟨sz, ys, 0, false⟩) hg hρ h0 (by rw [hw1]) (by rw [hw1]) (by rw [hw1]) (by rw [hw1]; simp) (fun i hi => by rw [hw1]; simp only [Array.getElem?_setIfInBounds]; rw [if_neg (fun e => hi e.symm)]) hh (by rw [hw1]; simp [hlt]) h1
      (fun o ho => by simp at ho) rfl (Nat.le_refl _) (h2 _ _)
    have hl : Lies w1 w' := ⟨by rw [hw1]; exact hp.os, by rw [hw1]; exact hp.tape, by rw [hw1]; exact hp.output, by rw [hw1]; simpa using hp.size, fun i hi => by
      rw [hw1] at hi ⊢
      simp only [Array.size_setIfInBounds] at hi
      simp only [Array.getElem?_setIfInBounds]
      by_cases hib : b = i
      · subst hib; rw [if_pos rfl, if_pos hlt]; exact hp.at_
      · rw [if_neg hib]; exact hp.block i hi (fun e => hib e.symm)⟩
    have hH : set (heapOf [⟨sz, xs, 0, false⟩]) (0, 0) (some ⟨sz, ys, 0, false⟩) = heapBack [some ⟨sz, ys, 0, false⟩] [] := rfl
    rw [hH] at hw
    exact ⟨_, ρ, rfl, hw.1.lies hl, hunit _ _ _, hw.2.trans (hl.st _), fun _ _ h => h⟩
/-- Functions without captures behind the row. -/
def areFns : List FuncId → List SV → Bool
  | [], [] => true
  | f :: r, .clo g [] :: s => decide (g = f) && areFns r s
  | _, _ => false
theorem areFns_d {ℓ : Lens} : ∀ {fs : List FuncId} {vs : List SV}, areFns fs vs = true → vs.map (dV ℓ) = fs.map fun f => AV.clo f []
  | [], [], _ => rfl
  | f :: r, .clo g [] :: s, h => by
    simp only [areFns, Bool.and_eq_true, decide_eq_true_eq] at h
    rw [List.map_cons, List.map_cons, areFns_d h.2, h.1]
    rfl

def placeS (t : Ty) (fs : List FuncId) (cond : List t.den → Nat → Nat → Bool) (F : List t.den → Nat → Nat → List t.den) : SCall := fun args sub => match args, sub with
  | .own t' g :: r, [.arr t2 l .zero] => .when (decide (t' = t ∧ g = (0, 0)) && areFns fs r) (if h : t2 = t then .need (cond (h ▸ l) 0 l.length) (.ret (.tup [], [.arr t (F (h ▸ l) 0 l.length) .zero], [])) else .fail)
  | .part t' g off len :: r, [.arr t2 l .zero] => .when (decide (t' = t ∧ g = (0, 0)) && areFns fs r) (if h : t2 = t then .need (cond (h ▸ l) off len) (.ret (.tup [], [.arr t (F (h ▸ l) off len) .zero], [])) else .fail)
  | _, _ => .fail

theorem place_ok {P : Program} {f : FuncId} {t : Ty} {fs : List FuncId} {cond : List t.den → Nat → Nat → Bool} {F : List t.den → Nat → Nat → List t.den} (hent : Entered P f)
    (hC : ∀ l off len, cond l off len = true → Contract P f (.own (0, 0) t.size off len :: fs.map fun f => AV.clo f []) [⟨t.size, l.map (enc t), 0, false⟩] (.tup [], [some ⟨t.size, (F l off len).map (enc t), 0, false⟩], [])) : CallOK P f (placeS t fs cond F) := by
  intro args sub out hc ℓ0 ℓ' hs0 hs'
  refine ⟨hent, ?_⟩
  unfold placeS at hc
  split at hc
  · rename_i t' g r t2 l
    obtain ⟨q1, hc2⟩ := Tr.mean_when hc
    simp only [Bool.and_eq_true, decide_eq_true_eq] at q1
    obtain ⟨⟨rfl, rfl⟩, hfs⟩ := q1
    split at hc2
    case isFalse => exact (Tr.mean_fail hc2).elim
    rename_i ht2
    subst ht2
    obtain ⟨q2, hc3⟩ := Tr.mean_need hc2
    have := Tr.mean_ret hc3
    subst this
    have hl0 : ℓ0 (0, 0) = l.length := hs0 0 _ rfl
    have := hC l _ _ q2
    have e1 : dV ℓ0 (.own t2 (0, 0)) = .own (0, 0) t2.size 0 l.length := by rw [← hl0]; rfl
    rw [List.map_cons, areFns_d hfs, e1]
    exact this
  · rename_i t' g off len r t2 l
    obtain ⟨q1, hc2⟩ := Tr.mean_when hc
    simp only [Bool.and_eq_true, decide_eq_true_eq] at q1
    obtain ⟨⟨rfl, rfl⟩, hfs⟩ := q1
    split at hc2
    case isFalse => exact (Tr.mean_fail hc2).elim
    rename_i ht2
    subst ht2
    obtain ⟨q2, hc3⟩ := Tr.mean_need hc2
    have := Tr.mean_ret hc3
    subst this
    have := hC l _ _ q2
    rw [List.map_cons, areFns_d hfs]
    exact this
  · exact (Tr.mean_fail hc).elim
end Go.Abs
