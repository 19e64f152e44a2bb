/- Functions on typed values. -/
import Derived.Test.YtcblbcpnfidndaaPxF
set_option linter.unusedSimpArgs false
set_option linter.unusedVariables false
namespace Go.Abs
open Go

/-! ### The end of a function -/

def resOfS (P : Program) (fr : SFr) (H : SHeap) : ResultVar → Tr SV
  | .tmp t => .ret (lookS fr t)
  | .cell a t => (opLoadS P t (lookS fr a) H).bind fun r => .ret r.val

def valOfS : List SV → SV
  | [v] => v
  | vs => .tup vs

def finishS (P : Program) (fn : Func) (m : Nat) (s : SSt) : Tr SOut :=
  (Tr.mapM (resOfS P s.fr s.hp) fn.results.toList).bind fun vs =>
  .when (vs.all notTup) (
    let R := reachedS s.hp m (refsVS (valOfS vs))
    let f := renTo m R
    match R.mapM (fun g => (getS s.hp g).bind fun b => if b.alive = true then some (renBS f b) else none), (firstNames m).mapM (fun g => (getS s.hp g).map (renBS f)) with
    | some new, some sub => .ret (renVS f (valOfS vs), sub, new)
    | _, _ => .fail)

theorem resOfS_spec {P : Program} {fr : SFr} {H : SHeap} {ℓ : Lens} {x : ResultVar} {u : SV} (h : (resOfS P fr H x).mean = some u) : resOf P (dF ℓ fr) (dH ℓ H) x = some (dV ℓ u) := by
  cases x with
  | tmp t => have := Tr.mean_ret h; subst this; simp only [resOf, look_dF]
  | cell a t =>
    obtain ⟨r, h1, h2⟩ := Tr.mean_bind h
    have := Tr.mean_ret h2
    subst this
    simp only [resOf, look_dF, (opLoadS_spec (ℓ := ℓ) h1).1, Option.map_some]
    rfl

theorem valOfS_d {ℓ : Lens} {vs : List SV} (h : vs.all notTup = true) : (match vs.map (dV ℓ) with | [v] => v | vs => .tup vs) = dV ℓ (valOfS vs) := by
  cases vs with
  | nil => rfl
  | cons v r =>
    cases r with
    | nil => rfl
    | cons w r =>
      simp only [List.map_cons, valOfS, dV_tup]
      simp only [List.all_cons, Bool.and_eq_true, List.all_eq_true] at h
      rw [notTup_d h.1, notTup_d h.2.1, List.map_congr_left fun x hx => notTup_d (h.2.2 x hx) ℓ]

theorem finishS_spec {P : Program} {fn : Func} {m : Nat} {s : SSt} {out : SOut} (h : (finishS P fn m s).mean = some out) {ℓ' : Lens} (ha' : SubAgr ℓ' (out.2.1 ++ out.2.2)) :
    finish P fn m (dS (lenS s.hp) s) = some (dO ℓ' out) := by
  unfold finishS at h
  obtain ⟨vs, h1, h⟩ := Tr.mean_bind h
  obtain ⟨h2, h⟩ := Tr.mean_when h
  simp only at h
  generalize hR : reachedS s.hp m (refsVS (valOfS vs)) = R at h
  split at h
  · rename_i new sub hnew hsub
    have := Tr.mean_ret h
    subst this
    simp only at ha'
    obtain ⟨M1, M2⟩ := Tr.mean_mapM h1
    obtain ⟨N1, N2⟩ := mapM_some _ _ _ hnew
    obtain ⟨S1, S2⟩ := mapM_some _ _ _ hsub
    have hl0 : (firstNames m).length = m := by simp [firstNames]
    have hgoes : Goes (renTo m R) (lenS s.hp) ℓ' := by
      intro g g' hg
      unfold renTo at hg
      split at hg
      · rename_i hlt
        split at hg
        · rename_i h0
          cases hg
          have hi : (firstNames m)[g.1]? = some (g.1, 0) := by simp [firstNames, hlt]
          obtain ⟨b, e1, e2⟩ := S2 g.1 _ hi
          obtain ⟨b0, e3, rfl⟩ := Option.map_eq_some_iff.1 e2
          have e : g = (g.1, 0) := by rw [← h0]
          rw [e, ha' g.1 _ (by rw [List.getElem?_append_left (List.getElem?_eq_some_iff.1 e1).1]; exact e1), renBS_len, lenS_agr _ _ _ e3]
        · cases hg
      · cases hi : idxOf g R 0 with
        | none => simp [hi] at hg
        | some i =>
          simp [hi] at hg
          obtain ⟨_, hRi⟩ := idxOf_spec g R 0 i hi
          simp only [Nat.sub_zero] at hRi
          obtain ⟨b, e1, e2⟩ := N2 i g hRi
          obtain ⟨b0, e3, e4⟩ := Option.bind_eq_some_iff.1 e2
          split at e4
          · cases e4
            rw [← hg, ha' (m + i) (renBS (renTo m R) b0) (by rw [List.getElem?_append_right (by omega), show m + i - sub.length = i from by omega]; exact e1), renBS_len, lenS_agr _ _ _ e3]
          · cases e4
    have hres : resAll P (dS (lenS s.hp) s).fr (dS (lenS s.hp) s).hp fn.results.toList = some (dV (lenS s.hp) (valOfS vs)) := by
      unfold resAll
      have : fn.results.toList.mapM (resOf P (dS (lenS s.hp) s).fr (dS (lenS s.hp) s).hp) = some (vs.map (dV (lenS s.hp))) := by
        refine mapM_of (by simp [M1]) (fun i x hx => ?_)
        obtain ⟨u, e1, e2⟩ := M2 i x hx
        exact ⟨dV (lenS s.hp) u, by rw [List.getElem?_map, e1]; rfl, resOfS_spec e2⟩
      rw [this, ← valOfS_d h2]
      cases vs with
      | nil => rfl
      | cons v r => cases r <;> rfl
    unfold finish
    rw [hres]
    simp only
    rw [show reached (dS (lenS s.hp) s).hp m (refsV (dV (lenS s.hp) (valOfS vs))) = R from by rw [refsV_d, ← hR]; exact reached_d _ s.hp m _]
    have enew : R.mapM (fun g => (get (dS (lenS s.hp) s).hp g).map (renB (renTo m R))) = some (new.map (dN ℓ')) := by
      refine mapM_of (by simp [N1]) (fun i g hi => ?_)
      obtain ⟨y, e1, e2⟩ := N2 i g hi
      obtain ⟨b0, e3, e4⟩ := Option.bind_eq_some_iff.1 e2
      split at e4
      · rename_i hb0
        cases e4
        refine ⟨dN ℓ' (renBS (renTo m R) b0), by rw [List.getElem?_map, e1]; rfl, ?_⟩
        rw [show get (dS (lenS s.hp) s).hp g = _ from get_dH _ s.hp g, e3, Option.bind_some, renB_d hgoes]
        exact dN_alive (by rw [renBS_alive]; exact hb0)
      · cases e4
    rw [enew]
    simp only [dO, renV_d hgoes]
    congr 3
    apply List.ext_getElem?
    intro i
    simp only [List.getElem?_map]
    cases hi : (firstNames m)[i]? with
    | none =>
      have : sub[i]? = none := by rw [List.getElem?_eq_none_iff, S1]; exact List.getElem?_eq_none_iff.1 hi
      rw [this]; rfl
    | some g =>
      obtain ⟨b, e1, e2⟩ := S2 i g hi
      obtain ⟨b0, e3, rfl⟩ := Option.map_eq_some_iff.1 e2
      rw [e1]
      simp only [Option.map_some]
      rw [show get (dS (lenS s.hp) s).hp g = _ from get_dH _ s.hp g, e3, Option.bind_some, renB_d hgoes]
  · exact (Tr.mean_fail h).elim

/-! ### Calls -/

/-- A function told by a law: its state at the begin and at the end, and what it makes of it. -/
structure Spec where
  keep : Nat
  σi : Sg
  σo : Sg
  m : σi.den → Option σo.den

def senvOf (P : Program) (N : FuncId → Note) (f : FuncId) (fn : Func) (m : Nat) : SEnv :=
  { P, N, nt := fn.ntmps, locs := (N f).locs, pairs := (N f).pairs, keep := m }

def frOfS : List SV → Nat → SFr
  | [], _ => []
  | x :: r, i => (i, x) :: frOfS r (i + 1)

def startS (args : List SV) (sub : List SB) : SSt := { fr := frOfS args 0, hp := sub.map fun b => [b] }

noncomputable def callS (P : Program) (N : FuncId → Note) (C : FuncId → Option SCall) (mv : FuncId → Bool) (T : FuncId → Option Spec) (an : Nat → FAn) : Nat → Nat → FuncId → SCall
  | 0, _, _, _, _ => .fail
  | n + 1, c, f, args, sub =>
    match C f with
    | some q => q args sub
    | none =>
    match P.funcs[f]? with
    | some fn =>
      match fn.body with
      | some body =>
        .when (decide ((N f).on = true ∧ args.length ≤ fn.ntmps) && sub.all SB.alive && validS (startS args sub)) (
          match T f with
          | some sp => if sub.length = sp.keep then (fit sp.keep sp.σi (startS args sub)).bind fun v => .ask (sp.m v) fun u => finishS P fn sp.keep (sp.σo.un u) else .fail
          | none => match mv f with
            | true => (execS (senvOf P N f fn 0) (fun r i => callS P N C mv T an n ((an c).inl r i)) (an c) body (startS args sub)).bind fun p => match p.1 with
              | .exit _ => .fail
              | _ => (finishS P fn 0 p.2).bind fun o => .ret (renVS (shift sub.length) o.1, sub.map (fun b => .dead b.len), o.2.2.map (renBS (shift sub.length)))
            | false => (execS (senvOf P N f fn sub.length) (fun r i => callS P N C mv T an n ((an c).inl r i)) (an c) body (startS args sub)).bind fun p => match p.1 with
              | .exit _ => .fail
              | _ => finishS P fn sub.length p.2)
      | none => .fail
    | none => .fail

/-- What is asked of a law of a function. -/
def SpecOK (P : Program) (f : FuncId) (sp : Spec) : Prop :=
  ∀ fn body, P.funcs[f]? = some fn → fn.body = some body → ∀ v u, sp.m v = some u → ∀ ℓ' : Lens, Agr ℓ' (sp.σo.un u).hp →
    ∃ ℓ, Agr ℓ (sp.σi.un v).hp ∧ ∃ e, (e = .normal ∨ e = .ret) ∧ To P fn.ntmps sp.keep body (dS ℓ (sp.σi.un v)) e (dS ℓ' (sp.σo.un u))

theorem frOfS_d (ℓ : Lens) : ∀ (args : List SV) (i : Nat), dF ℓ (frOfS args i) = frOf (args.map (dV ℓ)) i := by
  intro args
  induction args with
  | nil => intro i; rfl
  | cons a r ih => intro i; simp only [frOfS, dF, List.map_cons, frOf] at ih ⊢; rw [ih]

theorem startS_d {ℓ : Lens} {args : List SV} {sub : List SB} (h : ∀ b ∈ sub, b.alive = true) : dS ℓ (startS args sub) = { fr := frOf (args.map (dV ℓ)) 0, hp := heapOf (sub.map (dN ℓ)) } := by
  simp only [dS, startS, frOfS_d]
  congr 1
  simp only [dH, heapOf, List.map_map]
  refine List.map_congr_left fun b hb => ?_
  simp only [Function.comp, List.map_cons, List.map_nil, dN_alive (h b hb)]

theorem startS_agr {ℓ : Lens} {args : List SV} {sub : List SB} (h : SubAgr ℓ sub) : Agr ℓ (startS args sub).hp := by
  intro g b hg
  obtain ⟨i, k⟩ := g
  simp only [getS, startS, List.getElem?_map] at hg
  cases hi : sub[i]? with
  | none => simp [hi] at hg
  | some b0 =>
    cases k with
    | succ k => simp [hi] at hg
    | zero =>
      simp [hi] at hg
      subst hg
      exact h i b0 hi

theorem callS_ok {P : Program} {N : FuncId → Note} {C : FuncId → Option SCall} {mv : FuncId → Bool} {T : FuncId → Option Spec} {an : Nat → FAn} (hg : Good P N) (hm : P.follows .mixedOrders = true) (hC : ∀ f q, C f = some q → CallOK P f q) (hT : ∀ f sp, T f = some sp → SpecOK P f sp) :
    ∀ n c f, CallOK P f (callS P N C mv T an n c f) := by
  intro n
  induction n with
  | zero => intro c f args sub out h; exact (Tr.mean_fail h).elim
  | succ n ih =>
    intro c f args sub out h ℓ0 ℓ' hs0 hs'
    simp only [callS] at h
    split at h
    · rename_i q hq
      exact hC f q hq args sub out h ℓ0 ℓ' hs0 hs'
    split at h
    · rename_i fn hfn
      split at h
      · rename_i body hbody
        obtain ⟨h1, h⟩ := Tr.mean_when h
        simp only [Bool.and_eq_true, decide_eq_true_eq, List.all_eq_true] at h1
        obtain ⟨⟨⟨hon, hlen⟩, hal⟩, hval⟩ := h1
        obtain ⟨hname, hok⟩ := hg f fn hon hfn
        refine ⟨entered hfn hbody hname, ?_⟩
        have start : ∀ {ℓ}, Agr ℓ (startS args sub).hp → dS ℓ (startS args sub) = { fr := frOf (args.map (dV ℓ0)) 0, hp := heapOf (sub.map (dN ℓ0)) } := by
          intro ℓ ha
          rw [dS_congr hval ha (startS_agr hs0), startS_d hal]
        split at h
        · rename_i sp hsp
          split at h
          · rename_i hk
            obtain ⟨v, h2, h⟩ := Tr.mean_bind h
            obtain ⟨u, h3, h4⟩ := Tr.mean_ask h
            obtain ⟨l1, a1, e, he, hto⟩ := hT f sp hsp fn body hfn hbody v u h3 (lenS (sp.σo.un u).hp) (lenS_agr _)
            obtain ⟨l0, a0, w0⟩ := fit_spec (nt := fn.ntmps) h2 a1
            have hto := hto.pre w0
            rw [start a0] at hto
            have hfin := finishS_spec h4 hs'
            rw [← hk] at hto hfin
            refine contract_of (s1 := dS (lenS (sp.σo.un u).hp) (sp.σo.un u)) hfn hbody (by simpa using hlen) ?_ he ?_
            · rw [List.length_map]; exact hto
            · rw [List.length_map]; exact hfin
          · exact (Tr.mean_fail h).elim
        · split at h
          · -- all blocks are handed over for good
            obtain ⟨⟨e, s1⟩, h2, h3⟩ := Tr.mean_bind h
            have fin : (e = .normal ∨ e = .ret) → ((finishS P fn 0 s1).bind fun o => Tr.ret ((renVS (shift sub.length) o.1, sub.map (fun b => SB.dead b.len), o.2.2.map (renBS (shift sub.length))) : SOut)).mean = some out → Contract P f (args.map (dV ℓ0)) (sub.map (dN ℓ0)) (dO ℓ' out) := by
              intro he h4
              obtain ⟨o, h5, h6⟩ := Tr.mean_bind h4
              have := Tr.mean_ret h6
              subst this
              simp only at hs'
              obtain ⟨l0, a0, hto⟩ := execS_spec (E := senvOf P N f fn 0) hm (fun r i f => ih _ f) body (hok body hbody) _ _ _ h2 (lenS s1.hp) (lenS_agr _)
              rw [start a0] at hto
              have ho : o.2.1 = [] := by
                unfold finishS at h5
                obtain ⟨_, _, h7⟩ := Tr.mean_bind h5
                obtain ⟨_, h8⟩ := Tr.mean_when h7
                simp only at h8
                split at h8
                · rename_i hsub
                  have := Tr.mean_ret h8
                  subst this
                  simpa [firstNames] using hsub.symm
                · exact (Tr.mean_fail h8).elim
              have hsub2 : SubAgr (fun g => ℓ' (sub.length + g.1, g.2)) (o.2.1 ++ o.2.2) := by
                intro j b hj
                rw [ho, List.nil_append] at hj
                have := hs' (sub.length + j) (renBS (shift sub.length) b) (by
                  rw [List.getElem?_append_right (by simp), List.length_map, show sub.length + j - sub.length = j by omega, List.getElem?_map, hj]
                  rfl)
                rw [renBS_len] at this
                exact this
              have hfin := finishS_spec h5 hsub2
              have hcon := contract_move (s1 := dS (lenS s1.hp) s1) (args := args.map (dV ℓ0)) (sub := sub.map (dN ℓ0)) hfn hbody (by simpa using hlen) hto he hfin
              have hgoes : Goes (shift sub.length) (fun g => ℓ' (sub.length + g.1, g.2)) ℓ' := by
                intro g g' hg
                simp only [shift, Option.some.injEq] at hg
                subst hg
                rfl
              have heq : (renV (shift (sub.map (dN ℓ0)).length) (dO (fun g => ℓ' (sub.length + g.1, g.2)) o).1, (sub.map (dN ℓ0)).map (fun _ => (none : Option Blk)), (dO (fun g => ℓ' (sub.length + g.1, g.2)) o).2.2.map (renB (shift (sub.map (dN ℓ0)).length))) =
                  dO ℓ' (renVS (shift sub.length) o.1, sub.map (fun b => SB.dead b.len), o.2.2.map (renBS (shift sub.length))) := by
                simp only [dO, List.length_map, List.map_map]
                rw [renV_d hgoes]
                congr 2
                refine List.map_congr_left fun b _ => ?_
                have := renB_d hgoes b
                simp only [Function.comp]
                cases b with
                | box sz v => simp only [dN, dB, Option.map_some, Option.some.injEq, renBS] at this ⊢; exact this
                | arr t l z => simp only [dN, dB, Option.map_some, Option.some.injEq, renBS] at this ⊢; exact this
                | mp t l => simp only [dN, dB, Option.map_some, Option.some.injEq, renBS] at this ⊢; exact this
                | dead q => simp [dN, dB, renBS, renB]
              rw [heq] at hcon
              exact hcon
            cases e with
            | normal => exact fin (.inl rfl) h3
            | ret => exact fin (.inr rfl) h3
            | exit id => exact (Tr.mean_fail h3).elim
          · obtain ⟨⟨e, s1⟩, h2, h3⟩ := Tr.mean_bind h
            have fin : (e = .normal ∨ e = .ret) → (finishS P fn sub.length s1).mean = some out → Contract P f (args.map (dV ℓ0)) (sub.map (dN ℓ0)) (dO ℓ' out) := by
              intro he h4
              obtain ⟨l0, a0, hto⟩ := execS_spec (E := senvOf P N f fn sub.length) hm (fun r i f => ih _ f) body (hok body hbody) _ _ _ h2 (lenS s1.hp) (lenS_agr _)
              rw [start a0] at hto
              refine contract_of (s1 := dS (lenS s1.hp) s1) hfn hbody (by simpa using hlen) ?_ he ?_
              · rw [List.length_map]; exact hto
              · rw [List.length_map]; exact finishS_spec h4 hs'
            cases e with
            | normal => exact fin (.inl rfl) h3
            | ret => exact fin (.inr rfl) h3
            | exit id => exact (Tr.mean_fail h3).elim
      · exact (Tr.mean_fail h).elim
    · exact (Tr.mean_fail h).elim

/-- The run of a function that is told by a law. -/
noncomputable def bodyC (P : Program) (N : FuncId → Note) (C : FuncId → Option SCall) (mv : FuncId → Bool) (T : FuncId → Option Spec) (an : Nat → FAn) (n : Nat) (f : FuncId) (keep : Nat) (σi σo : Sg) (v : σi.den) : Tr σo.den :=
  match P.funcs[f]? with
  | some fn =>
    match fn.body with
    | some body => (execS (senvOf P N f fn keep) (fun r i => callS P N C mv T an n ((an 0).inl r i)) (an 0) body (σi.un v)).bind fun p => match p.1 with
      | .exit _ => .fail
      | _ => fit keep σo p.2
    | none => .fail
  | none => .fail

/-- A law of a function, by its run. -/
theorem specOC_of {P : Program} {N : FuncId → Note} {C : FuncId → Option SCall} {mv : FuncId → Bool} {T : FuncId → Option Spec} {an : Nat → FAn} {n : Nat} {f : FuncId} {sp : Spec} (hC : ∀ f q, C f = some q → CallOK P f q) (hg : Good P N) (hm : P.follows .mixedOrders = true) (hT : ∀ f sp, T f = some sp → SpecOK P f sp)
    (hon : (N f).on = true) (h : ∀ v, (bodyC P N C mv T an n f sp.keep sp.σi sp.σo v).mean = sp.m v) : SpecOK P f sp := by
  intro fn body hfn hbody v u hv ℓ' ha
  rw [← h v] at hv
  simp only [bodyC, hfn, hbody] at hv
  obtain ⟨⟨e, s1⟩, h1, h2⟩ := Tr.mean_bind hv
  have fin : (e = .normal ∨ e = .ret) → (fit sp.keep sp.σo s1).mean = some u → ∃ ℓ, Agr ℓ (sp.σi.un v).hp ∧ ∃ e, (e = .normal ∨ e = .ret) ∧ To P fn.ntmps sp.keep body (dS ℓ (sp.σi.un v)) e (dS ℓ' (sp.σo.un u)) := by
    intro he h3
    obtain ⟨l1, a1, w1⟩ := fit_spec (nt := fn.ntmps) h3 ha
    obtain ⟨l0, a0, hto⟩ := execS_spec (E := senvOf P N f fn sp.keep) hm (fun r i f => callS_ok hg hm hC hT n _ f) body ((hg f fn hon hfn).2 body hbody) _ _ _ h1 l1 a1
    exact ⟨l0, a0, e, he, hto.post w1⟩
  cases e with
  | normal => exact fin (.inl rfl) h2
  | ret => exact fin (.inr rfl) h2
  | exit id => exact (Tr.mean_fail h2).elim

noncomputable abbrev bodyS (P : Program) (N : FuncId → Note) (T : FuncId → Option Spec) (an : Nat → FAn) (n : Nat) (f : FuncId) (keep : Nat) (σi σo : Sg) (v : σi.den) : Tr σo.den := bodyC P N (fun _ => none) (fun _ => false) T an n f keep σi σo v
theorem specOK_of {P : Program} {N : FuncId → Note} {T : FuncId → Option Spec} {an : Nat → FAn} {n : Nat} {f : FuncId} {sp : Spec} (hg : Good P N) (hm : P.follows .mixedOrders = true) (hT : ∀ f sp, T f = some sp → SpecOK P f sp)
    (hon : (N f).on = true) (h : ∀ v, (bodyS P N T an n f sp.keep sp.σi sp.σo v).mean = sp.m v) : SpecOK P f sp := specOC_of (fun _ _ h => by cases h) hg hm hT hon h

/-- A table of calls told by hand. -/
def ctabOf : List (FuncId × SCall) → FuncId → Option SCall
  | [], _ => none
  | (g, q) :: r, f => if g = f then some q else ctabOf r f

theorem ctabOf_ok {P : Program} : ∀ (l : List (FuncId × SCall)), (∀ p ∈ l, CallOK P p.1 p.2) → ∀ f q, ctabOf l f = some q → CallOK P f q := by
  intro l
  induction l with
  | nil => intro _ f q h; cases h
  | cons p r ih =>
    intro hl f q h
    obtain ⟨g, x⟩ := p
    simp only [ctabOf] at h
    split at h
    · rename_i e; subst e; cases h; exact hl _ (List.mem_cons_self ..)
    · exact ih (fun x hx => hl x (by simp [hx])) f q h

/-- The empty table. -/
theorem noSpecs {P : Program} : ∀ f sp, (fun _ => none : FuncId → Option Spec) f = some sp → SpecOK P f sp := fun _ _ h => by cases h

/-- A table out of a list. -/
def tabOf : List (FuncId × Spec) → FuncId → Option Spec
  | [], _ => none
  | (g, sp) :: r, f => if g = f then some sp else tabOf r f

theorem tabOf_ok {P : Program} : ∀ (l : List (FuncId × Spec)), (∀ p ∈ l, SpecOK P p.1 p.2) → ∀ f sp, tabOf l f = some sp → SpecOK P f sp := by
  intro l
  induction l with
  | nil => intro _ f sp h; cases h
  | cons p r ih =>
    intro hl f sp h
    obtain ⟨g, q⟩ := p
    simp only [tabOf] at h
    split at h
    · rename_i e; subst e; cases h; exact hl _ (List.mem_cons_self ..)
    · exact ih (fun x hx => hl x (by simp [hx])) f sp h

end Go.Abs
