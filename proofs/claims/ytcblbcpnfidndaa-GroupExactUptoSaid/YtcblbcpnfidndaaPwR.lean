/- Functions: the abstract call is the model's. -/
import Derived.Test.YtcblbcpnfidndaaPwQ
import Derived.Scope
set_option linter.unusedSimpArgs false
set_option linter.unusedVariables false
namespace Go.Abs
open Go

/-- What is asked of the functions that are run, once and for all. -/
def Good (P : Program) (N : FuncId → Note) : Prop :=
  ∀ f fn, (N f).on = true → P.funcs[f]? = some fn → fn.name ≠ "runtime.NumGoroutine" ∧ ∀ body, fn.body = some body → okCode (N f).pairs body = true

theorem entered {P : Program} {f : FuncId} {fn : Func} {body : Code} (h : P.funcs[f]? = some fn) (hb : fn.body = some body) (hn : fn.name ≠ "runtime.NumGoroutine") : Entered P f := by
  intro args w
  simp [callFunc, h, hb, hn]

theorem look_frOf : ∀ (l : List AV) (i t : Nat), look (frOf l i) t = if i ≤ t then (l[t - i]?).getD .undef else .undef := by
  intro l
  induction l with
  | nil => intro i t; simp [frOf, look]
  | cons x r ih =>
    intro i t
    simp only [frOf, look, ih]
    by_cases h : i = t
    · subst h; simp
    · rw [if_neg h]
      by_cases h1 : i ≤ t
      · have h2 : i + 1 ≤ t := by omega
        rw [if_pos h1, if_pos h2, show t - i = (t - (i + 1)) + 1 from by omega]
        simp
      · rw [if_neg h1, if_neg (by omega)]

section
variable {Y : XT} {P : Program}

theorem resOf_sound {w : World} {ρ : Rho} {H : Heap} {tmps : Array Value} {fr : Fr} (hr : HR Y w ρ H) (hf : FR w (XU Y ρ H) ρ tmps fr) {x : ResultVar} {y : AV} (h : resOf P fr H x = some y) :
    ∃ v, ((match x with | .tmp t => pure (tmps.getD t undef) | .cell a t => do loadVar t (← asAddr (tmps.getD a undef)) : Sem Value)).run P w = .ok v w ∧ VR w (XU Y ρ H) ρ v y := by
  cases x with
  | tmp t =>
    simp only [resOf, Option.some.injEq] at h
    subst h
    exact ⟨_, rfl, hf t⟩
  | cell a t =>
    simp only [resOf] at h
    obtain ⟨r, hr', rfl⟩ := Option.map_eq_some_iff.1 h
    obtain ⟨_, _, u, h1, h2⟩ := opLoad_sound hr (hf a) hr'
    refine ⟨u, ?_, h2⟩
    have hptr : ∃ p, tmps.getD a undef = .pointer (some p) := by
      have hv := hf a
      generalize tmps.getD a undef = v at hv h1
      unfold opLoad at hr'
      split at hr'
      · split at hr'
        · rename_i hl
          rw [hl] at hv
          split at hr'
          · split at hr'
            · rename_i hc; obtain ⟨b, rfl, _⟩ := hv.ptrInv hc.2; exact ⟨_, rfl⟩
            · cases hr'
          · cases hr'
        · rename_i hl; rw [hl] at hv; obtain ⟨b, o, rfl⟩ := hv.lpInv; exact ⟨_, rfl⟩
        · rename_i hl; rw [hl] at hv; cases hv with | pur v x hp => cases hp with | fp b _ _ _ => exact ⟨_, rfl⟩
        · cases hr'
      · cases hr'
    obtain ⟨p, hp⟩ := hptr
    rw [hp] at h1
    simp only
    rw [hp]
    simp only [Instr.loadAt, Instr.sureAddr] at h1
    simpa [asAddr, Sem.run_bind] using h1

theorem resAll_sound {w : World} {ρ : Rho} {H : Heap} {tmps : Array Value} {fr : Fr} {fn : Func} (hr : HR Y w ρ H) (hf : FR w (XU Y ρ H) ρ tmps fr) {y : AV} (h : resAll P fr H fn.results.toList = some y) :
    ∃ v, (results fn tmps).run P w = .ok v w ∧ VR w (XU Y ρ H) ρ v y := by
  unfold resAll at h
  cases hm : fn.results.toList.mapM (resOf P fr H) with
  | none => simp [hm] at h
  | some ys =>
    obtain ⟨hlen, hget⟩ := mapM_some _ _ _ hm
    -- a value for each result
    have hex : ∀ x, x ∈ fn.results.toList → ∃ v, ((match x with | .tmp t => pure (tmps.getD t undef) | .cell a t => do loadVar t (← asAddr (tmps.getD a undef)) : Sem Value)).run P w = .ok v w ∧ ∀ y, resOf P fr H x = some y → VR w (XU Y ρ H) ρ v y := by
      intro x hx
      obtain ⟨i, hi⟩ := List.getElem?_of_mem hx
      obtain ⟨y, _, hy⟩ := hget i x hi
      obtain ⟨v, h1, h2⟩ := resOf_sound hr hf hy
      exact ⟨v, h1, fun y' hy' => by rw [hy] at hy'; cases hy'; exact h2⟩
    classical
    let g : ResultVar → Value := fun x => if hx : x ∈ fn.results.toList then Classical.choose (hex x hx) else undef
    have hg : ∀ x, x ∈ fn.results.toList → ((match x with | .tmp t => pure (tmps.getD t undef) | .cell a t => do loadVar t (← asAddr (tmps.getD a undef)) : Sem Value)).run P w = .ok (g x) w ∧ ∀ y, resOf P fr H x = some y → VR w (XU Y ρ H) ρ (g x) y := by
      intro x hx
      simp only [g, dif_pos hx]
      exact Classical.choose_spec (hex x hx)
    have hrun := Array.run_mapM (P := P) (w := w) (fun x : ResultVar => (match x with | .tmp t => pure (tmps.getD t undef) | .cell a t => do loadVar t (← asAddr (tmps.getD a undef)) : Sem Value)) g fn.results (fun x hx => (hg x hx).1)
    have hval : (results fn tmps).run P w = .ok (if h : (fn.results.map g).size = 1 then (fn.results.map g)[0] else .tuple (fn.results.map g)) w := by
      unfold results
      simp only [Sem.run_bind]
      erw [hrun]
      rfl
    have hel : ∀ (i : Nat) (y : AV), ys[i]? = some y → VR w (XU Y ρ H) ρ ((fn.results.map g).getD i undef) y := by
      intro i y hy
      have hi : i < ys.length := (List.getElem?_eq_some_iff.1 hy).1
      have hi' : i < fn.results.toList.length := by omega
      obtain ⟨z, hz1, hz2⟩ := hget i fn.results.toList[i] (List.getElem?_eq_getElem hi')
      rw [hy] at hz1
      cases hz1
      have := (hg fn.results.toList[i] (List.getElem_mem hi')).2 y hz2
      have hi2 : i < fn.results.size := by simpa using hi'
      simpa [Array.getD_eq_getD_getElem?, hi2] using this
    refine ⟨_, hval, ?_⟩
    rw [hm] at h
    have hsz : (fn.results.map g).size = ys.length := by simp [hlen]
    cases ys with
    | nil =>
      simp only [Option.some.injEq] at h
      subst h
      rw [dif_neg (by rw [hsz]; simp)]
      exact .tup _ _ hsz hel
    | cons y0 r =>
      cases r with
      | nil =>
        simp only [Option.some.injEq] at h
        subst h
        have h1 : (fn.results.map g).size = 1 := by rw [hsz]; rfl
        rw [dif_pos h1]
        have := hel 0 y0 (by simp)
        rwa [Array.getD_eq_getD_getElem?, Array.getElem?_eq_getElem (by omega)] at this
      | cons y1 r =>
        simp only [Option.some.injEq] at h
        subst h
        rw [dif_neg (by rw [hsz]; simp)]
        exact .tup _ _ hsz hel

/-! ### Code -/

/-- Less is said of a state. -/
def Weak (nt keep : Nat) (s s' : St) : Prop := ∀ (Y : XT) (w : World) (ρ : Rho) (a : Act), SR Y nt w ρ a s → ∃ ρ', SR Y nt w ρ' a s' ∧ Went keep w ρ s.hp w ρ' s'.hp

theorem Weak.refl (nt keep : Nat) (s : St) : Weak nt keep s s := fun _ _ ρ _ h => ⟨ρ, h, Went.refl _ _ _ _⟩
theorem Weak.trans {nt keep : Nat} {s s1 s2 : St} (h : Weak nt keep s s1) (k : Weak nt keep s1 s2) : Weak nt keep s s2 := by
  intro Y w ρ a hr
  obtain ⟨ρ1, h1, h2⟩ := h Y w ρ a hr
  obtain ⟨ρ2, h3, h4⟩ := k Y w ρ1 a h1
  exact ⟨ρ2, h3, h2.trans h4⟩

/-- A piece of code leads from one state to another. -/
def To (P : Program) (nt keep : Nat) (c : Code) (s : St) (e : Ex) (s' : St) : Prop :=
  ∀ (Y : XT) (a : Act) (w : World) (ρ : Rho) (Q : Exit → Act → World → Prop), SR Y nt w ρ a s →
    (∀ a' w' ρ', SR Y nt w' ρ' a' s' → Went keep w ρ s.hp w' ρ' s'.hp → Q (exOf e) a' w') → c.wp P Q a w

variable {nt keep : Nat} {s s1 s' : St} {e : Ex} {c b : Code}

theorem To.pre (hw : Weak nt keep s s1) (h : To P nt keep c s1 e s') : To P nt keep c s e s' := by
  intro Y a w ρ Q hsr hQ
  obtain ⟨ρ1, h1, h2⟩ := hw Y w ρ a hsr
  exact h Y a w ρ1 Q h1 (fun a' w' ρ' h3 h4 => hQ a' w' ρ' h3 (h2.trans h4))

theorem To.post (h : To P nt keep c s e s1) (hw : Weak nt keep s1 s') : To P nt keep c s e s' := by
  intro Y a w ρ Q hsr hQ
  refine h Y a w ρ Q hsr (fun a' w' ρ' h1 h2 => ?_)
  obtain ⟨ρ1, h3, h4⟩ := hw Y w' ρ' a' h1
  exact hQ a' w' ρ1 h3 (h2.trans h4)

theorem To.skip : To P nt keep .skip s .normal s := fun _ a w ρ _ hsr hQ => wp_skip (hQ a w ρ hsr (Went.refl _ _ _ _))
theorem To.label {l : Nat} : To P nt keep (.label l) s .normal s := fun _ a w ρ _ hsr hQ => wp_label (hQ a w ρ hsr (Went.refl _ _ _ _))
theorem To.exit {id : Nat} : To P nt keep (.exit id) s (.exit id) s := fun _ a w ρ _ hsr hQ => wp_exit (hQ a w ρ hsr (Went.refl _ _ _ _))
theorem To.ret : To P nt keep .ret s .ret s := fun _ a w ρ _ hsr hQ => wp_ret (hQ a w ρ hsr (Went.refl _ _ _ _))

theorem To.region {E : Env} (hS : ∀ i, Sound E.P (E.call i)) (hm : E.P.follows .mixedOrders = true) {id : Nat} {ops : Array Oper} {draw : Bool} (hok : okCode E.pairs (.region id ops draw) = true)
    (h : runRegion E id ops draw s = some s') : To E.P E.nt E.keep (.region id ops draw) s .normal s' :=
  fun _ _ _ _ _ hsr hQ => region_sound hS hm hsr (fun hd => by simpa [okCode, hd] using hok) h (fun a' w' ρ' h3 h4 => hQ a' w' ρ' h3 h4.went)

theorem To.seq {x y : Code} (h1 : To P nt keep x s .normal s1) (h2 : To P nt keep y s1 e s') : To P nt keep (.seq x y) s e s' := by
  intro Y a w ρ Q hsr hQ
  refine wp_seq (h1 Y a w ρ _ hsr (fun a' w' ρ' h3 h4 => ?_))
  exact h2 Y a' w' ρ' Q h3 (fun a2 w2 ρ2 h5 h6 => hQ a2 w2 ρ2 h5 (h4.trans h6))

theorem To.seq_out {x y : Code} (h1 : To P nt keep x s e s') (he : e ≠ .normal) : To P nt keep (.seq x y) s e s' := by
  intro Y a w ρ Q hsr hQ
  refine wp_seq (h1 Y a w ρ _ hsr (fun a' w' ρ' h3 h4 => ?_))
  cases e with
  | normal => exact absurd rfl he
  | exit id => exact hQ a' w' ρ' h3 h4
  | ret => exact hQ a' w' ρ' h3 h4

theorem To.cond {o : Operand} {p : Bool} {x y : Code} (hp : evO s.fr o = .bool p) (h : To P nt keep (if p then x else y) s e s') : To P nt keep (.cond o x y) s e s' := by
  intro Y a w ρ Q hsr hQ
  have hv := evO_rel hsr.fr o
  rw [hp] at hv
  refine wp_cond (t := p) hv.boolInv ?_
  cases p with
  | true => exact h Y a w ρ Q hsr hQ
  | false => exact h Y a w ρ Q hsr hQ

/-- How a block is left. -/
def leave (id : Nat) : Ex → Ex
  | .exit j => if j = id then .normal else .exit j
  | e => e

theorem To.block {id : Nat} (h : To P nt keep b s e s') : To P nt keep (.block id b) s (leave id e) s' := by
  intro Y a w ρ Q hsr hQ
  refine wp_block (h Y a w ρ _ hsr (fun a' w' ρ' h1 h2 => ?_))
  cases e with
  | normal => exact hQ a' w' ρ' h1 h2
  | ret => exact hQ a' w' ρ' h1 h2
  | exit j =>
    show if j = id then Q .normal a' w' else Q (.exit j) a' w'
    simp only [leave] at hQ
    split
    · rename_i hj
      rw [if_pos hj] at hQ
      exact hQ a' w' ρ' h1 h2
    · rename_i hj
      rw [if_neg hj] at hQ
      exact hQ a' w' ρ' h1 h2

theorem To.scope (h : To P nt keep b s e s') : To P nt keep (.scope b) s e s' := by
  intro Y a w ρ Q hsr hQ
  refine wp_scope_straight (h Y a w ρ _ hsr (fun a' w' ρ' h1 h2 => ?_))
  cases e with
  | normal => exact hQ a' w' ρ' h1 h2
  | ret => exact hQ a' w' ρ' h1 h2
  | exit j => exact hQ a' w' ρ' h1 h2

/-- The rounds of a loop. -/
inductive Iter (P : Program) (nt keep : Nat) (b : Code) : St → Ex → St → Prop where
  | out {s s' : St} {e : Ex} (h : To P nt keep b s e s') (he : e ≠ .normal) : Iter P nt keep b s e s'
  | next {s s1 s' : St} {e : Ex} (h : To P nt keep b s .normal s1) (hr : Iter P nt keep b s1 e s') : Iter P nt keep b s e s'

theorem Iter.pre (hw : Weak nt keep s s1) (h : Iter P nt keep b s1 e s') : Iter P nt keep b s e s' := by
  cases h with
  | out h he => exact .out (h.pre hw) he
  | next h hr => exact .next (h.pre hw) hr

theorem To.loop (h : Iter P nt keep b s e s') : To P nt keep (.loop b) s e s' := by
  intro Y a w ρ Q hsr hQ bb k cs
  have key : ∀ (s s' : St) (e : Ex), Iter P nt keep b s e s' → ∀ (a : Act) (w : World) (ρ : Rho), SR Y nt w ρ a s → (∀ a' w' ρ', SR Y nt w' ρ' a' s' → Went keep w ρ s.hp w' ρ' s'.hp → Q (exOf e) a' w') →
      ∃ e' a' w', Q e' a' w' ∧ Arrives P (lone (bb.at a (.code b :: .inLoop b :: k)) cs w) bb k cs e' a' w' := by
    intro s s' e h
    induction h with
    | out h he =>
      intro a w ρ hsr hQ
      rename_i s s' e
      have hrun := h Y a w ρ (fun x a' w' => x = exOf e ∧ ∃ ρ', SR Y nt w' ρ' a' s' ∧ Went keep w ρ s.hp w' ρ' s'.hp) hsr (fun a' w' ρ' h1 h2 => ⟨rfl, ρ', h1, h2⟩)
      obtain ⟨x, a1, w1, ⟨hx, ρ1, h1, h2⟩, harr⟩ := hrun bb (.inLoop b :: k) cs
      subst hx
      cases e with
      | normal => exact absurd rfl he
      | exit id => exact ⟨_, a1, w1, hQ a1 w1 ρ1 h1 h2, .pass (x := .inLoop b) rfl (fun _ _ => .inl (by simp [exOf])) harr⟩
      | ret => exact ⟨_, a1, w1, hQ a1 w1 ρ1 h1 h2, .pass (x := .inLoop b) rfl (fun _ _ => .inl (by simp [exOf])) harr⟩
    | next h hr ih =>
      intro a w ρ hsr hQ
      rename_i s s1 s' e
      have hrun := h Y a w ρ (fun x a' w' => x = exOf .normal ∧ ∃ ρ', SR Y nt w' ρ' a' s1 ∧ Went keep w ρ s.hp w' ρ' s1.hp) hsr (fun a' w' ρ' h1 h2 => ⟨rfl, ρ', h1, h2⟩)
      obtain ⟨x, a1, w1, ⟨hx, ρ1, h1, h2⟩, harr⟩ := hrun bb (.inLoop b :: k) cs
      subst hx
      obtain ⟨e', a2, w2, hq, harr2⟩ := ih a1 w1 ρ1 h1 (fun a' w' ρ' h3 h4 => hQ a' w' ρ' h3 (h2.trans h4))
      exact ⟨e', a2, w2, hq, .of_steps (Steps.trans harr (.one step_inLoop)) harr2⟩
  obtain ⟨e', a', w', hq, harr⟩ := key s s' e h a w ρ hsr hQ
  exact ⟨e', a', w', hq, .of_steps (.one step_loop) harr⟩

/-! ### Functions -/

theorem contract_of {f : FuncId} {fn : Func} {body : Code} {args : List AV} {sub : List Blk} {out : Out} {s1 : St} (hfn : P.funcs[f]? = some fn) (hbody : fn.body = some body)
    (hlen : args.length ≤ fn.ntmps) (hto : To P fn.ntmps sub.length body { fr := frOf args 0, hp := heapOf sub } e s1) (he : e = .normal ∨ e = .ret) (hfin : finish P fn sub.length s1 = some out) : Contract P f args sub out := by
  intro Y w ρ vals hr hsz hargs
  have hstart : SR Y fn.ntmps w ρ { tmps := vals ++ Array.replicate (fn.ntmps - vals.size) undef, defers := [] } { fr := frOf args 0, hp := heapOf sub } := by
    refine ⟨by simp; omega, rfl, fun t => ?_, hr⟩
    rw [look_frOf]
    simp only [Nat.zero_le, if_true, Nat.sub_zero]
    cases ht : args[t]? with
    | none => exact .undef _
    | some x =>
      have := hargs t x ht
      have hlt : t < vals.size := by rw [hsz]; exact (List.getElem?_eq_some_iff.1 ht).1
      simp only [Option.getD_some]
      rw [Array.getD_eq_getD_getElem?, Array.getElem?_append_left hlt]
      rwa [Array.getD_eq_getD_getElem?] at this
  have main : ∀ (s' : St) (a' : Act) (w' : World) (ρ' : Rho), finish P fn sub.length s' = some out → SR Y fn.ntmps w' ρ' a' s' → Went sub.length w ρ (heapOf sub) w' ρ' s'.hp →
      a'.defers = [] ∧ ∃ v, (results fn a'.tmps).run P w' = .ok v w' ∧ ∃ v' ρ'', Ending.returned v = .returned v' ∧ HR Y w' ρ'' (heapBack out.2.1 out.2.2) ∧ VR w' (XU Y ρ'' (heapBack out.2.1 out.2.2)) ρ'' v' out.1 ∧
        Stable w (XX ρ (heapOf sub)) w' (XX ρ'' (heapBack out.2.1 out.2.2)) ∧ ∀ g b, ρ g = some b → ρ'' g = some b := by
    intro s' a' w' ρ' hfin hsr hwent
    unfold finish at hfin
    split at hfin
    · rename_i y hy
      obtain ⟨v, hv1, hv2⟩ := resAll_sound hsr.hp hsr.fr hy
      refine ⟨hsr.dfr, v, hv1, v, packRho ρ' sub.length (reached s'.hp sub.length (refsV y)), rfl, ?_⟩
      obtain ⟨hn, ho⟩ := outside_spec (H := s'.hp) (m := sub.length) (roots := refsV y)
      simp only at hfin
      generalize reached s'.hp sub.length (refsV y) = R at hn ho hfin ⊢
      split at hfin
      · rename_i new hnew
        simp only [Option.some.injEq] at hfin
        subst hfin
        obtain ⟨h1, h2⟩ := hsr.hp.pack (m := sub.length) hn ho
        have hH : packH s'.hp sub.length (renTo sub.length R) R = heapBack ((firstNames sub.length).map (fun g => (get s'.hp g).map (renB (renTo sub.length R)))) new := by
          unfold packH heapBack
          rw [List.map_append, List.map_map]
          congr 1
          obtain ⟨hlen, hget⟩ := mapM_some _ _ _ hnew
          apply List.ext_getElem?
          intro i
          rw [List.getElem?_map, List.getElem?_map]
          cases hi : R[i]? with
          | none =>
            rw [List.getElem?_eq_none (by rw [hlen]; exact List.getElem?_eq_none_iff.1 hi)]
            rfl
          | some g =>
            obtain ⟨k, hk1, hk2⟩ := hget i g hi
            rw [hk1]
            simp only [Option.map_some, hk2]
        rw [hH] at h1 h2
        refine ⟨h1, ?_, hwent.st.trans h2, fun g b hg => ?_⟩
        · exact renV_rel pack_moves (hv2.mono (h2.xu Y) (fun _ _ e => e))
        · have hd := hr.dom g b hg
          have hsub : (heapOf sub).getD g.1 [] = (if h : g.1 < sub.length then [some sub[g.1]] else []) := by
            simp only [List.getD_eq_getElem?_getD, heapOf, List.getElem?_map]
            split
            · rename_i h; simp [List.getElem?_eq_getElem h]
            · rename_i h; simp [List.getElem?_eq_none (Nat.le_of_not_lt h)]
          rw [hsub] at hd
          split at hd
          · rename_i hlt
            have h0 : g.2 = 0 := by simpa using hd
            have hgg : g = (g.1, 0) := by rw [← h0]
            have hfst : (firstNames sub.length ++ R)[g.1]? = some (g.1, 0) := by
              rw [List.getElem?_append_left (by simpa [firstNames] using hlt)]
              simp [firstNames, hlt]
            unfold packRho
            rw [if_pos h0, hfst]
            exact hwent.held g.1 hlt b (by rw [← hgg]; exact hg)
          · simp at hd
      · cases hfin
    · cases hfin
  refine calls_of_wp hfn hbody ?_
  refine hto Y _ w ρ _ hstart (fun a' w' ρ' h1 h2 => ?_)
  rcases he with rfl | rfl
  · exact main s1 a' w' ρ' hfin h1 h2
  · exact main s1 a' w' ρ' hfin h1 h2

/-- The names of what a call returns that keeps no name of its caller's. -/
def shift (k : Nat) : Ren := fun g => some (k + g.1, g.2)

theorem shift_moves {k : Nat} {ρ0 ρ : Rho} : Moves (shift k) ρ0 (fun g => if g.1 < k then ρ g else ρ0 (g.1 - k, g.2)) := by
  intro g g' b hg hb
  simp only [shift, Option.some.injEq] at hg
  subst hg
  simp only
  rw [if_neg (by omega), show k + g.1 - k = g.1 by omega]
  exact hb

/-- A call to which all blocks are handed over for good. -/
theorem contract_move {f : FuncId} {fn : Func} {body : Code} {args : List AV} {sub : List Blk} {out : Out} {s1 : St} (hfn : P.funcs[f]? = some fn) (hbody : fn.body = some body)
    (hlen : args.length ≤ fn.ntmps) (hto : To P fn.ntmps 0 body { fr := frOf args 0, hp := heapOf sub } e s1) (he : e = .normal ∨ e = .ret) (hfin : finish P fn 0 s1 = some out) :
    Contract P f args sub (renV (shift sub.length) out.1, sub.map (fun _ => none), out.2.2.map (renB (shift sub.length))) := by
  intro Y w ρ vals hr hsz hargs
  have hstart : SR Y fn.ntmps w ρ { tmps := vals ++ Array.replicate (fn.ntmps - vals.size) undef, defers := [] } { fr := frOf args 0, hp := heapOf sub } := by
    refine ⟨by simp; omega, rfl, fun t => ?_, hr⟩
    rw [look_frOf]
    simp only [Nat.zero_le, if_true, Nat.sub_zero]
    cases ht : args[t]? with
    | none => exact .undef _
    | some x =>
      have := hargs t x ht
      have hlt : t < vals.size := by rw [hsz]; exact (List.getElem?_eq_some_iff.1 ht).1
      simp only [Option.getD_some]
      rw [Array.getD_eq_getD_getElem?, Array.getElem?_append_left hlt]
      rwa [Array.getD_eq_getD_getElem?] at this
  have main : ∀ (s' : St) (a' : Act) (w' : World) (ρ' : Rho), finish P fn 0 s' = some out → SR Y fn.ntmps w' ρ' a' s' → Went 0 w ρ (heapOf sub) w' ρ' s'.hp →
      a'.defers = [] ∧ ∃ v, (results fn a'.tmps).run P w' = .ok v w' ∧ ∃ v' ρ'', Ending.returned v = .returned v' ∧ HR Y w' ρ'' (heapBack (sub.map (fun _ => none)) (out.2.2.map (renB (shift sub.length)))) ∧
        VR w' (XU Y ρ'' (heapBack (sub.map (fun _ => none)) (out.2.2.map (renB (shift sub.length))))) ρ'' v' (renV (shift sub.length) out.1) ∧
        Stable w (XX ρ (heapOf sub)) w' (XX ρ'' (heapBack (sub.map (fun _ => none)) (out.2.2.map (renB (shift sub.length))))) ∧ ∀ g b, ρ g = some b → ρ'' g = some b := by
    intro s' a' w' ρ' hfin hsr hwent
    unfold finish at hfin
    split at hfin
    · rename_i y hy
      obtain ⟨v, hv1, hv2⟩ := resAll_sound hsr.hp hsr.fr hy
      refine ⟨hsr.dfr, v, hv1, v, ?_⟩
      obtain ⟨hn, ho⟩ := outside_spec (H := s'.hp) (m := 0) (roots := refsV y)
      simp only at hfin
      generalize reached s'.hp 0 (refsV y) = R at hn ho hfin ⊢
      split at hfin
      · rename_i new hnew
        simp only [Option.some.injEq] at hfin
        subst hfin
        obtain ⟨h1, h2⟩ := hsr.hp.pack (m := 0) hn ho
        have hH : packH s'.hp 0 (renTo 0 R) R = heapBack [] new := by
          unfold packH heapBack
          rw [List.map_append]
          congr 1
          obtain ⟨hlen, hget⟩ := mapM_some _ _ _ hnew
          apply List.ext_getElem?
          intro i
          rw [List.getElem?_map, List.getElem?_map]
          cases hi : R[i]? with
          | none =>
            rw [List.getElem?_eq_none (by rw [hlen]; exact List.getElem?_eq_none_iff.1 hi)]
            rfl
          | some g =>
            obtain ⟨k, hk1, hk2⟩ := hget i g hi
            rw [hk1]
            simp only [Option.map_some, hk2]
        rw [hH] at h1 h2
        have hv3 := renV_rel (pack_moves (m := 0) (R := R) (ρ := ρ')) (hv2.mono (h2.xu Y) (fun _ _ e => e))
        have hst := hwent.st.trans h2
        generalize packRho ρ' 0 R = ρ0 at h1 h2 hv3 hst
        simp only
        have g0 : ∀ g, get (heapBack [] new) g = if g.2 = 0 then new[g.1]? else none := by
          intro g
          rw [get_heapBack]
          simp
        have g2 : ∀ g, get (heapBack (sub.map (fun _ => none)) (new.map (renB (shift sub.length)))) g = if g.2 = 0 then (if g.1 < sub.length then none else (new[g.1 - sub.length]?).map (renB (shift sub.length))) else none := by
          intro g
          rw [get_heapBack]
          simp only [List.length_map, List.getElem?_map]
          split
          · split
            · rename_i hlt
              rw [List.getElem?_eq_getElem hlt]
              rfl
            · rfl
          · rfl
        have up : ∀ i, (fun g : Nm => if g.1 < sub.length then ρ g else ρ0 (g.1 - sub.length, g.2)) (sub.length + i, 0) = ρ0 (i, 0) := by
          intro i
          simp only
          rw [if_neg (by omega), show sub.length + i - sub.length = i by omega]
        have back : ∀ g k, get (heapBack (sub.map (fun _ => none)) (new.map (renB (shift sub.length)))) g = some k → ∃ i k0, g = (sub.length + i, 0) ∧ get (heapBack [] new) (i, 0) = some k0 ∧ k = renB (shift sub.length) k0 := by
          rintro ⟨x, y⟩ k hk
          rw [g2] at hk
          split at hk
          · rename_i h0
            split at hk
            · cases hk
            · rename_i hge
              obtain ⟨k0, e1, e2⟩ := Option.map_eq_some_iff.1 hk
              simp only at h0 hge e1
              subst h0
              refine ⟨x - sub.length, k0, by rw [show sub.length + (x - sub.length) = x by omega], ?_, e2.symm⟩
              rw [g0]
              simpa using e1
          · cases hk
        have forth : ∀ i k0, get (heapBack [] new) (i, 0) = some k0 → get (heapBack (sub.map (fun _ => none)) (new.map (renB (shift sub.length)))) (sub.length + i, 0) = some (renB (shift sub.length) k0) := by
          intro i k0 hk
          rw [g0] at hk
          rw [g2]
          simp only [if_true] at hk ⊢
          rw [if_neg (by omega), show sub.length + i - sub.length = i by omega, hk]
          rfl
        have hsz2 : ∀ k, (renB (shift sub.length) k).sz = k.sz ∧ (renB (shift sub.length) k).frz = k.frz ∧ (renB (shift sub.length) k).box = k.box := by
          intro k
          unfold renB
          split
          · exact ⟨rfl, rfl, rfl⟩
          · exact ⟨rfl, rfl, rfl⟩
        have hXX : XX (fun g : Nm => if g.1 < sub.length then ρ g else ρ0 (g.1 - sub.length, g.2)) (heapBack (sub.map (fun _ => none)) (new.map (renB (shift sub.length)))) = XX ρ0 (heapBack [] new) := by
          funext b o
          apply propext
          constructor
          · rintro ⟨g, k, a1, a2, a3⟩
            obtain ⟨i, k0, rfl, e1, rfl⟩ := back g k a1
            rw [up] at a2
            rw [(hsz2 k0).1, (hsz2 k0).2.1] at a3
            exact ⟨(i, 0), k0, e1, a2, a3⟩
          · rintro ⟨⟨i, y⟩, k, a1, a2, a3⟩
            have hy0 : y = 0 := by
              rw [g0] at a1
              by_cases h0 : y = 0
              · exact h0
              · simp [h0] at a1
            subst hy0
            refine ⟨(sub.length + i, 0), renB (shift sub.length) k, forth i k a1, by rw [up]; exact a2, ?_⟩
            rw [(hsz2 k).1, (hsz2 k).2.1]
            exact a3
        have hXU : XU Y (fun g : Nm => if g.1 < sub.length then ρ g else ρ0 (g.1 - sub.length, g.2)) (heapBack (sub.map (fun _ => none)) (new.map (renB (shift sub.length)))) = XU Y ρ0 (heapBack [] new) := by
          funext b o
          simp only [XU, hXX]
        have hdom0 : ∀ g b, ρ g = some b → g.1 < sub.length ∧ g.2 = 0 := by
          intro g b hg
          have hd := hr.dom g b hg
          simp only [List.getD_eq_getElem?_getD, heapOf, List.getElem?_map] at hd
          by_cases hlt : g.1 < sub.length
          · rw [List.getElem?_eq_getElem hlt] at hd
            simp at hd
            exact ⟨hlt, hd⟩
          · rw [List.getElem?_eq_none (by omega)] at hd
            simp at hd
        refine ⟨fun g : Nm => if g.1 < sub.length then ρ g else ρ0 (g.1 - sub.length, g.2), trivial, ⟨fun g k hg => ?_, fun g g' k k' b hg hg' hb hb' => ?_, fun g b hb => ?_, fun g b hb => ?_, fun g k b o hg hb => ?_, h1.ylt⟩, ?_, ?_, fun g b hg => ?_⟩
        · obtain ⟨i, k0, rfl, e1, rfl⟩ := back g k hg
          rcases h1.blk (i, 0) k0 e1 with ⟨n1, n2, n3⟩ | ⟨b, n1, n2⟩
          · left
            refine ⟨(up i).trans n1, ?_, ?_⟩
            · unfold renB; rw [n3]; exact n2
            · rw [(hsz2 k0).2.2]; exact n3
          · right
            refine ⟨b, (up i).trans n1, ?_⟩
            rw [hXU]
            exact BlkAt.ren shift_moves n2
        · obtain ⟨i, k0, rfl, e1, rfl⟩ := back g k hg
          obtain ⟨i', k0', rfl, e1', rfl⟩ := back g' k' hg'
          replace hb := (up _).symm.trans hb
          replace hb' := (up _).symm.trans hb'
          have := h1.inj (i, 0) (i', 0) k0 k0' b e1 e1' hb hb'
          cases this
          rfl
        · split at hb
          · rename_i hlt
            have := (hdom0 g b hb).2
            rw [this]
            simp only [List.getD_eq_getElem?_getD, heapBack]
            rw [List.getElem?_append_left (by simpa using hlt)]
            simp [List.getElem?_eq_getElem hlt]
          · rename_i hge
            have := h1.dom _ b hb
            simp only [List.getD_eq_getElem?_getD, heapBack] at this ⊢
            rw [List.getElem?_append_right (by simp; omega)]
            simp only [List.length_map, List.getElem?_map] at this ⊢
            simp only [List.map_nil, List.nil_append, List.getElem?_map] at this
            cases hn2 : new[g.1 - sub.length]? with
            | none => rw [hn2] at this; simp at this
            | some q => rw [hn2] at this; simpa using this
        · split at hb
          · exact Nat.lt_of_lt_of_le (hr.lt g b hb) hst.size
          · exact h1.lt _ b hb
        · obtain ⟨i, k0, rfl, e1, rfl⟩ := back g k hg
          replace hb := (up _).symm.trans hb
          exact h1.sep (i, 0) k0 b o e1 hb
        · rw [hXU]
          exact renV_rel shift_moves hv3
        · rw [hXX]
          exact hst
        · show (if g.1 < sub.length then ρ g else ρ0 (g.1 - sub.length, g.2)) = some b
          rw [if_pos (hdom0 g b hg).1]
          exact hg
      · cases hfin
    · cases hfin
  refine calls_of_wp hfn hbody ?_
  refine hto Y _ w ρ _ hstart (fun a' w' ρ' h1 h2 => ?_)
  rcases he with rfl | rfl
  · exact main s1 a' w' ρ' hfin h1 h2
  · exact main s1 a' w' ρ' hfin h1 h2

end
end Go.Abs
