/- One operation of the model, whatever it is. -/
import Derived.Test.YtcblbcpnfidndaaPwL
set_option linter.unusedSimpArgs false
set_option linter.unusedVariables false
namespace Go.Abs
open Go

section
variable {P : Program} {Y : XT} {w : World} {ρ : Rho} {H : Heap} {a : Act} {fr : Fr}

theorem putAll_nil (H : Heap) : putAll H [] = H := rfl

theorem newGroup_false {H H' : Heap} {slot : Nat} {new : List Blk} (h : newGroup H slot false new = some H') : new = [] ∧ H' = H := by
  unfold newGroup at h
  simp only [Bool.false_eq_true, if_false] at h
  split at h
  · rename_i hn
    cases h
    exact ⟨by simpa using hn, rfl⟩
  · cases h

theorem newGroup_true {H H' : Heap} {slot : Nat} {new : List Blk} (h : newGroup H slot true new = some H') : H' = H.set slot (new.map some) := by
  unfold newGroup at h
  simp only [if_true, Option.some.injEq] at h
  exact h.symm

/-- A value that is only read off. -/
theorem made_read (hr : HR Y w ρ H) {slot : Nat} {mk : Bool} {r : Res} {H' : Heap} {v : Value} (hf : mk = true → Free H slot) (hwr : r.wr = []) (hnew : r.new = []) (hv : VR w (XU Y ρ H) ρ v r.val)
    (h : newGroup (putAll H r.wr) slot mk r.new = some H') : Made Y w ρ H w ρ H' v r.val := by
  rw [hwr, hnew] at h
  cases mk with
  | false =>
    obtain ⟨_, rfl⟩ := newGroup_false h
    exact ⟨hr, hv, Stable.refl _ _, fun _ _ h => h⟩
  | true =>
    have e := newGroup_true h
    subst e
    obtain ⟨h1, h2⟩ := hr.none_new (hf rfl)
    exact ⟨h1, hv.mono (h2.xu Y) (fun _ _ h => h), h2, fun _ _ h => h⟩

theorem made_still (hr : HR Y w ρ H) {slot : Nat} {r : Res} {H' : Heap} {v : Value} (hs : Still Y w ρ H r v) (h : newGroup (putAll H r.wr) slot false r.new = some H') : Made Y w ρ H w ρ H' v r.val := by
  obtain ⟨_, rfl⟩ := newGroup_false h
  exact ⟨hr.less hs.less, hs.val, hs.less.st, fun _ _ h => h⟩

/-! ### Maps from numbers -/

theorem mpTy_un {t et : TypeId} (h : mpTy P t = some et) : ∃ kt, P.underlying t = some (.map kt et) ∧ P.underlying kt = some (.int .i64) := by
  unfold mpTy at h
  split at h
  · rename_i kt et' hu
    split at h
    · rename_i hk
      cases h
      exact ⟨kt, hu, hk⟩
    · cases h
  · cases h

theorem mp_find (n : Int) {L : List MapEntry} {xs : List AV} (h : MapAt L xs) : ∀ i : Nat,
    (∃ j v x, Instr.findNow (.int .i64) (.int .i64 n) L i = some (some (j, v)) ∧ mpFind n xs = some x ∧ ∀ w X, PR w X v x) ∨ (Instr.findNow (.int .i64) (.int .i64 n) L i = some none ∧ mpFind n xs = none) := by
  induction h with
  | nil => intro i; exact .inr ⟨rfl, rfl⟩
  | cons e k x es xs hk hx hv _ ih =>
    intro i
    by_cases hn : n = k
    · refine .inl ⟨i, e.val, x, ?_, ?_, hv⟩
      · simp [Instr.findNow, Instr.sameNow, hk, hn]
      · simp [mpFind, hn]
    · have hstep : Instr.findNow (.int .i64) (.int .i64 n) (e :: es) i = Instr.findNow (.int .i64) (.int .i64 n) es (i + 1) := by
        have hb : (n == k) = false := by simpa using hn
        simp only [Instr.findNow, Instr.sameNow, hk, if_true, hb]
      have hf : mpFind n (.agg [.int .i64 k, x] :: xs) = mpFind n xs := by simp [mpFind, hn]
      rw [hf, hstep]
      exact ih (i + 1)

theorem mp_put (n : Int) {v : Value} {y : AV} (hy : okS y = true) (hv' : ∀ w X, PR w X v y) {L : List MapEntry} {xs : List AV} (h : MapAt L xs) : ∀ i : Nat,
    (∃ (p : Nat) (e : MapEntry), Instr.findNow (.int .i64) (.int .i64 n) L i = some (some (i + p, e.val)) ∧ L[p]? = some e ∧ e.key = .int .i64 n ∧ MapAt (L.modify p fun e => { e with key := .int .i64 n, val := v }) (mpPut n y xs)) ∨
    (Instr.findNow (.int .i64) (.int .i64 n) L i = some none ∧ ∀ e' : MapEntry, e'.key = .int .i64 n → e'.val = v → MapAt (L ++ [e']) (mpPut n y xs)) := by
  induction h with
  | nil => intro i; exact .inr ⟨rfl, fun e' h1 h2 => .cons e' n y [] [] h1 hy (by rw [h2]; exact hv') .nil⟩
  | cons e k x es xs hk hx hv hm ih =>
    intro i
    by_cases hn : n = k
    · refine .inl ⟨0, e, ?_, rfl, by rw [hk, hn], ?_⟩
      · simp [Instr.findNow, Instr.sameNow, hk, hn]
      · have e1 : mpPut n y (.agg [.int .i64 k, x] :: xs) = .agg [.int .i64 k, y] :: xs := by simp [mpPut, hn]
        rw [e1]
        exact .cons _ k y es xs (by rw [← hn]) hy hv' hm
    · have hstep : Instr.findNow (.int .i64) (.int .i64 n) (e :: es) i = Instr.findNow (.int .i64) (.int .i64 n) es (i + 1) := by
        have hb : (n == k) = false := by simpa using hn
        simp only [Instr.findNow, Instr.sameNow, hk, if_true, hb]
      have hf : mpPut n y (.agg [.int .i64 k, x] :: xs) = .agg [.int .i64 k, x] :: mpPut n y xs := by simp [mpPut, hn]
      rw [hf, hstep]
      rcases ih (i + 1) with ⟨p, e0, h1, h2, h3, h4⟩ | ⟨h1, h2⟩
      · refine .inl ⟨p + 1, e0, by rw [h1]; congr 3; omega, h2, h3, ?_⟩
        exact .cons e k x _ _ hk hx hv h4
      · exact .inr ⟨h1, fun e' a b => .cons e k x _ _ hk hx hv (h2 e' a b)⟩

theorem mp_ref (hr : HR Y w ρ H) {m : AV} {g : Nm} {k : Blk} {mv : Value} (h : mpBlk H m = some (g, k)) (hv : VR w (XU Y ρ H) ρ mv m) :
    ∃ b es cl, mv = .map (some b) ∧ ρ g = some b ∧ get H g = some k ∧ k.sz = 0 ∧ k.box = false ∧ w.heap[b]? = some (.map es cl) ∧ MapAt es.toList k.elems := by
  unfold mpBlk at h
  split at h
  · rename_i g'
    split at h
    · rename_i b' hg
      split at h
      · rename_i hc
        cases h
        cases hv with
        | pur v x h => cases h
        | ptr _ _ _ _ _ hs => omega
        | mp _ b hρ =>
          obtain ⟨m1, m2, es, cl, m3, m4⟩ := (hr.at hg hρ).map hc.1
          exact ⟨b, es, cl, rfl, hρ, hg, m1, m2, m3, m4⟩
      · cases h
    · cases h
  · cases h

theorem run_keyOk {P : Program} {kt : TypeId} (hkt : P.underlying kt = some (.int .i64)) (b : Bool) (n : Int) (w : World) : (Instr.checkKey b 10000 kt (.int .i64 n)).run P w = .ok () w := by
  rw [show (10000 : Nat) = 9999 + 1 from rfl]
  unfold Instr.checkKey
  cases b <;> (simp only [Sem.run_bind, run_underlying hkt, Result.andThen_ok]; rfl)

theorem opLookupM_sound (hr : HR Y w ρ H) {t : TypeId} {m k : AV} {mv kv : Value} {ok : Bool} {r : Res} (hm : VR w (XU Y ρ H) ρ mv m) (hk : VR w (XU Y ρ H) ρ kv k) (h : opLookupM P t m k ok H = some r) :
    r.wr = [] ∧ r.new = [] ∧ ∃ u, (Instr.lookup t mv kv ok).run P w = .ok u w ∧ VR w (XU Y ρ H) ρ u r.val := by
  unfold opLookupM at h
  split at h
  · rename_i et g b n h1 h2
    split at h
    · rename_i z hz
      split at h
      · rename_i hzs
        cases h
        refine ⟨rfl, rfl, ?_⟩
        have hkv := hk.intInv
        subst hkv
        obtain ⟨kt, hu, hkt⟩ := mpTy_un h1
        obtain ⟨bb, es, cl, rfl, hρ, hg, _, _, hobj, hmap⟩ := mp_ref hr h2 hm
        obtain ⟨zv, hz1, hz2, _⟩ := run_tzero hz w
        have hgo : (getObj bb).run P w = .ok (.map es cl) w := by simp [getObj, Sem.run, hobj]
        have hck := run_keyOk hkt es.isEmpty n w
        rcases mp_find n hmap 0 with ⟨j, v, x, q1, q2, q3⟩ | ⟨q1, q2⟩
        · have hfk : (Instr.findKey kt (.int .i64 n) es.toList).run P w = .ok (some (j, v)) w := by
            simp [Instr.findKey, run_underlying hkt, q1]
          refine ⟨if ok then .tuple #[v, .bool true] else v, ?_, ?_⟩
          · simp [Instr.lookup, run_underlying hu, hgo, hck, hfk]
          · rw [q2]
            cases ok
            · exact .pur _ _ (q3 _ _)
            · simp only [if_true, Option.getD_some, Option.isSome_some]
              refine .tup _ _ rfl (fun i x hi => ?_)
              match i, hi with
              | 0, hi => simp at hi; subst hi; exact .pur _ _ (q3 _ _)
              | 1, hi => simp at hi; subst hi; exact .pur _ _ (.bool _)
        · have hfk : (Instr.findKey kt (.int .i64 n) es.toList).run P w = .ok none w := by
            simp [Instr.findKey, run_underlying hkt, q1]
          have hzr : VR w (XU Y ρ H) ρ zv z := by rw [hz2]; exact .pur _ _ (cv_rel w _ zv)
          refine ⟨if ok then .tuple #[zv, .bool false] else zv, ?_, ?_⟩
          · simp [Instr.lookup, run_underlying hu, hgo, hck, hfk, hz1]
          · rw [q2]
            cases ok
            · exact hzr
            · simp only [if_true, Option.getD_none, Option.isSome_none]
              refine .tup _ _ rfl (fun i x hi => ?_)
              match i, hi with
              | 0, hi => simp at hi; subst hi; exact hzr
              | 1, hi => simp at hi; subst hi; exact .pur _ _ (.bool _)
      · cases h
    · cases h
  · cases h

theorem okS_pr {v : Value} {x : AV} {X : XT} (h : VR w X ρ v x) (hx : okS x = true) : ∀ w' X', PR w' X' v x := by
  intro w' X'
  cases x with
  | bool b => rw [h.boolInv]; exact .bool b
  | int k n => rw [h.intInv]; exact .int k n
  | str s => rw [h.strInv]; exact .str s
  | _ => cases hx

theorem opMapUpdate_sound (hr : HR Y w ρ H) {t : TypeId} {m k x : AV} {mv kv v : Value} {r : Res} (hm : VR w (XU Y ρ H) ρ mv m) (hk : VR w (XU Y ρ H) ρ kv k) (hx : VR w (XU Y ρ H) ρ v x) (h : opMapUpdate P t m k x H = some r) :
    r.new = [] ∧ r.val = .tup [] ∧ ∃ w', (Instr.mapUpdate t mv kv v).run P w = .ok () w' ∧ HR Y w' ρ (putAll H r.wr) ∧ Stable w (XX ρ H) w' (XX ρ (putAll H r.wr)) := by
  unfold opMapUpdate at h
  split at h
  · rename_i et g b n h1 h2
    split at h
    · rename_i hxs
      cases h
      refine ⟨rfl, rfl, ?_⟩
      have hkv := hk.intInv
      subst hkv
      obtain ⟨kt, hu, hkt⟩ := mpTy_un h1
      obtain ⟨bb, es, cl, rfl, hρ, hg, hsz, hbx, hobj, hmap⟩ := mp_ref hr h2 hm
      have hlt : bb < w.heap.size := hr.lt _ _ hρ
      have hgo : (getObj bb).run P w = .ok (.map es cl) w := by simp [getObj, Sem.run, hobj]
      have hck := run_keyOk hkt false n w
      have fin : ∀ (es1 : Array MapEntry) (c1 : Nat), MapAt es1.toList (mpPut n x b.elems) →
          HR Y { w with heap := w.heap.setIfInBounds bb (.map es1 c1) } ρ (set H g (some { b with elems := mpPut n x b.elems })) ∧ Stable w (XX ρ H) { w with heap := w.heap.setIfInBounds bb (.map es1 c1) } (XX ρ (set H g (some { b with elems := mpPut n x b.elems }))) := by
        intro es1 c1 hm1
        exact hr.writeM (es1 := es1) (cl1 := c1) hg hρ rfl rfl rfl (by simp) (fun i hi => by simp only [Array.getElem?_setIfInBounds]; rw [if_neg (fun e => hi e.symm)]) hobj (by simp [hlt]) hsz hsz hbx hm1
      rcases mp_put n hxs (okS_pr hx hxs) hmap 0 with ⟨p, e, q1, q2, q3, q4⟩ | ⟨q1, q2⟩
      · rw [Nat.zero_add] at q1
        have hfk : (Instr.findKey kt (.int .i64 n) es.toList).run P w = .ok (some (p, e.val)) w := by
          simp [Instr.findKey, run_underlying hkt, q1]
        have hep : es[p]? = some e := by simpa using q2
        have hks : (Instr.keyThatStays (((es[p]?).map (·.key)).getD (.int .i64 n)) (.int .i64 n)).run P w = .ok (.int .i64 n) w := by
          rw [hep]
          simp [q3, Instr.keyThatStays, Instr.sameBits]
        obtain ⟨f1, f2⟩ := fin (es.modify p fun e => { e with key := .int .i64 n, val := v }) cl (by simpa using q4)
        refine ⟨_, ?_, f1, f2⟩
        simp [Instr.mapUpdate, run_underlying hu, hgo, hck, hfk, hks, setObj, Sem.run, hobj]
      · have hfk : (Instr.findKey kt (.int .i64 n) es.toList).run P w = .ok none w := by
          simp [Instr.findKey, run_underlying hkt, q1]
        obtain ⟨f1, f2⟩ := fin (es.push { key := .int .i64 n, val := v, born := cl }) (cl + 1) (by simpa using q2 _ rfl rfl)
        refine ⟨_, ?_, f1, f2⟩
        simp [Instr.mapUpdate, run_underlying hu, hgo, hck, hfk, setObj, Sem.run, hobj]
    · cases h
  · cases h

theorem partsRel (hf : FR w (XU Y ρ H) ρ a.tmps fr) (ps : Array (Nat × Operand)) : PartsRel w (XU Y ρ H) ρ (ps.map fun (i, x) => (i, a.eval x)).toList (partsOf fr ps) := by
  refine ⟨by simp [partsOf], fun n i x hx => ?_⟩
  unfold partsOf at hx
  obtain ⟨q, hq, he⟩ := getElem?_map' _ _ hx
  obtain ⟨j, o⟩ := q
  simp only [Prod.mk.injEq] at he
  obtain ⟨rfl, rfl⟩ := he
  refine ⟨a.eval o, ?_, evO_rel hf o⟩
  simp only [Array.toList_map, List.getElem?_map, hq, Option.map_some]

theorem oRel (hf : FR w (XU Y ρ H) ρ a.tmps fr) (o : Option Operand) : ORel w (XU Y ρ H) ρ (o.map (evO fr)) (o.map a.eval) := by
  cases o with
  | none => trivial
  | some x => exact evO_rel hf x

/-- The operation gives a value, and leaves a world. -/
theorem wp_value {o : Oper} {K : Act → World → Prop} {Q : Exit → Act → World → Prop} {v : Value} {w' : World} (h : (execOp a.eval o).run P w = .ok (.value v) w') (hK : K (a.put o.dst v) w') : o.wp P a w K Q := by
  unfold Oper.wp
  rw [h]
  exact hK

theorem wp_skip' {o : Oper} {K : Act → World → Prop} {Q : Exit → Act → World → Prop} {w' : World} (h : (execOp a.eval o).run P w = .ok .skip w') (hK : K (a.put o.dst undef) w') : o.wp P a w K Q := by
  unfold Oper.wp
  rw [h]
  exact hK

theorem run_v {s : Sem Value} {v : Value} {w' : World} (h : s.run P w = .ok v w') : (do pure (.value (← s)) : Sem Next).run P w = .ok (.value v) w' := by
  simp [h]

theorem boolIte_rel {X : XT} {v u : Value} {x y : AV} (hx : VR w X ρ v x) (hy : VR w X ρ u y) (p : Bool) : VR w X ρ (if p then v else u) (boolIte p x y) := by
  have other : VR w X ρ (if p then v else u) (if p then x else y) := by cases p <;> assumption
  cases x <;> cases y <;> first
    | exact other
    | (rw [hx.boolInv, hy.boolInv]; cases p <;> exact .pur _ _ (.bool _))

theorem VR.lpInv {X : XT} {v : Value} {sz : Nat} {xs : List AV} {i off : Nat} (h : VR w X ρ v (.lp sz xs i off)) : ∃ b o, v = .pointer (some ⟨b, o, none⟩) := by
  cases h with
  | pur v x h =>
    cases h with
    | lp b o _ _ _ _ f h1 h2 h3 => exact ⟨b, _, rfl⟩

theorem opCall_some {share : Bool} {call : List AV → List Blk → Option Out} {args : List AV} {H : Heap} {slot : Nat} {r : Res} (h : opCall share call args H slot = some r) : ∃ args' sub out, call args' sub = some out := by
  unfold opCall at h
  simp only at h
  generalize (if share then [] else args.flatMap lentNames) = lent at h
  generalize reach H (args.flatMap (if share then fun v => seedsV v ++ lentNames v else seedsV)) = R at h
  split at h
  · cases h
  · split at h
    · rename_i args' sub _ _
      cases hq : call args' sub with
      | none => simp [hq] at h
      | some out => exact ⟨args', sub, out, hq⟩
    · cases h

theorem step_wp {N : FuncId → Note} {call : CL} (hS : Sound P call) {o : Oper} {slot : Nat} {r : Res} {K : Act → World → Prop} {Q : Exit → Act → World → Prop} (hr : HR Y w ρ H) (hf : FR w (XU Y ρ H) ρ a.tmps fr)
    (h : stepOp P N call o fr H slot = some r) (hfree : makes o.op = true → Free H slot) {H' : Heap} (hH : newGroup (putAll H r.wr) slot (makes o.op) r.new = some H')
    (hK : ∀ v w' ρ', Made Y w ρ H w' ρ' H' v r.val → K (a.put o.dst v) w') : o.wp P a w K Q := by
  obtain ⟨dst, op, ty, pos, after, guard⟩ := o
  have ev : ∀ x, VR w (XU Y ρ H) ρ (a.eval x) (evO fr x) := fun x => evO_rel hf x
  -- the ways to close
  have quiet : ∀ (s : Sem Value) (y : AV), (execOp a.eval ⟨dst, op, ty, pos, after, guard⟩ = do pure (.value (← s))) → (∃ u, s.run P w = .ok u w ∧ VR w (XU Y ρ H) ρ u y) → r = { val := y } →
      Oper.wp P ⟨dst, op, ty, pos, after, guard⟩ a w K Q := by
    intro s y h1 ⟨u, h2, h3⟩ h4
    subst h4
    refine wp_value (v := u) (w' := w) (by rw [h1]; exact run_v h2) (hK u w ρ (made_read hr hfree rfl rfl h3 hH))
  have gives : ∀ (s : Sem Value), (execOp a.eval ⟨dst, op, ty, pos, after, guard⟩ = do pure (.value (← s))) → makes op = true → Gives P Y w ρ H slot r s → Oper.wp P ⟨dst, op, ty, pos, after, guard⟩ a w K Q := by
    intro s h1 hm ⟨v, w', ρ', h2, h3⟩
    have e : H' = _ := newGroup_true (by simpa [hm] using hH)
    subst e
    exact wp_value (v := v) (w' := w') (by rw [h1]; exact run_v h2) (hK v w' ρ' h3)
  have oneO : ∀ {y : Option AV}, one y = some r → ∃ z, y = some z ∧ r = { val := z } := by
    intro y hy
    unfold one at hy
    obtain ⟨z, hz, rfl⟩ := Option.map_eq_some_iff.1 hy
    exact ⟨z, hz, rfl⟩
  cases op with
  | move x =>
    simp only [stepOp, Option.some.injEq] at h
    subst h
    exact wp_value (v := a.eval x) (w' := w) rfl (hK _ w ρ (made_read hr hfree rfl rfl (ev x) hH))
  | assign x =>
    simp only [stepOp] at h
    unfold opAssign at h
    split at h
    · rename_i hx
      cases he : telem P ty with
      | none => simp [he] at h
      | some e =>
        cases hs : tsize P e with
        | none => simp [he, hs] at h
        | some size =>
          simp only [he, hs, Option.some.injEq] at h
          subst h
          have e : H' = _ := newGroup_true (by simpa [makes] using hH)
          subst e
          obtain ⟨h1, h2⟩ := hr.virt (hfree rfl) ⟨size, [], 0, false⟩ rfl rfl
          exact wp_value (v := .slice none 0 0) (w' := w) rfl (hK _ w ρ ⟨h1, .own0 _ _ _ _, h2, fun _ _ h => h⟩)
    · simp only [Option.some.injEq] at h
      subst h
      exact wp_value (v := a.eval x) (w' := w) rfl (hK _ w ρ (made_read hr hfree rfl rfl (ev x) hH))
  | pick c x y =>
    simp only [stepOp] at h
    split at h
    · rename_i p hc
      simp only [Option.some.injEq] at h
      subst h
      have hcv := ev c
      rw [hc] at hcv
      have hb := hcv.boolInv
      refine wp_value (v := if p then a.eval x else a.eval y) (w' := w) ?_ (hK _ w ρ (made_read hr hfree rfl rfl ?_ hH))
      · simp [execOp, asBool, hb]
      · exact boolIte_rel (ev x) (ev y) p
    · cases h
  | alloc t =>
    simp only [stepOp] at h
    cases hz : tzero P t with
    | none => simp [hz] at h
    | some z =>
      simp only [hz] at h
      obtain ⟨zv, hrun, hcv, _⟩ := run_tzero hz w
      have hzr : VR w (XU Y ρ H) ρ zv z := by rw [hcv]; exact .pur _ _ (cv_rel w _ zv)
      obtain ⟨k, h0, rfl, h1, h2, h3, h4⟩ := opBox_run (P := P) hr (hfree rfl) hzr h
      have e : H' = _ := newGroup_true (by simpa [makes] using hH)
      subst e
      refine wp_value (v := .pointer (some ⟨w.heap.size, 0, none⟩)) (w' := w.alloc (.cells zv.cells t)) ?_ (hK _ _ _ ⟨h2, VR.newPtr h0, h3, h4⟩)
      simp [execOp, Instr.alloc, hrun, h1]
  | box t x =>
    simp only [stepOp] at h
    obtain ⟨k, h0, rfl, h1, h2, h3, h4⟩ := opBox_run (P := P) hr (hfree rfl) (ev x) h
    have e : H' = _ := newGroup_true (by simpa [makes] using hH)
    subst e
    refine wp_value (v := .pointer (some ⟨w.heap.size, 0, none⟩)) (w' := w.alloc (.cells (a.eval x).cells t)) ?_ (hK _ _ _ ⟨h2, VR.newPtr h0, h3, h4⟩)
    simp [execOp, Instr.box, h1]
  | build t ps =>
    simp only [stepOp] at h
    obtain ⟨z, hz, rfl⟩ := oneO h
    exact quiet _ _ rfl (opBuild_sound (partsRel hf ps) hz) rfl
  | buildSlice t n ps =>
    simp only [stepOp] at h
    exact gives _ rfl rfl (opBuildSlice_sound hr (hfree rfl) (partsRel hf ps) h)
  | load t p =>
    simp only [stepOp] at h
    obtain ⟨h1, h2, u, h3, h4⟩ := opLoad_sound (P := P) hr (ev p) h
    exact wp_value (v := u) (w' := w) (run_v h3) (hK _ w ρ (made_read hr hfree h1 h2 h4 hH))
  | store t p x =>
    simp only [stepOp] at h
    obtain ⟨h1, h2, w', h3, h4, h5⟩ := opStore_sound (P := P) hr (ev p) (ev x) h
    obtain ⟨_, rfl⟩ := newGroup_false hH
    refine wp_skip' (w' := w') (by simp [execOp, h3]) (hK undef w' ρ ⟨h4, ?_, h5, fun _ _ h => h⟩)
    rw [h2]
    exact .tup #[] [] rfl (fun i x hx => by simp at hx)
  | nilCheck x =>
    have hx := ev x
    simp only [stepOp] at h
    split at h
    · rename_i g sz i off he
      split at h
      case isFalse => cases h
      rename_i hs0
      cases h
      rw [he] at hx
      obtain ⟨b, hb, hρ⟩ := hx.ptrInv hs0
      refine wp_value (v := a.eval x) (w' := w) ?_ (hK _ w ρ (made_read hr hfree rfl rfl hx hH))
      simp [execOp, hb]
    · rename_i sz xs i off he
      cases h
      rw [he] at hx
      obtain ⟨b, o, hb⟩ := hx.lpInv
      refine wp_value (v := a.eval x) (w' := w) ?_ (hK _ w ρ (made_read hr hfree rfl rfl hx hH))
      simp [execOp, hb]
    · cases h
  | binOp op t x y yt =>
    simp only [stepOp] at h
    obtain ⟨z, hz, rfl⟩ := oneO h
    exact quiet _ _ rfl (opBin3_sound (ev x) (ev y) (fun c hc => by subst hc; rfl) hz) rfl
  | unOp op t x =>
    simp only [stepOp] at h
    obtain ⟨z, hz, rfl⟩ := oneO h
    exact quiet _ _ rfl (opUn_sound (ev x) hz) rfl
  | convert t u x =>
    simp only [stepOp] at h
    obtain ⟨z, hz, rfl⟩ := oneO h
    exact quiet _ _ rfl (opConvert_sound (ev x) hz) rfl
  | makeFunc fn first caps =>
    cases fn with
    | func f =>
      simp only [stepOp] at h
      split at h
      · rename_i hfst
        cases h
        have hfirst : first = #[] := by simpa using hfst
        subst hfirst
        refine wp_value (v := .func (.func f) #[] (caps.map a.eval)) (w' := w) (by simp [execOp, Instr.makeFunc]) (hK _ w ρ (made_read hr hfree rfl rfl (.clo _ _ _ (by simp) (fun i x hx => ?_)) hH))
        obtain ⟨q, hq, rfl⟩ := getElem?_map' _ _ hx
        have : (caps.map a.eval).getD i undef = a.eval q := by
          simp at hq
          simp [Array.getD_eq_getD_getElem?, hq]
        rw [this]
        exact ev q
      · cases h
    | _ => simp [stepOp] at h
  | makeSlice t l c =>
    simp only [stepOp] at h
    exact gives _ rfl rfl (opMakeSlice_sound hr (hfree rfl) (ev l) (ev c) h)
  | slice t x lo hi mx =>
    simp only [stepOp] at h
    obtain ⟨u, h1, h2⟩ := opSlice_sound (P := P) hr (ev x) (oRel hf lo) (oRel hf hi) (oRel hf mx) h
    exact wp_value (v := u) (w' := w) (run_v h1) (hK _ w ρ (made_still hr h2 hH))
  | fieldAddr t x f =>
    simp only [stepOp] at h
    obtain ⟨z, hz, rfl⟩ := oneO h
    exact quiet _ _ rfl (opFieldAddr_sound (ev x) hz) rfl
  | field t x f =>
    simp only [stepOp] at h
    obtain ⟨z, hz, rfl⟩ := oneO h
    exact quiet _ _ rfl (opField_sound (ev x) hz) rfl
  | indexAddr t x i =>
    simp only [stepOp] at h
    obtain ⟨z, hz, rfl⟩ := oneO h
    exact quiet _ _ rfl (opIndexAddr_sound (ev x) (ev i) hz) rfl
  | index t x i =>
    simp only [stepOp] at h
    obtain ⟨z, hz, rfl⟩ := oneO h
    exact quiet _ _ rfl (opIndex_sound (ev x) (ev i) hz) rfl
  | lookup t m k ok =>
    simp only [stepOp] at h
    split at h
    · rename_i z hz
      cases h
      exact quiet _ _ rfl (opLookup_sound (ev m) (ev k) hz) rfl
    · obtain ⟨h1, h2, u, h3, h4⟩ := opLookupM_sound (P := P) hr (ev m) (ev k) h
      exact wp_value (v := u) (w' := w) (run_v h3) (hK _ w ρ (made_read hr hfree h1 h2 h4 hH))
  | mapUpdate t m k x =>
    simp only [stepOp] at h
    obtain ⟨h1, h2, w', h3, h4, h5⟩ := opMapUpdate_sound (P := P) hr (ev m) (ev k) (ev x) h
    obtain ⟨_, rfl⟩ := newGroup_false hH
    refine wp_skip' (w' := w') (by simp [execOp, h3]) (hK undef w' ρ ⟨h4, ?_, h5, fun _ _ h => h⟩)
    rw [h2]
    exact .tup #[] [] rfl (fun i x hx => by simp at hx)
  | makeMap t res =>
    cases res with
    | some x => simp [stepOp] at h
    | none =>
      simp only [stepOp, Option.some.injEq] at h
      subst h
      have e : H' = _ := newGroup_true (by simpa [makes] using hH)
      subst e
      obtain ⟨h1, h2, h3⟩ := hr.new' (hfree rfl) (w1 := w.alloc (.map #[] 0)) (b := w.heap.size) (Nat.le_refl _) (by simp) rfl rfl rfl (fun i hi => heap_alloc_old w _ i hi) ⟨0, [], 0, false⟩ (.inr ⟨rfl, rfl, #[], 0, heap_alloc_new w _, .nil⟩)
      refine wp_value (v := .map (some w.heap.size)) (w' := w.alloc (.map #[] 0)) ?_ (hK _ _ _ ⟨h1, .mp _ _ (by simp [upd]), h2, h3⟩)
      simp [execOp, Instr.makeMap]
  | extract x i =>
    have hx := ev x
    simp only [stepOp] at h
    split at h
    · rename_i vs he
      cases hi : vs[i]? with
      | none => simp [hi] at h
      | some y =>
        simp only [hi, Option.some.injEq] at h
        subst h
        rw [he] at hx
        obtain ⟨cs, hcs, hn, hc⟩ := hx.tupInv
        have hlt : i < cs.size := by rw [hn]; exact (List.getElem?_eq_some_iff.1 hi).1
        have hy := hc i y hi
        refine wp_value (v := cs.getD i undef) (w' := w) ?_ (hK _ w ρ (made_read hr hfree rfl rfl hy hH))
        simp [execOp, Instr.extract, hcs, hlt, Array.getD_eq_getD_getElem?]
    · cases h
  | call c =>
    obtain ⟨callee, args, argTypes⟩ := c
    cases callee with
    | value f =>
      have hx := ev f
      simp only [stepOp] at h
      split at h
      · rename_i fn caps he
        rw [he] at hx
        have e : H' = _ := newGroup_true (by simpa [makes] using hH)
        subst e
        generalize hfv : a.eval f = fv at hx
        cases hx with
        | pur v y hp => cases hp
        | clo _ cs _ hn hc =>
          have hent := opCall_some h
          obtain ⟨args', sub, out, hq⟩ := hent
          have hentered := (hS fn args' sub out hq).1
          have hcalls := opCall_sound (P := P) hr (hfree rfl) (fun args sub out hh => (hS fn args sub out hh).2) (args := args.toList.map (evO fr) ++ caps) (vals := args.map a.eval ++ cs) (by simp [hn]) (fun i x hx => by
            rcases Nat.lt_or_ge i args.size with hi | hi
            · rw [List.getElem?_append_left (by simpa using hi)] at hx
              obtain ⟨q, hq, rfl⟩ := getElem?_map' _ _ hx
              have : (args.map a.eval ++ cs).getD i undef = a.eval q := by
                have hq2 : args[i]? = some q := by simpa using hq
                simp only [Array.getD_eq_getD_getElem?]
                rw [Array.getElem?_append_left (by simpa using hi), Array.getElem?_map, hq2]
                rfl
              rw [this]
              exact ev q
            · rw [List.getElem?_append_right (by simpa using hi)] at hx
              simp only [List.length_map, Array.length_toList] at hx
              have : (args.map a.eval ++ cs).getD i undef = cs.getD (i - args.size) undef := by
                simp only [Array.getD_eq_getD_getElem?]
                rw [Array.getElem?_append_right (by simpa using hi)]
                simp
              rw [this]
              exact hc _ x hx) h
          have hrun : (execOp a.eval ⟨dst, .call ⟨.value f, args, argTypes⟩, ty, pos, after, guard⟩).run P w = .ok (.enter fn (args.map a.eval ++ cs)) w := by
            simp [execOp, resolve, hfv, Deferred.ofValue, invoke, hentered _ w]
          unfold Oper.wp
          rw [hrun, Oper.upon_enter]
          refine hcalls.mono fun e w'' hh => ?_
          obtain ⟨v, ρ', rfl, hm⟩ := hh
          exact hK v w'' ρ' hm
      · cases h
    | invoke => simp [stepOp] at h
    | builtin b =>
      cases b with
      | len =>
        simp only [stepOp] at h
        split at h
        · rename_i x t hx ht
          obtain ⟨z, hz, rfl⟩ := oneO h
          have e1 : args = #[x] := by apply Array.ext'; simpa using hx
          have e2 : argTypes = #[t] := by apply Array.ext'; simpa using ht
          subst e1 e2
          obtain ⟨u, h1, h2⟩ := opLen_sound (P := P) (ev x) hz ty
          refine wp_value (v := u) (w' := w) ?_ (hK _ w ρ (made_read hr hfree rfl rfl h2 hH))
          simp [execOp, resolve, invoke, builtin, h1]
        · cases h
      | append =>
        simp only [stepOp] at h
        split at h
        · rename_i s x t t' hx ht
          split at h
          · rename_i htt
            subst htt
            have e1 : args = #[s, x] := by apply Array.ext'; simpa using hx
            have e2 : argTypes = #[t, t] := by apply Array.ext'; simpa using ht
            subst e1 e2
            refine gives _ ?_ rfl (opAppend_sound (P := P) (ty := ty) hr (hfree rfl) (ev s) (ev x) h)
            simp [execOp, resolve, invoke, builtin]
          · cases h
        · cases h
      | copy =>
        simp only [stepOp] at h
        split at h
        · rename_i d x t t' hx ht
          have e1 : args = #[d, x] := by apply Array.ext'; simpa using hx
          have e2 : argTypes = #[t, t'] := by apply Array.ext'; simpa using ht
          subst e1 e2
          obtain ⟨_, v, w', h3, h4, h5, h6⟩ := opCopy_sound (P := P) (t' := t') (ty := ty) hr (ev d) (ev x) h
          obtain ⟨_, rfl⟩ := newGroup_false hH
          refine wp_value (v := v) (w' := w') ?_ (hK v w' ρ ⟨h4, h6, h5, fun _ _ h => h⟩)
          simp [execOp, resolve, invoke, builtin, h3]
        · cases h
      | clear =>
        simp only [stepOp] at h
        split at h
        · rename_i d t hx ht
          have e1 : args = #[d] := by apply Array.ext'; simpa using hx
          have e2 : argTypes = #[t] := by apply Array.ext'; simpa using ht
          subst e1 e2
          obtain ⟨_, v, w', h3, h4, h5, h6⟩ := opClear_sound (P := P) (ty := ty) hr (ev d) h
          obtain ⟨_, rfl⟩ := newGroup_false hH
          refine wp_value (v := v) (w' := w') ?_ (hK v w' ρ ⟨h4, h6, h5, fun _ _ h => h⟩)
          simp [execOp, resolve, invoke, builtin, h3]
        · cases h
      | min =>
        simp only [stepOp] at h
        split at h
        · rename_i x r' hx
          obtain ⟨z, hz, rfl⟩ := oneO h
          cases hargs : args.toList with
          | nil => simp [hargs] at hx
          | cons o1 os =>
            rw [hargs] at hx
            simp only [List.map_cons, List.cons.injEq] at hx
            obtain ⟨rfl, rfl⟩ := hx
            obtain ⟨u, h1, h2⟩ := minA_sound (P := P) (w := w) (os.map (evO fr)) _ z (a.eval o1) (os.map a.eval) (ev o1) (by simp) (fun i y hy => by
              obtain ⟨q, hq, rfl⟩ := getElem?_map' _ _ hy
              exact ⟨a.eval q, by simp [hq], ev q⟩) hz
            refine wp_value (v := u) (w' := w) ?_ (hK _ w ρ (made_read hr hfree rfl rfl h2 hH))
            have : (args.map a.eval).toList = a.eval o1 :: os.map a.eval := by simp [hargs]
            simp [execOp, resolve, invoke, builtin, Builtin.min_, hargs, h1]
        · cases h
      | max =>
        simp only [stepOp] at h
        split at h
        · rename_i x r' hx
          obtain ⟨z, hz, rfl⟩ := oneO h
          cases hargs : args.toList with
          | nil => simp [hargs] at hx
          | cons o1 os =>
            rw [hargs] at hx
            simp only [List.map_cons, List.cons.injEq] at hx
            obtain ⟨rfl, rfl⟩ := hx
            obtain ⟨u, h1, h2⟩ := maxA_sound (P := P) (w := w) (os.map (evO fr)) _ z (a.eval o1) (os.map a.eval) (ev o1) (by simp) (fun i y hy => by
              obtain ⟨q, hq, rfl⟩ := getElem?_map' _ _ hy
              exact ⟨a.eval q, by simp [hq], ev q⟩) hz
            refine wp_value (v := u) (w' := w) ?_ (hK _ w ρ (made_read hr hfree rfl rfl h2 hH))
            simp [execOp, resolve, invoke, builtin, Builtin.max_, hargs, h1]
        · cases h
      | _ => simp [stepOp] at h
  | _ => simp [stepOp] at h

end
end Go.Abs
