/- A law: for every input the call returns true; each argument reads behind the call as it read before. -/
import Derived.Test.YtcblbcpnfidndaaPxI
set_option linter.unusedSimpArgs false
set_option linter.unusedVariables false
namespace Go.Abs
open Go

def datS : List Ty → Sh
  | [] => .nil
  | t :: r => .dat t (datS r)

def InRs : (ts : List Ty) → (datS ts).den → Prop
  | [], _ => True
  | t :: r, x => InR t x.1 ∧ InRs r x.2

section
variable {H : Type} {enc0 : TypeId × Value → H} {P : Program} {w : World} {sp : Nat → Bool} {held : Bool}

theorem agg_of {d : Nat} {t : TypeId} {ty : Ty} (h : tyOf P d t = some ty) : ty.agg = (match P.underlying t with | some (.struct _) | some (.array _ _) => true | _ => false) := by
  cases d with
  | zero => cases h
  | succ d =>
    unfold tyOf at h
    split at h
    · rename_i hu; cases h; rw [hu]; rfl
    · rename_i hu; cases h; rw [hu]; rfl
    · rename_i hu; cases h; rw [hu]; rfl
    · rename_i hu
      obtain ⟨te, _, rfl⟩ := Option.map_eq_some_iff.1 h
      rw [hu]; rfl
    · rename_i fs hu
      rw [hu]
      generalize fs.toList = l at h
      cases l with
      | nil => cases h; rfl
      | cons f r =>
        simp only [List.foldr_cons] at h
        split at h
        · cases h; rfl
        · cases h
    · rename_i n e hu
      rw [hu]
      split at h
      · cases h
        cases n <;> rfl
      · cases h
    · cases h

/-- An argument that is read is typed. -/
theorem arg_typed {d : Nat} {t : TypeId} {ty : Ty} (ht : tyOf P d t = some ty) (hl : layOK P d t = true) {v : Value} {y : DataW H} {ps : List MemPlace} (h : DataW.Trod enc0 P w 0 sp held t v y ps)
    {base : Nat} (hv : Value.okWide P w .any base t v) : ∃ x : ty.den, InR ty x ∧ PR w noX v (enc ty x) := by
  obtain ⟨fuel, hf⟩ := h
  obtain ⟨_, h2⟩ := trod_typed d t ty ht hl
  obtain ⟨hlen, x, hx, hc⟩ := h2 _ _ _ hf
  refine ⟨x, hx, ?_⟩
  have hagg := agg_of ht
  have cellwise : ∀ cs : Array Value, v = .agg cs → PR w noX v (.agg (encC ty x)) := by
    intro cs e
    subst e
    simp only [Value.cells] at hlen hc
    refine .agg cs _ (by rw [length_encC, ← hlen]; simp) (fun i hi => ?_) (fun i u hu => ?_)
    · obtain ⟨c, h3, h4, _⟩ := hc i ((encC ty x)[i]'(by rw [length_encC, ← hlen]; simpa using hi)) (List.getElem?_eq_getElem _)
      rw [Nat.zero_add] at h3
      have : cs.getD i undef = c := by
        simp only [Array.getD_eq_getD_getElem?]
        have : cs[i]? = some c := by simpa using h3
        rw [this]; rfl
      rw [this]; exact h4
    · obtain ⟨c, h3, _, h5⟩ := hc i u hu
      rw [Nat.zero_add] at h3
      have : cs.getD i undef = c := by
        simp only [Array.getD_eq_getD_getElem?]
        have : cs[i]? = some c := by simpa using h3
        rw [this]; rfl
      rw [this]; exact h5
  have single : (∀ cs, v ≠ .agg cs) → ty.agg = false → PR w noX v (enc ty x) := by
    intro hn ha
    have hcs : v.cells.toList = [v] := by
      cases v <;> first | rfl | exact absurd rfl (hn _)
    rw [hcs] at hc
    have hl1 : (encC ty x).length = 1 := by rw [length_encC]; exact size_one ha
    obtain ⟨c, h3, _, h5⟩ := hc 0 ((encC ty x)[0]'(by omega)) (List.getElem?_eq_getElem _)
    simp at h3
    subst h3
    have one : ∀ (l : List AV) (h : l.length = 1), wrap false l = l[0]'(by omega) := by
      intro l h
      match l, h with
      | [a], _ => rfl
    have : enc ty x = (encC ty x)[0]'(by omega) := by
      unfold enc
      rw [ha]
      exact one _ hl1
    rw [this]; exact h5
  unfold Value.okWide at hv
  cases ha : ty.agg with
  | true =>
    rw [ha] at hagg
    have : enc ty x = .agg (encC ty x) := by unfold enc wrap; rw [ha]
    rw [this]
    split at hv
    · obtain ⟨cs, e, _⟩ := hv; exact cellwise cs e
    · obtain ⟨cs, e, _⟩ := hv; exact cellwise cs e
    · rename_i h1 h2
      split at hagg
      · rename_i e; exact absurd e (h1 _)
      · rename_i e; exact absurd e (h2 _ _)
      · cases hagg
  | false =>
    rw [ha] at hagg
    refine single (fun cs e => ?_) ha
    subst e
    split at hv
    · rename_i fs e; rw [e] at hagg; cases hagg
    · rename_i n e0 e; rw [e] at hagg; cases hagg
    · unfold Cell.okWide at hv
      split at hv <;> first | (rename_i e _; cases e; done) | (rename_i e; cases e; done) | skip
      unfold Cell.ok at hv
      split at hv <;> first | (rename_i e _; cases e; done) | (rename_i e; cases e; done) | exact hv

/-- All arguments. -/
theorem args_typed {d base : Nat} : ∀ (ts : List TypeId) (tys : List Ty) (vs : List Value) (ds : List (DataW H)) (ps : List MemPlace), ts.mapM (tyOf P d) = some tys → (ts.all fun t => layOK P d t) = true →
    DataW.TrodAll enc0 P w 0 sp held ts vs ds ps → (∀ (j : Nat) t v, ts[j]? = some t → vs[j]? = some v → Value.okWide P w .any base t v) →
    vs.length = tys.length ∧ ds.length = tys.length ∧ ∃ x : (datS tys).den, InRs tys x ∧ ∀ (ℓ : Lens) (i : Nat) (u : SV), ((datS tys).un x)[i]? = some u → ∃ v, vs[i]? = some v ∧ PR w noX v (dV ℓ u) := by
  intro ts
  induction ts with
  | nil =>
    intro tys vs ds ps h1 _ h2 _
    have h1 : tys = [] := by simpa using h1.symm
    subst h1
    cases vs <;> cases ds <;> simp [DataW.TrodAll] at h2
    exact ⟨rfl, rfl, (), trivial, fun ℓ i u hu => by simp [datS, Sh.un] at hu⟩
  | cons t r ih =>
    intro tys vs ds ps h1 hl h2 hv
    rw [List.mapM_cons] at h1
    cases ha : tyOf P d t with
    | none => simp [ha] at h1
    | some ty =>
      cases hb : r.mapM (tyOf P d) with
      | none => simp [ha, hb] at h1
      | some tr =>
        simp [ha, hb] at h1
        subst h1
        simp only [List.all_cons, Bool.and_eq_true] at hl
        cases vs with
        | nil => cases ds <;> simp [DataW.TrodAll] at h2
        | cons v vs =>
          cases ds with
          | nil => simp [DataW.TrodAll] at h2
          | cons y ds =>
            simp only [DataW.TrodAll] at h2
            obtain ⟨p, q, h3, h4, _⟩ := h2
            obtain ⟨x, hx1, hx2⟩ := arg_typed ha hl.1 h3 (hv 0 t v rfl rfl)
            obtain ⟨k1, k2, z, hz1, hz2⟩ := ih tr vs ds q hb hl.2 h4 (fun j t' v' e1 e2 => hv (j + 1) t' v' (by simpa using e1) (by simpa using e2))
            refine ⟨by simp [k1], by simp [k2], (x, z), ⟨hx1, hz1⟩, fun ℓ i u hu => ?_⟩
            cases i with
            | zero =>
              simp only [datS, Sh.un, List.getElem?_cons_zero, Option.some.injEq] at hu
              subst hu
              refine ⟨v, rfl, ?_⟩
              have : dV ℓ (unT ty x) = enc ty x := by
                rw [← unT_enc ty x ℓ]
                exact notTup_d (by cases ty <;> rfl) ℓ
              rw [this]; exact hx2
            | succ i =>
              obtain ⟨v', e1, e2⟩ := hz2 ℓ i u (by simpa [datS, Sh.un] using hu)
              exact ⟨v', by simpa using e1, e2⟩

theorem length_datS (tys : List Ty) (x : (datS tys).den) : ((datS tys).un x).length = tys.length := by
  induction tys with
  | nil => rfl
  | cons t r ih => simp only [datS, Sh.un, List.length_cons, ih]

theorem zip_range : ∀ (vs : List SV) (i : Nat), zipFr (List.range' i vs.length) vs = frOfS vs i := by
  intro vs
  induction vs with
  | nil => intro i; rfl
  | cons v r ih => intro i; simp only [List.length_cons, List.range'_succ, zipFr, frOfS, ih]

/-- The call of a law. -/
theorem law_calls {f : FuncId} {fn : Func} {body : Code} (hfn : P.funcs[f]? = some fn) (hbody : fn.body = some body) {tys : List Ty} {r : Nat} {m : (Sg.den ⟨List.range' 0 tys.length, datS tys, .nil⟩) → Option (Sg.den ⟨[r], .dat .bool .nil, .nil⟩)}
    (hok : SpecOK P f ⟨0, ⟨List.range' 0 tys.length, datS tys, .nil⟩, ⟨[r], .dat .bool .nil, .nil⟩, m⟩) (hnt : tys.length ≤ fn.ntmps)
    (hfin : (finishS P fn 0 (Sg.un ⟨[r], .dat .bool .nil, .nil⟩ ((true, ()), ()))).mean = some (.bool true, [], []))
    {x : (datS tys).den} (hx : m (x, ()) = some ((true, ()), ())) {args : Array Value} (hargs : args.size = tys.length)
    (hrel : ∀ (ℓ : Lens) (i : Nat) (u : SV), ((datS tys).un x)[i]? = some u → ∃ v, args.toList[i]? = some v ∧ PR w noX v (dV ℓ u)) :
    Calls P f args w fun e w' => e = .returned (.bool true) ∧ RowKit.Below w.heap.size w w' := by
  obtain ⟨ℓ, _, e, he, hto⟩ := hok fn body hfn hbody (x, ()) ((true, ()), ()) hx (lenS (Sg.un ⟨[r], .dat .bool .nil, .nil⟩ ((true, ()), ())).hp) (lenS_agr _)
  have hst : dS ℓ (Sg.un ⟨List.range' 0 tys.length, datS tys, .nil⟩ (x, ())) = { fr := frOf (((datS tys).un x).map (dV ℓ)) 0, hp := heapOf [] } := by
    simp only [dS, Sg.un]
    congr 1
    rw [← frOfS_d]
    congr 1
    rw [← length_datS tys x]
    exact zip_range _ _
  rw [hst] at hto
  have hc := contract_of (args := ((datS tys).un x).map (dV ℓ)) (sub := []) hfn hbody (by rw [List.length_map, length_datS]; exact hnt) hto he
    (finishS_spec hfin (ℓ' := fun _ => 0) (fun j b hb => by simp at hb))
  have hemp : ∀ g, get (heapOf []) g = none := fun g => by simp [get, heapOf]
  have hXX : ∀ (ρ : Rho) b o, ¬ XX ρ (heapOf []) b o := fun ρ b o ⟨g, k, hg, _⟩ => by rw [hemp] at hg; cases hg
  have hr : HR noX w (fun _ => none) (heapOf []) := by
    refine ⟨fun g k hg => ?_, fun g g' k k' b hg => ?_, fun g b hb => ?_, fun g b hb => ?_, fun g k b o hg => ?_, fun b o h => h.elim⟩
    · rw [hemp] at hg; cases hg
    · rw [hemp] at hg; cases hg
    · cases hb
    · cases hb
    · rw [hemp] at hg; cases hg
  refine (hc noX w (fun _ => none) args hr (by rw [List.length_map, length_datS]; exact hargs) (fun i u hu => ?_)).mono ?_
  · rw [List.getElem?_map] at hu
    obtain ⟨s, hs, rfl⟩ := Option.map_eq_some_iff.1 hu
    obtain ⟨v, h1, h2⟩ := hrel ℓ i s hs
    have : args.getD i undef = v := by
      simp only [Array.getD_eq_getD_getElem?]
      have : args[i]? = some v := by simpa using h1
      rw [this]; rfl
    rw [this]
    exact .pur _ _ (h2.mono ((Stable.refl w noX).less fun b o _ hxu => by
      rcases hxu with hxu | hxu
      · exact (hXX _ _ _ hxu).elim
      · exact hxu))
  · rintro e w' ⟨v, ρ', rfl, _, hv, hstab, _⟩
    refine ⟨?_, hstab.below (hXX _)⟩
    have := hv.boolInv
    rw [this]

/-- The arguments read behind the call as they read before. -/
theorem args_after (hl : laidOutB P = true) {W W' : World} (hb : RowKit.Below W.heap.size W W') {sp' : Nat → Bool} : ∀ (ts : List TypeId) (vs : List Value) (ds : List (DataW H)) (ps : List MemPlace), (ts.all fun t => P.readableRec t && decide (t < P.types.size)) = true →
    DataW.TrodAll enc0 P W 0 (fun _ => true) true ts vs ds ps → (∀ p ∈ ps, p.block < W.heap.size) → (∀ p ∈ ps, sp' p.block = true) → DataW.TrodAll enc0 P W' 0 sp' true ts vs ds ps := by
  intro ts
  induction ts with
  | nil => intro vs ds ps _ h _ _; cases vs <;> cases ds <;> simp [DataW.TrodAll] at h ⊢; exact h
  | cons t r ih =>
    intro vs ds ps ht h hlt hsp
    simp only [List.all_cons, Bool.and_eq_true, decide_eq_true_eq] at ht
    cases vs with
    | nil => cases ds <;> simp [DataW.TrodAll] at h
    | cons v vs =>
      cases ds with
      | nil => simp [DataW.TrodAll] at h
      | cons y ds =>
        simp only [DataW.TrodAll] at h ⊢
        obtain ⟨p, q, h1, h2, rfl⟩ := h
        refine ⟨p, q, WideElems.Trod_stays hl ht.1.1 ht.1.2 h1 (fun x hx => hb.same (hlt x (by simp [hx]))) (fun x hx => hsp x (by simp [hx])), ih vs ds q ht.2 h2 (fun x hx => hlt x (by simp [hx])) (fun x hx => hsp x (by simp [hx])), rfl⟩

/-- A law's row: the contract. -/
theorem law_contract {f : FuncId} {fn : Func} (hfn : P.funcs[f]? = some fn) (hsome : fn.body.isSome = true) {tys : List Ty} {r : Nat} {m : (Sg.den ⟨List.range' 0 tys.length, datS tys, .nil⟩) → Option (Sg.den ⟨[r], .dat .bool .nil, .nil⟩)}
    (hok : SpecOK P f ⟨0, ⟨List.range' 0 tys.length, datS tys, .nil⟩, ⟨[r], .dat .bool .nil, .nil⟩, m⟩) (hnt : tys.length ≤ fn.ntmps)
    (hfin : (finishS P fn 0 (Sg.un ⟨[r], .dat .bool .nil, .nil⟩ ((true, ()), ()))).mean = some (.bool true, [], []))
    (hlaid : laidOutB P = true) (htys : fn.params.toList.mapM (tyOf P 8) = some tys) (hlay : (fn.params.toList.all fun t => layOK P 8 t) = true)
    (hread : (fn.params.toList.all fun t => P.readableRec t && decide (t < P.types.size)) = true)
    {tb : TypeId} (hres : fn.resultTypes = #[tb]) (htb : P.underlying tb = some .bool)
    {s : ChangeSpec} (hvars : s.vars = []) (hs : ∀ ds : List (DataW H), ds.length = tys.length → s.fn H ds = { results := [.lit (.bool true)], args := ds })
    (hm : ∀ x, InRs tys x → m (x, ()) = some ((true, ()), ()))
    {W : World} {base : Nat} {args : Array Value} {ds gs : List (DataW H)} {before : List MemPlace}
    (hval : ∀ (j : Nat) t v, fn.params[j]? = some t → args[j]? = some v → Value.okWide P W .any base t v)
    (hW : DataW.Whole enc0 P fn.params.toList s.vars false W args.toList ds gs before) :
    Calls P f args W fun e W' => ∃ v, e = .returned v ∧ s.post enc0 P fn false true false false W args v W' := by
  obtain ⟨body, hbody⟩ := Option.isSome_iff_exists.1 hsome
  have hW' := hW
  obtain ⟨p, q, hA, hV, rfl, hfz, hnd⟩ := hW
  rw [hvars] at hV
  obtain ⟨k1, k2, x, hx1, hx2⟩ := args_typed (d := 8) (base := base) fn.params.toList tys args.toList ds p htys hlay hA (fun j t v e1 e2 => hval j t v (by simpa using e1) (by simpa using e2))
  have hgs : gs = [] ∧ q = [] := by
    cases gs with
    | nil => exact ⟨rfl, by simpa [DataW.TrodVars] using hV⟩
    | cons _ _ => simp [DataW.TrodVars] at hV
  obtain ⟨rfl, rfl⟩ := hgs
  refine (law_calls (w := W) hfn hbody hok hnt hfin (hm x hx1) (by simpa using k1) hx2).mono ?_
  rintro e W' ⟨rfl, hb⟩
  have hlt : ∀ y ∈ p, y.block < W.heap.size := fun y hy => by simpa using hW'.lt y (by simpa using hy)
  refine ⟨_, rfl, ds, [], p ++ [], [], p, [], hW', ?_, ?_, ?_, ?_, fun h => by cases h⟩
  · rw [List.append_nil, hs ds k2, hres]
    show DataW.TrodAll enc0 P W' _ _ _ [tb] _ _ _
    simp only [Value.resultList, Array.size]
    exact ⟨[], [], RowKit.shut_bool htb true, rfl, rfl⟩
  · rw [List.append_nil, hs ds k2]
    exact args_after hlaid hb _ _ _ _ hread hA hlt (fun y hy => by simpa using hlt y hy)
  · rw [List.append_nil, hs ds k2, hvars]
    exact rfl
  · exact hb.frame _

end
end Go.Abs
