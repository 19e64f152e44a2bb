/- The frame of a statement whose input is not large. -/
import Derived.Test.YtcblbcpnfidndaaPxJ
set_option linter.unusedSimpArgs false
set_option linter.unusedVariables false
namespace Go.Abs
open Go

/-- A measure that counts letters and elements. -/
structure Bulk {H : Type} (F : DataW H → Nat) : Prop where
  str : ∀ b : List UInt8, b.length ≤ F (.lit (.string b))
  row : ∀ e s : List (DataW H), e.length ≤ F (.slice e s)
  elem : ∀ (e s : List (DataW H)) (d : DataW H), d ∈ e → F d ≤ F (.slice e s)
  part : ∀ (p : List (DataW H)) (d : DataW H), d ∈ p → F d ≤ F (.agg p)

/-- The numbers are of their kinds, no length is greater than a bound. -/
def InB (N : Nat) : (t : Ty) → t.den → Prop
  | .int k, n => k.min ≤ (show Int from n) ∧ (show Int from n) ≤ k.max
  | .bool, _ => True
  | .str, s => ByteArray.size s ≤ N
  | .row t, l => List.length l ≤ N ∧ ∀ x : t.den, x ∈ (show List t.den from l) → InB N t x
  | .unit, _ => True
  | .cons a b, x => InB N a x.1 ∧ InB N b x.2
def InBs (N : Nat) : (ts : List Ty) → (datS ts).den → Prop
  | [], _ => True
  | t :: r, x => InB N t x.1 ∧ InBs N r x.2

section
variable {H : Type} {enc0 : TypeId × Value → H} {P : Program} {w : World} {sp : Nat → Bool} {held : Bool} {N : Nat} {F : DataW H → Nat}

def ReadsB (N : Nat) (w : World) (t : Ty) (cs : List Value) : Prop := ∃ x : t.den, InB N t x ∧ CellsOf w cs 0 (encC t x)

theorem strB (hF : Bulk F) {s : ByteArray} {y : DataW H × List MemPlace} (h : y = (.lit (.string s.data.toList), [])) (hN : F y.1 ≤ N) : InB N .str s := by
  subst h
  have := hF.str s.data.toList
  rw [Array.length_toList] at this
  exact Nat.le_trans this hN

theorem trod_typedB (hF : Bulk F) : ∀ (d : Nat) (t : TypeId) (ty : Ty), tyOf P d t = some ty → layOK P d t = true → P.cellsOf t = ty.size ∧
    ∀ (fuel : Nat) (cs : List Value) (y : DataW H × List MemPlace), DataW.trod enc0 P w 0 sp held fuel t cs = some y → F y.1 ≤ N → cs.length = ty.size ∧ ReadsB N w ty cs := by
  intro d
  induction d with
  | zero => intro t ty h; cases h
  | succ d ih =>
    intro t ty h hl
    unfold tyOf at h
    unfold layOK at hl
    split at h
    · rename_i k hu
      cases h
      rw [hu] at hl
      refine ⟨of_decide_eq_true hl, fun fuel cs y hy hN => ?_⟩
      obtain ⟨n, rfl, rfl, hw⟩ := DataW.trod_int hu hy
      simp only [Lit.wf, Bool.and_eq_true, decide_eq_true_eq] at hw
      refine ⟨rfl, n, hw, fun j u hj => ?_⟩
      cases j with
      | zero => simp [encC] at hj; subst hj; exact ⟨_, rfl, rfl, .int _ _⟩
      | succ j => simp [encC] at hj
    · rename_i hu
      cases h
      rw [hu] at hl
      refine ⟨of_decide_eq_true hl, fun fuel cs y hy hN => ?_⟩
      obtain ⟨b, rfl, rfl⟩ := DataW.trod_bool hu hy
      refine ⟨rfl, b, trivial, fun j u hj => ?_⟩
      cases j with
      | zero => simp [encC] at hj; subst hj; exact ⟨_, rfl, rfl, .bool _⟩
      | succ j => simp [encC] at hj
    · rename_i hu
      cases h
      rw [hu] at hl
      refine ⟨of_decide_eq_true hl, fun fuel cs y hy hN => ?_⟩
      obtain ⟨s, rfl, hs⟩ := DataW.trod_string hu hy
      refine ⟨rfl, s, strB hF hs.1 hN, fun j u hj => ?_⟩
      cases j with
      | zero => simp [encC] at hj; subst hj; exact ⟨_, rfl, rfl, .str _⟩
      | succ j => simp [encC] at hj
    · rename_i e hu
      rw [hu] at hl
      obtain ⟨te, h1, rfl⟩ := Option.map_eq_some_iff.1 h
      simp only [Bool.and_eq_true, decide_eq_true_eq] at hl
      obtain ⟨⟨hl1, hl2⟩, hl3⟩ := hl
      obtain ⟨i1, i2⟩ := ih e te h1 hl3
      refine ⟨hl1, fun fuel cs y hy hN => ?_⟩
      rcases DataW.trod_slice hu hy with ⟨rfl, _⟩ | ⟨a, len, cap, elems, rest, n, _, rfl, hyx, _, hlc, hcap, hlen, hel, _, _⟩
      · refine ⟨rfl, [], ⟨Nat.zero_le _, fun x hx => by cases hx⟩, fun j u hj => ?_⟩
        cases j with
        | zero => simp [encC] at hj; subst hj; exact ⟨_, rfl, rfl, .lst0 _ _ _ _ (fun e => by cases e)⟩
        | succ j => simp [encC] at hj
      · refine ⟨rfl, ?_⟩
        have each : ∀ i, i < len → ∃ x : te.den, InB N te x ∧ ∃ cs, w.cells? 0 (a.add (i * P.cellsOf e)) (P.cellsOf e) = some cs ∧ CellsOf w cs 0 (encC te x) := by
          intro i hi
          have hb := hel i hi
          rw [List.getElem?_eq_getElem (by omega)] at hb
          obtain ⟨cs, hcs, hy'⟩ := Option.bind_eq_some_iff.1 hb
          obtain ⟨_, x, hx1, hx2⟩ := i2 _ _ _ hy' (by
            refine Nat.le_trans (hF.elem (elems.map (·.1)) (rest.map (·.1)) _ ?_) (by rw [hyx] at hN; exact hN)
            exact List.mem_map.2 ⟨_, List.getElem_mem _, rfl⟩)
          exact ⟨x, hx1, cs, hcs, hx2⟩
        obtain ⟨l, hl4, hl5⟩ := exists_list len each
        refine ⟨l, ⟨by rw [hl4, ← hlen]; have := hF.row (elems.map (·.1)) (rest.map (·.1)); rw [hyx] at hN; simp at this; exact Nat.le_trans this hN, fun x hx => ?_⟩, fun j u hj => ?_⟩
        · obtain ⟨i, hi⟩ := List.getElem?_of_mem hx
          exact (hl5 i x hi).1
        · cases j with
          | succ j => simp [encC] at hj
          | zero =>
            simp [encC] at hj
            subst hj
            refine ⟨_, rfl, rfl, ?_⟩
            cases len with
            | zero =>
              have : l = [] := List.length_eq_zero_iff.1 hl4
              subst this
              exact .lst0 _ _ _ _ (fun e => by cases e)
            | succ len =>
              have hne : 0 < (l.map fun x => wrap te.agg (encC te x)).length := by simp [hl4]
              have hz : lsz te.size (l.map fun x => wrap te.agg (encC te x)) = te.size := lsz_pos hne
              -- the row lies where its first element lies
              have hspot : a.spot = none := by
                obtain ⟨x, _, cs, hcs, _⟩ := each 0 (by omega)
                obtain ⟨_, hn, hc⟩ := World.cells?_some hcs
                have h0 := hc 0 hl2
                rw [List.getElem?_eq_getElem (by omega)] at h0
                simp only [Nat.zero_mul, Addr.add, if_true] at h0
                unfold World.cell? at h0
                split at h0
                · cases hs : a.spot with
                  | none => rfl
                  | some s => rw [hs] at h0; simp at h0
                · cases h0
              have ea : a = ⟨a.block, a.off, none⟩ := by obtain ⟨b, o, s⟩ := a; simp only at hspot; subst hspot; rfl
              have cell : ∀ (i : Nat) (x : AV), (l.map fun x => wrap te.agg (encC te x))[i]? = some x → ∀ (j : Nat) (u : AV), x.cells[j]? = some u →
                  ∃ c, w.cell? ⟨a.block, a.off + (i * te.size + j), none⟩ = some c ∧ c.oneCell' = true ∧ PR w noX c u := by
                intro i x hx j u hu'
                rw [List.getElem?_map] at hx
                obtain ⟨z, hz1, rfl⟩ := Option.map_eq_some_iff.1 hx
                have hz2 : (wrap te.agg (encC te z)).cells = encC te z := cells_enc te z
                rw [hz2] at hu'
                obtain ⟨_, cs, hcs, hcell⟩ := hl5 i z hz1
                obtain ⟨c, h3, h4, h5⟩ := hcell j u hu'
                obtain ⟨_, hn, hc⟩ := World.cells?_some hcs
                rw [Nat.zero_add] at h3
                have hj : j < P.cellsOf e := by rw [← hn]; exact (List.getElem?_eq_some_iff.1 h3).1
                refine ⟨c, ?_, h4, h5⟩
                rw [← h3, ← hc j hj, addr_two hspot, i1]
              rw [hz, ea]
              refine .lst a.block a.off (len + 1) cap te.size false _ (fun i j => (w.cell? ⟨a.block, a.off + (i * te.size + j), none⟩).getD undef) (by simp [hl4]) hlc (fun e => by cases e) (fun i x hx => ?_) (fun i x hx j u hu' => ?_) (fun i x hx j u hu' => ?_)
              · rw [List.getElem?_map] at hx
                obtain ⟨z, _, rfl⟩ := Option.map_eq_some_iff.1 hx
                rw [show (wrap te.agg (encC te z)).cells = encC te z from cells_enc te z, length_encC]
              · obtain ⟨c, h3, h4, h5⟩ := cell i x hx j u hu'
                rw [h3]
                exact ⟨fun e => e.elim, rfl, h4⟩
              · obtain ⟨c, h3, h4, h5⟩ := cell i x hx j u hu'
                simp only [h3, Option.getD_some]
                exact h5
    · rename_i fs hu
      rw [hu] at hl
      have hl := of_decide_eq_true hl
      -- field by field
      have flds : ∀ (l : List Field) (off fin : Nat) (ty : Ty), l.foldr (fun f r => match tyOf P d f.type, r with
          | some a, some b => some (Ty.cons a b)
          | _, _ => none) (some .unit) = some ty → layFs P (layOK P d) l off = some fin → fin = off + ty.size ∧
          ∀ (cs : List Value), (∀ f ∈ l, ∃ n y, DataW.trod enc0 P w 0 sp held n f.type ((cs.drop f.offset).take (P.cellsOf f.type)) = some y ∧ F y.1 ≤ N) → ∃ x : ty.den, InB N ty x ∧ CellsOf w cs off (encC ty x) := by
        intro l
        induction l with
        | nil =>
          intro off fin ty h1 h2
          cases h1
          cases h2
          exact ⟨rfl, fun cs _ => ⟨(), trivial, fun j u hj => by simp [encC] at hj⟩⟩
        | cons f r ihl =>
          intro off fin ty h1 h2
          simp only [List.foldr_cons] at h1
          split at h1
          · rename_i a b ha hb
            cases h1
            simp only [layFs] at h2
            split at h2
            · rename_i hc
              obtain ⟨rfl, hok⟩ := hc
              obtain ⟨j1, j2⟩ := ih f.type a ha hok
              obtain ⟨k1, k2⟩ := ihl _ _ _ hb h2
              refine ⟨by rw [k1, j1]; simp only [Ty.size]; omega, fun cs hcs => ?_⟩
              obtain ⟨n, y, hy, hyN⟩ := hcs f (by simp)
              obtain ⟨_, x, hx1, hx2⟩ := j2 _ _ _ hy hyN
              obtain ⟨z, hz1, hz2⟩ := k2 cs (fun g hg => hcs g (by simp [hg]))
              refine ⟨(x, z), ⟨hx1, hz1⟩, ?_⟩
              simp only [encC]
              refine hx2.piece.append ?_
              rw [length_encC, ← j1]
              exact hz2
            · cases h2
          · cases h1
      obtain ⟨f1, f2⟩ := flds _ 0 _ ty h hl
      refine ⟨by omega, fun fuel cs y hy hN => ?_⟩
      obtain ⟨xs, n, _, hyx, hlen, hxs, hf⟩ := DataW.trod_struct hu hy
      refine ⟨by omega, f2 cs (fun f hfm => ?_)⟩
      obtain ⟨i, hi⟩ := List.getElem?_of_mem hfm
      have hi' : fs[i]? = some f := by simpa using hi
      have hlt : i < fs.size := (Array.getElem?_eq_some_iff.1 hi').1
      exact ⟨n, xs[i]'(by omega), by rw [hf i f hi', List.getElem?_eq_getElem (by omega)], Nat.le_trans (hF.part (xs.map (·.1)) _ (List.mem_map.2 ⟨_, List.getElem_mem _, rfl⟩)) (by rw [hyx] at hN; exact hN)⟩
    · rename_i n e hu
      rw [hu] at hl
      simp only [Bool.and_eq_true, decide_eq_true_eq] at hl
      obtain ⟨hl1, hl2⟩ := hl
      split at h
      · rename_i te he
        cases h
        obtain ⟨i1, i2⟩ := ih e te he hl2
        have elts : ∀ (n off : Nat), ((List.replicate n te).foldr Ty.cons .unit).size = n * te.size ∧ ∀ (cs : List Value), (∀ i, i < n → ∃ m y, DataW.trod enc0 P w 0 sp held m e ((cs.drop (off + i * P.cellsOf e)).take (P.cellsOf e)) = some y ∧ F y.1 ≤ N) →
            ∃ x : ((List.replicate n te).foldr Ty.cons .unit).den, InB N _ x ∧ CellsOf w cs off (encC _ x) := by
          intro n
          induction n with
          | zero => intro off; exact ⟨by simp [Ty.size], fun cs _ => ⟨(), trivial, fun j u hj => by simp [encC] at hj⟩⟩
          | succ n ihn =>
            intro off
            refine ⟨?_, fun cs hcs => ?_⟩
            · simp only [List.replicate_succ, List.foldr_cons, Ty.size, (ihn 0).1, Nat.succ_mul]; omega
            · obtain ⟨m, y, hy, hyN⟩ := hcs 0 (by omega)
              rw [Nat.zero_mul, Nat.add_zero] at hy
              obtain ⟨_, x, hx1, hx2⟩ := i2 _ _ _ hy hyN
              obtain ⟨z, hz1, hz2⟩ := (ihn (off + P.cellsOf e)).2 cs (fun i hi => by
                obtain ⟨m, y, hy, hyN⟩ := hcs (i + 1) (by omega)
                refine ⟨m, y, ?_, hyN⟩
                rw [← hy]
                congr 3
                rw [Nat.succ_mul]; omega)
              refine ⟨(x, z), ⟨hx1, hz1⟩, ?_⟩
              show CellsOf w cs off (encC te x ++ encC _ z)
              refine hx2.piece.append ?_
              rw [length_encC, ← i1]
              exact hz2
        obtain ⟨f1, f2⟩ := elts n 0
        refine ⟨by rw [f1, hl1, i1], fun fuel cs y hy hN => ?_⟩
        obtain ⟨xs, m, _, hyx, hlen, hxs, hf⟩ := DataW.trod_array hu hy
        refine ⟨by rw [f1, hlen, hl1, i1], f2 cs (fun i hi => ?_)⟩
        exact ⟨m, xs[i]'(by omega), by rw [Nat.zero_add, hf i hi, List.getElem?_eq_getElem (by omega)], Nat.le_trans (hF.part (xs.map (·.1)) _ (List.mem_map.2 ⟨_, List.getElem_mem _, rfl⟩)) (by rw [hyx] at hN; exact hN)⟩
      · cases h
    · cases h


/-- An argument that is read is typed. -/
theorem arg_typedB (hF : Bulk F) {d : Nat} {t : TypeId} {ty : Ty} (ht : tyOf P d t = some ty) (hl : layOK P d t = true) {v : Value} {y : DataW H} {ps : List MemPlace} (h : DataW.Trod enc0 P w 0 sp held t v y ps)
    {base : Nat} (hN : F y ≤ N) (hv : Value.okWide P w .any base t v) : ∃ x : ty.den, InB N ty x ∧ PR w noX v (enc ty x) := by
  obtain ⟨fuel, hf⟩ := h
  obtain ⟨_, h2⟩ := trod_typedB hF d t ty ht hl
  obtain ⟨hlen, x, hx, hc⟩ := h2 _ _ _ hf hN
  refine ⟨x, hx, ?_⟩
  have hagg := agg_of ht
  have cellwise : ∀ cs : Array Value, v = .agg cs → PR w noX v (.agg (encC ty x)) := by
    intro cs e
    subst e
    simp only [Value.cells] at hlen hc
    refine .agg cs _ (by rw [length_encC, ← hlen]; simp) (fun i hi => ?_) (fun i u hu => ?_)
    · obtain ⟨c, h3, h4, _⟩ := hc i ((encC ty x)[i]'(by rw [length_encC, ← hlen]; simpa using hi)) (List.getElem?_eq_getElem _)
      rw [Nat.zero_add] at h3
      have : cs.getD i undef = c := by
        simp only [Array.getD_eq_getD_getElem?]
        have : cs[i]? = some c := by simpa using h3
        rw [this]; rfl
      rw [this]; exact h4
    · obtain ⟨c, h3, _, h5⟩ := hc i u hu
      rw [Nat.zero_add] at h3
      have : cs.getD i undef = c := by
        simp only [Array.getD_eq_getD_getElem?]
        have : cs[i]? = some c := by simpa using h3
        rw [this]; rfl
      rw [this]; exact h5
  have single : (∀ cs, v ≠ .agg cs) → ty.agg = false → PR w noX v (enc ty x) := by
    intro hn ha
    have hcs : v.cells.toList = [v] := by
      cases v <;> first | rfl | exact absurd rfl (hn _)
    rw [hcs] at hc
    have hl1 : (encC ty x).length = 1 := by rw [length_encC]; exact size_one ha
    obtain ⟨c, h3, _, h5⟩ := hc 0 ((encC ty x)[0]'(by omega)) (List.getElem?_eq_getElem _)
    simp at h3
    subst h3
    have one : ∀ (l : List AV) (h : l.length = 1), wrap false l = l[0]'(by omega) := by
      intro l h
      match l, h with
      | [a], _ => rfl
    have : enc ty x = (encC ty x)[0]'(by omega) := by
      unfold enc
      rw [ha]
      exact one _ hl1
    rw [this]; exact h5
  unfold Value.okWide at hv
  cases ha : ty.agg with
  | true =>
    rw [ha] at hagg
    have : enc ty x = .agg (encC ty x) := by unfold enc wrap; rw [ha]
    rw [this]
    split at hv
    · obtain ⟨cs, e, _⟩ := hv; exact cellwise cs e
    · obtain ⟨cs, e, _⟩ := hv; exact cellwise cs e
    · rename_i h1 h2
      split at hagg
      · rename_i e; exact absurd e (h1 _)
      · rename_i e; exact absurd e (h2 _ _)
      · cases hagg
  | false =>
    rw [ha] at hagg
    refine single (fun cs e => ?_) ha
    subst e
    split at hv
    · rename_i fs e; rw [e] at hagg; cases hagg
    · rename_i n e0 e; rw [e] at hagg; cases hagg
    · unfold Cell.okWide at hv
      split at hv <;> first | (rename_i e _; cases e; done) | (rename_i e; cases e; done) | skip
      unfold Cell.ok at hv
      split at hv <;> first | (rename_i e _; cases e; done) | (rename_i e; cases e; done) | exact hv

/-- All arguments. -/
theorem args_typedB (hF : Bulk F) {d base : Nat} : ∀ (ts : List TypeId) (tys : List Ty) (vs : List Value) (ds : List (DataW H)) (ps : List MemPlace), ts.mapM (tyOf P d) = some tys → (ts.all fun t => layOK P d t) = true →
    DataW.TrodAll enc0 P w 0 sp held ts vs ds ps → (∀ y ∈ ds, F y ≤ N) → (∀ (j : Nat) t v, ts[j]? = some t → vs[j]? = some v → Value.okWide P w .any base t v) →
    vs.length = tys.length ∧ ds.length = tys.length ∧ ∃ x : (datS tys).den, InBs N tys x ∧ ∀ (ℓ : Lens) (i : Nat) (u : SV), ((datS tys).un x)[i]? = some u → ∃ v, vs[i]? = some v ∧ PR w noX v (dV ℓ u) := by
  intro ts
  induction ts with
  | nil =>
    intro tys vs ds ps h1 _ h2 _ _
    have h1 : tys = [] := by simpa using h1.symm
    subst h1
    cases vs <;> cases ds <;> simp [DataW.TrodAll] at h2
    exact ⟨rfl, rfl, (), trivial, fun ℓ i u hu => by simp [datS, Sh.un] at hu⟩
  | cons t r ih =>
    intro tys vs ds ps h1 hl h2 hN hv
    rw [List.mapM_cons] at h1
    cases ha : tyOf P d t with
    | none => simp [ha] at h1
    | some ty =>
      cases hb : r.mapM (tyOf P d) with
      | none => simp [ha, hb] at h1
      | some tr =>
        simp [ha, hb] at h1
        subst h1
        simp only [List.all_cons, Bool.and_eq_true] at hl
        cases vs with
        | nil => cases ds <;> simp [DataW.TrodAll] at h2
        | cons v vs =>
          cases ds with
          | nil => simp [DataW.TrodAll] at h2
          | cons y ds =>
            simp only [DataW.TrodAll] at h2
            obtain ⟨p, q, h3, h4, _⟩ := h2
            obtain ⟨x, hx1, hx2⟩ := arg_typedB hF ha hl.1 h3 (hN y (by simp)) (hv 0 t v rfl rfl)
            obtain ⟨k1, k2, z, hz1, hz2⟩ := ih tr vs ds q hb hl.2 h4 (fun z hz => hN z (by simp [hz])) (fun j t' v' e1 e2 => hv (j + 1) t' v' (by simpa using e1) (by simpa using e2))
            refine ⟨by simp [k1], by simp [k2], (x, z), ⟨hx1, hz1⟩, fun ℓ i u hu => ?_⟩
            cases i with
            | zero =>
              simp only [datS, Sh.un, List.getElem?_cons_zero, Option.some.injEq] at hu
              subst hu
              refine ⟨v, rfl, ?_⟩
              have : dV ℓ (unT ty x) = enc ty x := by
                rw [← unT_enc ty x ℓ]
                exact notTup_d (by cases ty <;> rfl) ℓ
              rw [this]; exact hx2
            | succ i =>
              obtain ⟨v', e1, e2⟩ := hz2 ℓ i u (by simpa [datS, Sh.un] using hu)
              exact ⟨v', by simpa using e1, e2⟩


/-- A law's row: the contract. -/
theorem law_contractB (hF : Bulk F) {f : FuncId} {fn : Func} (hfn : P.funcs[f]? = some fn) (hsome : fn.body.isSome = true) {tys : List Ty} {r : Nat} {m : (Sg.den ⟨List.range' 0 tys.length, datS tys, .nil⟩) → Option (Sg.den ⟨[r], .dat .bool .nil, .nil⟩)}
    (hok : SpecOK P f ⟨0, ⟨List.range' 0 tys.length, datS tys, .nil⟩, ⟨[r], .dat .bool .nil, .nil⟩, m⟩) (hnt : tys.length ≤ fn.ntmps)
    (hfin : (finishS P fn 0 (Sg.un ⟨[r], .dat .bool .nil, .nil⟩ ((true, ()), ()))).mean = some (.bool true, [], []))
    (hlaid : laidOutB P = true) (htys : fn.params.toList.mapM (tyOf P 8) = some tys) (hlay : (fn.params.toList.all fun t => layOK P 8 t) = true)
    (hread : (fn.params.toList.all fun t => P.readableRec t && decide (t < P.types.size)) = true)
    {tb : TypeId} (hres : fn.resultTypes = #[tb]) (htb : P.underlying tb = some .bool)
    {s : ChangeSpec} (hvars : s.vars = []) (hs : ∀ ds : List (DataW H), ds.length = tys.length → s.fn H ds = { results := [.lit (.bool true)], args := ds })
    (hm : ∀ x, InBs N tys x → m (x, ()) = some ((true, ()), ()))
    {W : World} {base : Nat} {args : Array Value} {ds gs : List (DataW H)} {before : List MemPlace}
    (hval : ∀ (j : Nat) t v, fn.params[j]? = some t → args[j]? = some v → Value.okWide P W .any base t v)
    (hN : ∀ y ∈ ds, F y ≤ N)
    (hW : DataW.Whole enc0 P fn.params.toList s.vars false W args.toList ds gs before) :
    Calls P f args W fun e W' => ∃ v, e = .returned v ∧ s.post enc0 P fn false true false false W args v W' := by
  obtain ⟨body, hbody⟩ := Option.isSome_iff_exists.1 hsome
  have hW' := hW
  obtain ⟨p, q, hA, hV, rfl, hfz, hnd⟩ := hW
  rw [hvars] at hV
  obtain ⟨k1, k2, x, hx1, hx2⟩ := args_typedB hF (d := 8) (base := base) fn.params.toList tys args.toList ds p htys hlay hA hN (fun j t v e1 e2 => hval j t v (by simpa using e1) (by simpa using e2))
  have hgs : gs = [] ∧ q = [] := by
    cases gs with
    | nil => exact ⟨rfl, by simpa [DataW.TrodVars] using hV⟩
    | cons _ _ => simp [DataW.TrodVars] at hV
  obtain ⟨rfl, rfl⟩ := hgs
  refine (law_calls (w := W) hfn hbody hok hnt hfin (hm x hx1) (by simpa using k1) hx2).mono ?_
  rintro e W' ⟨rfl, hb⟩
  have hlt : ∀ y ∈ p, y.block < W.heap.size := fun y hy => by simpa using hW'.lt y (by simpa using hy)
  refine ⟨_, rfl, ds, [], p ++ [], [], p, [], hW', ?_, ?_, ?_, ?_, fun h => by cases h⟩
  · rw [List.append_nil, hs ds k2, hres]
    show DataW.TrodAll enc0 P W' _ _ _ [tb] _ _ _
    simp only [Value.resultList, Array.size]
    exact ⟨[], [], RowKit.shut_bool htb true, rfl, rfl⟩
  · rw [List.append_nil, hs ds k2]
    exact args_after hlaid hb _ _ _ _ hread hA hlt (fun y hy => by simpa using hlt y hy)
  · rw [List.append_nil, hs ds k2, hvars]
    exact rfl
  · exact hb.frame _


end
end Go.Abs
