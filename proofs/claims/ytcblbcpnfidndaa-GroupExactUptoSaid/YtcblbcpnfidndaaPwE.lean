/- Operations that only read: what the model runs is what the abstract interpreter says. -/
import Derived.Test.YtcblbcpnfidndaaPwD
import GoSem.Dispatch
set_option linter.unusedSimpArgs false
set_option linter.unusedVariables false
namespace Go.Abs
open Go

theorem addr_add (b o n : Nat) : (⟨b, o, none⟩ : Addr).add n = ⟨b, o + n, none⟩ := by
  unfold Addr.add
  split
  · rename_i h; subst h; rfl
  · rfl

section
variable {P : Program} {w : World} {X Y : XT} {ρ : Rho}

theorem run_tsize {t : TypeId} {n : Nat} (h : tsize P t = some n) (w : World) : (sizeOf t).run P w = .ok n w := by
  unfold tsize at h
  cases hi : P.info? t with
  | none => simp [hi] at h
  | some i => simp [hi] at h; simp [sizeOf, typeInfo, hi, h]

theorem run_tbytes {t : TypeId} {n : Nat} (h : tbytes P t = some n) (w : World) : ∃ i, P.info? t = some i ∧ i.bytes = n ∧ (typeInfo t).run P w = .ok i w := by
  unfold tbytes at h
  cases hi : P.info? t with
  | none => simp [hi] at h
  | some i => simp [hi] at h; exact ⟨i, rfl, h, by simp [typeInfo, hi]⟩

theorem run_tagg {t : TypeId} {b : Bool} (h : tagg P t = some b) (w : World) : (isAgg t).run P w = .ok b w := by
  unfold tagg at h
  cases hu : P.underlying t with
  | none => simp [hu] at h
  | some d =>
    simp only [hu] at h
    simp only [isAgg, Sem.run_bind, run_underlying hu, Result.andThen_ok]
    cases d <;> simp_all

theorem run_tzero {t : TypeId} {x : AV} (h : tzero P t = some x) (w : World) : ∃ z, (zeroValue t).run P w = .ok z w ∧ x = cv z ∧ ∃ i, P.info? t = some i ∧ i.zero = some z := by
  unfold tzero at h
  cases hi : P.info? t with
  | none => simp [hi] at h
  | some i =>
    simp only [hi] at h
    cases hz : i.zero with
    | none => simp [hz] at h
    | some z =>
      simp [hz] at h
      exact ⟨z, by simp [zeroValue, typeInfo, hi, hz], h.symm, i, rfl, hz⟩

theorem run_tzeroP {t : TypeId} {x : AV} (h : tzeroP P t = some x) (w : World) : ∃ z, (zeroValue t).run P w = .ok z w ∧ x = ntV (cv z) ∧ ∃ i, P.info? t = some i ∧ i.zero = some z := by
  obtain ⟨y, hy, rfl⟩ := Option.map_eq_some_iff.1 h
  obtain ⟨z, h1, rfl, h2⟩ := run_tzero hy w
  exact ⟨z, h1, rfl, h2⟩

theorem telem_un {t e : TypeId} (h : telem P t = some e) : P.underlying t = some (.slice e) := by
  unfold telem at h
  cases hu : P.underlying t with
  | none => simp [hu] at h
  | some d => cases d <;> simp_all

/-! ### Cells of a value -/

theorem VR.cells {v : Value} {x : AV} (h : VR w X ρ v x) (hk : okV x = true) :
    v.cells.size = x.cells.length ∧ (∀ i, i < v.cells.size → (v.cells.getD i Go.undef).oneCell' = true) ∧ ∀ (j : Nat) (u : AV), x.cells[j]? = some u → VR w X ρ (v.cells.getD j Go.undef) u := by
  cases hx : x with
  | agg cs =>
    subst hx
    cases h with
    | pur v x h =>
      cases h with
      | agg as _ hn h1 h => exact ⟨hn, h1, fun j u hj => .pur _ _ (h j u hj)⟩
    | agg as _ hn h1 h => exact ⟨hn, h1, h⟩
  | _ =>
    all_goals
      have hc : x.cells = [x] := by subst hx; rfl
      have hk' : okC x = true := by subst hx; first | exact hk | (simp [okV, okC] at hk)
      have ho := okC_one h hk'
      have hv : v.cells = #[v] := by cases v <;> first | rfl | (simp [Value.oneCell'] at ho)
      rw [← hx, hc, hv]
      refine ⟨rfl, fun i hi => ?_, fun j u hj => ?_⟩
      · have : i = 0 := by simp at hi; omega
        subst this
        exact ho
      · cases j with
        | zero => simp at hj; subst hj; exact h
        | succ j => simp at hj

/-- A value that leads nowhere. -/
theorem VR.toPR {v : Value} {x : AV} (h : VR w X ρ v x) (hk : scal1 x = true ∨ ∃ sz xs t, x = .lst sz xs t) : PR w X v x := by
  cases h with
  | pur v x h => exact h
  | ptr => rcases hk with h | ⟨_, _, _, h⟩ <;> simp [scal1] at h
  | mp => rcases hk with h | ⟨_, _, _, h⟩ <;> simp [scal1] at h
  | own0 => rcases hk with h | ⟨_, _, _, h⟩ <;> simp [scal1] at h
  | own => rcases hk with h | ⟨_, _, _, h⟩ <;> simp [scal1] at h
  | clo => rcases hk with h | ⟨_, _, _, h⟩ <;> simp [scal1] at h
  | agg => rcases hk with h | ⟨_, _, _, h⟩ <;> simp [scal1] at h
  | tup => rcases hk with h | ⟨_, _, _, h⟩ <;> simp [scal1] at h

/-! ### Loads -/

theorem run_loadVar {t : TypeId} {size : Nat} {agg : Bool} (h1 : tsize P t = some size) (h2 : tagg P t = some agg) (b o : Nat) (f : Nat → Value)
    (hc : ∀ j, j < size → w.cell? ⟨b, o + j, none⟩ = some (f j)) (hs : agg = false → 0 < size) :
    (loadVar t ⟨b, o, none⟩).run P w = .ok (if agg then .agg ((List.range size).map f).toArray else f 0) w := by
  unfold loadVar
  simp only [Sem.run_bind, run_tagg h2, Result.andThen_ok]
  cases agg with
  | true =>
    simp only [if_true, Sem.run_bind, run_tsize h1, Result.andThen_ok]
    rw [run_loadCells w ⟨b, o, none⟩ size f (fun j hj => by rw [addr_add]; exact hc j hj)]
    rfl
  | false =>
    have := hc 0 (hs rfl)
    simp only [Nat.add_zero] at this
    simp [this]

theorem getElem?_slice {α : Type} (l : List α) (off size i : Nat) (h : off + size ≤ l.length) : ((l.drop off).take size)[i]? = if i < size then l[off + i]? else none := by
  rw [List.getElem?_take, List.getElem?_drop]

theorem length_slice {α : Type} (l : List α) (off size : Nat) (h : off + size ≤ l.length) : ((l.drop off).take size).length = size := by
  simp; omega

theorem aggOf_rel (f : Nat → Value) (cs : List AV) (hf : ∀ (j : Nat) (u : AV), cs[j]? = some u → (f j).oneCell' = true ∧ VR w X ρ (f j) u) :
    VR w X ρ (.agg ((List.range cs.length).map f).toArray) (.agg cs) := by
  have hget : ∀ i, i < cs.length → (((List.range cs.length).map f).toArray).getD i undef = f i := by
    intro i hi
    simp [Array.getD_eq_getD_getElem?, hi]
  refine .agg _ _ (by simp) (fun i hi => ?_) (fun i x hx => ?_)
  · have hi' : i < cs.length := by simpa using hi
    rw [hget i hi']
    exact (hf i cs[i] (by simp [hi'])).1
  · have hi' : i < cs.length := (List.getElem?_eq_some_iff.1 hx).1
    rw [hget i hi']
    exact (hf i x hx).2

theorem loadAt_rel {size off : Nat} {agg : Bool} {x y : AV} (f : Nat → Value) (hf : ∀ (j : Nat) (u : AV), x.cells[j]? = some u → (f j).oneCell' = true ∧ VR w X ρ (f j) u)
    (h : loadAt size agg x off = some y) : off + size ≤ x.cells.length ∧ (agg = false → 0 < size) ∧ VR w X ρ (if agg then .agg ((List.range size).map fun j => f (off + j)).toArray else f off) y := by
  unfold loadAt at h
  split at h
  · rename_i hle
    refine ⟨hle, ?_⟩
    have part : ofCells agg ((x.cells.drop off).take size) = some y → (agg = false → 0 < size) ∧ VR w X ρ (if agg then .agg ((List.range size).map fun j => f (off + j)).toArray else f off) y := by
      intro h
      cases agg with
      | true =>
        simp only [ofCells, if_true] at h
        cases h
        refine ⟨(fun h => by cases h), ?_⟩
        have hl := length_slice x.cells off size hle
        have := aggOf_rel (w := w) (X := X) (ρ := ρ) (fun j => f (off + j)) ((x.cells.drop off).take size) (fun j u hj => by
          rw [getElem?_slice _ _ _ _ hle] at hj
          split at hj
          · exact hf _ _ hj
          · cases hj)
        rw [hl] at this
        simpa using this
      | false =>
        simp only [ofCells, Bool.false_eq_true, if_false] at h
        split at h
        · rename_i c hc
          cases h
          have hl := length_slice x.cells off size hle
          rw [hc] at hl
          simp at hl
          have h0 := getElem?_slice x.cells off size 0 hle
          rw [hc] at h0
          simp [← hl] at h0
          exact ⟨(fun _ => by omega), by simpa using (hf off y h0.symm).2⟩
        · cases h
    split at h
    · rename_i hc
      obtain ⟨rfl, rfl, hagg⟩ := hc
      cases h
      cases agg with
      | true =>
        refine ⟨(fun h => by cases h), ?_⟩
        cases x with
        | agg cs =>
          have := aggOf_rel (w := w) (X := X) (ρ := ρ) f cs hf
          simpa [AV.cells] using this
        | _ => simp [AV.isAgg] at hagg
      | false =>
        have hc : x.cells = [x] := by cases x <;> first | rfl | (simp [AV.isAgg] at hagg)
        refine ⟨(fun _ => by rw [hc]; simp), ?_⟩
        have := (hf 0 x (by rw [hc]; rfl)).2
        simpa using this
    · exact part h
  · cases h

/-- The cells of an element of a block. -/
theorem BlkAt.elem {b : Nat} {k : Blk} (h : BlkAt w X ρ b k) (hs0 : 0 < k.sz) {i : Nat} {x : AV} (hi : k.elems[i]? = some x) :
    ∃ f : Nat → Value, x.cells.length = k.sz ∧ ∀ (j : Nat) (u : AV), x.cells[j]? = some u → w.cell? ⟨b, i * k.sz + j, none⟩ = some (f j) ∧ (f j).oneCell' = true ∧ CR k.box w X ρ (f j) u := by
  obtain ⟨cs, T, hh, hle, he⟩ := h.cells hs0
  obtain ⟨hsz, hc⟩ := he i x hi
  refine ⟨fun j => cs.getD (i * k.sz + j) undef, hsz, fun j u hj => ?_⟩
  obtain ⟨h1, h2⟩ := hc j u hj
  refine ⟨?_, h1, h2⟩
  have hilt : i < k.elems.length := (List.getElem?_eq_some_iff.1 hi).1
  have hjlt : j < k.sz := by rw [← hsz]; exact (List.getElem?_eq_some_iff.1 hj).1
  have hlt : i * k.sz + j < cs.size := by
    have : (i + 1) * k.sz ≤ k.elems.length * k.sz := Nat.mul_le_mul_right _ hilt
    rw [Nat.add_mul] at this
    omega
  rw [cell_of_row w b _ cs T (0, 0) hh]
  simp [Array.getD_eq_getD_getElem?, hlt]

theorem HR.at {H : Heap} (hr : HR Y w ρ H) {g : Nm} {k : Blk} (hg : get H g = some k) {b : Nat} (hρ : ρ g = some b) : BlkAt w (XU Y ρ H) ρ b k := by
  rcases hr.blk g k hg with ⟨h, _⟩ | ⟨b', h, hb⟩
  · rw [h] at hρ; cases hρ
  · rw [h] at hρ; cases hρ; exact hb

theorem opLoad_sound {H : Heap} (hr : HR Y w ρ H) {t : TypeId} {p : AV} {v : Value} {r : Res} (hv : VR w (XU Y ρ H) ρ v p) (h : opLoad P t p H = some r) :
    r.wr = [] ∧ r.new = [] ∧ ∃ u, (Instr.loadAt t v).run P w = .ok u w ∧ VR w (XU Y ρ H) ρ u r.val := by
  unfold opLoad at h
  cases hs : tsize P t with
  | none => simp [hs] at h
  | some size =>
    cases ha : tagg P t with
    | none => simp [hs, ha] at h
    | some agg =>
      simp only [hs, ha] at h
      cases p with
      | ptr g sz i off =>
        simp only at h
        cases hg : get H g with
        | none => simp [hg] at h
        | some k =>
          simp only [hg] at h
          split at h
          · rename_i hszp
            obtain ⟨hsz, hs0⟩ := hszp
            cases hx : k.elems[i]? with
            | none => simp [hx] at h
            | some x =>
              simp only [hx] at h
              obtain ⟨y, hy, rfl⟩ := Option.map_eq_some_iff.1 h
              cases hv with
              | pur v x hp => cases hp
              | mp => omega
              | ptr _ b _ _ _ _ hρ =>
                obtain ⟨f, hlen, hf⟩ := (hr.at hg hρ).elem (by omega) hx
                obtain ⟨hle, hpos, hrel⟩ := loadAt_rel (w := w) (X := XU Y ρ H) (ρ := ρ) f (fun j u hj => ⟨(hf j u hj).2.1, (hf j u hj).2.2.vr⟩) hy
                refine ⟨rfl, rfl, _, ?_, hrel⟩
                simp only [Instr.loadAt, Instr.sureAddr, Sem.run_bind, Sem.run_pure, Result.andThen_ok]
                rw [run_loadVar hs ha b (i * sz + off) (fun j => f (off + j)) (fun j hj => ?_) hpos]
                · simp
                · have hj' : off + j < x.cells.length := by omega
                  have := (hf (off + j) x.cells[off + j] (by simp [hj'])).1
                  rw [hsz] at this
                  rw [Nat.add_assoc]
                  exact this
          · cases h
      | lp sz xs i off =>
        simp only at h
        cases hx : xs[i]? with
        | none => simp [hx] at h
        | some x =>
          simp only [hx] at h
          split at h
          · obtain ⟨y, hy, rfl⟩ := Option.map_eq_some_iff.1 h
            cases hv with
            | pur v x' hp =>
              cases hp with
              | lp b o _ _ _ _ f hsz' hx' hr' =>
                obtain ⟨hle, hpos, hrel⟩ := loadAt_rel (w := w) (X := XU Y ρ H) (ρ := ρ) (f i) (fun j u hj => ⟨(hx' i x hx j u hj).2.2, .pur _ _ (hr' i x hx j u hj)⟩) hy
                refine ⟨rfl, rfl, _, ?_, hrel⟩
                simp only [Instr.loadAt, Instr.sureAddr, Sem.run_bind, Sem.run_pure, Result.andThen_ok]
                rw [run_loadVar hs ha b (o + (i * sz + off)) (fun j => f i (off + j)) (fun j hj => ?_) hpos]
                · simp
                · have hj' : off + j < x.cells.length := by omega
                  have := (hx' i x hx (off + j) x.cells[off + j] (by simp [hj'])).2.1
                  rw [show o + (i * sz + off) + j = o + (i * sz + (off + j)) by omega]
                  exact this
          · cases h
      | fp g =>
        simp only at h
        split at h
        · rename_i hsa
          obtain ⟨rfl, rfl⟩ := hsa
          cases h
          cases hv with
          | pur v x' hp =>
            cases hp with
            | fp b _ hX hc =>
              refine ⟨rfl, rfl, _, ?_, .clo g #[] [] rfl (fun i x hx => by simp at hx)⟩
              simp only [Instr.loadAt, Instr.sureAddr, Sem.run_bind, Sem.run_pure, Result.andThen_ok]
              rw [run_loadVar hs ha b 0 (fun _ => .func (.func g) #[] #[]) (fun j hj => ?_) (by omega)]
              · simp
              · have : j = 0 := by omega
                subst this
                exact hc
        · cases h
      | _ => simp at h

/-! ### Addresses, parts -/

theorem fieldOf_un {t : TypeId} {f o : Nat} {ft : TypeId} (h : fieldOf P t f = some (o, ft)) : ∃ fs x, P.underlying t = some (.struct fs) ∧ fs[f]? = some x ∧ x.offset = o ∧ x.type = ft := by
  unfold fieldOf at h
  cases hu : P.underlying t with
  | none => simp [hu] at h
  | some d =>
    cases d with
    | struct fs =>
      simp only [hu] at h
      cases hx : fs[f]? with
      | none => simp [hx] at h
      | some x => simp [hx] at h; exact ⟨fs, x, rfl, hx, h.1, h.2⟩
    | _ => simp [hu] at h

theorem part_rel {t : TypeId} {cs : Array Value} {xs : List AV} {off : Nat} {y : AV} (hn : cs.size = xs.length) (h1 : ∀ i, i < cs.size → (cs.getD i undef).oneCell' = true)
    (hv : ∀ (i : Nat) (x : AV), xs[i]? = some x → VR w X ρ (cs.getD i undef) x) (h : partOf P t xs off = some y) : ∃ v, (part t cs off).run P w = .ok v w ∧ VR w X ρ v y := by
  unfold partOf at h
  cases hs : tsize P t with
  | none => simp [hs] at h
  | some size =>
    cases ha : tagg P t with
    | none => simp [hs, ha] at h
    | some agg =>
      simp only [hs, ha] at h
      split at h
      · rename_i hle
        simp only [part, Sem.run_bind, run_tagg ha, Result.andThen_ok]
        cases agg with
        | true =>
          simp only [ofCells, if_true, Option.some.injEq] at h
          subst h
          simp only [if_true, Sem.run_bind, run_tsize hs, Result.andThen_ok, Sem.run_pure]
          refine ⟨_, rfl, .agg _ _ (by simp; omega) (fun i hi => ?_) (fun i x hx => ?_)⟩
          · have hi' : i < size := by simp at hi; omega
            have e : (cs.extract off (off + size)).getD i undef = cs.getD (off + i) undef := by
              simp only [Array.getD_eq_getD_getElem?, Array.getElem?_extract]
              rw [if_pos (by omega)]
            rw [e]
            exact h1 _ (by omega)
          · rw [getElem?_slice _ _ _ _ hle] at hx
            split at hx
            · have e : (cs.extract off (off + size)).getD i undef = cs.getD (off + i) undef := by
                simp only [Array.getD_eq_getD_getElem?, Array.getElem?_extract]
                rw [if_pos (by omega)]
              rw [e]
              exact hv _ _ hx
            · cases hx
        | false =>
          simp only [ofCells, Bool.false_eq_true, if_false] at h
          split at h
          · rename_i c hc
            cases h
            have hl := length_slice xs off size hle
            rw [hc] at hl
            simp at hl
            have h0 := getElem?_slice xs off size 0 hle
            rw [hc] at h0
            simp [← hl] at h0
            have hlt : off < cs.size := by omega
            have hr := hv off y h0.symm
            simp only [Bool.false_eq_true, if_false]
            refine ⟨cs[off], by simp [hlt], ?_⟩
            simpa [Array.getD_eq_getD_getElem?, hlt] using hr
          · cases h
      · cases h

theorem VR.aggInv {v : Value} {xs : List AV} (h : VR w X ρ v (.agg xs)) : ∃ cs, v = .agg cs ∧ cs.size = xs.length ∧ (∀ i, i < cs.size → (cs.getD i Go.undef).oneCell' = true) ∧ ∀ (i : Nat) (x : AV), xs[i]? = some x → VR w X ρ (cs.getD i Go.undef) x := by
  cases h with
  | pur v x h =>
    cases h with
    | agg cs _ hn h1 h => exact ⟨cs, rfl, hn, h1, fun i x hx => .pur _ _ (h i x hx)⟩
  | agg cs _ hn h1 h => exact ⟨cs, rfl, hn, h1, h⟩

theorem VR.intInv {v : Value} {k : IntKind} {n : Int} (h : VR w X ρ v (.int k n)) : v = .int k n := by
  cases h with
  | pur v x h => cases h; rfl
theorem VR.boolInv {v : Value} {b : Bool} (h : VR w X ρ v (.bool b)) : v = .bool b := by
  cases h with
  | pur v x h => cases h; rfl
theorem VR.strInv {v : Value} {s : ByteArray} (h : VR w X ρ v (.str s)) : v = .string s := by
  cases h with
  | pur v x h => cases h; rfl
theorem VR.lstInv {v : Value} {sz : Nat} {xs : List AV} {t : Bool} (h : VR w X ρ v (.lst sz xs t)) : ∃ a cap, v = .slice a xs.length cap ∧ xs.length ≤ cap ∧ (t = true → cap = xs.length) ∧ PR w X v (.lst sz xs t) := by
  cases h with
  | pur v x h =>
    have h' := h
    cases h with
    | lst0 a cap sz t ht => exact ⟨a, cap, rfl, Nat.zero_le _, ht, h'⟩
    | lst b o n cap sz t xs f hn hc ht hsz hx hr => exact ⟨_, cap, by rw [hn], hn ▸ hc, fun e => (ht e).trans hn.symm, h'⟩
theorem VR.ownInv {v : Value} {g : Nm} {sz off len : Nat} (h : VR w X ρ v (.own g sz off len)) : (∃ a, v = .slice a 0 0 ∧ len = 0) ∨ ∃ b cap, v = .slice (some ⟨b, off * sz, none⟩) len cap ∧ ρ g = some b ∧ b < w.heap.size ∧ len ≤ cap ∧ off * sz + cap * sz ≤ bsize w b := by
  cases h with
  | pur v x h => cases h
  | own0 a => exact .inl ⟨a, rfl, rfl⟩
  | own _ b _ _ _ cap hρ hb hc hk => exact .inr ⟨b, cap, rfl, hρ, hb, hc, hk⟩
theorem VR.ptrInv {v : Value} {g : Nm} {sz i off : Nat} (hs0 : 0 < sz) (h : VR w X ρ v (.ptr g sz i off)) : ∃ b, v = .pointer (some ⟨b, i * sz + off, none⟩) ∧ ρ g = some b := by
  cases h with
  | pur v x h => cases h
  | ptr _ b _ _ _ _ hρ => exact ⟨b, rfl, hρ⟩
  | mp => omega
theorem VR.tupInv {v : Value} {xs : List AV} (h : VR w X ρ v (.tup xs)) : ∃ cs, v = .tuple cs ∧ cs.size = xs.length ∧ ∀ (i : Nat) (x : AV), xs[i]? = some x → VR w X ρ (cs.getD i Go.undef) x := by
  cases h with
  | pur v x h => cases h
  | tup cs _ hn h => exact ⟨cs, rfl, hn, h⟩

theorem opField_sound {t : TypeId} {x y : AV} {v : Value} {f : Nat} (hv : VR w X ρ v x) (h : opField P t x f = some y) : ∃ u, (Instr.field t v f).run P w = .ok u w ∧ VR w X ρ u y := by
  unfold opField at h
  cases hf : fieldOf P t f with
  | none => simp [hf] at h
  | some p =>
    obtain ⟨o, ft⟩ := p
    obtain ⟨fs, fx, hu, hx, rfl, rfl⟩ := fieldOf_un hf
    cases x with
    | agg xs =>
      simp only [hf] at h
      obtain ⟨cs, rfl, hn, h1, hc⟩ := hv.aggInv
      obtain ⟨u, hr, hrel⟩ := part_rel (P := P) hn h1 hc h
      refine ⟨u, ?_, hrel⟩
      simp [Instr.field, run_underlying hu, hx, asAgg, hr]
    | _ => simp [hf] at h

theorem opFieldAddr_sound {t : TypeId} {x y : AV} {v : Value} {f : Nat} (hv : VR w X ρ v x) (h : opFieldAddr P t x f = some y) : ∃ u, (Instr.fieldAt t v f).run P w = .ok u w ∧ VR w X ρ u y := by
  unfold opFieldAddr at h
  cases hf : fieldOf P t f with
  | none => simp [hf] at h
  | some p =>
    obtain ⟨o, ft⟩ := p
    obtain ⟨fs, fx, hu, hx, rfl, rfl⟩ := fieldOf_un hf
    simp only [hf] at h
    split at h
    · cases h
    · rename_i hs
      cases hsz : tsize P fx.type with
      | none => simp [hsz] at hs
      | some n =>
        have hn : n ≠ 0 := by simpa [hsz] using hs
        have place : ∀ b o, (fieldPlace ⟨b, o, none⟩ fx).run P w = .ok ⟨b, o + fx.offset, none⟩ w := by
          intro b o
          simp [fieldPlace, run_tsize hsz, hn, addr_add]
        cases x with
        | ptr g sz i off =>
          simp only at h
          split at h
          case isFalse => cases h
          rename_i hs0
          simp only [Option.some.injEq] at h
          subst h
          obtain ⟨b, rfl, hρ⟩ := hv.ptrInv hs0
          refine ⟨.pointer (some ⟨b, i * sz + off + fx.offset, none⟩), ?_, ?_⟩
          · simp [Instr.fieldAt, run_underlying hu, hx, Instr.sureAddr, place]
          · rw [Nat.add_assoc]; exact .ptr _ _ _ _ _ hs0 hρ
        | lp sz xs i off =>
          simp only [Option.some.injEq] at h
          subst h
          cases hv with
          | pur v x hp =>
            cases hp with
            | lp b o _ _ _ _ g hsz' hx' hr' =>
              refine ⟨.pointer (some ⟨b, o + (i * sz + off) + fx.offset, none⟩), ?_, ?_⟩
              · simp [Instr.fieldAt, run_underlying hu, hx, Instr.sureAddr, place]
              · rw [show o + (i * sz + off) + fx.offset = o + (i * sz + (off + fx.offset)) by omega]
                exact .pur _ _ (.lp _ _ _ _ _ _ _ hsz' hx' hr')
        | _ => simp at h

end
end Go.Abs
