/- Operations that make memory, continued: struct and slice literals, make, append. -/
import Derived.Test.YtcblbcpnfidndaaPwG
import Derived.IntWalk
set_option linter.unusedSimpArgs false
set_option linter.unusedVariables false
namespace Go.Abs
open Go

theorem List.run_mapM {α β : Type} {P : Program} {w : World} (f : α → Sem β) (g : α → β) : ∀ (l : List α), (∀ x ∈ l, (f x).run P w = .ok (g x) w) → (l.mapM f).run P w = .ok (l.map g) w := by
  intro l
  induction l with
  | nil => intro _; simp
  | cons x r ih =>
    intro h
    simp only [List.mapM_cons, Sem.run_bind, h x (by simp), Result.andThen_ok, ih (fun y hy => h y (by simp [hy])), Sem.run_pure, List.map_cons]

theorem Array.run_mapM {α β : Type} {P : Program} {w : World} (f : α → Sem β) (g : α → β) (l : Array α) (h : ∀ x ∈ l.toList, (f x).run P w = .ok (g x) w) : (l.mapM f).run P w = .ok (l.map g) w := by
  rw [Array.mapM_eq_mapM_toList, Sem.run_map, List.run_mapM f g l.toList h]
  simp only [Result.andThen_ok]
  congr 1
  apply Array.ext'
  simp

section
variable {P : Program} {w : World} {X Y : XT} {ρ : Rho}

/-! ### Parts laid over cells -/

theorem foldl_set (off : Nat) : ∀ (l : List Value) (k : Nat) (cs : Array Value) (i : Nat), off + k + l.length ≤ cs.size →
    ((l.zipIdx k).foldl (fun cs p => cs.setIfInBounds (off + p.2) p.1) cs).size = cs.size ∧
    ((l.zipIdx k).foldl (fun cs p => cs.setIfInBounds (off + p.2) p.1) cs)[i]? = if off + k ≤ i ∧ i < off + k + l.length then l[i - (off + k)]? else cs[i]? := by
  intro l
  induction l with
  | nil => intro k cs i _; simp; intro; omega
  | cons v r ih =>
    intro k cs i h
    simp only [List.zipIdx_cons, List.foldl_cons]
    obtain ⟨h1, h2⟩ := ih (k + 1) (cs.setIfInBounds (off + k) v) i (by simp at h ⊢; omega)
    refine ⟨by rw [h1]; simp, ?_⟩
    rw [h2]
    simp only [List.length_cons] at h ⊢
    by_cases c1 : off + k = i
    · subst c1
      have hlt : off + k < cs.size := by omega
      have a1 : ¬ (off + (k + 1) ≤ off + k ∧ off + k < off + (k + 1) + r.length) := by omega
      have a2 : off + k ≤ off + k ∧ off + k < off + k + (r.length + 1) := by omega
      rw [if_neg a1, if_pos a2, Array.getElem?_setIfInBounds]
      simp [hlt]
    · by_cases c2 : off + (k + 1) ≤ i ∧ i < off + (k + 1) + r.length
      · have a2 : off + k ≤ i ∧ i < off + k + (r.length + 1) := by omega
        rw [if_pos c2, if_pos a2]
        have : i - (off + k) = (i - (off + (k + 1))) + 1 := by omega
        rw [this]
        simp
      · have a2 : ¬ (off + k ≤ i ∧ i < off + k + (r.length + 1)) := by omega
        rw [if_neg c2, if_neg a2, Array.getElem?_setIfInBounds]
        simp [c1]

theorem fill_row (off : Nat) (vs cs : Array Value) (h : off + vs.size ≤ cs.size) :
    vs.zipIdx.foldl (fun cs p => cs.setIfInBounds (off + p.2) p.1) cs = (cs.toList.take off ++ vs.toList ++ cs.toList.drop (off + vs.toList.length)).toArray := by
  have e : vs.zipIdx.foldl (fun cs p => cs.setIfInBounds (off + p.2) p.1) cs = (vs.toList.zipIdx 0).foldl (fun cs p => cs.setIfInBounds (off + p.2) p.1) cs := by
    rw [← Array.foldl_toList, Array.toList_zipIdx]
  rw [e]
  apply Array.ext_getElem?
  intro i
  have hl : off + 0 + vs.toList.length ≤ cs.size := by simpa using h
  rw [(foldl_set off vs.toList 0 cs i hl).2]
  have hl' : off + vs.toList.length ≤ cs.size := by simpa using h
  have h1 : (cs.toList.take off).length = off := by simp; omega
  conv => rhs; rw [List.getElem?_toArray, List.append_assoc]
  by_cases c1 : i < off
  · rw [List.getElem?_append_left (by omega), List.getElem?_take, if_pos c1, if_neg (by omega)]
    simp
  · rw [List.getElem?_append_right (by omega), h1]
    by_cases c2 : i < off + vs.toList.length
    · have a : off + 0 ≤ i ∧ i < off + 0 + vs.toList.length := by omega
      rw [List.getElem?_append_left (by omega), if_pos a]
      rfl
    · rw [List.getElem?_append_right (by omega), if_neg (by omega), List.getElem?_drop]
      have : off + vs.toList.length + (i - off - vs.toList.length) = i := by omega
      rw [this]
      simp

/-- The cells of a struct. -/
structure AggRel (w : World) (X : XT) (ρ : Rho) (cs : Array Value) (xs : List AV) : Prop where
  size : cs.size = xs.length
  one : ∀ i, i < cs.size → (cs.getD i undef).oneCell' = true
  rel : ∀ (i : Nat) (x : AV), xs[i]? = some x → VR w X ρ (cs.getD i undef) x

theorem AggRel.splice {cs : Array Value} {xs : List AV} (h : AggRel w X ρ cs xs) {vs : Array Value} {us : List AV} (k : AggRel w X ρ vs us) {off : Nat} (hle : off + us.length ≤ xs.length) :
    AggRel w X ρ (vs.zipIdx.foldl (fun cs p => cs.setIfInBounds (off + p.2) p.1) cs) (Abs.splice xs off us) := by
  have hv : off + vs.toList.length ≤ cs.size := by have := h.size; have := k.size; simp; omega
  rw [fill_row off vs cs (by simpa using hv)]
  have hlen : vs.toList.length = us.length := by simp [k.size]
  refine ⟨by rw [row_written_size _ _ _ hv, length_splice _ _ _ hle, h.size], fun i hi => ?_, fun i x hx => ?_⟩
  · rw [row_written_size _ _ _ hv] at hi
    rw [row_written _ _ _ hv]
    by_cases c : off ≤ i ∧ i < off + vs.toList.length
    · rw [if_pos c, toList_getD]
      have hl : vs.toList.length = vs.size := by simp
      exact k.one _ (by omega)
    · rw [if_neg c]
      exact h.one _ hi
  · rw [getD_splice _ _ _ hle] at hx
    rw [row_written _ _ _ hv, hlen]
    split at hx
    · rename_i c
      rw [if_pos c, toList_getD]
      exact k.rel _ _ hx
    · rename_i c
      rw [if_neg c]
      exact h.rel _ _ hx

theorem VR.aggRel {v : Value} {x : AV} (h : VR w X ρ v x) (hk : okV x = true) : AggRel w X ρ v.cells x.cells := by
  obtain ⟨h1, h2, h3⟩ := h.cells hk
  exact ⟨h1, h2, h3⟩

/-- The parts of a literal. -/
def PartsRel (w : World) (X : XT) (ρ : Rho) (vs : List (Nat × Value)) (xs : List (Nat × AV)) : Prop :=
  vs.length = xs.length ∧ ∀ (n i : Nat) (x : AV), xs[n]? = some (i, x) → ∃ v, vs[n]? = some (i, v) ∧ VR w X ρ v x

theorem PartsRel.cons {vs : List (Nat × Value)} {i : Nat} {x : AV} {xs : List (Nat × AV)} (h : PartsRel w X ρ vs ((i, x) :: xs)) : ∃ v r, vs = (i, v) :: r ∧ VR w X ρ v x ∧ PartsRel w X ρ r xs := by
  obtain ⟨h1, h2⟩ := h
  cases vs with
  | nil => simp at h1
  | cons p r =>
    obtain ⟨v, hv, hr⟩ := h2 0 i x rfl
    simp at hv
    subst hv
    exact ⟨v, r, rfl, hr, by simpa using h1, fun n i x hx => by simpa using h2 (n + 1) i x (by simpa using hx)⟩

theorem fillA_sound (placeA placeC : Nat → Option (Nat × Nat)) (hp : ∀ i p, placeA i = some p → placeC i = some p) : ∀ (xs : List (Nat × AV)) (vs : List (Nat × Value)) (cs : Array Value) (cells ys : List AV),
    AggRel w X ρ cs cells → PartsRel w X ρ vs xs → fillA placeA cells xs = some ys → ∃ cs', Instr.fill placeC cs vs = some cs' ∧ AggRel w X ρ cs' ys := by
  intro xs
  induction xs with
  | nil =>
    intro vs cs cells ys h hv hf
    have : vs = [] := List.eq_nil_of_length_eq_zero (by simpa using hv.1)
    subst this
    simp [fillA] at hf
    subst hf
    exact ⟨cs, rfl, h⟩
  | cons p r ih =>
    intro vs cs cells ys h hv hf
    obtain ⟨i, x⟩ := p
    obtain ⟨v, vr, rfl, hvx, hvr⟩ := hv.cons
    simp only [fillA] at hf
    cases hpl : placeA i with
    | none => simp [hpl] at hf
    | some q =>
      obtain ⟨off, size⟩ := q
      simp only [hpl] at hf
      split at hf
      · rename_i hc
        obtain ⟨c1, c2, c3⟩ := hc
        have hva := hvx.aggRel c3
        obtain ⟨cs', h1, h2⟩ := ih vr _ _ ys (h.splice hva (by omega)) hvr hf
        refine ⟨cs', ?_, h2⟩
        have e1 : v.cells.size = size := by rw [hva.size, c1]
        have e2 : ¬ (off + v.cells.size > cs.size) := by rw [e1, h.size]; omega
        simp only [Instr.fill, hp i _ hpl]
        rw [if_neg (by simp [e1]; rw [h.size]; omega)]
        exact h1
      · cases hf

theorem opBuild_sound {t : TypeId} {ps : List (Nat × AV)} {vs : Array (Nat × Value)} {z : AV} (hv : PartsRel w X ρ vs.toList ps) (h : opBuild P t ps = some z) :
    ∃ v, (Instr.build t vs).run P w = .ok v w ∧ VR w X ρ v z := by
  unfold opBuild at h
  cases hz : tzero P t with
  | none => simp [hz] at h
  | some zz =>
    cases zz with
    | agg zs =>
      obtain ⟨zv, hrun, hcv, _⟩ := run_tzero hz w
      have hzr : AggRel w X ρ zv.cells zs := by
        have h1 : VR w X ρ zv (.agg zs) := by rw [hcv]; exact .pur _ _ (cv_rel w X zv)
        exact h1.aggRel rfl
      cases hd : P.underlying t with
      | none => simp [hz, hd] at h
      | some d =>
        cases d with
        | struct fs =>
          simp only [hz, hd] at h
          split at h
          · cases h
          · rename_i hall
            obtain ⟨ys, hy, rfl⟩ := Option.map_eq_some_iff.1 h
            have hsz : ∀ f ∈ fs.toList, (do pure (f.offset, ← sizeOf f.type) : Sem (Nat × Nat)).run P w = .ok (f.offset, (tsize P f.type).getD 0) w := by
              intro f hf
              have : (tsize P f.type).isSome = true := by
                have hall' : fs.toList.all (fun f => (tsize P f.type).isSome) = true := by
                  cases hq : fs.toList.all (fun f => (tsize P f.type).isSome) with
                  | true => rfl
                  | false => rw [hq] at hall; simp at hall
                rw [List.all_eq_true] at hall'
                exact hall' f hf
              obtain ⟨n, hn⟩ := Option.isSome_iff_exists.1 this
              simp [run_tsize hn, hn]
            have hm := Array.run_mapM (P := P) (w := w) _ (fun f => (f.offset, (tsize P f.type).getD 0)) fs hsz
            obtain ⟨cs', h1, h2⟩ := fillA_sound _ (fun i => (fs.map fun f => (f.offset, (tsize P f.type).getD 0))[i]?) (fun i p hp => by
              cases hf : fs[i]? with
              | none => simp [hf] at hp
              | some f =>
                simp only [hf] at hp
                obtain ⟨n, hn, rfl⟩ := Option.map_eq_some_iff.1 hp
                simp [hf, hn]) ps vs.toList zv.cells zs ys hzr hv hy
            refine ⟨.agg cs', ?_, .agg _ _ h2.size h2.one h2.rel⟩
            simp only [Instr.build, Sem.run_bind, hrun, run_underlying hd, hm, Result.andThen_ok, h1, Sem.run_pure]
        | array n e =>
          simp only [hz, hd] at h
          cases hs : tsize P e with
          | none => simp [hs] at h
          | some s =>
            simp only [hs] at h
            obtain ⟨ys, hy, rfl⟩ := Option.map_eq_some_iff.1 h
            obtain ⟨cs', h1, h2⟩ := fillA_sound _ (fun i => some (i * s, s)) (fun i p hp => hp) ps vs.toList zv.cells zs ys hzr hv hy
            refine ⟨.agg cs', ?_, .agg _ _ h2.size h2.one h2.rel⟩
            simp [Instr.build, hrun, run_underlying hd, run_tsize hs, h1]
        | _ => simp [hz, hd] at h
    | _ => simp [hz] at h

/-! ### Rows of zeros -/

theorem zeros_get (zero : Array Value) (n size : Nat) (hz : zero.size = size) (hs : 0 < size) (i j : Nat) (hi : i < n) (hj : j < size) :
    ((Array.range (n * size)).map (zero[· % zero.size]!)).getD (i * size + j) undef = zero.getD j undef := by
  have hlt : i * size + j < n * size := by
    have : (i + 1) * size ≤ n * size := Nat.mul_le_mul_right _ hi
    rw [Nat.add_mul] at this
    omega
  have hm : (i * size + j) % zero.size = j := by
    rw [hz, Nat.mul_comm, Nat.mul_add_mod, Nat.mod_eq_of_lt hj]
  simp only [Array.getD_eq_getD_getElem?, Array.getElem?_map, Array.getElem?_range, hlt, if_true, Option.map_some, Option.getD_some, hm]
  have : j < zero.size := by omega
  simp [this, getElem!_pos]

theorem elems_replicate {zv : Value} {z : AV} {size n m : Nat} (hz : PR w X zv z) (hk : okV z = true) (hsz : z.cells.length = size) (hs : 0 < size) (hnm : n ≤ m) :
    ElemsAt false w X ρ ((Array.range (m * size)).map (zv.cells[· % zv.cells.size]!)) size (List.replicate n z) := by
  obtain ⟨e1, e2, e3⟩ := hz.cells hk
  have hzs : zv.cells.size = size := by omega
  refine ⟨by simp; exact Nat.mul_le_mul_right _ hnm, fun i x hx => ?_⟩
  have hi : i < n := by simpa using (List.getElem?_eq_some_iff.1 hx).1
  have hx' : x = z := by
    rw [List.getElem?_replicate, if_pos hi] at hx
    cases hx; rfl
  subst hx'
  refine ⟨hsz, fun j u hj => ?_⟩
  have hj' : j < size := by rw [← hsz]; exact (List.getElem?_eq_some_iff.1 hj).1
  rw [zeros_get zv.cells m size hzs hs i j (by omega) hj']
  exact ⟨e2 j (by omega), e3 j u hj⟩

/-! ### A slice literal -/

theorem fillS_sub {H : Heap} {size : Nat} {agg : Bool} : ∀ (xs : List (Nat × AV)) (es es' : List AV) (l l' : List Nm), fillS H size agg es l xs = some (es', l') → es'.length = es.length ∧ ∀ g, g ∈ l → g ∈ l' := by
  intro xs
  induction xs with
  | nil => intro es es' l l' h; simp [fillS] at h; obtain ⟨rfl, rfl⟩ := h; exact ⟨rfl, fun g h => h⟩
  | cons p r ih =>
    intro es es' l l' h
    obtain ⟨i, x⟩ := p
    simp only [fillS] at h
    cases hp : pureV H x with
    | none => simp [hp] at h
    | some q =>
      obtain ⟨u, m⟩ := q
      simp only [hp] at h
      split at h
      · obtain ⟨h1, h2⟩ := ih _ _ _ _ h
        exact ⟨by simpa using h1, fun g hg => h2 g (by simp [hg])⟩
      · cases h

theorem fillS_sound {H : Heap} (hr : HR Y w ρ H) {size : Nat} {agg : Bool} {X' : XT} : ∀ (xs : List (Nat × AV)) (vs : List (Nat × Value)) (cs : Array Value) (es es' : List AV) (l l' : List Nm),
    cs.size = es.length * size → ElemsAt false w X' ρ cs size es → PartsRel w (XU Y ρ H) ρ vs xs → fillS H size agg es l xs = some (es', l') → Shut Y ρ H X' l' →
    ∃ cs', Instr.fill (fun i => some (i * size, size)) cs vs = some cs' ∧ cs'.size = es'.length * size ∧ ElemsAt false w X' ρ cs' size es' := by
  intro xs
  induction xs with
  | nil =>
    intro vs cs es es' l l' hc he hv h _
    have : vs = [] := List.eq_nil_of_length_eq_zero (by simpa using hv.1)
    subst this
    simp [fillS] at h
    obtain ⟨rfl, rfl⟩ := h
    exact ⟨cs, rfl, hc, he⟩
  | cons p r ih =>
    intro vs cs es es' l l' hc he hv h hX
    obtain ⟨i, x⟩ := p
    obtain ⟨v, vr, rfl, hvx, hvr⟩ := hv.cons
    simp only [fillS] at h
    cases hp : pureV H x with
    | none => simp [hp] at h
    | some q =>
      obtain ⟨u, m⟩ := q
      simp only [hp] at h
      split at h
      · rename_i hcc
        obtain ⟨c1, c2, c3, c4⟩ := hcc
        obtain ⟨hlen, hsub⟩ := fillS_sub r _ _ _ _ h
        have hpr := pureV_rel hr hvx hp (hX.mono (fun g hg => hsub g (by simp [hg])))
        obtain ⟨e1, e2, e3⟩ := hpr.cells c4
        have hvs : v.cells.toList.length = size := by simp [e1, c1]
        obtain ⟨y, hy⟩ : ∃ y, es[i]? = some y := ⟨es[i], by simp [c3]⟩
        have hst := he.store (X' := X') (fun _ _ h => h) hy (off := 0) (size := size) (x' := u) (u := u) (by simp [newElem]) c1 (by omega) hvs (fun j z hz => by
          rw [toList_getD]
          have hj : j < v.cells.size := by rw [e1]; exact (List.getElem?_eq_some_iff.1 hz).1
          exact ⟨e2 j hj, e3 j z hz⟩)
        simp only [Nat.add_zero] at hst
        have hmul : (i + 1) * size ≤ es.length * size := Nat.mul_le_mul_right _ c3
        rw [Nat.add_mul] at hmul
        have hfit : i * size + v.cells.toList.length ≤ cs.size := by omega
        have hfit' : i * size + v.cells.size ≤ cs.size := by simpa using hfit
        rw [← fill_row (i * size) v.cells cs hfit'] at hst
        have hcs : (v.cells.zipIdx.foldl (fun cs p => cs.setIfInBounds (i * size + p.2) p.1) cs).size = (es.set i u).length * size := by
          rw [fill_row _ _ _ hfit', row_written_size _ _ _ hfit, hc]; simp
        obtain ⟨cs', h1, h2, h3⟩ := ih vr _ _ _ _ _ hcs hst hvr h hX
        refine ⟨cs', ?_, h2, h3⟩
        simp only [Instr.fill]
        rw [if_neg (by simp [e1, c1]; omega)]
        exact h1
      · cases h

/-- What an operation leaves that makes one block or none. -/
structure Gives (P : Program) (Y : XT) (w : World) (ρ : Rho) (H : Heap) (slot : Nat) (r : Res) (s : Sem Value) : Prop where
  out : ∃ v w' ρ', s.run P w = .ok v w' ∧ Made Y w ρ H w' ρ' ((putAll H r.wr).set slot (r.new.map some)) v r.val

theorem Gives.block {H : Heap} {slot : Nat} {r : Res} {s : Sem Value} {k : Blk} (hk : r.new = [k]) {v : Value} {w' : World} {ρ' : Rho} (hrun : s.run P w = .ok v w')
    (h : Made Y w ρ H w' ρ' ((putAll H r.wr).set slot [some k]) v r.val) : Gives P Y w ρ H slot r s := ⟨v, w', ρ', hrun, by rw [hk]; exact h⟩

/-- A new block behind stops. -/
theorem made_new {H H1 : Heap} (hr : HR Y w ρ H) (hl : Less H1 H) {slot : Nat} (hf : Free H1 slot) {w1 : World} {b : Nat} (hb : w.heap.size ≤ b) (hb1 : b < w1.heap.size)
    (hos : w1.os = w.os) (htape : w1.tape = w.tape) (hout : w1.output = w.output) (hold : ∀ i, i < w.heap.size → w1.heap[i]? = w.heap[i]?)
    (k : Blk) (h0 : 0 < k.sz) {cs : Array Value} {T : TypeId} (hc : w1.heap[b]? = some (.cells cs T (0, 0))) (he : ElemsAt k.box w (XU Y ρ H1) ρ cs k.sz k.elems) {v : Value} {x : AV}
    (hv : ∀ X', VR w1 X' (upd ρ (slot, 0) b) v x) : Made Y w ρ H w1 (upd ρ (slot, 0) b) (H1.set slot [some k]) v x := by
  obtain ⟨h1, h2, h3⟩ := (hr.less hl).new hf hb hb1 hos htape hout hold k h0 hc he
  exact ⟨h1, hv _, hl.st.trans h2, h3⟩

theorem VR.newOwn {w1 : World} {X' : XT} {slot b sz len cap : Nat} {cs : Array Value} {T : TypeId} (hc : w1.heap[b]? = some (.cells cs T (0, 0))) (hl : len ≤ cap) (hs : cap * sz ≤ cs.size) :
    VR w1 X' (upd ρ (slot, 0) b) (.slice (some ⟨b, 0, none⟩) len cap) (.own (slot, 0) sz 0 len) := by
  have hb : b < w1.heap.size := (Array.getElem?_eq_some_iff.1 hc).1
  have h : VR w1 X' (upd ρ (slot, 0) b) (.slice (some ⟨b, 0 * sz, none⟩) len cap) (.own (slot, 0) sz 0 len) := .own _ _ _ _ _ _ (by simp [upd]) hb hl (by simp [bsize, hc]; exact hs)
  simpa using h

theorem opBuildSlice_sound {H : Heap} (hr : HR Y w ρ H) {slot : Nat} (hf : Free H slot) {t : TypeId} {n : Nat} {ps : List (Nat × AV)} {vs : Array (Nat × Value)} {r : Res}
    (hv : PartsRel w (XU Y ρ H) ρ vs.toList ps) (h : opBuildSlice P t n ps H slot = some r) : Gives P Y w ρ H slot r (Instr.buildSlice t n vs) := by
  unfold opBuildSlice at h
  cases he : telem P t with
  | none => simp [he] at h
  | some e =>
    simp only [he] at h
    cases hs : tsize P e with
    | none => simp [hs] at h
    | some size =>
      cases ha : tagg P e with
      | none => simp [hs, ha] at h
      | some agg =>
        cases hz : tzeroP P e with
        | none => simp [hs, ha, hz] at h
        | some z =>
          simp only [hs, ha, hz] at h
          split at h
          · rename_i hc
            obtain ⟨c1, c2, c3, c4⟩ := hc
            cases hfl : fillS H size agg (List.replicate n z) [] ps with
            | none => simp [hfl] at h
            | some q =>
              obtain ⟨es, l⟩ := q
              simp only [hfl, Option.some.injEq] at h
              subst h
              obtain ⟨zv, hrun, hcv, _⟩ := run_tzeroP hz w
              have hless : Less (putAll H (stops H l)) H := Less.stops l H (Less.refl H)
              have hshut : Shut Y ρ H (XU Y ρ (putAll H (stops H l))) l := Shut.of_less hr hless (fun g' hg' k1 hk1 k' hk' => stops_frz H g' hk1 l H hg' k' hk')
              have hzr : ∀ X', PR w X' zv z := fun X' => by rw [hcv]; exact (cv_rel w X' zv).nt
              have hlen := (fillS_sub ps _ _ _ _ hfl).1
              -- the row of zeros
              obtain ⟨zero, hzero, hzs, hze⟩ : ∃ zero : Array Value, ((n * size = 0 ∧ zero = #[]) ∨ (¬ n * size = 0 ∧ zero = zv.cells)) ∧
                  ((Array.range (n * size)).map (zero[· % zero.size]!)).size = (List.replicate n z).length * size ∧
                  ElemsAt false w (XU Y ρ (putAll H (stops H l))) ρ ((Array.range (n * size)).map (zero[· % zero.size]!)) size (List.replicate n z) := by
                by_cases h0 : n * size = 0
                · have hn : n = 0 := by
                    rcases Nat.mul_eq_zero.1 h0 with h | h
                    · exact h
                    · omega
                  subst hn
                  refine ⟨#[], .inl ⟨h0, rfl⟩, by simp, by simp, fun i x hx => by simp at hx⟩
                · refine ⟨zv.cells, .inr ⟨h0, rfl⟩, by simp, ?_⟩
                  exact elems_replicate (hzr _) c4 c3 c2 (Nat.le_refl _)
              obtain ⟨cs', f1, f2, f3⟩ := fillS_sound hr ps vs.toList _ _ _ _ _ hzs hze hv hfl hshut
              have hfr : Free (putAll H (stops H l)) slot := hf.putAll _
              refine Gives.block (k := ⟨size, es, 0, false⟩) rfl (v := .slice (some ⟨w.heap.size, 0, none⟩) n n) (w' := w.alloc (.cells cs' e)) (ρ' := upd ρ (slot, 0) w.heap.size) ?_ ?_
              · have : ¬ (n * size > 2 ^ 24) := by omega
                rcases hzero with ⟨h0, rfl⟩ | ⟨h0, rfl⟩
                · simp only [Instr.buildSlice, Sem.run_bind, run_underlying (telem_un he), Result.andThen_ok, run_tsize hs, if_neg this, if_pos h0, Sem.run_pure, f1, newRow, run_newObj]
                  rfl
                · simp only [Instr.buildSlice, Sem.run_bind, run_underlying (telem_un he), Result.andThen_ok, run_tsize hs, if_neg this, if_neg h0, Sem.run_pure, hrun, f1, newRow, run_newObj]
                  rfl
              · refine made_new (w1 := w.alloc (.cells cs' e)) hr hless hfr (Nat.le_refl _) (by simp) rfl rfl rfl (fun i hi => heap_alloc_old w _ i hi) ⟨size, es, 0, false⟩ (show 0 < size by omega) (heap_alloc_new w _) f3 (fun X' => ?_)
                refine VR.newOwn (heap_alloc_new w _) (Nat.le_refl _) ?_
                rw [f2, hlen]; simp
          · cases h

theorem opMakeSlice_sound {H : Heap} (hr : HR Y w ρ H) {slot : Nat} (hf : Free H slot) {t : TypeId} {l c : AV} {vl vc : Value} {r : Res}
    (hl : VR w (XU Y ρ H) ρ vl l) (hc : VR w (XU Y ρ H) ρ vc c) (h : opMakeSlice P t l c slot = some r) : Gives P Y w ρ H slot r (Instr.makeSlice t vl vc) := by
  unfold opMakeSlice at h
  cases he : telem P t with
  | none => simp [he] at h
  | some e =>
    cases l <;> simp [he] at h
    rename_i kl n
    cases c <;> simp at h
    rename_i kc m
    have e1 := hl.intInv; subst e1
    have e2 := hc.intInv; subst e2
    cases hs : tsize P e with
    | none => simp [hs] at h
    | some size =>
      cases hby : tbytes P e with
      | none => simp [hs, hby] at h
      | some bytes =>
        cases hz : tzeroP P e with
        | none => simp [hs, hby, hz] at h
        | some z =>
          simp only [hs, hby, hz] at h
          split at h
          · rename_i hcc
            obtain ⟨c0, c1, c2, c3, c4, c5, c6⟩ := hcc
            cases h
            obtain ⟨zv, hrun, hcv, _⟩ := run_tzeroP hz w
            have hzr : ∀ X', PR w X' zv z := fun X' => by rw [hcv]; exact (cv_rel w X' zv).nt
            obtain ⟨ti, hti, hbb, hrb⟩ := run_tbytes hby w
            have wn : IntKind.i64.wrap n = n := IntWalk.i64_in n (by omega)
            have wm : IntKind.i64.wrap m = m := IntWalk.i64_in m (by omega)
            obtain ⟨zero, hzero, hze⟩ : ∃ zero : Array Value, ((m.toNat * size = 0 ∧ zero = #[]) ∨ (¬ m.toNat * size = 0 ∧ zero = zv.cells)) ∧
                ElemsAt false w (XU Y ρ H) ρ ((Array.range (m.toNat * size)).map (zero[· % zero.size]!)) size (List.replicate n.toNat z) := by
              by_cases h0 : m.toNat * size = 0
              · have hm : m.toNat = 0 := by
                  rcases Nat.mul_eq_zero.1 h0 with h | h
                  · exact h
                  · omega
                have hn : n.toNat = 0 := by omega
                rw [hn, hm]
                refine ⟨#[], .inl ⟨by simp, rfl⟩, by simp, fun i x hx => by simp at hx⟩
              · refine ⟨zv.cells, .inr ⟨h0, rfl⟩, ?_⟩
                exact elems_replicate (hzr _) c6 c5 c4 (by omega)
            refine Gives.block (k := ⟨size, List.replicate n.toNat z, 0, false⟩) rfl (v := .slice (some ⟨w.heap.size, 0, none⟩) n.toNat m.toNat) (w' := w.alloc (.cells ((Array.range (m.toNat * size)).map (zero[· % zero.size]!)) e)) (ρ' := upd ρ (slot, 0) w.heap.size) ?_ ?_
            · have hbig : ¬ ((ti.bytes : Int) * m > 2 ^ 48) := by
                rw [hbb]
                have : (bytes : Int) * m ≤ 32768 * 4294967296 := by
                  refine Int.le_trans (Int.mul_le_mul_of_nonneg_right (by omega) (by omega)) (Int.mul_le_mul_of_nonneg_left c2 (by omega))
                omega
              have hbig2 : ¬ ((ti.bytes : Int) * n > 2 ^ 48) := by
                have : (ti.bytes : Int) * n ≤ ti.bytes * m := Int.mul_le_mul_of_nonneg_left c1 (by omega)
                omega
              have hcond : (decide (m < 0) || decide ((ti.bytes : Int) * m > 2 ^ 48) || decide (n < 0) || decide (n > m)) = false := by
                simp only [Bool.or_eq_false_iff, decide_eq_false_iff_not]
                omega
              rcases hzero with ⟨h0, rfl⟩ | ⟨h0, rfl⟩
              · simp only [Instr.makeSlice, Sem.run_bind, run_underlying (telem_un he), Result.andThen_ok, asInt, asIntOf, Sem.run_pure, hrb, wn, wm, hcond, Bool.false_eq_true, if_false, run_askRoom, run_tsize hs, if_pos h0, newRow, run_newObj]
                rfl
              · simp only [Instr.makeSlice, Sem.run_bind, run_underlying (telem_un he), Result.andThen_ok, asInt, asIntOf, Sem.run_pure, hrb, wn, wm, hcond, Bool.false_eq_true, if_false, run_askRoom, run_tsize hs, if_neg h0, hrun, newRow, run_newObj]
                rfl
            · refine made_new (w1 := w.alloc (.cells ((Array.range (m.toNat * size)).map (zero[· % zero.size]!)) e)) hr (Less.refl H) hf (Nat.le_refl _) (by simp) rfl rfl rfl (fun i hi => heap_alloc_old w _ i hi) ⟨size, List.replicate n.toNat z, 0, false⟩ (show 0 < size by omega) (heap_alloc_new w _) hze (fun X' => ?_)
              exact VR.newOwn (heap_alloc_new w _) (by omega) (by simp)
          · cases h

end
end Go.Abs
