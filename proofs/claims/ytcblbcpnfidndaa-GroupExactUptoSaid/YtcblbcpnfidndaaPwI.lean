/- append. -/
import Derived.Test.YtcblbcpnfidndaaPwH
import Derived.Laws.AppendOwn
set_option linter.unusedSimpArgs false
set_option linter.unusedVariables false
namespace Go.Abs
open Go

section
variable {P : Program} {w : World} {X Y : XT} {ρ : Rho}

/-- What is read of a slice: its cells, in whatever world that has the same heap. -/
def Cells (P : Program) (w : World) (size n : Nat) (v : Value) (cs : Array Value) : Prop :=
  (Builtin.lenOf v).run P w = .ok n w ∧ ∀ w' : World, w'.heap = w.heap → (Builtin.firstCells size n v).run P w' = .ok cs w'

theorem cells_none {size c : Nat} : Cells P w size 0 (.slice none 0 c) #[] := ⟨rfl, fun w' _ => by simp [Builtin.firstCells]⟩

theorem cells_zero {size c : Nat} {a : Option Addr} : Cells P w size 0 (.slice a 0 c) #[] := by
  refine ⟨rfl, fun w' _ => ?_⟩
  cases a with
  | none => simp [Builtin.firstCells]
  | some a => simp [Builtin.firstCells, loadCells, loadCellsFrom]

theorem cells_row {size n c b o : Nat} (f : Nat → Value) (hf : ∀ j, j < n * size → w.cell? ⟨b, o + j, none⟩ = some (f j)) : Cells P w size n (.slice (some ⟨b, o, none⟩) n c) ((List.range (n * size)).map f).toArray := by
  refine ⟨rfl, fun w' hw => ?_⟩
  simp only [Builtin.firstCells]
  rw [run_loadCells w' ⟨b, o, none⟩ (n * size) f (fun j hj => ?_)]
  rw [addr_add]
  have : w'.cell? ⟨b, o + j, none⟩ = w.cell? ⟨b, o + j, none⟩ := World.cell?_of_block (w := w) (by rw [hw])
  rw [this]
  exact hf j hj

theorem run_append_more {t ty e : TypeId} {i : TypeInfo} {z : Value} (ht : P.underlying t = some (.slice e)) (hi : P.info? e = some i) (hz : i.zero = some z)
    {base : Option Addr} {n cap m : Nat} {x : Value} {olds news : Array Value} (ho : Cells P w i.size n (.slice base n cap) olds) (hn : Cells P w i.size m x news)
    (hg : cap < n + m) (h63 : n + m ≤ 4294967296) (hb : i.bytes ≤ 32768) (hzs : z.cells.size = i.size) :
    ∃ nc rest, n + m ≤ nc ∧ rest.size = (nc - (n + m)) * i.size ∧ (Builtin.append_ #[t, t] ty #[.slice base n cap, x]).run P w =
      .ok (.slice (some ⟨w.heap.size, 0, none⟩) (n + m) nc) (w.drew.alloc (.cells (olds ++ news ++ rest) e)) := by
  have h1 : ¬ (n + m ≤ cap) := by omega
  have h2 : ¬ (9223372036854775807 < ((n : Int) + (m : Int))) := by omega
  have hfit : Builtin.nextslicecap (n + m) cap * i.bytes ≤ 281474976710656 := by
    refine growslice_fits hg ?_
    calc (n + m) * i.bytes ≤ 4294967296 * 32768 := Nat.mul_le_mul h63 hb
      _ = 140737488355328 := rfl
  have h3 : ¬ (281474976710656 < Builtin.nextslicecap (n + m) cap * i.bytes) := by omega
  refine ⟨grownCap w (n + m) cap e, Builtin.zeroCells z.cells (grownCap w (n + m) cap e - (n + m)), grownCap_ge w _ _ _, by simp [Builtin.zeroCells, hzs], ?_⟩
  have ho' := ho.2 w.drew rfl
  have hn' := hn.2 w.drew rfl
  have hl := hn.1
  simp [Builtin.append_, run_underlying ht, sizeOf, typeInfo, zeroValue, hi, hz, hl, h1, h2, h3, Question.forced, ho', hn', newRow, grownCap]

theorem run_append_room' {t ty e : TypeId} {i : TypeInfo} (ht : P.underlying t = some (.slice e)) (hi : P.info? e = some i)
    {base : Option Addr} {n cap m : Nat} {x : Value} {news : Array Value} (hn : Cells P w i.size m x news) (hg : n + m ≤ cap) {w' : World}
    (hst : ∀ a, base = some a → (storeCells (a.add (n * i.size)) news.toList).run P w = .ok () w') (hno : base = none → w' = w) :
    (Builtin.append_ #[t, t] ty #[.slice base n cap, x]).run P w = .ok (.slice base (n + m) cap) w' := by
  have hl := hn.1
  have hn' := hn.2 w rfl
  cases base with
  | none => have := hno rfl; subst this; simp [Builtin.append_, run_underlying ht, sizeOf, typeInfo, hi, hl, hg, hn']
  | some a => have := hst a rfl; simp [Builtin.append_, run_underlying ht, sizeOf, typeInfo, hi, hl, hg, hn', this]

/-- The cells of elements. -/
structure RowOf (w : World) (X : XT) (cs : Array Value) (sz : Nat) (es : List AV) : Prop where
  size : cs.size = es.length * sz
  one : ∀ v ∈ cs.toList, v.oneCell' = true
  el : ∀ ρ, ElemsAt false w X ρ cs sz es

theorem RowOf.of {f : Nat → Nat → Value} {sz : Nat} (hpos : 0 < sz) {es : List AV} (h1 : ∀ (i : Nat) (x : AV), es[i]? = some x → x.cells.length = sz ∧ ∀ (j : Nat) (u : AV), x.cells[j]? = some u → (f i j).oneCell' = true ∧ PR w X (f i j) u) :
    RowOf w X ((List.range (es.length * sz)).map fun k => f (k / sz) (k % sz)).toArray sz es := by
  have hget : ∀ k, k < es.length * sz → (((List.range (es.length * sz)).map fun k => f (k / sz) (k % sz)).toArray).getD k undef = f (k / sz) (k % sz) := by
    intro k hk
    simp [Array.getD_eq_getD_getElem?, hk]
  have hone : ∀ k, k < es.length * sz → (f (k / sz) (k % sz)).oneCell' = true := by
    intro k hk
    have hi : k / sz < es.length := Nat.div_lt_of_lt_mul (by rw [Nat.mul_comm]; exact hk)
    have hj : k % sz < sz := Nat.mod_lt _ hpos
    obtain ⟨a1, a2⟩ := h1 (k / sz) es[k / sz] (by simp [hi])
    exact (a2 (k % sz) es[k / sz].cells[k % sz] (by simp [a1, hj])).1
  refine ⟨by simp, fun v hv => ?_, fun ρ => ⟨by simp, fun i x hx => ⟨(h1 i x hx).1, fun j u hj => ?_⟩⟩⟩
  · simp only [List.mem_map, List.mem_range] at hv
    obtain ⟨k, hk, rfl⟩ := hv
    exact hone k hk
  · have hi : i < es.length := (List.getElem?_eq_some_iff.1 hx).1
    have hj' : j < sz := by rw [← (h1 i x hx).1]; exact (List.getElem?_eq_some_iff.1 hj).1
    have hlt : i * sz + j < es.length * sz := by
      have : (i + 1) * sz ≤ es.length * sz := Nat.mul_le_mul_right _ hi
      rw [Nat.add_mul] at this
      omega
    rw [hget _ hlt]
    have d1 : (i * sz + j) / sz = i := by rw [Nat.mul_comm, Nat.mul_add_div hpos, Nat.div_eq_of_lt hj']; omega
    have d2 : (i * sz + j) % sz = j := by rw [Nat.mul_comm, Nat.mul_add_mod, Nat.mod_eq_of_lt hj']
    rw [d1, d2]
    exact (h1 i x hx).2 j u hj

theorem RowOf.nil {sz : Nat} : RowOf w X #[] sz [] := ⟨by simp, fun v hv => by simp at hv, fun ρ => ⟨by simp, fun i x hx => by simp at hx⟩⟩

theorem RowOf.mono {w' : World} {X' : XT} (hs : Stable w X w' X') {cs : Array Value} {sz : Nat} {es : List AV} (h : RowOf w X cs sz es) : RowOf w' X' cs sz es :=
  ⟨h.size, h.one, fun ρ => (h.el ρ).mono hs (fun _ _ h => h)⟩

/-- A list that is only read, as cells. -/
theorem PR.row {sz : Nat} (hpos : 0 < sz) {xs : List AV} {t : Bool} {a : Option Addr} {cap sz' : Nat} (hs : sz' = sz ∨ xs = []) (h : PR w X (.slice a xs.length cap) (.lst sz' xs t)) :
    ∃ cs, Cells P w sz xs.length (.slice a xs.length cap) cs ∧ RowOf w X cs sz xs := by
  generalize hn : xs.length = n at h
  cases h with
  | lst0 a cap sz' t ht => exact ⟨#[], cells_zero, .nil⟩
  | lst b o n cap sz' t xs f hn' hc ht hsz hx hr =>
    rcases hs with rfl | rfl
    · subst hn
      have row := RowOf.of (w := w) (X := X) (f := f) hpos (es := xs) (fun i x hi => ⟨hsz i x hi, fun j u hj => ⟨(hx i x hi j u hj).2.2, hr i x hi j u hj⟩⟩)
      refine ⟨_, cells_row (fun k => f (k / sz') (k % sz')) (fun k hk => ?_), row⟩
      have hi : k / sz' < xs.length := Nat.div_lt_of_lt_mul (by rw [Nat.mul_comm]; exact hk)
      have hj : k % sz' < sz' := Nat.mod_lt _ hpos
      have hl := hsz (k / sz') xs[k / sz'] (by simp [hi])
      have := (hx (k / sz') xs[k / sz'] (by simp [hi]) (k % sz') xs[k / sz'].cells[k % sz'] (by simp [hl, hj])).2.1
      rw [show k / sz' * sz' + k % sz' = k from Nat.div_add_mod' k sz'] at this
      exact this
    · simp at hn
      subst hn
      exact ⟨#[], cells_zero, .nil⟩

/-- A piece of a block, as cells. -/
theorem BlkAt.row {b : Nat} {k : Blk} (hpos : 0 < k.sz) (hb : BlkAt w X ρ b k) (hbox : k.box = false) {off len cap : Nat} (hl : off + len ≤ k.elems.length) :
    ∃ cs, Cells P w k.sz len (.slice (some ⟨b, off * k.sz, none⟩) len cap) cs ∧ RowOf w X cs k.sz ((k.elems.drop off).take len) := by
  obtain ⟨cs, T, hh, hle, he⟩ := hb.cells hpos
  have hlen : ((k.elems.drop off).take len).length = len := by simp; omega
  have hget : ∀ i x, ((k.elems.drop off).take len)[i]? = some x → k.elems[off + i]? = some x := by
    intro i x hi
    rw [List.getElem?_take, List.getElem?_drop] at hi
    split at hi
    · exact hi
    · cases hi
  have row := RowOf.of (w := w) (X := X) (f := fun i j => cs.getD ((off + i) * k.sz + j) undef) hpos (es := (k.elems.drop off).take len) (fun i x hi => by
    obtain ⟨a1, a2⟩ := he _ _ (hget i x hi)
    refine ⟨a1, fun j u hj => ?_⟩
    have := a2 j u hj
    rw [hbox] at this
    exact this)
  rw [hlen] at row
  refine ⟨_, cells_row (fun q => cs.getD ((off + q / k.sz) * k.sz + q % k.sz) undef) (fun q hq => ?_), row⟩
  rw [cell_of_row w b _ cs T (0, 0) hh]
  have e : (off + q / k.sz) * k.sz + q % k.sz = off * k.sz + q := by
    rw [Nat.add_mul, Nat.add_assoc, Nat.div_add_mod']
  rw [e]
  have : off * k.sz + q < cs.size := by
    have : (off + len) * k.sz ≤ k.elems.length * k.sz := Nat.mul_le_mul_right _ hl
    rw [Nat.add_mul] at this
    omega
  simp [Array.getD_eq_getD_getElem?, this]

theorem srcOf_sound {H : Heap} (hr : HR Y w ρ H) {x : AV} {v : Value} {sz size : Nat} {ys : List AV} {l : List Nm} (hpos : 0 < size) (hv : VR w (XU Y ρ H) ρ v x) (h : srcOf H x = some (sz, ys, l)) (hs : sz = size ∨ ys = []) :
    ∃ cs, Cells P w size ys.length v cs ∧ RowOf w (XU Y ρ H) cs size ys := by
  cases x with
  | lst sz' xs t =>
    simp only [srcOf, Option.some.injEq, Prod.mk.injEq] at h
    obtain ⟨rfl, rfl, rfl⟩ := h
    obtain ⟨a, cap, rfl, _, _, hp⟩ := hv.lstInv
    exact hp.row hpos hs
  | own g sz' off len =>
    simp only [srcOf] at h
    cases hg : get H g with
    | none => simp [hg] at h
    | some k =>
      simp only [hg] at h
      split at h
      · rename_i hc
        obtain ⟨c1, c2, c3, _⟩ := hc
        simp only [Option.some.injEq, Prod.mk.injEq] at h
        obtain ⟨rfl, rfl, rfl⟩ := h
        have hlen : ((k.elems.drop off).take len).length = len := by simp; omega
        rcases hv.ownInv with ⟨a, rfl, rfl⟩ | ⟨b, cap, rfl, hρ, _, _, _⟩
        · simp only [List.take_zero]
          exact ⟨#[], cells_zero, .nil⟩
        · subst c3
          rcases hs with rfl | he
          · have := (hr.at hg hρ).row (P := P) hpos c2 (cap := cap) c1
            rw [hlen]
            exact this
          · rw [he] at hlen
            simp at hlen
            subst hlen
            rw [he]
            exact ⟨#[], cells_zero, .nil⟩
      · cases h
  | _ => simp [srcOf] at h

theorem RowOf.append {cs ds : Array Value} {sz : Nat} {xs ys : List AV} (h : RowOf w X cs sz xs) (k : RowOf w X ds sz ys) (rest : Array Value) (ρ : Rho) : ElemsAt false w X ρ (cs ++ ds ++ rest) sz (xs ++ ys) := by
  refine ⟨by simp [h.size, k.size, Nat.add_mul], fun i x hx => ?_⟩
  have hg : ∀ q, q < cs.size → (cs ++ ds ++ rest).getD q undef = cs.getD q undef := by
    intro q hq
    simp only [Array.getD_eq_getD_getElem?]
    rw [Array.getElem?_append_left (by simp; omega), Array.getElem?_append_left hq]
  have hg2 : ∀ q, q < ds.size → (cs ++ ds ++ rest).getD (cs.size + q) undef = ds.getD q undef := by
    intro q hq
    simp only [Array.getD_eq_getD_getElem?]
    rw [Array.getElem?_append_left (by simp; omega), Array.getElem?_append_right (by omega)]
    simp
  rcases Nat.lt_or_ge i xs.length with hi | hi
  · rw [List.getElem?_append_left hi] at hx
    obtain ⟨a1, a2⟩ := (h.el ρ).2 i x hx
    refine ⟨a1, fun j u hj => ?_⟩
    have hj' : j < sz := by rw [← a1]; exact (List.getElem?_eq_some_iff.1 hj).1
    have hlt : i * sz + j < cs.size := by
      rw [h.size]
      have : (i + 1) * sz ≤ xs.length * sz := Nat.mul_le_mul_right _ hi
      rw [Nat.add_mul] at this
      omega
    rw [hg _ hlt]
    exact a2 j u hj
  · rw [List.getElem?_append_right hi] at hx
    obtain ⟨a1, a2⟩ := (k.el ρ).2 _ x hx
    refine ⟨a1, fun j u hj => ?_⟩
    have hj' : j < sz := by rw [← a1]; exact (List.getElem?_eq_some_iff.1 hj).1
    have hi2 : i - xs.length < ys.length := (List.getElem?_eq_some_iff.1 hx).1
    have hlt : (i - xs.length) * sz + j < ds.size := by
      rw [k.size]
      have : (i - xs.length + 1) * sz ≤ ys.length * sz := Nat.mul_le_mul_right _ hi2
      rw [Nat.add_mul] at this
      omega
    have e : i * sz + j = cs.size + ((i - xs.length) * sz + j) := by
      rw [h.size, ← Nat.add_assoc, ← Nat.add_mul]
      congr 2
      omega
    rw [e, hg2 _ hlt]
    exact a2 j u hj

/-- Elements laid behind those of a block. -/
theorem ElemsAt.behind {cs ds : Array Value} {sz : Nat} {xs ys : List AV} (h : ElemsAt false w X ρ cs sz xs) (k : RowOf w X ds sz ys) (hfit : xs.length * sz + ds.toList.length ≤ cs.size) :
    ElemsAt false w X ρ ((cs.toList.take (xs.length * sz) ++ ds.toList ++ cs.toList.drop (xs.length * sz + ds.toList.length)).toArray) sz (xs ++ ys) := by
  have hds : ds.toList.length = ys.length * sz := by simp [k.size]
  refine ⟨by rw [row_written_size _ _ _ hfit]; simp [Nat.add_mul]; omega, fun i x hx => ?_⟩
  rcases Nat.lt_or_ge i xs.length with hi | hi
  · rw [List.getElem?_append_left hi] at hx
    obtain ⟨a1, a2⟩ := h.2 i x hx
    refine ⟨a1, fun j u hj => ?_⟩
    have hj' : j < sz := by rw [← a1]; exact (List.getElem?_eq_some_iff.1 hj).1
    have hlt : i * sz + j < xs.length * sz := by
      have : (i + 1) * sz ≤ xs.length * sz := Nat.mul_le_mul_right _ hi
      rw [Nat.add_mul] at this
      omega
    rw [row_written _ _ _ hfit, if_neg (by omega)]
    exact a2 j u hj
  · rw [List.getElem?_append_right hi] at hx
    obtain ⟨a1, a2⟩ := (k.el ρ).2 _ x hx
    refine ⟨a1, fun j u hj => ?_⟩
    have hj' : j < sz := by rw [← a1]; exact (List.getElem?_eq_some_iff.1 hj).1
    have hi2 : i - xs.length < ys.length := (List.getElem?_eq_some_iff.1 hx).1
    have hlt : (i - xs.length) * sz + j < ys.length * sz := by
      have : (i - xs.length + 1) * sz ≤ ys.length * sz := Nat.mul_le_mul_right _ hi2
      rw [Nat.add_mul] at this
      omega
    have e : i * sz + j = xs.length * sz + ((i - xs.length) * sz + j) := by
      rw [← Nat.add_assoc, ← Nat.add_mul]
      congr 2
      omega
    rw [row_written _ _ _ hfit, if_pos (by omega)]
    have e2 : i * sz + j - xs.length * sz = (i - xs.length) * sz + j := by omega
    rw [e2, toList_getD]
    exact a2 j u hj

theorem ElemsAt.take {cs : Array Value} {sz : Nat} {xs : List AV} (h : ElemsAt false w X ρ cs sz xs) (n : Nat) : ElemsAt false w X ρ cs sz (xs.take n) := by
  refine ⟨Nat.le_trans (Nat.mul_le_mul_right _ (by simp; omega)) h.1, fun i x hx => ?_⟩
  rw [List.getElem?_take] at hx
  split at hx
  · exact h.2 i x hx
  · cases hx

theorem opAppend_sound {H : Heap} (hr : HR Y w ρ H) {slot : Nat} (hf : Free H slot) {t ty : TypeId} {s x : AV} {vs vx : Value} {r : Res}
    (hs : VR w (XU Y ρ H) ρ vs s) (hx : VR w (XU Y ρ H) ρ vx x) (h : opAppend P t s x H slot = some r) : Gives P Y w ρ H slot r (Builtin.append_ #[t, t] ty #[vs, vx]) := by
  unfold opAppend at h
  cases he : telem P t with
  | none => simp [he] at h
  | some e =>
    simp only [he] at h
    cases hsz : tsize P e with
    | none => simp [hsz] at h
    | some size =>
      cases hby : tbytes P e with
      | none => simp [hsz, hby] at h
      | some bytes =>
        cases hz : tzero P e with
        | none => simp [hsz, hby, hz] at h
        | some z =>
        cases hsrc : srcOf H x with
        | none => simp [hsz, hby, hz, hsrc] at h
        | some q =>
          obtain ⟨sz', ys, l⟩ := q
          simp only [hsz, hby, hz, hsrc] at h
          split at h
          · rename_i hc
            obtain ⟨c1, c2, c4, c5, c3⟩ := hc
            obtain ⟨ti, hti, hbb, _⟩ := run_tbytes hby w
            have hsi : ti.size = size := by
              unfold tsize at hsz
              rw [hti] at hsz
              simpa using hsz
            obtain ⟨news, hnc, hnr⟩ := srcOf_sound (P := P) hr c1 hx hsrc c3
            obtain ⟨zv, _, hcv, ti', hti', hzv⟩ := run_tzero hz w
            rw [hti] at hti'
            cases hti'
            have hzs : zv.cells.size = ti.size := by
              have h1 : VR w (XU Y ρ H) ρ zv z := by rw [hcv]; exact .pur _ _ (cv_rel w _ zv)
              rw [(h1.aggRel c5).size, c4, hsi]
            rw [← hsi] at hnc
            -- the slice grows into a new block
            have more : ∀ (H1 : Heap) (hl : Less H1 H) (hlen1 : H1.length = H.length) (base : Option Addr) (n cap : Nat) (olds : Array Value) (es : List AV) (frz : Nat), es.length = n → Cells P w ti.size n (.slice base n cap) olds →
                RowOf w (XU Y ρ H) olds size es → cap < n + ys.length → n + ys.length ≤ 4294967296 →
                ∃ v w' ρ', (Builtin.append_ #[t, t] ty #[.slice base n cap, vx]).run P w = .ok v w' ∧
                  Made Y w ρ H w' ρ' (H1.set slot [some ⟨size, es ++ ys, frz, false⟩]) v (.own (slot, 0) size 0 (n + ys.length)) := by
              intro H1 hl hlen1 base n cap olds es frz hn ho hor hg h63
              obtain ⟨nc, rest, g1, g2, g3⟩ := run_append_more (ty := ty) (telem_un he) hti hzv ho hnc hg h63 (by omega) hzs
              have hfr : Free H1 slot := hf.less hl hlen1
              refine ⟨_, _, upd ρ (slot, 0) w.heap.size, g3, ?_⟩
              refine made_new (w1 := w.drew.alloc (.cells (olds ++ news ++ rest) e)) hr hl hfr (Nat.le_refl _) (by simp) rfl rfl rfl (fun i hi => heap_alloc_old w.drew _ i hi) ⟨size, es ++ ys, frz, false⟩ (show 0 < size by omega) (heap_alloc_new w.drew _) ?_ (fun X' => ?_)
              · exact (hor.append hnr rest ρ).mono (hl.st.xu Y) (fun _ _ h => h)
              · refine VR.newOwn (heap_alloc_new w.drew _) g1 ?_
                have e1 := hor.size
                have e2 := hnr.size
                simp only [Array.size_append, e1, e2, g2, hn, hsi]
                rw [← Nat.add_mul, ← Nat.add_mul]
                exact Nat.mul_le_mul_right _ (by omega)
            cases s with
            | lst sz xs tight =>
              simp only at h
              split at h
              · rename_i hcc
                obtain ⟨rfl, _⟩ := hcc
                split at h
                · rename_i hsz2
                  cases h
                  obtain ⟨a, cap, rfl, hcap, _, _⟩ := hs.lstInv
                  have hnews : news = #[] := by
                    have := hnr.size
                    simp at this
                    exact this
                  subst hnews
                  have hrun := run_append_room' (ty := ty) (base := a) (n := xs.length) (cap := cap) (w' := w) (telem_un he) hti hnc (by simpa using hcap) (fun a _ => by simp [storeCells]) (fun _ => rfl)
                  refine ⟨_, w, ρ, hrun, ?_⟩
                  have hset : (putAll H []).set slot (([] : List Blk).map some) = H := by
                    show H.set slot [] = H
                    apply List.ext_getElem?
                    intro j
                    rw [List.getElem?_set]
                    split
                    · rename_i e
                      subst e
                      have h2 := hf.2
                      rw [List.getD_eq_getElem?_getD] at h2
                      rw [if_pos hf.1]
                      cases hh : H[slot]? with
                      | none => have := List.getElem?_eq_none_iff.1 hh; have := hf.1; omega
                      | some q => rw [hh] at h2; simp at h2; rw [h2]
                    · rfl
                  show Made Y w ρ H w ρ ((putAll H []).set slot (([] : List Blk).map some)) _ _
                  rw [hset]
                  refine ⟨hr, ?_, Stable.refl w _, fun _ _ h => h⟩
                  rw [hsz2] at hs
                  simpa using hs
                · cases h
              split at h
              · rename_i hcc
                obtain ⟨d1, d2, d3, d4⟩ := hcc
                cases h
                obtain ⟨a, cap, rfl, hcap, htight, hp⟩ := hs.lstInv
                have hcap' := htight d1
                subst hcap'
                by_cases hm : ys.length = 0
                · have hys : ys = [] := List.eq_nil_of_length_eq_zero hm
                  have hxs : xs = [] := by
                    rcases d3 with h | h
                    · exact h
                    · omega
                  subst hys hxs
                  have hnews : news = #[] := by
                    have := hnr.size
                    simp at this
                    exact this
                  subst hnews
                  have hrun := run_append_room' (ty := ty) (base := a) (n := 0) (cap := 0) (w' := w) (telem_un he) hti hnc (Nat.le_refl _) (fun a _ => by simp [storeCells]) (fun _ => rfl)
                  obtain ⟨v1, v2⟩ := hr.virt hf ⟨size, [], 0, false⟩ rfl rfl
                  exact Gives.block (k := ⟨size, [], 0, false⟩) rfl hrun ⟨v1, .own0 _ _ _ _, v2, fun _ _ h => h⟩
                · obtain ⟨olds, hoc, hor⟩ := hp.row (P := P) c1 d2
                  rw [← hsi] at hoc
                  obtain ⟨v, w', ρ', m1, m2⟩ := more H (Less.refl H) rfl a xs.length xs.length olds xs 0 rfl hoc hor (by omega) d4
                  exact Gives.block (k := ⟨size, xs ++ ys, 0, false⟩) rfl m1 m2
              · cases h
            | own g sz off len =>
              simp only at h
              cases hg : get H g with
              | none => simp [hg] at h
              | some k =>
                simp only [hg] at h
                split at h
                · rename_i hcc
                  obtain ⟨d1, d2, d3, d4, d5, d6, d7⟩ := hcc
                  subst d3
                  have htl : (k.elems.take len).length = len := by simp; omega
                  cases h
                  have hl : Less (set H g none) H := Less.set_none H g
                  have hfs : Free (set H g none) slot := hf.less hl (len_set H g none)
                  rcases hs.ownInv with ⟨a, rfl, hlen⟩ | ⟨b, cap, rfl, hρ, hb, hlc, hk⟩
                  · have hes : k.elems.take len = [] := List.eq_nil_of_length_eq_zero (by rw [htl]; exact hlen)
                    by_cases hm : ys.length = 0
                    · have hys : ys = [] := List.eq_nil_of_length_eq_zero hm
                      subst hys
                      have hnews : news = #[] := by
                        have := hnr.size
                        simp at this
                        exact this
                      subst hnews
                      have hrun := run_append_room' (ty := ty) (base := a) (n := 0) (cap := 0) (w' := w) (telem_un he) hti hnc (Nat.le_refl _) (fun a _ => by simp [storeCells]) (fun _ => rfl)
                      obtain ⟨v1, v2⟩ := (hr.less hl).virt hfs ⟨size, k.elems.take len ++ [], k.frz, false⟩ (by rw [hes]; rfl) rfl
                      refine Gives.block (k := ⟨size, k.elems.take len ++ [], k.frz, false⟩) rfl hrun (ρ' := ρ) ⟨v1, ?_, hl.st.trans v2, fun _ _ h => h⟩
                      subst hlen
                      exact .own0 _ _ _ _
                    · obtain ⟨v, w', ρ', m1, m2⟩ := more (set H g none) hl (len_set H g none) a 0 0 #[] (k.elems.take len) k.frz (by rw [hes]; rfl) cells_zero (by rw [hes]; exact .nil) (by omega) (by omega)
                      refine Gives.block (k := ⟨size, k.elems.take len ++ ys, k.frz, false⟩) rfl m1 (ρ' := ρ') ?_
                      subst hlen
                      exact m2
                  · simp only [Nat.zero_mul] at *
                    by_cases hroom : len + ys.length ≤ cap
                    · obtain ⟨cs, T, hh, hel⟩ := (hr.at hg hρ).cells (by rw [d2]; exact c1)
                      have hbs : bsize w b = cs.size := by simp [bsize, hh]
                      have hds : news.toList.length = ys.length * size := by simp [hnr.size]
                      have hfit : len * size + news.toList.length ≤ cs.size := by
                        rw [hds, ← Nat.add_mul, ← hbs]
                        have : (len + ys.length) * size ≤ cap * size := Nat.mul_le_mul_right _ hroom
                        rw [d1] at hk
                        omega
                      have hst := run_storeCells_at P b (len * size) T news.toList 0 cs w hh (by simpa using hfit) hnr.one
                      simp only [Nat.add_zero] at hst
                      have hrun := run_append_room' (ty := ty) (base := some ⟨b, 0, none⟩) (n := len) (cap := cap) (telem_un he) hti hnc hroom (w' := w.setRow b (cs.toList.take (len * size) ++ news.toList ++ cs.toList.drop (len * size + news.toList.length)).toArray) (fun a ha => by
                        cases ha
                        rw [addr_add, hsi, Nat.zero_add]
                        exact hst) (fun h => by cases h)
                      rw [d2, d5] at hel
                      have hbeh := (hel.take len).behind hnr (by rw [htl]; exact hfit)
                      rw [htl] at hbeh
                      have hmove := hr.move hf hg hρ (w1 := w.setRow b (cs.toList.take (len * size) ++ news.toList ++ cs.toList.drop (len * size + news.toList.length)).toArray) (k1 := ⟨size, k.elems.take len ++ ys, k.frz, false⟩)
                        (show 0 < size by omega) rfl rfl rfl (by simp) (fun j hj => setRow_other w b j _ hj) hh (setRow_heap w b cs _ T _ hh) (row_written_size _ _ _ hfit)
                        (fun o ho => row_written_low _ _ _ hfit o (by rw [d2] at ho; exact Nat.lt_of_lt_of_le ho (Nat.mul_le_mul_right _ d6))) d2.symm (Nat.le_refl _) hbeh
                      refine Gives.block (k := ⟨size, k.elems.take len ++ ys, k.frz, false⟩) rfl hrun ⟨hmove.1, ?_, hmove.2.1, hmove.2.2⟩
                      refine VR.newOwn (setRow_heap w b cs _ T _ hh) hroom ?_
                      rw [row_written_size _ _ _ hfit, ← hbs, ← d1]
                      omega
                    · have hpos : 0 < k.sz := by omega
                      obtain ⟨olds, hoc, hor⟩ := (hr.at hg hρ).row (P := P) hpos d5 (off := 0) (len := len) (cap := cap) (by omega)
                      simp only [Nat.zero_mul, List.drop_zero] at hoc hor
                      rw [d2] at hoc hor
                      rw [← hsi] at hoc
                      obtain ⟨v, w', ρ', m1, m2⟩ := more (set H g none) hl (len_set H g none) (some ⟨b, 0, none⟩) len cap olds (k.elems.take len) k.frz htl hoc hor (by omega) d7
                      exact Gives.block (k := ⟨size, k.elems.take len ++ ys, k.frz, false⟩) rfl m1 m2
                · cases h
            | _ => simp at h
          · cases h

/-! ### copy, clear -/

theorem PR.take {sz : Nat} {xs : List AV} {t : Bool} {a : Option Addr} {n cap k : Nat} (h : PR w X (.slice a n cap) (.lst sz xs t)) (hk : k ≤ xs.length) : PR w X (.slice a k cap) (.lst sz (xs.take k) false) := by
  cases h with
  | lst0 a cap sz t ht =>
    have : k = 0 := by simpa using hk
    subst this
    exact .lst0 _ _ _ _ (fun e => by cases e)
  | lst b o n cap sz t xs f hn hc ht hsz hx hr =>
    have get : ∀ {i : Nat} {x : AV}, (xs.take k)[i]? = some x → xs[i]? = some x := by
      intro i x hi
      rw [List.getElem?_take] at hi
      split at hi
      · exact hi
      · cases hi
    exact .lst b o k cap sz false (xs.take k) f (by simp; omega) (by omega) (fun e => by cases e) (fun i x hi => hsz i x (get hi)) (fun i x hi => hx i x (get hi)) (fun i x hi => hr i x (get hi))

/-- The first elements of what is copied. -/
theorem srcOf_first {H : Heap} (hr : HR Y w ρ H) {x : AV} {v : Value} {sz size k : Nat} {ys : List AV} {l : List Nm} (hpos : 0 < size) (hv : VR w (XU Y ρ H) ρ v x) (h : srcOf H x = some (sz, ys, l)) (hs : sz = size ∨ ys = []) (hk : k ≤ ys.length) :
    ∃ cs, (Builtin.lenOf v).run P w = .ok ys.length w ∧ (Builtin.firstCells size k v).run P w = .ok cs w ∧ RowOf w (XU Y ρ H) cs size (ys.take k) := by
  have hfc : ∀ (a : Option Addr) (m m' c c' : Nat), Builtin.firstCells size k (.slice a m c) = Builtin.firstCells size k (.slice a m' c') := fun a m m' c c' => by cases a <;> rfl
  cases x with
  | lst sz' xs t =>
    simp only [srcOf, Option.some.injEq, Prod.mk.injEq] at h
    obtain ⟨rfl, rfl, rfl⟩ := h
    obtain ⟨a, cap, rfl, _, _, hp⟩ := hv.lstInv
    have hl : (xs.take k).length = k := by simp; omega
    have hp2 := hp.take hk
    have hp3 : PR w (XU Y ρ H) (.slice a (xs.take k).length cap) (.lst sz' (xs.take k) false) := by rw [hl]; exact hp2
    obtain ⟨cs, c1, c2⟩ := hp3.row (P := P) hpos (by rcases hs with h | h; exact .inl h; exact .inr (by rw [h]; simp))
    rw [hl] at c1
    exact ⟨cs, rfl, by rw [hfc a xs.length k cap cap]; exact c1.2 w rfl, c2⟩
  | own g sz' off len =>
    simp only [srcOf] at h
    cases hg : get H g with
    | none => simp [hg] at h
    | some b0 =>
      simp only [hg] at h
      split at h
      · rename_i hc
        obtain ⟨c1, c2, c3, _⟩ := hc
        simp only [Option.some.injEq, Prod.mk.injEq] at h
        obtain ⟨rfl, rfl, rfl⟩ := h
        have hlen : ((b0.elems.drop off).take len).length = len := by simp; omega
        rw [hlen] at hk ⊢
        rw [List.take_take, Nat.min_eq_left hk]
        rcases hv.ownInv with ⟨a, rfl, rfl⟩ | ⟨b, cap, rfl, hρ, _, _, _⟩
        · have : k = 0 := by omega
          subst this
          exact ⟨#[], rfl, (cells_zero (P := P) (w := w) (size := size) (c := 0) (a := a)).2 w rfl, by rw [List.take_zero]; exact .nil⟩
        · subst c3
          rcases hs with rfl | he
          · obtain ⟨cs, e1, e2⟩ := (hr.at hg hρ).row (P := P) hpos c2 (off := off) (len := k) (cap := cap) (by omega)
            exact ⟨cs, rfl, by rw [hfc _ len k cap cap]; exact e1.2 w rfl, e2⟩
          · rw [he] at hlen
            have hk0 : k = 0 := by simp at hlen; omega
            subst hk0
            refine ⟨#[], rfl, ?_, by rw [List.take_zero]; exact .nil⟩
            simp [Builtin.firstCells, loadCells, loadCellsFrom]
      · cases h
  | _ => simp [srcOf] at h

/-- Elements laid over those of a block. -/
theorem ElemsAt.mid {cs ds : Array Value} {sz off : Nat} {xs ys : List AV} (h : ElemsAt false w X ρ cs sz xs) (k : RowOf w X ds sz ys) (hle : off + ys.length ≤ xs.length) :
    ElemsAt false w X ρ ((cs.toList.take (off * sz) ++ ds.toList ++ cs.toList.drop (off * sz + ds.toList.length)).toArray) sz (splice xs off ys) := by
  have hds : ds.toList.length = ys.length * sz := by simp [k.size]
  have hfit : off * sz + ds.toList.length ≤ cs.size := by
    rw [hds, ← Nat.add_mul]
    exact Nat.le_trans (Nat.mul_le_mul_right _ hle) h.1
  refine ⟨by rw [row_written_size _ _ _ hfit, length_splice _ _ _ hle]; exact h.1, fun i x hx => ?_⟩
  rw [getD_splice _ _ _ hle] at hx
  split at hx
  · rename_i hi
    obtain ⟨a1, a2⟩ := (k.el ρ).2 _ x hx
    refine ⟨a1, fun j u hj => ?_⟩
    have hj' : j < sz := by rw [← a1]; exact (List.getElem?_eq_some_iff.1 hj).1
    have hi2 : i - off < ys.length := (List.getElem?_eq_some_iff.1 hx).1
    have hlt : (i - off) * sz + j < ys.length * sz := by
      have : (i - off + 1) * sz ≤ ys.length * sz := Nat.mul_le_mul_right _ hi2
      rw [Nat.add_mul] at this
      omega
    have e : i * sz + j = off * sz + ((i - off) * sz + j) := by
      rw [← Nat.add_assoc, ← Nat.add_mul]
      congr 2
      omega
    rw [row_written _ _ _ hfit, if_pos (by omega)]
    have e2 : i * sz + j - off * sz = (i - off) * sz + j := by omega
    rw [e2, toList_getD]
    exact a2 j u hj
  · rename_i hi
    obtain ⟨a1, a2⟩ := h.2 i x hx
    refine ⟨a1, fun j u hj => ?_⟩
    have hj' : j < sz := by rw [← a1]; exact (List.getElem?_eq_some_iff.1 hj).1
    have hne : ¬ (off * sz ≤ i * sz + j ∧ i * sz + j < off * sz + ds.toList.length) := by
      intro ⟨b1, b2⟩
      rw [hds, ← Nat.add_mul] at b2
      apply hi
      constructor
      · refine Nat.le_of_not_lt fun hlt => ?_
        have : (i + 1) * sz ≤ off * sz := Nat.mul_le_mul_right _ hlt
        rw [Nat.add_mul] at this
        omega
      · refine Nat.lt_of_not_le fun hge => ?_
        have : (off + ys.length) * sz ≤ i * sz := Nat.mul_le_mul_right _ hge
        omega
    rw [row_written _ _ _ hfit, if_neg hne]
    exact a2 j u hj

/-- Elements written into a piece of a block. -/
theorem mid_sound {H : Heap} (hr : HR Y w ρ H) {g : Nm} {k : Blk} (hg : get H g = some k) {b : Nat} (hρ : ρ g = some b) (hpos : 0 < k.sz) (hbox : k.box = false) {off : Nat} (hfrz : k.frz ≤ off) {ds : Array Value} {ys : List AV}
    (hd : RowOf w (XU Y ρ H) ds k.sz ys) (hle : off + ys.length ≤ k.elems.length) :
    ∃ w', (storeCells ⟨b, off * k.sz, none⟩ ds.toList).run P w = .ok () w' ∧ HR Y w' ρ (set H g (some { k with elems := splice k.elems off ys })) ∧ Stable w (XX ρ H) w' (XX ρ (set H g (some { k with elems := splice k.elems off ys }))) := by
  obtain ⟨cs, T, hh, hel⟩ := (hr.at hg hρ).cells hpos
  rw [hbox] at hel
  have hds : ds.toList.length = ys.length * k.sz := by simp [hd.size]
  have hfit : off * k.sz + ds.toList.length ≤ cs.size := by
    rw [hds, ← Nat.add_mul]
    exact Nat.le_trans (Nat.mul_le_mul_right _ hle) hel.1
  have hst := run_storeCells_at P b (off * k.sz) T ds.toList 0 cs w hh (by simpa using hfit) hd.one
  simp only [Nat.add_zero] at hst
  refine ⟨_, hst, ?_⟩
  refine hr.write hg hρ hpos rfl rfl rfl (by simp) (fun j hj => setRow_other w b j _ hj) hh (setRow_heap w b cs _ T _ hh) (row_written_size _ _ _ hfit) (fun o ho => row_written_low _ _ _ hfit o ?_) rfl (Nat.le_refl _) ?_
  · exact Nat.lt_of_lt_of_le ho (Nat.mul_le_mul_right _ hfrz)
  · show ElemsAt k.box _ _ _ _ _ _
    rw [hbox]
    exact hel.mid hd hle

theorem splice_nil (xs : List AV) (off : Nat) : splice xs off [] = xs := by simp [splice]
theorem HR.same_set {H : Heap} {g : Nm} {k : Blk} (hr : HR Y w ρ H) (hg : get H g = some k) : HR Y w ρ (set H g (some k)) ∧ Stable w (XX ρ H) w (XX ρ (set H g (some k))) := by
  have hl : Less (set H g (some k)) H := Less.set_stop hg rfl rfl rfl (Nat.le_refl _)
  exact ⟨hr.less hl, hl.st⟩

theorem opCopy_sound {H : Heap} (hr : HR Y w ρ H) {t t' ty : TypeId} {d x : AV} {vd vx : Value} {r : Res} (hd : VR w (XU Y ρ H) ρ vd d) (hx : VR w (XU Y ρ H) ρ vx x) (h : opCopy P t d x H = some r) :
    r.new = [] ∧ ∃ v w', (Builtin.copy_ #[t, t'] ty #[vd, vx]).run P w = .ok v w' ∧ HR Y w' ρ (putAll H r.wr) ∧ Stable w (XX ρ H) w' (XX ρ (putAll H r.wr)) ∧ VR w' (XU Y ρ (putAll H r.wr)) ρ v r.val := by
  unfold opCopy at h
  split at h
  · rename_i e he
    split at h
    · rename_i size g sz off len sz' ys l hsz hsrc
      split at h
      · rename_i k hg
        split at h
        · rename_i hc
          obtain ⟨c1, c2, c3, c4, c5, c6, c7⟩ := hc
          cases h
          subst c1
          obtain ⟨news, n1, n2, n3⟩ := srcOf_first (P := P) (k := min ys.length len) hr c3 hx hsrc c7 (Nat.min_le_left _ _)
          have htk : ys.take len = ys.take (min ys.length len) := by
            rcases Nat.le_total ys.length len with hh | hh
            · rw [Nat.min_eq_left hh, List.take_of_length_le hh, List.take_length]
            · rw [Nat.min_eq_right hh]
          have hsz' : (sizeOf e).run P w = .ok sz w := run_tsize hsz w
          refine ⟨rfl, .int .i64 (min ys.length len : Nat), ?_⟩
          simp only [putAll]
          rw [htk]
          rcases hd.ownInv with ⟨a, rfl, rfl⟩ | ⟨b, cap, rfl, hρ, hb, hlc, hk⟩
          · have hmin : min ys.length 0 = 0 := Nat.min_zero _
            rw [hmin] at n2 n3 ⊢
            have hnews : news = #[] := by
              have := n3.size
              simp at this
              exact this
            subst hnews
            rw [List.take_zero, splice_nil]
            obtain ⟨s1, s2⟩ := hr.same_set hg
            refine ⟨w, ?_, s1, s2, .pur _ _ (.int _ _)⟩
            have hst : ∀ a : Addr, (storeCells a []).run P w = .ok () w := fun a => by simp [storeCells]
            cases a <;> simp [Builtin.copy_, run_underlying (telem_un he), n1, n2, hsz', hst, goInt, Nat.min_def]
          · subst c2
            have hlt : (ys.take (min ys.length len)).length = min ys.length len := by rw [List.length_take]; omega
            obtain ⟨w', hst, s1, s2⟩ := mid_sound (P := P) hr hg hρ c3 c5 c6 n3 (by rw [hlt]; omega)
            refine ⟨w', ?_, s1, s2, .pur _ _ (.int _ _)⟩
            have hmn : Nat.min ys.length len = min ys.length len := rfl
            simp [Builtin.copy_, run_underlying (telem_un he), n1, hmn, n2, hsz', hst, goInt]
        · cases h
      · cases h
    · cases h
  · cases h

theorem RowOf.of_elems {cs : Array Value} {sz : Nat} {es : List AV} (hpos : 0 < sz) (hs : cs.size = es.length * sz) (h : ∀ ρ, ElemsAt false w X ρ cs sz es) : RowOf w X cs sz es := by
  refine ⟨hs, fun v hv => ?_, h⟩
  obtain ⟨q, hq, rfl⟩ := List.mem_iff_getElem.1 hv
  have hq' : q < cs.size := by simpa using hq
  have hi : q / sz < es.length := Nat.div_lt_of_lt_mul (by rw [Nat.mul_comm, ← hs]; exact hq')
  have hj : q % sz < sz := Nat.mod_lt _ hpos
  obtain ⟨a1, a2⟩ := (h (fun _ => none)).2 (q / sz) es[q / sz] (by simp [hi])
  have := (a2 (q % sz) es[q / sz].cells[q % sz] (by simp [a1, hj])).1
  rw [show q / sz * sz + q % sz = q from Nat.div_add_mod' q sz] at this
  simpa [Array.getD, hq'] using this

theorem opClear_sound {H : Heap} (hr : HR Y w ρ H) {t ty : TypeId} {d : AV} {vd : Value} {r : Res} (hd : VR w (XU Y ρ H) ρ vd d) (h : opClear P t d H = some r) :
    r.new = [] ∧ ∃ v w', (Builtin.clear_ #[t] ty #[vd]).run P w = .ok v w' ∧ HR Y w' ρ (putAll H r.wr) ∧ Stable w (XX ρ H) w' (XX ρ (putAll H r.wr)) ∧ VR w' (XU Y ρ (putAll H r.wr)) ρ v r.val := by
  unfold opClear at h
  split at h
  · rename_i e he
    split at h
    · rename_i size z g sz off len hsz hz
      split at h
      · rename_i k hg
        split at h
        · rename_i hc
          obtain ⟨c1, c2, c3, c4, c5, c6, c7, c8⟩ := hc
          cases h
          subst c1
          obtain ⟨zv, hrun, hcv, _⟩ := run_tzeroP hz w
          have hzr : ∀ X', PR w X' zv z := fun X' => by rw [hcv]; exact (cv_rel w X' zv).nt
          refine ⟨rfl, .tuple #[], ?_⟩
          simp only [putAll]
          rcases hd.ownInv with ⟨a, rfl, rfl⟩ | ⟨b, cap, rfl, hρ, hb, hlc, hk⟩
          · rw [List.replicate_zero, splice_nil]
            obtain ⟨s1, s2⟩ := hr.same_set hg
            refine ⟨w, ?_, s1, s2, .tup #[] [] rfl (fun i x hx => by simp at hx)⟩
            cases a <;> simp [Builtin.clear_, run_underlying (telem_un he)]
          · subst c2
            have hzs : zv.cells.size = k.sz := by
              have h1 : VR w (XU Y ρ H) ρ zv z := .pur _ _ (hzr _)
              rw [(h1.aggRel c8).size, c7]
            by_cases h0 : len = 0
            · subst h0
              rw [List.replicate_zero, splice_nil]
              obtain ⟨s1, s2⟩ := hr.same_set hg
              refine ⟨w, ?_, s1, s2, .tup #[] [] rfl (fun i x hx => by simp at hx)⟩
              simp [Builtin.clear_, run_underlying (telem_un he)]
            · have hrow : RowOf w (XU Y ρ H) (Builtin.zeroCells zv.cells len) k.sz (List.replicate len z) := by
                refine RowOf.of_elems c3 (by simp [Builtin.zeroCells, hzs]) (fun ρ' => ?_)
                have := elems_replicate (ρ := ρ') (n := len) (m := len) (hzr (XU Y ρ H)) c8 c7 c3 (Nat.le_refl _)
                simpa [Builtin.zeroCells, hzs] using this
              obtain ⟨w', hst, s1, s2⟩ := mid_sound (P := P) hr hg hρ c3 c5 c6 hrow (by simp; omega)
              refine ⟨w', ?_, s1, s2, .tup #[] [] rfl (fun i x hx => by simp at hx)⟩
              obtain ⟨m, rfl⟩ : ∃ m, len = m + 1 := ⟨len - 1, by omega⟩
              simp [Builtin.clear_, run_underlying (telem_un he), hrun, hst]
        · cases h
      · cases h
    · cases h
  · cases h

end
end Go.Abs
