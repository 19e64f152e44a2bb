/- Operations that write or make memory. -/
import Derived.Test.YtcblbcpnfidndaaPwF
set_option linter.unusedSimpArgs false
set_option linter.unusedVariables false
namespace Go.Abs
open Go

section
variable {P : Program} {w : World} {X Y : XT} {ρ : Rho}

/-! ### A slice becomes a list that is only read -/

/-- Behind the stops of 'l' nothing of the blocks of 'l' is written. -/
def Shut (Y : XT) (ρ : Rho) (H : Heap) (X' : XT) (l : List Nm) : Prop :=
  (∀ c o, X' c o → XU Y ρ H c o) ∧ ∀ g, g ∈ l → ∀ k, get H g = some k → ∀ b, ρ g = some b → ∀ o, o < k.elems.length * k.sz → ¬ X' b o

theorem Shut.of_less {H H' : Heap} (hr : HR Y w ρ H) (hl : Less H' H) {l : List Nm} (hs : ∀ g, g ∈ l → ∀ k, get H g = some k → ∀ k', get H' g = some k' → k.elems.length ≤ k'.frz) : Shut Y ρ H (XU Y ρ H') l :=
  ⟨fun _ _ h => hl.xu h, fun g hg k hk b hb o ho => XX_stopped hr hk hb hl (fun k' hk' => hs g hg k hk k' hk') o ho⟩

theorem Shut.mono {H : Heap} {X' : XT} {l l' : List Nm} (h : Shut Y ρ H X' l) (hs : ∀ g, g ∈ l' → g ∈ l) : Shut Y ρ H X' l' := ⟨h.1, fun g hg => h.2 g (hs g hg)⟩

theorem pure1_rel {H : Heap} (hr : HR Y w ρ H) {x u : AV} {l : List Nm} {v : Value} (hv : VR w (XU Y ρ H) ρ v x) (h : pure1 H x = some (u, l)) {X' : XT} (hX : Shut Y ρ H X' l) : PR w X' v u := by
  have hst : Stable w (XU Y ρ H) w X' := (Stable.refl w _).less fun c o _ h => hX.1 c o h
  cases x with
  | own g sz off len =>
    simp only [pure1] at h
    cases hg : get H g with
    | none => simp [hg] at h
    | some k =>
      simp only [hg] at h
      split at h
      · rename_i hc
        obtain ⟨h1, h2, h3, h4⟩ := hc
        simp only [Option.some.injEq, Prod.mk.injEq] at h
        obtain ⟨rfl, rfl⟩ := h
        rcases hv.ownInv with ⟨a, rfl, rfl⟩ | ⟨b, cap, rfl, hρ, hb, hlc, hk⟩
        · simp only [List.take_zero]
          exact .lst0 _ _ _ _ (fun e => by cases e)
        · subst h3
          refine PR.canon ?_
          exact (hr.at hg hρ).lst h4 h2 hX.1 (hX.2 g (by simp) k hg b hρ) h1 hlc (fun e => by cases e)
      · cases h
  | lst sz xs t =>
    simp only [pure1, Option.some.injEq, Prod.mk.injEq] at h
    obtain ⟨rfl, rfl⟩ := h
    obtain ⟨a, cap, rfl, h1, h2, hp⟩ := hv.lstInv
    have hp := hp.mono hst
    refine PR.canon ?_
    generalize hn : xs.length = n at hp
    cases hp with
    | lst0 a cap sz t ht => exact .lst0 _ _ _ _ (fun e => by cases e)
    | lst b o n cap sz t xs f hn hc ht hsz hx hr => exact .lst b o _ cap sz _ xs f hn hc (fun e => by cases e) hsz hx hr
  | bool b =>
    simp only [pure1, Option.some.injEq, Prod.mk.injEq] at h
    obtain ⟨rfl, rfl⟩ := h
    have := hv.boolInv; subst this; exact .bool _
  | int k n =>
    simp only [pure1, Option.some.injEq, Prod.mk.injEq] at h
    obtain ⟨rfl, rfl⟩ := h
    have := hv.intInv; subst this; exact .int _ _
  | str s =>
    simp only [pure1, Option.some.injEq, Prod.mk.injEq] at h
    obtain ⟨rfl, rfl⟩ := h
    have := hv.strInv; subst this; exact .str _
  | undef =>
    simp only [pure1, Option.some.injEq, Prod.mk.injEq] at h
    obtain ⟨rfl, rfl⟩ := h
    exact .undef _
  | nilp =>
    simp only [pure1, Option.some.injEq, Prod.mk.injEq] at h
    obtain ⟨rfl, rfl⟩ := h
    exact (hv.toPR (.inl rfl)).mono hst
  | nilf =>
    simp only [pure1, Option.some.injEq, Prod.mk.injEq] at h
    obtain ⟨rfl, rfl⟩ := h
    exact (hv.toPR (.inl rfl)).mono hst
  | _ => simp [pure1] at h

theorem pureL_get {H : Heap} : ∀ (xs us : List AV) (l : List Nm), pureL H xs = some (us, l) → us.length = xs.length ∧ ∀ (i : Nat) (x : AV), xs[i]? = some x → ∃ u m, us[i]? = some u ∧ pure1 H x = some (u, m) ∧ ∀ g, g ∈ m → g ∈ l := by
  intro xs
  induction xs with
  | nil => intro us l h; simp [pureL] at h; obtain ⟨rfl, rfl⟩ := h; exact ⟨rfl, fun i x hx => by simp at hx⟩
  | cons x r ih =>
    intro us l h
    simp only [pureL] at h
    cases h1 : pure1 H x with
    | none => simp [h1] at h
    | some p =>
      obtain ⟨y, m⟩ := p
      cases h2 : pureL H r with
      | none => simp [h1, h2] at h
      | some q =>
        obtain ⟨ys, m'⟩ := q
        simp only [h1, h2, Option.some.injEq, Prod.mk.injEq] at h
        obtain ⟨rfl, rfl⟩ := h
        obtain ⟨hl, hg⟩ := ih ys m' h2
        refine ⟨by simp [hl], fun i z hz => ?_⟩
        cases i with
        | zero => simp at hz; subst hz; exact ⟨y, m, rfl, h1, fun g hg => by simp [hg]⟩
        | succ i =>
          obtain ⟨u, m2, a1, a2, a3⟩ := hg i z (by simpa using hz)
          exact ⟨u, m2, by simpa using a1, a2, fun g hg => by simp [a3 g hg]⟩

theorem pureV_rel {H : Heap} (hr : HR Y w ρ H) {x u : AV} {l : List Nm} {v : Value} (hv : VR w (XU Y ρ H) ρ v x) (h : pureV H x = some (u, l)) {X' : XT} (hX : Shut Y ρ H X' l) : PR w X' v u := by
  cases x with
  | agg cs =>
    simp only [pureV] at h
    cases h1 : pureL H cs with
    | none => simp [h1] at h
    | some p =>
      obtain ⟨ys, m⟩ := p
      simp only [h1, Option.some.injEq, Prod.mk.injEq] at h
      obtain ⟨rfl, rfl⟩ := h
      obtain ⟨as, rfl, hn, ho, hc⟩ := hv.aggInv
      obtain ⟨hl, hg⟩ := pureL_get cs ys m h1
      refine .agg as ys (by omega) ho (fun i y hy => ?_)
      have hi : i < cs.length := by rw [← hl]; exact (List.getElem?_eq_some_iff.1 hy).1
      obtain ⟨u, m2, a1, a2, a3⟩ := hg i cs[i] (by simp [hi])
      rw [hy] at a1
      cases a1
      exact pure1_rel hr (hc i cs[i] (by simp [hi])) a2 (hX.mono a3)
  | tup vs => simp [pureV] at h
  | _ => exact pure1_rel hr hv (by simpa [pureV] using h) hX

/-- The cells of a value that leads nowhere. -/
theorem PR.cells {v : Value} {x : AV} (h : PR w X v x) (hk : okV x = true) :
    v.cells.size = x.cells.length ∧ (∀ i, i < v.cells.size → (v.cells.getD i Go.undef).oneCell' = true) ∧ ∀ (j : Nat) (u : AV), x.cells[j]? = some u → PR w X (v.cells.getD j Go.undef) u := by
  obtain ⟨h1, h2, _⟩ := VR.cells (ρ := fun _ => none) (.pur v x h) hk
  refine ⟨h1, h2, fun j u hj => ?_⟩
  cases h with
  | agg cs xs hn ho hc => exact hc j u hj
  | undef v => simp [okV, okC] at hk
  | _ =>
    cases j with
    | zero =>
      simp only [AV.cells, List.getElem?_cons_zero, Option.some.injEq] at hj
      subst hj
      simp only [Value.cells, Array.getD, List.size_toArray, List.length_cons, List.length_nil, Nat.zero_add, Nat.lt_add_one, dite_true]
      constructor <;> assumption
    | succ j => simp [AV.cells] at hj

/-! ### Stores -/

/-- A row of cells of which a piece is written. -/
theorem row_written (cs : Array Value) (o : Nat) (vs : List Value) (h : o + vs.length ≤ cs.size) (i : Nat) :
    ((cs.toList.take o ++ vs ++ cs.toList.drop (o + vs.length)).toArray).getD i undef = if o ≤ i ∧ i < o + vs.length then vs.getD (i - o) undef else cs.getD i undef := by
  have h1 : (cs.toList.take o).length = o := by simp; omega
  simp only [Array.getD_eq_getD_getElem?, List.getElem?_toArray, List.append_assoc]
  by_cases c1 : i < o
  · rw [List.getElem?_append_left (by omega), List.getElem?_take, if_pos c1, if_neg (by omega)]
    simp
  · rw [List.getElem?_append_right (by omega), h1]
    by_cases c2 : i < o + vs.length
    · rw [List.getElem?_append_left (by omega), if_pos ⟨by omega, c2⟩]
      simp [List.getD_eq_getElem?_getD]
    · rw [List.getElem?_append_right (by omega), if_neg (by omega), List.getElem?_drop]
      have : o + vs.length + (i - o - vs.length) = i := by omega
      rw [this]
      simp

theorem row_written_size (cs : Array Value) (o : Nat) (vs : List Value) (h : o + vs.length ≤ cs.size) : ((cs.toList.take o ++ vs ++ cs.toList.drop (o + vs.length)).toArray).size = cs.size := by
  simp; omega

theorem getD_splice (cs : List AV) (off : Nat) (new : List AV) (h : off + new.length ≤ cs.length) (j : Nat) :
    (splice cs off new)[j]? = if off ≤ j ∧ j < off + new.length then new[j - off]? else cs[j]? := by
  unfold splice
  have h1 : (cs.take off).length = off := by simp; omega
  rw [List.append_assoc]
  by_cases c1 : j < off
  · rw [List.getElem?_append_left (by omega), List.getElem?_take, if_pos c1, if_neg (by omega)]
  · rw [List.getElem?_append_right (by omega), h1]
    by_cases c2 : j < off + new.length
    · rw [List.getElem?_append_left (by omega), if_pos ⟨by omega, c2⟩]
    · rw [List.getElem?_append_right (by omega), if_neg (by omega), List.getElem?_drop]
      congr 1
      omega

theorem length_splice (cs : List AV) (off : Nat) (new : List AV) (h : off + new.length ≤ cs.length) : (splice cs off new).length = cs.length := by
  unfold splice
  simp
  omega

theorem newElem_cells {x u x' : AV} {off size sz : Nat} (h : newElem x off size sz u = some x') (hx : x.cells.length = sz) (hu : u.cells.length = size) (hle : off + size ≤ sz) :
    x'.cells.length = sz ∧ ∀ j, x'.cells[j]? = if off ≤ j ∧ j < off + size then u.cells[j - off]? else x.cells[j]? := by
  unfold newElem at h
  split at h
  · rename_i hc
    obtain ⟨rfl, rfl⟩ := hc
    cases h
    refine ⟨hu, fun j => ?_⟩
    by_cases c : j < size
    · rw [if_pos ⟨by omega, by omega⟩]; rfl
    · rw [if_neg (by omega), List.getElem?_eq_none (by omega), List.getElem?_eq_none (by omega)]
  · split at h
    · cases h
      have hl := length_splice x.cells off u.cells (by omega)
      refine ⟨hl.trans hx, fun j => ?_⟩
      have := getD_splice x.cells off u.cells (by omega) j
      rw [hu] at this
      exact this
    · cases h

/-- The elements behind a store. -/
theorem ElemsAt.store {box : Bool} {X' : XT} {cs : Array Value} {sz : Nat} {es : List AV} (he : ElemsAt box w X ρ cs sz es) (hsub : ∀ c o, X' c o → X c o) {i off size : Nat} {x x' u : AV} (hx : es[i]? = some x)
    (hn : newElem x off size sz u = some x') (hu : u.cells.length = size) (hle : off + size ≤ sz) {vs : List Value} (hvs : vs.length = size)
    (hrel : ∀ (j : Nat) (y : AV), u.cells[j]? = some y → (vs.getD j undef).oneCell' = true ∧ CR box w X' ρ (vs.getD j undef) y) :
    ElemsAt box w X' ρ ((cs.toList.take (i * sz + off) ++ vs ++ cs.toList.drop (i * sz + off + vs.length)).toArray) sz (es.set i x') := by
  have hst : Stable w X w X' := (Stable.refl w X).less fun c o _ h => hsub c o h
  obtain ⟨h1, h2⟩ := he
  have hi : i < es.length := (List.getElem?_eq_some_iff.1 hx).1
  have hmul : (i + 1) * sz ≤ es.length * sz := Nat.mul_le_mul_right _ hi
  rw [Nat.add_mul] at hmul
  have hfit : i * sz + off + vs.length ≤ cs.size := by omega
  refine ⟨by rw [row_written_size _ _ _ hfit]; simpa using h1, fun i' y hy => ?_⟩
  rw [List.getElem?_set] at hy
  obtain ⟨hxs, hxc⟩ := h2 i x hx
  obtain ⟨hl', hg'⟩ := newElem_cells hn hxs hu hle
  by_cases e : i = i'
  · subst e
    simp only [if_true, hi] at hy
    cases hy
    refine ⟨hl', fun j z hz => ?_⟩
    rw [hg' j] at hz
    rw [row_written _ _ _ hfit]
    split at hz
    · rename_i c
      rw [if_pos (by omega)]
      have e2 : i * sz + j - (i * sz + off) = j - off := by omega
      rw [e2]
      exact hrel (j - off) z hz
    · rename_i c
      have hjlt : j < sz := by rw [← hxs]; exact (List.getElem?_eq_some_iff.1 hz).1
      rw [if_neg (by omega)]
      exact ⟨(hxc j z hz).1, (hxc j z hz).2.mono hst (fun _ _ h => h)⟩
  · rw [if_neg e] at hy
    obtain ⟨hys, hyc⟩ := h2 i' y hy
    refine ⟨hys, fun j z hz => ?_⟩
    have hjlt : j < sz := by rw [← hys]; exact (List.getElem?_eq_some_iff.1 hz).1
    rw [row_written _ _ _ hfit]
    have hne : ¬ (i * sz + off ≤ i' * sz + j ∧ i' * sz + j < i * sz + off + vs.length) := by
      intro ⟨a1, a2⟩
      rcases Nat.lt_or_gt_of_ne e with h | h
      · have : (i + 1) * sz ≤ i' * sz := Nat.mul_le_mul_right _ h
        rw [Nat.add_mul] at this
        omega
      · have : (i' + 1) * sz ≤ i * sz := Nat.mul_le_mul_right _ h
        rw [Nat.add_mul] at this
        omega
    rw [if_neg hne]
    exact ⟨(hyc j z hz).1, (hyc j z hz).2.mono hst (fun _ _ h => h)⟩

theorem row_written_low (cs : Array Value) (o : Nat) (vs : List Value) (h : o + vs.length ≤ cs.size) (i : Nat) (hi : i < o) :
    ((cs.toList.take o ++ vs ++ cs.toList.drop (o + vs.length)).toArray)[i]? = cs[i]? := by
  have h1 : (cs.toList.take o).length = o := by simp; omega
  rw [List.getElem?_toArray, List.append_assoc, List.getElem?_append_left (by omega), List.getElem?_take, if_pos hi]
  simp

theorem putAll_append : ∀ (a b : List (Nm × Option Blk)) (H : Heap), putAll H (a ++ b) = putAll (putAll H a) b := by
  intro a
  induction a with
  | nil => intro b H; rfl
  | cons p r ih => intro b H; obtain ⟨g, k⟩ := p; exact ih b _

/-- A piece of an element of a block is written. -/
theorem write_sound {H : Heap} (hr : HR Y w ρ H) {g : Nm} {k : Blk} (hg : get H g = some k) {b : Nat} (hρ : ρ g = some b) (hs0 : 0 < k.sz) {i off size : Nat} {x x' u : AV} (hfrz : k.frz ≤ i) (hx : k.elems[i]? = some x)
    (hn : newElem x off size k.sz u = some x') (hu : u.cells.length = size) (hle : off + size ≤ k.sz) {vs : List Value} (hvs : vs.length = size) (ho : ∀ v ∈ vs, v.oneCell' = true)
    (hrel : ∀ (j : Nat) (y : AV), u.cells[j]? = some y → (vs.getD j undef).oneCell' = true ∧ CR k.box w (XU Y ρ H) ρ (vs.getD j undef) y) :
    ∃ w', (storeCells ⟨b, i * k.sz + off, none⟩ vs).run P w = .ok () w' ∧ HR Y w' ρ (set H g (some { k with elems := k.elems.set i x' })) ∧ Stable w (XX ρ H) w' (XX ρ (set H g (some { k with elems := k.elems.set i x' }))) := by
  obtain ⟨cs, T, hh, he⟩ := (hr.at hg hρ).cells hs0
  have hi : i < k.elems.length := (List.getElem?_eq_some_iff.1 hx).1
  have hmul : (i + 1) * k.sz ≤ k.elems.length * k.sz := Nat.mul_le_mul_right _ hi
  rw [Nat.add_mul] at hmul
  have hfit : i * k.sz + off + vs.length ≤ cs.size := by have := he.1; omega
  have hrun := run_storeCells_at P b (i * k.sz + off) T vs 0 cs w hh (by simpa using hfit) ho
  simp only [Nat.add_zero] at hrun
  refine ⟨_, hrun, ?_⟩
  have hlow : k.frz * k.sz ≤ i * k.sz := Nat.mul_le_mul_right _ hfrz
  exact hr.write hg hρ hs0 rfl rfl rfl (by simp) (fun j hj => setRow_other w b j _ hj) hh (setRow_heap w b cs _ T _ hh) (row_written_size _ _ _ hfit)
    (fun o ho => row_written_low _ _ _ hfit o (by omega)) rfl (Nat.le_refl _) (he.store (fun _ _ h => h) hx hn hu hle hvs hrel)

theorem oneAll (cs : Array Value) (h : ∀ i, i < cs.size → (cs.getD i undef).oneCell' = true) : ∀ v ∈ cs.toList, v.oneCell' = true := by
  intro v hv
  obtain ⟨n, hn, rfl⟩ := List.mem_iff_getElem.1 hv
  have hn' : n < cs.size := by simpa using hn
  have := h n hn'
  simp only [Array.getD, hn', dite_true] at this
  simpa using this

theorem toList_getD (cs : Array Value) (j : Nat) : cs.toList.getD j undef = cs.getD j undef := by
  simp [List.getD_eq_getElem?_getD, Array.getD_eq_getD_getElem?]

theorem opStore_sound {H : Heap} (hr : HR Y w ρ H) {t : TypeId} {p x : AV} {v u : Value} {r : Res} (hp : VR w (XU Y ρ H) ρ v p) (hx : VR w (XU Y ρ H) ρ u x) (h : opStore P t p x H = some r) :
    r.new = [] ∧ r.val = .tup [] ∧ ∃ w', (Instr.storeAt t v u).run P w = .ok () w' ∧ HR Y w' ρ (putAll H r.wr) ∧ Stable w (XX ρ H) w' (XX ρ (putAll H r.wr)) := by
  unfold opStore at h
  cases hs : tsize P t with
  | none => simp [hs] at h
  | some size =>
    simp only [hs] at h
    cases p with
    | ptr g sz i off =>
      simp only at h
      cases hg : get H g with
      | none => simp [hg] at h
      | some k =>
        simp only [hg] at h
        split at h
        · rename_i hc
          obtain ⟨hsz, hfrz, hs0⟩ := hc
          cases hi : k.elems[i]? with
          | none => simp [hi] at h
          | some y =>
            simp only [hi] at h
            obtain ⟨b, rfl, hρ⟩ := hp.ptrInv hs0
            subst hsz
            split at h
            · rename_i hbox
              split at h
              · rename_i hc2
                obtain ⟨c1, c2, c3⟩ := hc2
                cases hn : newElem y off size k.sz x with
                | none => simp [hn] at h
                | some x' =>
                  simp only [hn, Option.some.injEq] at h
                  subst h
                  obtain ⟨e1, e2, e3⟩ := hx.cells c3
                  obtain ⟨w', hrun, h1, h2⟩ := write_sound (P := P) hr hg hρ hs0 hfrz hi hn c1 c2 (vs := u.cells.toList) (by simp [e1, c1]) (oneAll _ e2)
                    (fun j z hz => by
                      rw [toList_getD]
                      have hj : j < u.cells.size := by rw [e1]; exact (List.getElem?_eq_some_iff.1 hz).1
                      refine ⟨e2 j hj, ?_⟩
                      rw [hbox]
                      exact e3 j z hz)
                  refine ⟨rfl, rfl, w', ?_, h1, h2⟩
                  have hsize : u.cells.size = size := by rw [e1, c1]
                  simp [Instr.storeAt, Instr.sureAddr, storeVar, run_tsize hs, hsize, hrun]
              · cases h
            · rename_i hbox
              have hbox' : k.box = false := by simpa using hbox
              cases hpv : pureV H x with
              | none => simp [hpv] at h
              | some q =>
                obtain ⟨u', l⟩ := q
                simp only [hpv] at h
                split at h
                · rename_i hc2
                  obtain ⟨c1, c2, c4, c3⟩ := hc2
                  cases hn : newElem y off size k.sz u' with
                  | none => simp [hn] at h
                  | some x' =>
                    simp only [hn, Option.some.injEq] at h
                    subst h
                    have hless : Less (putAll H (stops H l)) H := Less.stops l H (Less.refl H)
                    have hr1 := hr.less hless
                    have hg1 : get (putAll H (stops H l)) g = some k := by rw [get_stops_ne H g l H c4]; exact hg
                    have hpr := pureV_rel hr hx hpv (Shut.of_less hr hless (fun g' hg' k1 hk1 k' hk' => stops_frz H g' hk1 l H hg' k' hk'))
                    obtain ⟨e1, e2, e3⟩ := hpr.cells c3
                    obtain ⟨w', hrun, h1, h2⟩ := write_sound (P := P) hr1 hg1 hρ hs0 hfrz hi hn c1 c2 (vs := u.cells.toList) (by simp [e1, c1]) (oneAll _ e2)
                      (fun j z hz => by
                        rw [toList_getD]
                        have hj : j < u.cells.size := by rw [e1]; exact (List.getElem?_eq_some_iff.1 hz).1
                        refine ⟨e2 j hj, ?_⟩
                        rw [hbox']
                        exact e3 j z hz)
                    refine ⟨rfl, rfl, w', ?_, by rw [putAll_append]; exact h1, by rw [putAll_append]; exact hless.st.trans h2⟩
                    have hsize : u.cells.size = size := by rw [e1, c1]
                    simp [Instr.storeAt, Instr.sureAddr, storeVar, run_tsize hs, hsize, hrun]
                · cases h
        · cases h
    | _ => simp at h

/-! ### New variables -/

theorem opBox_run {H : Heap} (hr : HR Y w ρ H) {slot : Nat} (hf : Free H slot) {t : TypeId} {x : AV} {v : Value} {r : Res} (hv : VR w (XU Y ρ H) ρ v x) (h : opBox P t x slot = some r) :
    ∃ k, 0 < k.sz ∧ r = { val := .ptr (slot, 0) k.sz 0 0, new := [k] } ∧ (newVar t v).run P w = .ok ⟨w.heap.size, 0, none⟩ (w.alloc (.cells v.cells t)) ∧
      HR Y (w.alloc (.cells v.cells t)) (upd ρ (slot, 0) w.heap.size) (H.set slot [some k]) ∧ Stable w (XX ρ H) (w.alloc (.cells v.cells t)) (XX (upd ρ (slot, 0) w.heap.size) (H.set slot [some k])) ∧
      (∀ g c, ρ g = some c → upd ρ (slot, 0) w.heap.size g = some c) := by
  unfold opBox at h
  cases hs : tsize P t with
  | none => simp [hs] at h
  | some size =>
    simp only [hs] at h
    split at h
    · rename_i hc
      obtain ⟨c1, c2, c0⟩ := hc
      cases h
      obtain ⟨e1, e2, e3⟩ := hv.cells c2
      have he : ElemsAt true w (XU Y ρ H) ρ v.cells size [x] := by
        refine ⟨by simp; omega, fun i y hy => ?_⟩
        cases i with
        | zero =>
          simp at hy
          subst hy
          refine ⟨c1, fun j z hz => ?_⟩
          have hj : j < v.cells.size := by rw [e1]; exact (List.getElem?_eq_some_iff.1 hz).1
          simp only [Nat.zero_mul, Nat.zero_add]
          exact ⟨e2 j hj, e3 j z hz⟩
        | succ i => simp at hy
      have hnew := hr.new hf (w1 := w.alloc (.cells v.cells t)) (b := w.heap.size) (Nat.le_refl _) (by simp) rfl rfl rfl (fun i hi => heap_alloc_old w _ i hi) ⟨size, [x], 0, true⟩ c0 (heap_alloc_new w _) he
      exact ⟨⟨size, [x], 0, true⟩, c0, rfl, rfl, hnew.1, hnew.2.1, hnew.2.2⟩
    · cases h

/-- The value that 'alloc' and 'box' give. -/
theorem VR.newPtr {w' : World} {X' : XT} {slot sz b : Nat} (hs : 0 < sz) : VR w' X' (upd ρ (slot, 0) b) (.pointer (some ⟨b, 0, none⟩)) (.ptr (slot, 0) sz 0 0) := by
  have h : VR w' X' (upd ρ (slot, 0) b) (.pointer (some ⟨b, 0 * sz + 0, none⟩)) (.ptr (slot, 0) sz 0 0) := .ptr _ _ _ _ _ hs (by simp [upd])
  simpa using h

end
end Go.Abs
