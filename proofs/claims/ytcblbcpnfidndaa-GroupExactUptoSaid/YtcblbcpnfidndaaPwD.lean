/- What each change of memory makes of the relation between the heaps. -/
import Derived.Test.YtcblbcpnfidndaaPwC
set_option linter.unusedSimpArgs false
set_option linter.unusedVariables false
namespace Go.Abs
open Go

variable {Y : XT}

def upd (ρ : Rho) (g : Nm) (b : Nat) : Rho := fun g' => if g' = g then some b else ρ g'

/-- What an operation leaves. -/
structure Made (Y : XT) (w : World) (ρ : Rho) (H : Heap) (w' : World) (ρ' : Rho) (H' : Heap) (v : Value) (x : AV) : Prop where
  hr : HR Y w' ρ' H'
  val : VR w' (XU Y ρ' H') ρ' v x
  st : Stable w (XX ρ H) w' (XX ρ' H')
  le : ∀ g b, ρ g = some b → ρ' g = some b

/-- A heap of which less is known: blocks are gone, or no longer written. -/
structure Less (H' H : Heap) : Prop where
  sub : ∀ g k', get H' g = some k' → ∃ k, get H g = some k ∧ k'.sz = k.sz ∧ k'.elems = k.elems ∧ k'.box = k.box ∧ k.frz ≤ k'.frz
  len : ∀ i, (H'.getD i []).length = (H.getD i []).length

theorem Less.refl (H : Heap) : Less H H := ⟨fun g k h => ⟨k, h, rfl, rfl, rfl, Nat.le_refl _⟩, fun _ => rfl⟩
theorem Less.trans {A B C : Heap} (h : Less A B) (k : Less B C) : Less A C := by
  refine ⟨fun g x hx => ?_, fun i => (h.len i).trans (k.len i)⟩
  obtain ⟨y, hy, h1, h2, h3, h4⟩ := h.sub g x hx
  obtain ⟨z, hz, k1, k2, k3, k4⟩ := k.sub g y hy
  exact ⟨z, hz, h1.trans k1, h2.trans k2, h3.trans k3, Nat.le_trans k4 h4⟩

theorem Less.xx {ρ : Rho} {H' H : Heap} (h : Less H' H) {b o : Nat} (hx : XX ρ H' b o) : XX ρ H b o := by
  obtain ⟨g, k', hg, hρ, ho⟩ := hx
  obtain ⟨k, hk, h1, _, _, h4⟩ := h.sub g k' hg
  exact ⟨g, k, hk, hρ, Nat.le_trans (by rw [h1]; exact Nat.mul_le_mul_right _ h4) ho⟩

theorem Less.xu {ρ : Rho} {H' H : Heap} (h : Less H' H) {b o : Nat} (hx : XU Y ρ H' b o) : XU Y ρ H b o := hx.imp h.xx id

theorem Less.st {w : World} {ρ : Rho} {H' H : Heap} (h : Less H' H) : Stable w (XX ρ H) w (XX ρ H') :=
  (Stable.refl w _).less fun _ _ _ hx => h.xx hx

theorem HR.less {w : World} {ρ : Rho} {H' H : Heap} (hr : HR Y w ρ H) (h : Less H' H) : HR Y w ρ H' := by
  refine ⟨fun g k' hg => ?_, fun g g' k k' b hg hg' h1 h2 => ?_, fun g b hb => ?_, hr.lt, fun g k' b o hg hb => ?_, hr.ylt⟩
  · obtain ⟨k, hk, h1, h2, h3, h4⟩ := h.sub g k' hg
    rcases hr.blk g k hk with ⟨a1, a2, a3⟩ | ⟨b, a1, a2⟩
    · exact .inl ⟨a1, h2.trans a2, h3.trans a3⟩
    · refine .inr ⟨b, a1, ?_⟩
      rcases a2.keep (h.st.xu Y) (fun _ _ h => h) rfl with ⟨c0, cs, T, c1, c2⟩ | ⟨c1, c2, es, cl, c3, c4⟩
      · refine .inl ⟨by rw [h1]; exact c0, cs, T, c1, ?_⟩
        rw [h1, h2, h3]
        exact c2
      · exact .inr ⟨h1.trans c1, h3.trans c2, es, cl, c3, by rw [h2]; exact c4⟩
  · obtain ⟨x, hx, _⟩ := h.sub g k hg
    obtain ⟨y, hy, _⟩ := h.sub g' k' hg'
    exact hr.inj g g' x y b hx hy h1 h2
  · rw [h.len]; exact hr.dom g b hb
  · obtain ⟨x, hx, _⟩ := h.sub g k' hg
    exact hr.sep g x b o hx hb

theorem Less.set_none (H : Heap) (g : Nm) : Less (set H g none) H := by
  refine ⟨fun g' k' h => ?_, fun i => getD_set_length H g none i⟩
  rw [get_set] at h
  split at h
  · cases h
  · exact ⟨k', h, rfl, rfl, rfl, Nat.le_refl _⟩

theorem Less.set_stop {H : Heap} {g : Nm} {k k' : Blk} (hg : get H g = some k) (h1 : k'.sz = k.sz) (h2 : k'.elems = k.elems) (h3 : k'.box = k.box) (h4 : k.frz ≤ k'.frz) : Less (set H g (some k')) H := by
  refine ⟨fun g' x h => ?_, fun i => getD_set_length H g _ i⟩
  rw [get_set] at h
  split at h
  · rename_i e
    cases h
    exact ⟨k, by rw [e.1]; exact hg, h1, h2, h3, h4⟩
  · exact ⟨x, h, rfl, rfl, rfl, Nat.le_refl _⟩

/-- Blocks that are no longer written ('stops'). -/
theorem Less.stops {H0 : Heap} : ∀ (l : List Nm) (H : Heap), Less H H0 → Less (putAll H (Abs.stops H0 l)) H0 := by
  intro l
  induction l with
  | nil => intro H h; exact h
  | cons g r ih =>
    intro H h
    show Less (putAll (set H g ((get H0 g).map Blk.stop)) (Abs.stops H0 r)) H0
    refine ih _ ⟨fun g' k' hg => ?_, fun i => (getD_set_length H g _ i).trans (h.len i)⟩
    rw [get_set] at hg
    split at hg
    · rename_i e
      obtain ⟨rfl, _⟩ := e
      cases h0 : get H0 g' with
      | none => rw [h0] at hg; cases hg
      | some k =>
        rw [h0] at hg
        cases hg
        exact ⟨k, rfl, rfl, rfl, rfl, Nat.le_max_left _ _⟩
    · exact h.sub g' k' hg

/-! ### A group is filled -/

theorem get_group (H : Heap) (slot : Nat) (l : List (Option Blk)) (g : Nm) :
    get (H.set slot l) g = if g.1 = slot ∧ slot < H.length then (l[g.2]?).join else get H g := by
  obtain ⟨a, c⟩ := g
  simp only [get, List.getElem?_set]
  by_cases h : slot = a
  · subst h
    by_cases hl : slot < H.length
    · simp [hl]
    · simp [hl]
  · have : ¬ a = slot := fun e => h e.symm
    simp [h, this]

theorem getD_group (H : Heap) (slot : Nat) (l : List (Option Blk)) (i : Nat) :
    (H.set slot l).getD i [] = if i = slot ∧ slot < H.length then l else H.getD i [] := by
  simp only [List.getD_eq_getElem?_getD, List.getElem?_set]
  by_cases h : slot = i
  · subst h
    by_cases hl : slot < H.length
    · simp [hl]
    · simp [hl]
  · have : ¬ i = slot := fun e => h e.symm
    simp [h, this]

/-- The group is reserved, nothing lies in it. -/
def Free (H : Heap) (slot : Nat) : Prop := slot < H.length ∧ H.getD slot [] = []

theorem Free.none {H : Heap} {slot : Nat} (h : Free H slot) {w : World} {ρ : Rho} (hr : HR Y w ρ H) (k : Nat) : ρ (slot, k) = none := by
  cases e : ρ (slot, k) with
  | none => rfl
  | some b =>
    have := hr.dom _ _ e
    rw [h.2] at this
    simp at this

theorem Free.get {H : Heap} {slot : Nat} (h : Free H slot) (k : Nat) : get H (slot, k) = Option.none := by
  obtain ⟨h1, h2⟩ := h
  simp only [Abs.get]
  rw [List.getD_eq_getElem?_getD] at h2
  cases hl : H[slot]? with
  | none => rfl
  | some l =>
    rw [hl] at h2
    simp at h2
    subst h2
    rfl

theorem Free.less {H H' : Heap} {slot : Nat} (h : Free H slot) (hl : Less H' H) (hlen : H'.length = H.length) : Free H' slot := by
  refine ⟨by rw [hlen]; exact h.1, ?_⟩
  have := hl.len slot
  rw [h.2] at this
  exact List.eq_nil_of_length_eq_zero (by simpa using this)

theorem len_putAll : ∀ (l : List (Nm × Option Blk)) (H : Heap), (putAll H l).length = H.length := by
  intro l
  induction l with
  | nil => intro H; rfl
  | cons p r ih => intro H; obtain ⟨g, b⟩ := p; show (putAll (set H g b) r).length = _; rw [ih, len_set]

theorem lenD_putAll : ∀ (l : List (Nm × Option Blk)) (H : Heap) (i : Nat), ((putAll H l).getD i []).length = (H.getD i []).length := by
  intro l
  induction l with
  | nil => intro H i; rfl
  | cons p r ih => intro H i; obtain ⟨g, b⟩ := p; show ((putAll (set H g b) r).getD i []).length = _; rw [ih, getD_set_length]

theorem Free.putAll {H : Heap} {slot : Nat} (h : Free H slot) (l : List (Nm × Option Blk)) : Free (putAll H l) slot := by
  refine ⟨by rw [len_putAll]; exact h.1, ?_⟩
  have := lenD_putAll l H slot
  rw [h.2] at this
  exact List.eq_nil_of_length_eq_zero (by simpa using this)

/-- Nothing is laid into the group. -/
theorem HR.none_new {w : World} {ρ : Rho} {H : Heap} {slot : Nat} (hr : HR Y w ρ H) (hf : Free H slot) : HR Y w ρ (H.set slot []) ∧ Stable w (XX ρ H) w (XX ρ (H.set slot [])) := by
  have hg : ∀ g, Abs.get (H.set slot []) g = Abs.get H g := by
    intro g
    rw [get_group]
    split
    · rename_i e
      obtain ⟨a, c⟩ := g
      obtain ⟨e1, _⟩ := e
      simp only at e1
      subst e1
      rw [hf.get c]
      rfl
    · rfl
  have hl : Less (H.set slot []) H := by
    refine ⟨fun g k' h => ⟨k', by rw [hg] at h; exact h, rfl, rfl, rfl, Nat.le_refl _⟩, fun i => ?_⟩
    rw [getD_group]
    split
    · rename_i e; rw [e.1, hf.2]
    · rfl
  exact ⟨hr.less hl, hl.st⟩

/-- A new block of the model is a new block of the abstract heap. -/
theorem HR.new' {w w1 : World} {ρ : Rho} {H : Heap} {slot : Nat} (hr : HR Y w ρ H) (hf : Free H slot) {b : Nat} (hb : w.heap.size ≤ b) (hb1 : b < w1.heap.size)
    (hos : w1.os = w.os) (htape : w1.tape = w.tape) (hout : w1.output = w.output) (hold : ∀ i, i < w.heap.size → w1.heap[i]? = w.heap[i]?)
    (k : Blk) (hk : (0 < k.sz ∧ ∃ cs T, w1.heap[b]? = some (.cells cs T (0, 0)) ∧ ElemsAt k.box w (XU Y ρ H) ρ cs k.sz k.elems) ∨ BlkM w1 b k) :
    HR Y w1 (upd ρ (slot, 0) b) (H.set slot [some k]) ∧ Stable w (XX ρ H) w1 (XX (upd ρ (slot, 0) b) (H.set slot [some k])) ∧ (∀ g c, ρ g = some c → upd ρ (slot, 0) b g = some c) := by
  have hle : ∀ g c, ρ g = some c → upd ρ (slot, 0) b g = some c := by
    intro g c h
    unfold upd
    split
    · rename_i e; subst e; rw [hf.none hr 0] at h; cases h
    · exact h
  have hget : ∀ g k', Abs.get (H.set slot [some k]) g = some k' → (g = (slot, 0) ∧ k' = k) ∨ (g ≠ (slot, 0) ∧ Abs.get H g = some k') := by
    intro g k' h
    rw [get_group] at h
    split at h
    · rename_i e
      obtain ⟨a, c⟩ := g
      obtain ⟨e1, _⟩ := e
      simp only at e1
      subst e1
      cases c with
      | zero => simp at h; exact .inl ⟨rfl, h.symm⟩
      | succ c => simp at h
    · rename_i e
      refine .inr ⟨fun e2 => e ⟨by rw [e2], hf.1⟩, h⟩
  have hX : ∀ c o, c < w.heap.size → XX (upd ρ (slot, 0) b) (H.set slot [some k]) c o → XX ρ H c o := by
    intro c o hc' ⟨g, k', hg, hρ, ho⟩
    rcases hget g k' hg with ⟨rfl, rfl⟩ | ⟨hne, hg'⟩
    · simp [upd] at hρ
      omega
    · refine ⟨g, k', hg', ?_, ho⟩
      simpa [upd, hne] using hρ
  have hst : Stable w (XX ρ H) w1 (XX (upd ρ (slot, 0) b) (H.set slot [some k])) := by
    refine ⟨hos, htape, hout, by omega, fun c o hc' hn => ⟨fun h => hn (hX c o hc' h), World.cell?_of_block (w := w) (hold c hc')⟩, fun c hc' => ?_, fun c hc' _ => hold c hc'⟩
    simp only [bsize, hold c hc']
  refine ⟨⟨fun g k' hg => ?_, fun g g' x y c hg hg' h1 h2 => ?_, fun g c hc' => ?_, fun g c hc' => ?_, fun g k' c o hg hc' hy => ?_, fun c o hy => by have := hr.ylt c o hy; omega⟩, hst, hle⟩
  · rcases hget g k' hg with ⟨rfl, rfl⟩ | ⟨hne, hg'⟩
    · refine .inr ⟨b, by simp [upd], ?_⟩
      rcases hk with ⟨h0, cs, T, hc, he⟩ | hk
      · exact .inl ⟨h0, cs, T, hc, he.mono (hst.xu Y) hle⟩
      · exact .inr hk
    · have hρ : upd ρ (slot, 0) b g = ρ g := by simp [upd, hne]
      rw [hρ]
      rcases hr.blk g k' hg' with h | ⟨c, h1, h2⟩
      · exact .inl h
      · exact .inr ⟨c, h1, h2.keep (hst.xu Y) hle (hold c (hr.lt _ _ h1))⟩
  · rcases hget g x hg with ⟨rfl, rfl⟩ | ⟨hne, hg1⟩ <;> rcases hget g' y hg' with ⟨rfl, rfl⟩ | ⟨hne', hg2⟩
    · rfl
    · simp only [upd, hne', if_false, if_true] at h1 h2
      have := hr.lt _ _ h2
      simp at h1
      omega
    · simp only [upd, hne, if_false, if_true] at h1 h2
      have := hr.lt _ _ h1
      simp at h2
      omega
    · simp only [upd, hne, hne', if_false] at h1 h2
      exact hr.inj g g' x y c hg1 hg2 h1 h2
  · by_cases e : g = (slot, 0)
    · subst e
      rw [getD_group, if_pos ⟨rfl, hf.1⟩]
      simp
    · have h := hr.dom g c (by simpa [upd, e] using hc')
      rw [getD_group]
      split
      · rename_i e2
        rw [e2.1, hf.2] at h
        simp at h
      · exact h
  · by_cases e : g = (slot, 0)
    · subst e
      simp [upd] at hc'
      omega
    · have := hr.lt g c (by simpa [upd, e] using hc')
      omega
  · rcases hget g k' hg with ⟨rfl, rfl⟩ | ⟨hne, hg'⟩
    · have h1 := hr.ylt c o hy
      simp [upd] at hc'
      omega
    · exact hr.sep g k' c o hg' (by simpa [upd, hne] using hc') hy

/-- A nil slice is an empty block of its own. -/
theorem HR.new {w w1 : World} {ρ : Rho} {H : Heap} {slot : Nat} (hr : HR Y w ρ H) (hf : Free H slot) {b : Nat} (hb : w.heap.size ≤ b) (hb1 : b < w1.heap.size)
    (hos : w1.os = w.os) (htape : w1.tape = w.tape) (hout : w1.output = w.output) (hold : ∀ i, i < w.heap.size → w1.heap[i]? = w.heap[i]?)
    (k : Blk) (h0 : 0 < k.sz) {cs : Array Value} {T : TypeId} (hc : w1.heap[b]? = some (.cells cs T (0, 0))) (he : ElemsAt k.box w (XU Y ρ H) ρ cs k.sz k.elems) :
    HR Y w1 (upd ρ (slot, 0) b) (H.set slot [some k]) ∧ Stable w (XX ρ H) w1 (XX (upd ρ (slot, 0) b) (H.set slot [some k])) ∧ (∀ g c, ρ g = some c → upd ρ (slot, 0) b g = some c) :=
  hr.new' hf hb hb1 hos htape hout hold k (.inl ⟨h0, cs, T, hc, he⟩)

theorem HR.virt {w : World} {ρ : Rho} {H : Heap} {slot : Nat} (hr : HR Y w ρ H) (hf : Free H slot) (k : Blk) (h1 : k.elems = []) (h2 : k.box = false) :
    HR Y w ρ (H.set slot [some k]) ∧ Stable w (XX ρ H) w (XX ρ (H.set slot [some k])) := by
  have hget : ∀ g k', Abs.get (H.set slot [some k]) g = some k' → (g = (slot, 0) ∧ k' = k) ∨ Abs.get H g = some k' := by
    intro g k' h
    rw [get_group] at h
    split at h
    · rename_i e
      obtain ⟨a, c⟩ := g
      obtain ⟨e1, _⟩ := e
      simp only at e1
      subst e1
      cases c with
      | zero => simp at h; exact .inl ⟨rfl, h.symm⟩
      | succ c => simp at h
    · exact .inr h
  have hX : ∀ c o, XX ρ (H.set slot [some k]) c o → XX ρ H c o := by
    intro c o ⟨g, k', hg, hρ, ho⟩
    rcases hget g k' hg with ⟨rfl, rfl⟩ | hg'
    · rw [hf.none hr 0] at hρ; cases hρ
    · exact ⟨g, k', hg', hρ, ho⟩
  have hst : Stable w (XX ρ H) w (XX ρ (H.set slot [some k])) := (Stable.refl w _).less fun b o _ h => hX b o h
  refine ⟨⟨fun g k' hg => ?_, fun g g' x y c hg hg' e1 e2 => ?_, fun g c hc' => ?_, hr.lt, fun g k' c o hg hc' => ?_, hr.ylt⟩, hst⟩
  · rcases hget g k' hg with ⟨rfl, rfl⟩ | hg'
    · exact .inl ⟨hf.none hr 0, h1, h2⟩
    · rcases hr.blk g k' hg' with h | ⟨c, a1, a2⟩
      · exact .inl h
      · exact .inr ⟨c, a1, a2.keep (hst.xu Y) (fun _ _ h => h) rfl⟩
  · rcases hget g x hg with ⟨rfl, rfl⟩ | hg1
    · rw [hf.none hr 0] at e1; cases e1
    · rcases hget g' y hg' with ⟨rfl, rfl⟩ | hg2
      · rw [hf.none hr 0] at e2; cases e2
      · exact hr.inj g g' x y c hg1 hg2 e1 e2
  · have h := hr.dom g c hc'
    rw [getD_group]
    split
    · rename_i e2
      rw [e2.1, hf.2] at h
      simp at h
    · exact h
  · rcases hget g k' hg with ⟨rfl, rfl⟩ | hg'
    · rw [hf.none hr 0] at hc'; cases hc'
    · exact hr.sep g k' c o hg' hc'

/-- Cells of one block of the model are written, behind the first 'frz' elements. -/
theorem HR.write {w w1 : World} {ρ : Rho} {H : Heap} (hr : HR Y w ρ H) {g : Nm} {k k1 : Blk} (hg : get H g = some k) {b : Nat} (hρ : ρ g = some b)
    (h0 : 0 < k1.sz) (hos : w1.os = w.os) (htape : w1.tape = w.tape) (hout : w1.output = w.output) (hsize : w1.heap.size = w.heap.size) (hold : ∀ i, i ≠ b → w1.heap[i]? = w.heap[i]?)
    {cs cs1 : Array Value} {T : TypeId} (hc : w.heap[b]? = some (.cells cs T (0, 0))) (hc1 : w1.heap[b]? = some (.cells cs1 T (0, 0))) (hcs : cs1.size = cs.size)
    (hsame : ∀ o, o < k.frz * k.sz → cs1[o]? = cs[o]?) (hsz : k1.sz = k.sz) (hfrz : k.frz ≤ k1.frz)
    (he : ElemsAt k1.box w (XU Y ρ H) ρ cs1 k1.sz k1.elems) :
    HR Y w1 ρ (set H g (some k1)) ∧ Stable w (XX ρ H) w1 (XX ρ (set H g (some k1))) := by
  have hget : ∀ g' k', get (set H g (some k1)) g' = some k' → (g' = g ∧ k' = k1) ∨ (g' ≠ g ∧ get H g' = some k') := by
    intro g' k' h
    by_cases e : g' = g
    · subst e
      rw [get_set_same hg] at h
      cases h
      exact .inl ⟨rfl, rfl⟩
    · rw [get_set_ne e] at h
      exact .inr ⟨e, h⟩
  have hX : ∀ c o, XX ρ (set H g (some k1)) c o → XX ρ H c o := by
    intro c o ⟨g', k', hg', hρ', ho⟩
    rcases hget g' k' hg' with ⟨rfl, rfl⟩ | ⟨_, h⟩
    · refine ⟨_, k, hg, hρ', Nat.le_trans ?_ ho⟩
      rw [hsz]
      exact Nat.mul_le_mul_right _ hfrz
    · exact ⟨g', k', h, hρ', ho⟩
  have hb : b < w.heap.size := hr.lt _ _ hρ
  have hst : Stable w (XX ρ H) w1 (XX ρ (set H g (some k1))) := by
    refine ⟨hos, htape, hout, by omega, fun c o hc' hn => ⟨fun h => hn (hX c o h), ?_⟩, fun c hc' => ?_, fun c hc' hn => ?_⟩
    · by_cases e : c = b
      · subst e
        have ho : o < k.frz * k.sz := by
          rcases Nat.lt_or_ge o (k.frz * k.sz) with h | h
          · exact h
          · exact absurd ⟨g, k, hg, hρ, h⟩ hn
        rw [cell_of_row w1 c o cs1 T (0, 0) hc1, cell_of_row w c o cs T (0, 0) hc, hsame o ho]
      · exact World.cell?_of_block (w := w) (hold c e)
    · by_cases e : c = b
      · subst e; simp [bsize, hc, hc1, hcs]
      · simp only [bsize, hold c e]
    · by_cases e : c = b
      · subst e; exact absurd ⟨g, k, hg, hρ, Nat.le_refl _⟩ (hn (k.frz * k.sz))
      · exact hold c e
  refine ⟨⟨fun g' k' hg' => ?_, fun g1 g2 x y c h1 h2 e1 e2 => ?_, fun g' c hc' => ?_, fun g' c hc' => by rw [hsize]; exact hr.lt g' c hc', fun g' k' c o hg' hc' => ?_, fun c o hy => by rw [hsize]; exact hr.ylt c o hy⟩, hst⟩
  · rcases hget g' k' hg' with ⟨rfl, rfl⟩ | ⟨hne, h⟩
    · exact .inr ⟨b, hρ, .inl ⟨h0, cs1, T, hc1, he.mono (hst.xu Y) (fun _ _ h => h)⟩⟩
    · rcases hr.blk g' k' h with a | ⟨c, a1, a2⟩
      · exact .inl a
      · have hcb : c ≠ b := fun e => hne (hr.inj g' g k' k b h hg (e ▸ a1) hρ)
        exact .inr ⟨c, a1, a2.keep (hst.xu Y) (fun _ _ h => h) (hold c hcb)⟩
  · have f : ∀ g' z, get (set H g (some k1)) g' = some z → ∃ z', get H g' = some z' := by
      intro g' z hz
      rcases hget g' z hz with ⟨rfl, _⟩ | ⟨_, h⟩
      · exact ⟨k, hg⟩
      · exact ⟨z, h⟩
    obtain ⟨x', hx'⟩ := f g1 x h1
    obtain ⟨y', hy'⟩ := f g2 y h2
    exact hr.inj g1 g2 x' y' c hx' hy' e1 e2
  · rw [getD_set_length]; exact hr.dom g' c hc'
  · rcases hget g' k' hg' with ⟨rfl, rfl⟩ | ⟨_, h⟩
    · exact hr.sep g' k c o hg hc'
    · exact hr.sep g' k' c o h hc'

/-- A map is written. -/
theorem HR.writeM {w w1 : World} {ρ : Rho} {H : Heap} (hr : HR Y w ρ H) {g : Nm} {k k1 : Blk} (hg : get H g = some k) {b : Nat} (hρ : ρ g = some b)
    (hos : w1.os = w.os) (htape : w1.tape = w.tape) (hout : w1.output = w.output) (hsize : w1.heap.size = w.heap.size) (hold : ∀ i, i ≠ b → w1.heap[i]? = w.heap[i]?)
    {es es1 : Array MapEntry} {cl cl1 : Nat} (hc : w.heap[b]? = some (.map es cl)) (hc1 : w1.heap[b]? = some (.map es1 cl1)) (hk0 : k.sz = 0) (hk1 : k1.sz = 0) (hbx : k1.box = false) (he : MapAt es1.toList k1.elems) :
    HR Y w1 ρ (set H g (some k1)) ∧ Stable w (XX ρ H) w1 (XX ρ (set H g (some k1))) := by
  have hget : ∀ g' k', get (set H g (some k1)) g' = some k' → (g' = g ∧ k' = k1) ∨ (g' ≠ g ∧ get H g' = some k') := by
    intro g' k' h
    by_cases e : g' = g
    · subst e
      rw [get_set_same hg] at h
      cases h
      exact .inl ⟨rfl, rfl⟩
    · rw [get_set_ne e] at h
      exact .inr ⟨e, h⟩
  have hX : ∀ c o, XX ρ (set H g (some k1)) c o → XX ρ H c o := by
    intro c o ⟨g', k', hg', hρ', ho⟩
    rcases hget g' k' hg' with ⟨rfl, rfl⟩ | ⟨_, h⟩
    · exact ⟨_, k, hg, hρ', by rw [hk0]; exact Nat.zero_le _⟩
    · exact ⟨g', k', h, hρ', ho⟩
  have hb : b < w.heap.size := hr.lt _ _ hρ
  have hall : ∀ o, XX ρ H b o := fun o => ⟨g, k, hg, hρ, by rw [hk0]; exact Nat.zero_le _⟩
  have hst : Stable w (XX ρ H) w1 (XX ρ (set H g (some k1))) := by
    refine ⟨hos, htape, hout, by omega, fun c o hc' hn => ⟨fun h => hn (hX c o h), ?_⟩, fun c hc' => ?_, fun c hc' hn => ?_⟩
    · by_cases e : c = b
      · subst e; exact absurd (hall o) hn
      · exact World.cell?_of_block (w := w) (hold c e)
    · by_cases e : c = b
      · subst e; simp [bsize, hc, hc1]
      · simp only [bsize, hold c e]
    · by_cases e : c = b
      · subst e; exact absurd (hall 0) (hn 0)
      · exact hold c e
  refine ⟨⟨fun g' k' hg' => ?_, fun g1 g2 x y c h1 h2 e1 e2 => ?_, fun g' c hc' => ?_, fun g' c hc' => by rw [hsize]; exact hr.lt g' c hc', fun g' k' c o hg' hc' => ?_, fun c o hy => by rw [hsize]; exact hr.ylt c o hy⟩, hst⟩
  · rcases hget g' k' hg' with ⟨rfl, rfl⟩ | ⟨hne, h⟩
    · exact .inr ⟨b, hρ, .inr ⟨hk1, hbx, es1, cl1, hc1, he⟩⟩
    · rcases hr.blk g' k' h with a | ⟨c, a1, a2⟩
      · exact .inl a
      · have hcb : c ≠ b := fun e => hne (hr.inj g' g k' k b h hg (e ▸ a1) hρ)
        exact .inr ⟨c, a1, a2.keep (hst.xu Y) (fun _ _ h => h) (hold c hcb)⟩
  · have f : ∀ g' z, get (set H g (some k1)) g' = some z → ∃ z', get H g' = some z' := by
      intro g' z hz
      rcases hget g' z hz with ⟨rfl, _⟩ | ⟨_, h⟩
      · exact ⟨k, hg⟩
      · exact ⟨z, h⟩
    obtain ⟨x', hx'⟩ := f g1 x h1
    obtain ⟨y', hy'⟩ := f g2 y h2
    exact hr.inj g1 g2 x' y' c hx' hy' e1 e2
  · rw [getD_set_length]; exact hr.dom g' c hc'
  · rcases hget g' k' hg' with ⟨rfl, rfl⟩ | ⟨_, h⟩
    · exact hr.sep g' k c o hg hc'
    · exact hr.sep g' k' c o h hc'

/-- A block grows in place: it has a new name, the old one is gone. -/
theorem HR.move {w w1 : World} {ρ : Rho} {H : Heap} (hr : HR Y w ρ H) {slot : Nat} (hf : Free H slot) {g : Nm} {k k1 : Blk} (hg : get H g = some k) {b : Nat} (hρ : ρ g = some b)
    (h0 : 0 < k1.sz) (hos : w1.os = w.os) (htape : w1.tape = w.tape) (hout : w1.output = w.output) (hsize : w1.heap.size = w.heap.size) (hold : ∀ i, i ≠ b → w1.heap[i]? = w.heap[i]?)
    {cs cs1 : Array Value} {T : TypeId} (hc : w.heap[b]? = some (.cells cs T (0, 0))) (hc1 : w1.heap[b]? = some (.cells cs1 T (0, 0))) (hcs : cs1.size = cs.size)
    (hsame : ∀ o, o < k.frz * k.sz → cs1[o]? = cs[o]?) (hsz : k1.sz = k.sz) (hfrz : k.frz ≤ k1.frz)
    (he : ElemsAt k1.box w (XU Y ρ H) ρ cs1 k1.sz k1.elems) :
    HR Y w1 (upd ρ (slot, 0) b) ((set H g none).set slot [some k1]) ∧ Stable w (XX ρ H) w1 (XX (upd ρ (slot, 0) b) ((set H g none).set slot [some k1])) ∧ (∀ g c, ρ g = some c → upd ρ (slot, 0) b g = some c) := by
  have hgs : g ≠ (slot, 0) := fun e => by rw [e, hf.none hr 0] at hρ; cases hρ
  have hle : ∀ g c, ρ g = some c → upd ρ (slot, 0) b g = some c := by
    intro g c h
    unfold upd
    split
    · rename_i e; subst e; rw [hf.none hr 0] at h; cases h
    · exact h
  have hlen : slot < (set H g none).length := by rw [len_set]; exact hf.1
  have hget : ∀ g' k', get ((set H g none).set slot [some k1]) g' = some k' → (g' = (slot, 0) ∧ k' = k1) ∨ (g' ≠ (slot, 0) ∧ g' ≠ g ∧ get H g' = some k') := by
    intro g' k' h
    rw [get_group] at h
    split at h
    · rename_i e
      obtain ⟨a, c⟩ := g'
      obtain ⟨e1, _⟩ := e
      simp only at e1
      subst e1
      cases c with
      | zero => simp at h; exact .inl ⟨rfl, h.symm⟩
      | succ c => simp at h
    · rename_i e
      have hne : g' ≠ (slot, 0) := fun e2 => e ⟨by rw [e2], hlen⟩
      by_cases e3 : g' = g
      · subst e3; rw [get_set_same hg] at h; cases h
      · rw [get_set_ne e3] at h
        exact .inr ⟨hne, e3, h⟩
  have hX : ∀ c o, XX (upd ρ (slot, 0) b) ((set H g none).set slot [some k1]) c o → XX ρ H c o := by
    intro c o ⟨g', k', hg', hρ', ho⟩
    rcases hget g' k' hg' with ⟨rfl, rfl⟩ | ⟨hne, _, h⟩
    · simp [upd] at hρ'
      subst hρ'
      refine ⟨g, k, hg, hρ, Nat.le_trans ?_ ho⟩
      rw [hsz]
      exact Nat.mul_le_mul_right _ hfrz
    · exact ⟨g', k', h, by simpa [upd, hne] using hρ', ho⟩
  have hb : b < w.heap.size := hr.lt _ _ hρ
  have hst : Stable w (XX ρ H) w1 (XX (upd ρ (slot, 0) b) ((set H g none).set slot [some k1])) := by
    refine ⟨hos, htape, hout, by omega, fun c o hc' hn => ⟨fun h => hn (hX c o h), ?_⟩, fun c hc' => ?_, fun c hc' hn => ?_⟩
    · by_cases e : c = b
      · subst e
        have ho : o < k.frz * k.sz := by
          rcases Nat.lt_or_ge o (k.frz * k.sz) with h | h
          · exact h
          · exact absurd ⟨g, k, hg, hρ, h⟩ hn
        rw [cell_of_row w1 c o cs1 T (0, 0) hc1, cell_of_row w c o cs T (0, 0) hc, hsame o ho]
      · exact World.cell?_of_block (w := w) (hold c e)
    · by_cases e : c = b
      · subst e; simp [bsize, hc, hc1, hcs]
      · simp only [bsize, hold c e]
    · by_cases e : c = b
      · subst e; exact absurd ⟨g, k, hg, hρ, Nat.le_refl _⟩ (hn (k.frz * k.sz))
      · exact hold c e
  refine ⟨⟨fun g' k' hg' => ?_, fun g1 g2 x y c h1 h2 e1 e2 => ?_, fun g' c hc' => ?_, fun g' c hc' => ?_, fun g' k' c o hg' hc' => ?_, fun c o hy => by rw [hsize]; exact hr.ylt c o hy⟩, hst, hle⟩
  · rcases hget g' k' hg' with ⟨rfl, rfl⟩ | ⟨hne, hne2, h⟩
    · exact .inr ⟨b, by simp [upd], .inl ⟨h0, cs1, T, hc1, he.mono (hst.xu Y) hle⟩⟩
    · have e : upd ρ (slot, 0) b g' = ρ g' := by simp [upd, hne]
      rw [e]
      rcases hr.blk g' k' h with a | ⟨c, a1, a2⟩
      · exact .inl a
      · have hcb : c ≠ b := fun e => hne2 (hr.inj g' g k' k b h hg (e ▸ a1) hρ)
        exact .inr ⟨c, a1, a2.keep (hst.xu Y) hle (hold c hcb)⟩
  · rcases hget g1 x h1 with ⟨rfl, rfl⟩ | ⟨hne, hn1, h1'⟩ <;> rcases hget g2 y h2 with ⟨rfl, rfl⟩ | ⟨hne', hn2, h2'⟩
    · rfl
    · simp only [upd, hne', if_false, if_true] at e1 e2
      cases e1
      exact absurd (hr.inj g2 g y k b h2' hg e2 hρ) hn2
    · simp only [upd, hne, if_false, if_true] at e1 e2
      cases e2
      exact absurd (hr.inj g1 g x k b h1' hg e1 hρ) hn1
    · simp only [upd, hne, hne', if_false] at e1 e2
      exact hr.inj g1 g2 x y c h1' h2' e1 e2
  · by_cases e : g' = (slot, 0)
    · subst e
      rw [getD_group, if_pos ⟨rfl, hlen⟩]
      simp
    · have h := hr.dom g' c (by simpa [upd, e] using hc')
      rw [getD_group]
      split
      · rename_i e2
        rw [e2.1, hf.2] at h
        simp at h
      · rw [getD_set_length]; exact h
  · rw [hsize]
    by_cases e : g' = (slot, 0)
    · subst e
      simp [upd] at hc'
      omega
    · exact hr.lt g' c (by simpa [upd, e] using hc')
  · rcases hget g' k' hg' with ⟨rfl, rfl⟩ | ⟨hne, _, h⟩
    · simp [upd] at hc'
      subst hc'
      exact hr.sep g k _ o hg hρ
    · exact hr.sep g' k' c o h (by simpa [upd, hne] using hc')

end Go.Abs
