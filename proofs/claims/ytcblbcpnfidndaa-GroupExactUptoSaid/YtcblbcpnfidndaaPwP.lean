/- A region that draws its order: whatever the order, the state behind it is the text's. -/
import Derived.Test.YtcblbcpnfidndaaPwO
import Derived.CheckFast
set_option linter.unusedSimpArgs false
set_option linter.unusedVariables false
namespace Go.Abs
open Go

/-! ### Heaps: what commutes -/

theorem get_putAll_ne (g : Nm) : ∀ (l : List (Nm × Option Blk)) (H : Heap), g ∉ l.map (·.1) → get (putAll H l) g = get H g := by
  intro l
  induction l with
  | nil => intro H _; rfl
  | cons p r ih =>
    intro H h
    obtain ⟨g', b⟩ := p
    simp only [List.map_cons, List.mem_cons, not_or] at h
    show get (putAll (set H g' b) r) g = _
    rw [ih _ h.2, get_set_ne h.1]

theorem set_comm (H : Heap) {g g' : Nm} (h : g ≠ g') (b b' : Option Blk) : set (set H g b) g' b' = set (set H g' b') g b := by
  obtain ⟨a, c⟩ := g
  obtain ⟨a', c'⟩ := g'
  unfold set
  apply List.ext_getElem?
  intro i
  simp only [List.getElem?_modify]
  by_cases h1 : a' = i
  · by_cases h2 : a = i
    · subst h1 h2
      have hc : c ≠ c' := fun e => h (by rw [e])
      cases hl : H[a]? with
      | none => simp
      | some l => simp [List.set_comm _ _ hc]
    · simp [h1, h2]
  · by_cases h2 : a = i <;> simp [h1, h2]

theorem putAll_set (g : Nm) (b : Option Blk) : ∀ (l : List (Nm × Option Blk)) (H : Heap), g ∉ l.map (·.1) → putAll (set H g b) l = set (putAll H l) g b := by
  intro l
  induction l with
  | nil => intro H _; rfl
  | cons p r ih =>
    intro H h
    obtain ⟨g', b'⟩ := p
    simp only [List.map_cons, List.mem_cons, not_or] at h
    show putAll (set (set H g b) g' b') r = set (putAll (set H g' b') r) g b
    rw [set_comm H h.1, ih _ h.2]

theorem putAll_comm : ∀ (l l' : List (Nm × Option Blk)) (H : Heap), (∀ g, g ∈ l.map (·.1) → g ∉ l'.map (·.1)) → putAll (putAll H l) l' = putAll (putAll H l') l := by
  intro l
  induction l with
  | nil => intro l' H _; rfl
  | cons p r ih =>
    intro l' H h
    obtain ⟨g, b⟩ := p
    show putAll (putAll (set H g b) r) l' = putAll (set (putAll H l') g b) r
    rw [ih l' _ fun g' hg' => h g' (by simp only [List.map_cons, List.mem_cons]; exact .inr hg'), putAll_set g b l' H (h g (by simp))]

theorem set_group (H : Heap) {g : Nm} {slot : Nat} (h : g.1 ≠ slot) (b : Option Blk) (l : List (Option Blk)) : set (H.set slot l) g b = (set H g b).set slot l := by
  obtain ⟨a, c⟩ := g
  simp only at h
  unfold set
  apply List.ext_getElem?
  intro i
  simp only [List.getElem?_modify, List.getElem?_set, List.length_modify]
  by_cases h1 : slot = i
  · have h2 : ¬ a = i := fun e => h (e.trans h1.symm)
    by_cases hl : slot < H.length
    · simp [h1, h2, h1 ▸ hl]
    · simp [h1, h2, h1 ▸ hl]
  · by_cases h2 : a = i <;> simp [h1, h2]

theorem putAll_group {slot : Nat} (k : List (Option Blk)) : ∀ (l : List (Nm × Option Blk)) (H : Heap), (∀ g, g ∈ l.map (·.1) → g.1 ≠ slot) → putAll (H.set slot k) l = (putAll H l).set slot k := by
  intro l
  induction l with
  | nil => intro H _; rfl
  | cons p r ih =>
    intro H h
    obtain ⟨g, b⟩ := p
    show putAll (set (H.set slot k) g b) r = (putAll (set H g b) r).set slot k
    rw [set_group H (h g (by simp)), ih _ fun g' hg' => h g' (by simp only [List.map_cons, List.mem_cons]; exact .inr hg')]

/-- The heap behind an operation. -/
def effH (x : Option Res) (slot : Nat) (mk : Bool) (H : Heap) : Heap :=
  match x with
  | none => H
  | some r => if mk then (putAll H r.wr).set slot (r.new.map some) else putAll H r.wr

theorem newGroup_iff {H H' : Heap} {slot : Nat} {mk : Bool} {new : List Blk} : newGroup H slot mk new = some H' ↔ H' = (if mk then H.set slot (new.map some) else H) ∧ (mk = true ∨ new = []) := by
  unfold newGroup
  cases mk with
  | true => simp [eq_comm]
  | false =>
    cases new with
    | nil => simp [eq_comm]
    | cons a r => simp

/-- The two operations meet in no block. -/
structure Clear (x y : Option Res) (sx sy : Nat) (mx my : Bool) : Prop where
  rw : ∀ a b, x = some a → y = some b → ∀ g, g ∈ a.rd ++ a.wr.map (·.1) → g ∉ b.wr.map (·.1)
  slot : ∀ a, x = some a → my = true → ∀ g, g ∈ a.rd ++ a.wr.map (·.1) → g.1 ≠ sy

theorem effH_get {x y : Option Res} {sx sy : Nat} {mx my : Bool} (h : Clear x y sx sy mx my) {a : Res} (hx : x = some a) (H : Heap) : Agree H (effH y sy my H) (a.rd ++ a.wr.map (·.1)) := by
  intro g hg
  cases y with
  | none => rfl
  | some b =>
    have h1 := h.rw a b hx rfl g hg
    simp only [effH]
    split
    · rename_i hm
      rw [get_group, if_neg (fun e => h.slot a hx hm g hg e.1), get_putAll_ne g _ _ h1]
    · rw [get_putAll_ne g _ _ h1]

theorem effH_comm {x y : Option Res} {sx sy : Nat} {mx my : Bool} (h : Clear x y sx sy mx my) (h' : Clear y x sy sx my mx) (hs : mx = true → my = true → sx ≠ sy) (H : Heap) :
    effH x sx mx (effH y sy my H) = effH y sy my (effH x sx mx H) := by
  cases x with
  | none => rfl
  | some a =>
    cases y with
    | none => rfl
    | some b =>
      have h1 : ∀ g, g ∈ b.wr.map (·.1) → g ∉ a.wr.map (·.1) := fun g hg => h'.rw b a rfl rfl g (by simp only [List.mem_append]; exact .inr hg)
      simp only [effH]
      cases mx with
      | false =>
        cases my with
        | false => simp only [Bool.false_eq_true, if_false]; exact putAll_comm _ _ _ h1
        | true =>
          simp only [Bool.false_eq_true, if_false, if_true]
          rw [putAll_group _ _ _ fun g hg => h.slot a rfl rfl g (by simp only [List.mem_append]; exact .inr hg), putAll_comm _ _ _ h1]
      | true =>
        cases my with
        | false =>
          simp only [Bool.false_eq_true, if_false, if_true]
          rw [putAll_group _ _ _ fun g hg => h'.slot b rfl rfl g (by simp only [List.mem_append]; exact .inr hg), putAll_comm _ _ _ h1]
        | true =>
          simp only [if_true]
          rw [putAll_group _ _ _ fun g hg => h.slot a rfl rfl g (by simp only [List.mem_append]; exact .inr hg), putAll_group _ _ _ fun g hg => h'.slot b rfl rfl g (by simp only [List.mem_append]; exact .inr hg), putAll_comm _ _ _ h1,
            List.set_comm _ _ (hs rfl rfl)]

/-! ### States that read alike -/

structure Alike (s s' : St) : Prop where
  fr : ∀ t, look s'.fr t = look s.fr t
  hp : s'.hp = s.hp

theorem Alike.refl (s : St) : Alike s s := ⟨fun _ => rfl, rfl⟩
theorem Alike.symm {a b : St} (h : Alike a b) : Alike b a := ⟨fun t => (h.fr t).symm, h.hp.symm⟩
theorem Alike.trans {a b c : St} (h : Alike a b) (k : Alike b c) : Alike a c := ⟨fun t => (k.fr t).trans (h.fr t), k.hp.trans h.hp⟩

theorem look_put (fr : Fr) (dst : Option Nat) (v : AV) (t : Nat) : look (putDst fr dst v) t = if dst = some t then v else look fr t := by
  cases dst with
  | none => simp [putDst]
  | some d => simp [putDst, look_ins]

theorem evO_same {fr fr' : Fr} {x : Operand} (h : ∀ t, x = .tmp t → look fr' t = look fr t) : evO fr' x = evO fr x := by
  cases x with
  | tmp t => exact h t rfl
  | _ => rfl

section
variable {E : Env} {ops : Array Oper} {base : Nat}

def valOf : Option Res → AV
  | none => .tup []
  | some r => r.val

/-- What it means that an operation has been run. -/
structure Did (E : Env) (ops : Array Oper) (o : Oper) (slot : Nat) (s : St) (x : Option Res) (s' : St) : Prop where
  dst : dstOk E.nt o.dst = true
  go : goesOn ops s.fr o = some x.isSome
  op : ∀ r, x = some r → stepOp E.P E.N (E.call slot) o s.fr s.hp slot = some r ∧ (makes o.op = true ∨ r.new = [])
  fr : s'.fr = putDst s.fr o.dst (valOf x)
  hp : s'.hp = effH x slot (makes o.op) s.hp

theorem stepI_iff {i : Nat} {o : Oper} (ho : ops[i]? = some o) {s s' : St} {x : Option Res} : stepI E ops base i s = some (s', x) ↔ Did E ops o (slotOf ops base i) s x s' := by
  unfold stepI
  simp only [ho]
  constructor
  · intro h
    split at h
    · rename_i hd
      split at h
      · cases h
      · rename_i hg
        simp only [Option.some.injEq, Prod.mk.injEq] at h
        obtain ⟨rfl, rfl⟩ := h
        exact ⟨hd, hg, fun r hr => (by cases hr), rfl, rfl⟩
      · rename_i hg
        split at h
        · rename_i r hr
          split at h
          · rename_i H hH
            simp only [Option.some.injEq, Prod.mk.injEq] at h
            obtain ⟨rfl, rfl⟩ := h
            obtain ⟨h1, h2⟩ := newGroup_iff.1 hH
            exact ⟨hd, hg, fun r' hr' => by cases hr'; exact ⟨hr, h2⟩, rfl, h1⟩
          · cases h
        · cases h
    · cases h
  · rintro ⟨h1, h2, h3, h4, h5⟩
    rw [if_pos h1]
    obtain ⟨fr', hp'⟩ := s'
    simp only at h4 h5
    cases x with
    | none =>
      simp only [Option.isSome_none] at h2
      simp only [h2, h4, h5, valOf, effH]
    | some r =>
      simp only [Option.isSome_some] at h2
      obtain ⟨h6, h7⟩ := h3 r rfl
      simp only [h2, h6]
      have : newGroup (putAll s.hp r.wr) (slotOf ops base i) (makes o.op) r.new = some hp' := newGroup_iff.2 ⟨h5, h7⟩
      rw [this]
      simp only [h4, valOf]

theorem goesOn_same {fr fr' : Fr} {o : Oper} (h : ∀ t, t ∈ o.looksAt ops → look fr' t = look fr t) : goesOn ops fr' o = goesOn ops fr o := by
  unfold goesOn
  cases hg : o.guard with
  | none => rfl
  | some gw =>
    obtain ⟨j, want⟩ := gw
    simp only
    cases hd : (ops[j]?).bind (·.dst) with
    | none => rfl
    | some d =>
      simp only
      rw [h d (by simp [Oper.looksAt, hg, hd])]

theorem stepOp_same {call : CL} {o : Oper} {fr fr' : Fr} {H : Heap} {slot : Nat} (h : ∀ t, t ∈ o.looksAt ops → look fr' t = look fr t) : stepOp E.P E.N call o fr' H slot = stepOp E.P E.N call o fr H slot :=
  stepOp_congr fun x hx => evO_same fun t ht => h t (by
    subst ht
    exact List.mem_append_left _ (List.mem_filterMap.2 ⟨.tmp t, by simpa using hx, rfl⟩))

theorem Did.alike {o : Oper} {slot : Nat} {s s' t : St} {x : Option Res} (h : Did E ops o slot s x s') (ha : Alike s t) : ∃ t', Did E ops o slot t x t' ∧ Alike s' t' := by
  refine ⟨⟨putDst t.fr o.dst (valOf x), effH x slot (makes o.op) t.hp⟩, ⟨h.dst, ?_, fun r hr => ?_, rfl, rfl⟩, ⟨fun u => ?_, ?_⟩⟩
  · rw [goesOn_same fun u _ => ha.fr u]; exact h.go
  · rw [ha.hp, stepOp_same (ops := ops) fun u _ => ha.fr u]; exact h.op r hr
  · rw [h.fr, look_put, look_put, ha.fr u]
  · rw [h.hp, ha.hp]

/-- Two operations that meet nowhere may change their order. -/
theorem Did.swap {o p : Oper} {so sp : Nat} {s s1 s2 : St} {x y : Option Res} (hp : Did E ops p sp s y s1) (ho : Did E ops o so s1 x s2)
    (h1 : ∀ d, p.dst = some d → d ∉ o.looksAt ops) (h2 : ∀ d, p.dst = some d → o.dst ≠ some d) (h3 : ∀ d, o.dst = some d → d ∉ p.looksAt ops)
    (hc : Clear x y so sp (makes o.op) (makes p.op)) (hc' : Clear y x sp so (makes p.op) (makes o.op)) (hs : makes o.op = true → makes p.op = true → so ≠ sp) :
    ∃ t1 t2, Did E ops o so s x t1 ∧ Did E ops p sp t1 y t2 ∧ Alike s2 t2 := by
  have e1 : ∀ t, t ∈ o.looksAt ops → look s.fr t = look s1.fr t := fun t ht => by
    rw [hp.fr, look_put, if_neg fun e => h1 t e ht]
  refine ⟨⟨putDst s.fr o.dst (valOf x), effH x so (makes o.op) s.hp⟩, ⟨putDst (putDst s.fr o.dst (valOf x)) p.dst (valOf y), effH y sp (makes p.op) (effH x so (makes o.op) s.hp)⟩,
    ⟨ho.dst, ?_, fun r hr => ⟨?_, (ho.op r hr).2⟩, rfl, rfl⟩, ⟨hp.dst, ?_, fun r hr => ⟨?_, (hp.op r hr).2⟩, rfl, rfl⟩, ⟨fun t => ?_, ?_⟩⟩
  · rw [goesOn_same e1]; exact ho.go
  · rw [stepOp_same e1]
    refine stepOp_heap (ho.op r hr).1 fun g hg => ?_
    rw [hp.hp]
    exact (effH_get hc hr s.hp g hg).symm
  · rw [goesOn_same (fr := s.fr) fun t ht => by simp only [look_put]; rw [if_neg fun e => h3 t e ht]]
    exact hp.go
  · rw [stepOp_same (fr := s.fr) fun t ht => by simp only [look_put]; rw [if_neg fun e => h3 t e ht]]
    exact stepOp_heap (hp.op r hr).1 (effH_get hc' hr s.hp)
  · rw [ho.fr, hp.fr]
    simp only [look_put]
    by_cases e : p.dst = some t
    · rw [if_pos e, if_neg (h2 t e), if_pos e]
    · simp only [if_neg e]
  · rw [ho.hp, hp.hp]
    exact (effH_comm hc hc' hs s.hp).symm

/-! ### In a row -/

theorem runL_alike : ∀ (l : List Nat) (s s' t : St) (xs : List (Option Res)), (∀ i, i ∈ l → i < ops.size) → runL E ops base l s = some (s', xs) → Alike s t → ∃ t', runL E ops base l t = some (t', xs) ∧ Alike s' t' := by
  intro l
  induction l with
  | nil =>
    intro s s' t xs _ h ha
    simp only [runL, Option.some.injEq, Prod.mk.injEq] at h
    obtain ⟨rfl, rfl⟩ := h
    exact ⟨t, rfl, ha⟩
  | cons i r ih =>
    intro s s' t xs hl h ha
    simp only [runL] at h ⊢
    have ho : ops[i]? = some ops[i]! := by
      have : i < ops.size := hl i (by simp)
      rw [Array.getElem?_eq_getElem this]; simp [this]
    cases h1 : stepI E ops base i s with
    | none => simp [h1] at h
    | some p =>
      obtain ⟨s1, x⟩ := p
      simp only [h1] at h
      cases h2 : runL E ops base r s1 with
      | none => simp [h2] at h
      | some q =>
        obtain ⟨s2, ys⟩ := q
        simp only [h2, Option.some.injEq, Prod.mk.injEq] at h
        obtain ⟨rfl, rfl⟩ := h
        obtain ⟨t1, d1, a1⟩ := ((stepI_iff ho).1 h1).alike ha
        rw [(stepI_iff ho).2 d1]
        obtain ⟨t2, e2, a2⟩ := ih s1 s2 t1 ys (fun j hj => hl j (by simp [hj])) h2 a1
        simp only [e2]
        exact ⟨t2, rfl, a2⟩

theorem runL_length : ∀ (l : List Nat) (s s' : St) (xs : List (Option Res)), runL E ops base l s = some (s', xs) → xs.length = l.length := by
  intro l
  induction l with
  | nil => intro s s' xs h; simp only [runL, Option.some.injEq, Prod.mk.injEq] at h; rw [← h.2]; rfl
  | cons i r ih =>
    intro s s' xs h
    simp only [runL] at h
    cases h1 : stepI E ops base i s with
    | none => simp [h1] at h
    | some p =>
      obtain ⟨s1, x⟩ := p
      simp only [h1] at h
      cases h2 : runL E ops base r s1 with
      | none => simp [h2] at h
      | some q =>
        obtain ⟨s2, ys⟩ := q
        simp only [h2, Option.some.injEq, Prod.mk.injEq] at h
        rw [← h.2]
        simp [ih _ _ _ h2]

/-- Of two operations in no order (the first in the text first): what the static check says of them, and what the run says. -/
def Loose (ops : Array Oper) (base : Nat) (T : Nat → Option Res) (j i : Nat) : Prop :=
  ∃ p o, ops[j]? = some p ∧ ops[i]? = some o ∧ p.apart ops o = true ∧ (hot p.op = false ∨ hot o.op = false ∨ (isLoad p.op = true ∧ isLoad o.op = true) ∨ apart3 ops base j i (T j) (T i) = true)

theorem noSlot_spec {mk : Bool} {slot : Nat} {x : Option Res} (h : noSlot mk slot x = true) : ∀ a, x = some a → mk = true → ∀ g, g ∈ a.rd ++ a.wr.map (·.1) → g.1 ≠ slot := by
  intro a hx hm g hg
  subst hx hm
  simp only [noSlot, Bool.not_true, Bool.false_or, List.all_eq_true] at h
  simpa using h g hg

theorem apart2_spec {x y : Option Res} (h : apart2 x y = true) : ∀ a b, x = some a → y = some b → (∀ g, g ∈ a.rd ++ a.wr.map (·.1) → g ∉ b.wr.map (·.1)) ∧ (∀ g, g ∈ b.rd ++ b.wr.map (·.1) → g ∉ a.wr.map (·.1)) := by
  intro a b hx hy
  subst hx hy
  simp only [apart2, Bool.and_eq_true, List.all_eq_true] at h
  obtain ⟨h1, h2⟩ := h
  have k1 : ∀ g, g ∈ b.rd ++ b.wr.map (·.1) → g ∉ a.wr.map (·.1) := fun g hg hm => by
    have := h1 g hg
    simp only [Bool.not_eq_true', List.contains_eq_mem, decide_eq_false_iff_not] at this
    exact this hm
  refine ⟨fun g hg hm => ?_, k1⟩
  rcases List.mem_append.1 hg with hg | hg
  · have := h2 g hg
    simp only [Bool.not_eq_true', List.contains_eq_mem, decide_eq_false_iff_not] at this
    exact this hm
  · exact k1 g (List.mem_append.2 (.inr hm)) hg

theorem Loose.swap {T : Nat → Option Res} {i j : Nat} (hne : i ≠ j) (h : Loose ops base T j i) {s s1 s2 : St} (hj : stepI E ops base j s = some (s1, T j)) (hi : stepI E ops base i s1 = some (s2, T i)) :
    ∃ t1 t2, stepI E ops base i s = some (t1, T i) ∧ stepI E ops base j t1 = some (t2, T j) ∧ Alike s2 t2 := by
  obtain ⟨p, o, hp, ho, hap, hc⟩ := h
  have dj := (stepI_iff hp).1 hj
  have di := (stepI_iff ho).1 hi
  obtain ⟨a1, a2, a3⟩ := Oper.apart_spec hap
  have key : Clear (T i) (T j) (slotOf ops base i) (slotOf ops base j) (makes o.op) (makes p.op) ∧ Clear (T j) (T i) (slotOf ops base j) (slotOf ops base i) (makes p.op) (makes o.op) := by
    rcases hc with hc | hc | hc | hc
    · refine ⟨⟨fun a b ha hb g hg => ?_, fun a ha hm => ?_⟩, ⟨fun a b ha hb g hg => ?_, fun a ha hm g hg => ?_⟩⟩
      · obtain ⟨c1, c2, c3⟩ := stepOp_cool (dj.op b hb).1 hc; simp [c2]
      · cases hT : T j with
        | none =>
          have hmk := makes_of_cool hc
          rw [hmk] at hm; cases hm
        | some b => rw [(stepOp_cool (dj.op b hT).1 hc).2.2] at hm; cases hm
      · obtain ⟨c1, c2, c3⟩ := stepOp_cool (dj.op a ha).1 hc; simp [c1, c2] at hg
      · obtain ⟨c1, c2, c3⟩ := stepOp_cool (dj.op a ha).1 hc; simp [c1, c2] at hg
    · refine ⟨⟨fun a b ha hb g hg => ?_, fun a ha hm g hg => ?_⟩, ⟨fun a b ha hb g hg => ?_, fun a ha hm => ?_⟩⟩
      · obtain ⟨c1, c2, c3⟩ := stepOp_cool (di.op a ha).1 hc; simp [c1, c2] at hg
      · obtain ⟨c1, c2, c3⟩ := stepOp_cool (di.op a ha).1 hc; simp [c1, c2] at hg
      · obtain ⟨c1, c2, c3⟩ := stepOp_cool (di.op b hb).1 hc; simp [c2]
      · cases hT : T i with
        | none =>
          have hmk := makes_of_cool hc
          rw [hmk] at hm; cases hm
        | some b => rw [(stepOp_cool (di.op b hT).1 hc).2.2] at hm; cases hm
    · have mk : ∀ q : Oper, isLoad q.op = true → makes q.op = false := by
        intro q hq
        obtain ⟨dst, op, type, pos, after, guard⟩ := q
        cases op <;> first | rfl | (simp [isLoad] at hq; done)
      refine ⟨⟨fun a b ha hb g hg => ?_, fun a ha hm => ?_⟩, ⟨fun a b ha hb g hg => ?_, fun a ha hm => ?_⟩⟩
      · obtain ⟨c1, c2⟩ := stepOp_load (dj.op b hb).1 hc.1; simp [c1]
      · rw [mk p hc.1] at hm; cases hm
      · obtain ⟨c1, c2⟩ := stepOp_load (di.op b hb).1 hc.2; simp [c1]
      · rw [mk o hc.2] at hm; cases hm
    · simp only [apart3, Bool.and_eq_true] at hc
      obtain ⟨⟨c1, c2⟩, c3⟩ := hc
      rw [makesAt_some hp] at c2
      rw [makesAt_some ho] at c3
      exact ⟨⟨fun a b ha hb => (apart2_spec c1 b a hb ha).2, noSlot_spec c2⟩, ⟨fun a b ha hb => (apart2_spec c1 a b ha hb).1, noSlot_spec c3⟩⟩
  obtain ⟨t1, t2, e1, e2, e3⟩ := dj.swap di a1 a2 a3 key.1 key.2 (fun m1 m2 => slotOf_ne hne (by rw [makesAt_some ho]; exact m1) (by rw [makesAt_some hp]; exact m2))
  exact ⟨t1, t2, (stepI_iff ho).2 e1, (stepI_iff hp).2 e2, e3⟩

theorem runL_cons {T : Nat → Option Res} {i : Nat} {r : List Nat} {s s' : St} : runL E ops base (i :: r) s = some (s', (i :: r).map T) ↔ ∃ s1, stepI E ops base i s = some (s1, T i) ∧ runL E ops base r s1 = some (s', r.map T) := by
  simp only [runL]
  constructor
  · intro h
    cases h1 : stepI E ops base i s with
    | none => simp [h1] at h
    | some p =>
      obtain ⟨s1, x⟩ := p
      simp only [h1] at h
      cases h2 : runL E ops base r s1 with
      | none => simp [h2] at h
      | some q =>
        obtain ⟨s2, ys⟩ := q
        simp only [h2, Option.some.injEq, Prod.mk.injEq, List.map_cons, List.cons.injEq] at h
        obtain ⟨rfl, rfl, rfl⟩ := h
        exact ⟨s1, rfl, h2⟩
  · rintro ⟨s1, h1, h2⟩
    simp only [h1, h2, List.map_cons]

/-- An operation that waits for none of those before it may come first. -/
theorem bubble {T : Nat → Option Res} {i : Nat} {L2 : List Nat} : ∀ (L1 : List Nat) (s s' : St), (∀ j, j ∈ L1 ++ i :: L2 → j < ops.size) → (∀ j, j ∈ L1 → j ≠ i ∧ Loose ops base T j i) → runL E ops base (L1 ++ i :: L2) s = some (s', (L1 ++ i :: L2).map T) →
    ∃ s1 s'', stepI E ops base i s = some (s1, T i) ∧ runL E ops base (L1 ++ L2) s1 = some (s'', (L1 ++ L2).map T) ∧ Alike s' s'' := by
  intro L1
  induction L1 with
  | nil =>
    intro s s' _ _ h
    obtain ⟨s1, h1, h2⟩ := runL_cons.1 h
    exact ⟨s1, s', h1, h2, Alike.refl _⟩
  | cons j r ih =>
    intro s s' hb hl h
    obtain ⟨sj, h1, h2⟩ := runL_cons.1 h
    obtain ⟨si, s'', h3, h4, h5⟩ := ih sj s' (fun k hk => hb k (by simp only [List.cons_append, List.mem_cons]; exact .inr hk)) (fun k hk => hl k (by simp [hk])) h2
    obtain ⟨t1, t2, e1, e2, e3⟩ := (hl j (by simp)).2.swap (Ne.symm (hl j (by simp)).1) h1 h3
    obtain ⟨t3, e4, e5⟩ := runL_alike (r ++ L2) si s'' t2 _ (fun k hk => hb k (by
      simp only [List.cons_append, List.mem_cons, List.mem_append] at hk ⊢
      rcases hk with hk | hk
      · exact .inr (.inl hk)
      · exact .inr (.inr (.inr hk)))) h4 e3
    exact ⟨t1, t3, e1, runL_cons.2 ⟨t2, e2, e4⟩, h5.trans e5⟩

/-! ### Which come before -/

theorem before_size (l : List Oper) : ∀ acc : Array Nat, (l.foldl (fun acc o => acc.push (CheckFast.one (fun i => acc.getD i 0) o)) acc).size = acc.size + l.length := by
  induction l with
  | nil => intro acc; rfl
  | cons o r ih => intro acc; rw [List.foldl_cons, ih]; simp; omega

theorem before_keep (l : List Oper) : ∀ (acc : Array Nat) (i : Nat), i < acc.size → (l.foldl (fun acc o => acc.push (CheckFast.one (fun i => acc.getD i 0) o)) acc).getD i 0 = acc.getD i 0 := by
  induction l with
  | nil => intro acc i _; rfl
  | cons o r ih =>
    intro acc i hi
    rw [List.foldl_cons, ih _ i (by simp; omega)]
    simp only [Array.getD_eq_getD_getElem?, Array.getElem?_push]
    rw [if_neg (by omega)]

theorem one_bit (look : Nat → Nat) (o : Oper) (j : Nat) (h : (CheckFast.one look o).testBit j = true) : ∃ e ∈ o.after.toList, Region.binds .any e = true ∧ (e.on = j ∨ (look e.on).testBit j = true) := by
  unfold CheckFast.one at h
  rw [← Array.foldl_toList] at h
  have key : ∀ (l : List Edge) (s : Nat), (l.foldl (fun s e => if Region.binds .any e then s ||| 2 ^ e.on ||| look e.on else s) s).testBit j = true → s.testBit j = true ∨ ∃ e ∈ l, Region.binds .any e = true ∧ (e.on = j ∨ (look e.on).testBit j = true) := by
    intro l
    induction l with
    | nil => intro s h; exact .inl h
    | cons e r ih =>
      intro s h
      rw [List.foldl_cons] at h
      rcases ih _ h with h1 | ⟨e', h1, h2, h3⟩
      · split at h1
        · rename_i hb
          rw [Nat.testBit_or, Nat.testBit_or, Bool.or_eq_true, Bool.or_eq_true] at h1
          rcases h1 with (h1 | h1) | h1
          · exact .inl h1
          · rw [Nat.testBit_two_pow] at h1
            exact .inr ⟨e, by simp, hb, .inl (by simpa using h1)⟩
          · exact .inr ⟨e, by simp, hb, .inr h1⟩
        · exact .inl h1
      · exact .inr ⟨e', by simp [h1], h2, h3⟩
  rcases key _ _ h with h | h
  · simp at h
  · exact h

theorem before_bit (ops : Array Oper) {i j : Nat} (h : ((Region.before ops).getD i 0).testBit j = true) :
    ∃ o, ops[i]? = some o ∧ ∃ e ∈ o.after.toList, Region.binds .any e = true ∧ (e.on = j ∨ (e.on < i ∧ ((Region.before ops).getD e.on 0).testBit j = true)) := by
  have hdef : Region.before ops = ops.toList.foldl (fun acc o => acc.push (CheckFast.one (fun i => acc.getD i 0) o)) #[] := by
    unfold Region.before
    rw [← Array.foldl_toList]
    rfl
  have hi : i < ops.toList.length := by
    rcases Nat.lt_or_ge i ops.toList.length with hi | hi
    · exact hi
    · have : (Region.before ops).size = ops.toList.length := by rw [hdef, before_size]; simp
      rw [Array.getD_eq_getD_getElem?, Array.getElem?_eq_none (by rw [this]; exact hi)] at h
      simp at h
  have hi' : i < ops.size := by simpa using hi
  have hsplit : ops.toList = ops.toList.take i ++ ops.toList[i] :: ops.toList.drop (i + 1) := by
    rw [List.getElem_cons_drop, List.take_append_drop]
  have hval : (Region.before ops).getD i 0 = CheckFast.one (fun k => if k < i then (Region.before ops).getD k 0 else 0) ops.toList[i] := by
    have e : Region.before ops = (ops.toList.drop (i + 1)).foldl (fun acc o => acc.push (CheckFast.one (fun i => acc.getD i 0) o))
        (((ops.toList.take i).foldl (fun acc o => acc.push (CheckFast.one (fun i => acc.getD i 0) o)) #[]).push (CheckFast.one (fun k => ((ops.toList.take i).foldl (fun acc o => acc.push (CheckFast.one (fun i => acc.getD i 0) o)) #[]).getD k 0) ops.toList[i])) := by
      rw [hdef]
      conv => lhs; rw [hsplit]
      rw [List.foldl_append, List.foldl_cons]
    generalize hA : (ops.toList.take i).foldl (fun acc o => acc.push (CheckFast.one (fun i => acc.getD i 0) o)) #[] = A at e
    have hsz : A.size = i := by rw [← hA, before_size]; simp; omega
    have e1 : (fun k => if k < i then (Region.before ops).getD k 0 else 0) = fun k => A.getD k 0 := by
      funext k
      split
      · rename_i hk
        rw [e, before_keep _ _ k (by simp; omega)]
        simp only [Array.getD_eq_getD_getElem?, Array.getElem?_push]
        rw [if_neg (by omega)]
      · rw [Array.getD_eq_getD_getElem?, Array.getElem?_eq_none (by omega)]
        rfl
    rw [e1]
    rw [e, before_keep _ _ i (by simp; omega)]
    simp only [Array.getD_eq_getD_getElem?, Array.getElem?_push]
    rw [if_pos hsz.symm]
    rfl
  rw [hval] at h
  obtain ⟨e, h1, h2, h3⟩ := one_bit _ _ _ h
  refine ⟨ops.toList[i], by simp [Array.getElem?_eq_getElem (show i < ops.size by simpa using hi)], e, h1, h2, ?_⟩
  rcases h3 with h3 | h3
  · exact .inl h3
  · split at h3
    · rename_i hlt; exact .inr ⟨hlt, h3⟩
    · simp at h3

/-- What has come up has those before it behind it. -/
def Down (ops : Array Oper) (listed : Array Bool) : Prop :=
  ∀ i o, ops[i]? = some o → listed.getD i true = true → ∀ e ∈ o.after.toList, Region.binds .any e = true → listed.getD e.on false = true

theorem Down.anc {ops : Array Oper} {listed : Array Bool} (hs : listed.size = ops.size) (hd : Down ops listed) : ∀ (i : Nat) (o : Oper), ops[i]? = some o → (∀ e ∈ o.after.toList, Region.binds .any e = true → listed.getD e.on false = true) →
    ∀ j, ((Region.before ops).getD i 0).testBit j = true → listed.getD j false = true := by
  intro i
  induction i using Nat.strongRecOn with
  | ind i ih =>
    intro o ho hall j hj
    obtain ⟨o', ho', e, he, hb, h⟩ := before_bit ops hj
    rw [ho] at ho'
    cases ho'
    have h1 := hall e he hb
    rcases h with h | ⟨hlt, h⟩
    · rw [← h]; exact h1
    · have hsz : e.on < ops.size := by
        rcases Nat.lt_or_ge e.on ops.size with h | h
        · exact h
        · rw [Array.getD_eq_getD_getElem?, Array.getElem?_eq_none (by omega)] at h1; cases h1
      have h2 : listed.getD e.on true = true := by
        simp only [Array.getD_eq_getD_getElem?] at h1 ⊢
        rw [Array.getElem?_eq_getElem (by omega)] at h1 ⊢
        exact h1
      have ho2 : ops[e.on]? = some ops[e.on] := Array.getElem?_eq_getElem hsz
      exact ih e.on hlt _ ho2 (hd _ _ ho2 h2) j h

end

/-! ### The region -/

section
variable {E : Env} {Y : XT} {ops : Array Oper} {Q : Exit → Act → World → Prop} {base : Nat}

theorem SR.alike {nt : Nat} {w : World} {ρ : Rho} {a : Act} {s t : St} (h : SR Y nt w ρ a s) (ha : Alike s t) : SR Y nt w ρ a t :=
  ⟨h.tsz, h.dfr, fun u => by rw [ha.hp, ha.fr u]; exact h.fr u, by rw [ha.hp]; exact h.hp⟩

theorem HR.drew {w : World} {ρ : Rho} {H : Heap} (h : HR Y w ρ H) : HR Y w.drew ρ H := by
  refine ⟨fun g k hg => ?_, h.inj, h.dom, h.lt, h.sep, h.ylt⟩
  rcases h.blk g k hg with hb | ⟨b, h1, h2⟩
  · exact .inl hb
  · exact .inr ⟨b, h1, h2.keep (Stable.refl w (XU Y ρ H)).drew (fun _ _ e => e) rfl⟩

theorem SR.drew {nt : Nat} {w : World} {ρ : Rho} {a : Act} {s : St} (h : SR Y nt w ρ a s) : SR Y nt w.drew ρ a s :=
  ⟨h.tsz, h.dfr, h.fr.mono (Stable.refl w _).drew fun _ _ e => e, h.hp.drew⟩

theorem ready_mem {listed : Array Bool} {i : Nat} (h : i ∈ Region.ready .any ops listed) : i < ops.size ∧ listed.getD i true = false ∧ ∃ o, ops[i]? = some o ∧ ∀ e ∈ o.after.toList, Region.binds .any e = true → listed.getD e.on false = true := by
  unfold Region.ready at h
  simp only [List.mem_filter, List.mem_range, Bool.and_eq_true, Bool.not_eq_true'] at h
  obtain ⟨h1, h2, h3⟩ := h
  refine ⟨h1, h2, ops[i], Array.getElem?_eq_getElem h1, fun e he hb => ?_⟩
  rw [Array.getElem?_eq_getElem h1] at h3
  simp only [Option.map_some, Option.getD_some] at h3
  have he' : e ∈ ops[i].after := by simpa using he
  obtain ⟨k, hk, rfl⟩ := Array.mem_iff_getElem.1 he'
  have := (Array.all_eq_true.1 h3) k hk
  simp only [hb, Bool.not_true, Bool.false_or] at this
  exact this

theorem wpAny_run (hS : ∀ i, Sound E.P (E.call i)) {T : Nat → Option Res} {s' : St}
    (hloose : ∀ j i, j < i → i < ops.size → ((Region.before ops).getD i 0).testBit j = true ∨ Loose ops base T j i)
    (hedge : ∀ i o, ops[i]? = some o → ∀ e ∈ o.after.toList, Region.binds .any e = true → e.on < i) :
    ∀ (n : Nat) (L : List Nat) (listed : Array Bool) (s s'' : St) (a : Act) (w : World) (ρ : Rho), L.length = n → L.Pairwise (· < ·) → listed.size = ops.size → (∀ i, i ∈ L ↔ i < ops.size ∧ listed.getD i true = false) →
      Down ops listed → SR Y E.nt w ρ a s → (∀ i ∈ L, makesAt ops i = true → Free s.hp (slotOf ops base i)) → runL E ops base L s = some (s'', L.map T) → Alike s' s'' →
      (∀ a' w' ρ', SR Y E.nt w' ρ' a' s' → Grew w ρ s.hp w' ρ' s'.hp → Q .normal a' w') → wpAny E.P .any ops Q n listed a w := by
  intro n
  induction n with
  | zero =>
    intro L listed s s'' a w ρ hlen _ _ hmem _ hsr _ hrun hal hQ
    have hL : L = [] := List.eq_nil_of_length_eq_zero hlen
    subst hL
    simp only [runL, List.map_nil, Option.some.injEq, Prod.mk.injEq] at hrun
    obtain ⟨rfl, _⟩ := hrun
    refine ⟨?_, hQ a w ρ (hsr.alike hal.symm) (by rw [← hal.hp]; exact Grew.refl _ _ _)⟩
    cases hr : Region.ready .any ops listed with
    | nil => rfl
    | cons i r =>
      have := ready_mem (ops := ops) (listed := listed) (i := i) (by rw [hr]; simp)
      have := (hmem i).2 ⟨this.1, this.2.1⟩
      simp at this
  | succ n ih =>
    intro L listed s s'' a w ρ hlen hsort hsz hmem hdown hsr hfree hrun hal hQ
    refine ⟨fun hnil => ?_, fun i hi => ?_⟩
    · -- the first that is left may come up
      exfalso
      cases L with
      | nil => simp at hlen
      | cons j r =>
        obtain ⟨hj1, hj2⟩ := (hmem j).1 (by simp)
        have hin : j ∈ Region.ready .any ops listed := by
          unfold Region.ready
          simp only [List.mem_filter, List.mem_range, Bool.and_eq_true, Bool.not_eq_true']
          refine ⟨hj1, hj2, ?_⟩
          rw [Array.getElem?_eq_getElem hj1]
          simp only [Option.map_some, Option.getD_some, Array.all_eq_true]
          intro k hk
          cases hb : Region.binds .any ops[j].after[k] with
          | false => simp
          | true =>
            simp only [Bool.not_true, Bool.false_or]
            have hlt := hedge j ops[j] (Array.getElem?_eq_getElem hj1) ops[j].after[k] (by simp) hb
            cases hl : listed.getD (ops[j].after[k]).on false with
            | true => rfl
            | false =>
              have hl' : listed.getD (ops[j].after[k]).on true = false := by
                simp only [Array.getD_eq_getD_getElem?] at hl ⊢
                rw [Array.getElem?_eq_getElem (by omega)] at hl ⊢
                exact hl
              have := (hmem (ops[j].after[k]).on).2 ⟨by omega, hl'⟩
              simp only [List.mem_cons] at this
              rcases this with e | e
              · omega
              · have := List.rel_of_pairwise_cons hsort e
                omega
        rw [hnil] at hin
        simp at hin
    · obtain ⟨h1, h2, o, ho, hed⟩ := ready_mem hi
      have hiL : i ∈ L := (hmem i).2 ⟨h1, h2⟩
      obtain ⟨L1, L2, rfl⟩ := List.append_of_mem hiL
      have hpw := List.pairwise_append.1 hsort
      have hlt : ∀ j, j ∈ L1 → j < i := fun j hj => hpw.2.2 j hj i (by simp)
      obtain ⟨s1, s2, e1, e2, e3⟩ := bubble L1 s s'' (fun j hj => ((hmem j).1 hj).1) (fun j hj => by
        refine ⟨Nat.ne_of_lt (hlt j hj), ?_⟩
        rcases hloose j i (hlt j hj) h1 with hb | hb
        · have := Down.anc hsz hdown i o ho hed j hb
          have h3 := ((hmem j).1 (by simp [hj])).2
          simp only [Array.getD_eq_getD_getElem?] at this h3
          cases hg : listed[j]? with
          | none => rw [hg] at h3; cases h3
          | some v => rw [hg] at h3 this; simp at h3 this; rw [h3] at this; cases this
        · exact hb) hrun
      have hnd : (L1 ++ i :: L2).Nodup := hsort.imp Nat.ne_of_lt
      have hni : i ∉ L1 ++ L2 := by
        intro hm
        rw [List.nodup_append] at hnd
        simp only [List.mem_append] at hm
        rcases hm with hm | hm
        · exact hnd.2.2 i hm i (by simp) rfl
        · exact (List.nodup_cons.1 hnd.2.1).1 hm
      refine wpOp_step hS hsr (hfree i hiL) e1 (fun a' w' ρ' h3 h4 => ?_)
      refine ih (L1 ++ L2) (listed.setIfInBounds i true) s1 s2 a' w' ρ' (by simp at hlen ⊢; omega) ?_ (by simpa using hsz) (fun j => ?_) (fun j p hp hj e he hb => ?_) h3 (fun j hj hm => ?_) e2 (hal.trans e3) (fun a2 w2 ρ2 h5 h6 => hQ a2 w2 ρ2 h5 (h4.trans h6))
      · exact hsort.sublist (List.Sublist.append (List.Sublist.refl _) (List.sublist_cons_self _ _))
      · simp only [Array.getD_eq_getD_getElem?, Array.getElem?_setIfInBounds]
        have := hmem j
        simp only [Array.getD_eq_getD_getElem?, List.mem_append, List.mem_cons] at this ⊢
        by_cases hij : i = j
        · subst hij
          constructor
          · intro hm; exact absurd (List.mem_append.2 hm) hni
          · intro hm; simp [hsz, h1] at hm
        · rw [if_neg hij, ← this]
          simp [Ne.symm hij]
      · simp only [Array.getD_eq_getD_getElem?, Array.getElem?_setIfInBounds] at hj ⊢
        have get : ∀ k, listed.getD k false = true → ((if i = k then (if i < listed.size then some true else none) else listed[k]?)).getD false = true := by
          intro k hk
          split
          · rename_i e; subst e; simp [hsz, h1]
          · rwa [Array.getD_eq_getD_getElem?] at hk
        by_cases hij : i = j
        · subst hij
          rw [ho] at hp; cases hp
          exact get _ (hed e he hb)
        · rw [if_neg hij] at hj
          exact get _ (hdown j p hp (by rw [Array.getD_eq_getD_getElem?]; exact hj) e he hb)
      · have hji : j ≠ i := fun e => hni (e ▸ hj)
        have hjL : j ∈ L1 ++ i :: L2 := by
          simp only [List.mem_append, List.mem_cons] at hj ⊢
          rcases hj with hj | hj
          · exact .inl hj
          · exact .inr (.inr hj)
        exact stepI_free e1 (Ne.symm hji) hm (hfree j hjL hm)

theorem region_sound (hS : ∀ i, Sound E.P (E.call i)) (hm : E.P.follows .mixedOrders = true) {id : Nat} {ops : Array Oper} {draw : Bool} {s s' : St} {a : Act} {w : World} {ρ : Rho} {Q : Exit → Act → World → Prop}
    (hsr : SR Y E.nt w ρ a s) (hok : draw = true → okDraw (E.pairs id) ops = true) (h : runRegion E id ops draw s = some s')
    (hQ : ∀ a' w' ρ', SR Y E.nt w' ρ' a' s' → Grew w ρ s.hp w' ρ' s'.hp → Q .normal a' w') : (Code.region id ops draw).wp E.P Q a w := by
  unfold runRegion at h
  split at h
  · rename_i s1 xs hrun
    split at h
    · cases h
    · rename_i hchk
      simp only [Option.some.injEq] at h
      subst h
      have hfree : ∀ i ∈ List.range ops.size, makesAt ops i = true → Free (s.hp ++ List.replicate (nMakes ops) []) (slotOf ops s.hp.length i) := fun i _ hi => Free.more (slotOf_bound hi).1 (slotOf_bound hi).2
      have hgrew : ∀ w' ρ' (H : Heap), Grew w ρ (s.hp ++ List.replicate (nMakes ops) []) w' ρ' H → Grew w ρ s.hp w' ρ' H := fun w' ρ' H hg => ⟨by have := hg.st; rwa [XX_more] at this, hg.le⟩
      cases draw with
      | false =>
        refine wp_region (wpOps_run hS _ _ _ _ a w ρ List.nodup_range (hsr.more _) hfree hrun fun a' w' ρ' h1 h2 => ?_)
        exact hQ a' w' ρ' (h1.clear E.locs) (hgrew _ _ _ h2)
      | true =>
        have hok := hok rfl
        simp only [Bool.true_and, Bool.not_eq_true', Bool.not_eq_false, List.all_eq_true] at hchk
        have hlen := runL_length _ _ _ _ hrun
        have hxs : xs = (List.range ops.size).map fun i => xs.getD i none := by
          apply List.ext_getElem
          · simpa using hlen
          · intro i h1 h2
            simp [List.getD_eq_getElem?_getD, List.getElem?_eq_getElem h1]
        rw [hxs] at hrun
        simp only [okDraw, List.all_eq_true, List.mem_range] at hok
        refine wp_region_any hm ?_
        refine wpAny_run (T := fun i => xs.getD i none) (base := s.hp.length) (s' := s1) hS (fun j i hji hi => ?_) (fun i o ho e he hb => ?_) ops.size (List.range ops.size) _ _ s1 a w.drew ρ (by simp) List.pairwise_lt_range (by simp) (fun i => ?_) (fun i o ho hl => ?_)
          (hsr.more _).drew hfree hrun (Alike.refl _) (fun a' w' ρ' h1 h2 => hQ a' w' ρ' (h1.clear E.locs) (hgrew _ _ _ ⟨(Stable.refl w _).drew.trans h2.st, h2.le⟩))
        · have := hok i hi
          rw [Array.getElem?_eq_getElem hi] at this
          simp only [Bool.and_eq_true, List.all_eq_true, List.mem_range] at this
          have := this.2 j hji
          rw [Bool.or_eq_true] at this
          rcases this with this | this
          · exact .inl this
          · refine .inr ?_
            have hj : j < ops.size := by omega
            rw [Array.getElem?_eq_getElem hj] at this
            simp only [Bool.and_eq_true, Bool.or_eq_true, Bool.not_eq_true'] at this
            refine ⟨ops[j], ops[i], Array.getElem?_eq_getElem hj, Array.getElem?_eq_getElem hi, this.1, ?_⟩
            rcases this.2 with ((h1 | h1) | h1) | h1
            · exact .inl h1
            · exact .inr (.inl h1)
            · exact .inr (.inr (.inl h1))
            · exact .inr (.inr (.inr (hchk (j, i) (by simpa using h1))))
        · have hi : i < ops.size := (Array.getElem?_eq_some_iff.1 ho).1
          have := hok i hi
          rw [ho] at this
          simp only [Bool.and_eq_true, List.all_eq_true] at this
          have := this.1 e he
          simpa [hb] using this
        · simp only [List.mem_range, Array.getD_eq_getD_getElem?, Array.getElem?_replicate]
          constructor
          · intro hi; simp [hi]
          · exact fun h => h.1
        · have hi : i < ops.size := (Array.getElem?_eq_some_iff.1 ho).1
          simp [Array.getD_eq_getD_getElem?, Array.getElem?_replicate, hi] at hl
  · cases h

end
end Go.Abs
