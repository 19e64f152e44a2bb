/- Lemmas for the statement of the last text of this claim. -/
import Derived.Test.YtfbikpbejkgegaaGreatChecked
import Derived.Test.YtfbikpbejkgegaaGreatPxM
import Derived.WalkKit
import Derived.ProofKit
import Derived.Deep.RegionLaw
import Derived.Deep.LoopGhost
import Derived.Lib.Walk
import Derived.Maps.Own
import Derived.Shelf.RegionOpenPlain
import Derived.Lib.LazyBuf
import Derived.Test.YtfbikpbejkgegaaGreatPxK
import Derived.Test.YtfbikpbejkgegaaGreatV5C
set_option linter.unusedSimpArgs false
set_option linter.unusedVariables false
namespace Go.Proofs.YtfbikpbejkgegaaGreat
open Go Go.Abs Go.Raft
abbrev repAt (c : CT) (i : Int) : RT := c.reps[i.toNat]?.getD zeroR

abbrev downAt (c : CT) (i : Int) : Bool := c.down[i.toNat]?.getD false

abbrev wireAt (c : CT) (k : Int) : MT := c.wire[k.toNat]?.getD zeroM

def newC (n : Int) : CT := cl ((List.range n.toNat).map rep0) [] (List.replicate n.toNat false) []

def newE (n : Int) : Int × CT := if quorum n = 0 then (1, zeroC) else (0, newC n)

def standC (c : CT) (i : Int) : Int × CT :=
  if readyE c i = 0 then
    if downAt c i = true then (21, zeroC) else
    let s := stand (c.reps.length : Int) (repAt c i)
    if s.1 = 0 then (if c.wire.length + s.2.2.length > 256 then (5, zeroC) else (0, cl (c.reps.set i.toNat s.2.1) (c.wire ++ s.2.2) c.down c.cut)) else (s.1, zeroC)
  else (readyE c i, zeroC)

def proposeC (c : CT) (i : Int) (o : OpT) : Int × CT :=
  if readyE c i = 0 then
    if downAt c i = true then (21, zeroC) else
    let s := proposeE (c.reps.length : Int) (repAt c i) o
    if s.1 = 0 then (0, cl (c.reps.set i.toNat s.2) c.wire c.down c.cut) else (s.1, zeroC)
  else (readyE c i, zeroC)

def beatC (c : CT) (i : Int) : Int × CT :=
  if readyE c i = 0 then
    if downAt c i = true then (21, zeroC) else
    if (repAt c i).role = 2 then
      let l := appendsE (c.reps.length : Int) (repAt c i)
      if c.wire.length + l.length > 256 then (5, zeroC) else (0, cl c.reps (c.wire ++ l) c.down c.cut)
    else (22, zeroC)
  else (readyE c i, zeroC)

def cutOut (l : List MT) (k : Nat) : List MT := l.take k ++ l.drop (k + 1)

def dropC (c : CT) (k : Int) : Int × CT := if wireE c k = 0 then (0, cl c.reps (cutOut c.wire k.toNat) c.down c.cut) else (wireE c k, zeroC)

def doubleC (c : CT) (k : Int) : Int × CT :=
  if wireE c k = 0 then (if c.wire.length ≥ 256 then (5, zeroC) else (0, cl c.reps (c.wire ++ [wireAt c k]) c.down c.cut)) else (wireE c k, zeroC)

def hearAny (n : Int) (r : RT) (m : MT) : RT × MT × Bool :=
  if m.kind = 1 then hear n r m else if m.kind = 2 then (voted n r m, zeroM, false) else if m.kind = 3 then accept n r m else if m.kind = 4 then (appended n r m, zeroM, false) else (r, zeroM, false)

def deliverC (c : CT) (k : Int) : Int × CT :=
  if wireE c k = 0 then
    let m := wireAt c k
    let w := cutOut c.wire k.toNat
    if downAt c m.to = true ∨ isCut c.cut m.frm m.to = true then (0, cl c.reps w c.down c.cut)
    else
      let h := hearAny (c.reps.length : Int) (repAt c m.to) m
      (0, cl (c.reps.set m.to.toNat h.1) (w ++ if h.2.2 then [h.2.1] else []) c.down c.cut)
  else (wireE c k, zeroC)

def crashC (c : CT) (i : Int) : Int × CT :=
  if readyE c i = 0 then (if downAt c i = true then (9, zeroC) else (0, cl c.reps c.wire (c.down.set i.toNat true) c.cut)) else (readyE c i, zeroC)

def restartC (c : CT) (i : Int) : Int × CT :=
  if readyE c i = 0 then (if downAt c i = true then (0, cl (c.reps.set i.toNat (restartE (c.reps.length : Int) (repAt c i)).2) c.wire (c.down.set i.toNat false) c.cut) else (9, zeroC)) else (readyE c i, zeroC)

def cutC (c : CT) (i j : Int) : Int × CT :=
  if readyE c i = 0 then
    if inn j 0 ((c.reps.length : Int) - 1) = true then
      if i = j then (1, zeroC) else if isCut c.cut i j = true then (9, zeroC) else (0, cl c.reps c.wire c.down (c.cut ++ [(min i j, max i j, ())]))
    else (3, zeroC)
  else (readyE c i, zeroC)

def healC (c : CT) : CT := if chkC c = true then cl c.reps c.wire c.down [] else zeroC

/-! ### What a valid cluster is -/
theorem repsOK_get {n : Int} : ∀ {l : List RT} {i j : Nat} {r : RT}, repsOK n i l = true → l[j]? = some r → r.id = ((i + j : Nat) : Int) ∧ chk n r = true := by
  intro l
  induction l with
  | nil => intro i j r _ h; simp at h
  | cons x l ih =>
    intro i j r h hj
    simp only [repsOK, Bool.and_eq_true, decide_eq_true_eq] at h
    cases j with
    | zero => simp at hj; subst hj; exact ⟨by rw [h.1.1]; simp, h.1.2⟩
    | succ j =>
      have := ih (i := i + 1) (j := j) h.2 (by simpa using hj)
      exact ⟨by rw [this.1]; omega, this.2⟩

theorem repsOK_of {n : Int} : ∀ {l : List RT} {i : Nat}, (∀ j r, l[j]? = some r → r.id = ((i + j : Nat) : Int) ∧ chk n r = true) → repsOK n i l = true := by
  intro l
  induction l with
  | nil => intro i _; rfl
  | cons x l ih =>
    intro i h
    have h0 := h 0 x rfl
    simp only [repsOK, Bool.and_eq_true, decide_eq_true_eq]
    refine ⟨⟨by rw [h0.1]; simp, h0.2⟩, ih fun j r hj => ?_⟩
    have := h (j + 1) r (by simpa using hj)
    exact ⟨by rw [this.1]; omega, this.2⟩

structure VC (c : CT) : Prop where
  n1 : 1 ≤ c.reps.length
  n5 : c.reps.length ≤ 5
  dn : c.down.length = c.reps.length
  wl : c.wire.length ≤ 256
  rp : ∀ (j : Nat) (r : RT), c.reps[j]? = some r → r.id = (j : Int) ∧ Chk (c.reps.length : Int) r
  wm : ∀ m ∈ c.wire, 0 ≤ m.frm ∧ m.frm < (c.reps.length : Int) ∧ 0 ≤ m.to ∧ m.to < (c.reps.length : Int) ∧ m.frm ≠ m.to
  cs : cutsOK (c.reps.length : Int) [] c.cut = true

theorem chkC_iff {c : CT} : chkC c = true ↔ VC c := by
  unfold chkC
  simp only [Bool.and_eq_true, decide_eq_true_eq, inn]
  constructor
  · rintro ⟨⟨⟨⟨⟨h1, h2⟩, h3⟩, h4⟩, h5⟩, h6⟩
    refine ⟨by omega, by omega, h2, h3, fun j r hj => ?_, fun m hm => ?_, h6⟩
    · have := repsOK_get h4 hj
      exact ⟨by rw [this.1]; simp, chk_iff.1 this.2⟩
    · have := List.all_eq_true.1 h5 m hm
      simp only [Bool.and_eq_true, decide_eq_true_eq, inn] at this
      exact ⟨by omega, by omega, by omega, by omega, this.2⟩
  · rintro ⟨h1, h2, h3, h4, h5, h6, h7⟩
    refine ⟨⟨⟨⟨⟨by omega, h3⟩, h4⟩, repsOK_of fun j r hj => ?_⟩, ?_⟩, h7⟩
    · have := h5 j r hj
      exact ⟨by rw [this.1]; simp, chk_iff.2 this.2⟩
    · refine List.all_eq_true.2 fun m hm => ?_
      have := h6 m hm
      simp only [Bool.and_eq_true, decide_eq_true_eq, inn]
      exact ⟨⟨by omega, by omega⟩, this.2.2.2.2⟩

theorem ready_iff {c : CT} {i : Int} : readyE c i = 0 ↔ VC c ∧ 0 ≤ i ∧ i < (c.reps.length : Int) := by
  unfold readyE
  constructor
  · intro h
    split at h
    · rename_i hc
      split at h
      · rename_i hi
        rw [inn_iff] at hi
        exact ⟨chkC_iff.1 hc, by omega, by omega⟩
      · cases h
    · cases h
  · rintro ⟨h1, h2, h3⟩
    rw [if_pos (chkC_iff.2 h1), if_pos (inn_iff.2 ⟨h2, by omega⟩)]

theorem wire_iff {c : CT} {k : Int} : wireE c k = 0 ↔ VC c ∧ 0 ≤ k ∧ k < (c.wire.length : Int) := by
  unfold wireE
  constructor
  · intro h
    split at h
    · rename_i hc
      split at h
      · rename_i hi
        rw [inn_iff] at hi
        exact ⟨chkC_iff.1 hc, by omega, by omega⟩
      · cases h
    · cases h
  · rintro ⟨h1, h2, h3⟩
    rw [if_pos (chkC_iff.2 h1), if_pos (inn_iff.2 ⟨h2, by omega⟩)]

theorem shrt_of {n : Int} {r : RT} (h : Chk n r) : Shrt r := by
  have hl := h.ll; have n5 := h.n5
  rcases role_cases h.ro with h0 | h0 | h0
  · obtain ⟨a, b⟩ := (role0_iff h0).1 h.ro
    exact ⟨by omega, by rw [a]; simp, by rw [b]; simp⟩
  · obtain ⟨a, _, b⟩ := (role1_iff h0).1 h.ro
    exact ⟨by omega, by omega, by rw [b]; simp⟩
  · obtain ⟨a, _, b, _⟩ := (role2_iff h0).1 h.ro
    exact ⟨by omega, by omega, by omega⟩

theorem stand_len (n : Int) (r : RT) : (stand n r).2.2.length ≤ 5 := by
  unfold stand
  split
  · rename_i hc
    have := (chk_iff.1 hc).n5
    split
    · simp
    · simp only [asks, List.length_map]
      refine Nat.le_trans (List.length_filter_le _ _) ?_
      simp; omega
  · simp

theorem appends_len (n : Int) (r : RT) : (appendsE n r).length ≤ 5 := by
  unfold appendsE
  split
  · rename_i hc
    have := (chk_iff.1 hc.1).n5
    simp only [appends, List.length_map]
    refine Nat.le_trans (List.length_filter_le _ _) ?_
    simp; omega
  · simp

theorem m88_eq (i n : Int) (h1 : 1 ≤ n) (h5 : n ≤ 5) (i0 : 0 ≤ i) (i1 : i < n) : m88 ((i, n, ()), ()) = some ((0, ()), (((i, 0, -1, 0, 0, ()), ()), ())) := by
  unfold m88
  simp only [m13_eq, Option.bind_some, inn_quorum, inn_iff.2 ⟨h1, h5⟩, w64_pred (inn_iff.2 ⟨h1, h5⟩), m54_eq, inn_iff.2 (show 0 ≤ i ∧ i ≤ n - 1 by omega), sumE, sS]

theorem m50_eq (n : Int) : m50 ((n, ()), ()) = some (((newE n).1, ()), (u2, ((newE n).2.reps, ((newE n).2.down, ())))) ∧ (newE n).2.wire = [] ∧ (newE n).2.cut = [] := by
  unfold m50 newE
  simp only [m13_eq, Option.bind_some, beq_decide]
  by_cases hq : quorum n = 0
  · simp only [hq, decide_true, cond_true, if_true, CT.reps, CT.wire, CT.down, CT.cut, cl, and_self]
  · have hn : 1 ≤ n ∧ n ≤ 5 := by
      unfold quorum at hq
      split at hq
      · assumption
      · exact absurd rfl hq
    have b1 : (0 : Int) ≤ n ∧ n ≤ n ∧ n ≤ 4294967296 := by omega
    simp only [decide_eq_false hq, b1, and_self, sumE, sS, if_neg hq]
    refine ⟨?_, rfl, rfl⟩
    have hN : (n.toNat : Int) = n := by omega
    rw [show loopT l50_0_5 ((0, (n, ())), (((), ()), (((), ()), ([], ((List.replicate n.toNat false), ()))))) = some ((), (u2, (u2, ((List.range n.toNat).map rep0, ((List.replicate n.toNat false), ()))))) from loop_up (fun i => (((i : Int), n, ()), (u2, (u2, ((List.range i).map rep0, ((List.replicate n.toNat false), ())))))) _ n.toNat (fun i hi => by
      have hlt : (i : Int) < n := by omega
      have h3 : ∀ x : RT, ((List.range i).map (rep0 : Nat → RT)).length + [x].length ≤ 4294967296 := by intro x; simp; omega
      rw [List.range_succ, List.map_append]
      simp only [l50_0_5, hlt, m88_eq (i : Int) n hn.1 hn.2 (by omega) hlt, h3, sumE, sS, w64_nat (show i ≤ 4294967296 by omega), List.map_cons, List.map_nil, rep0, rp]) (by
      have : ¬ (n.toNat : Int) < n := by omega
      simp only [l50_0_5, this, sumE, sS]) n.toNat 0 (by omega)]
    simp only [Option.bind_some, newC, CT.reps, CT.down]

theorem rep_at {c : CT} {i : Int} (h0 : 0 ≤ i) (h1 : i < (c.reps.length : Int)) : ∃ r, c.reps[i.toNat]? = some r ∧ repAt c i = r := by
  obtain ⟨r, h⟩ := getD_some (l := c.reps) (i := i.toNat) (by omega)
  exact ⟨r, h, by unfold repAt; rw [h]; rfl⟩

theorem down_at {c : CT} {i : Int} (h0 : 0 ≤ i) (h1 : i < (c.down.length : Int)) : ∃ r, c.down[i.toNat]? = some r ∧ downAt c i = r := by
  obtain ⟨r, h⟩ := getD_some (l := c.down) (i := i.toNat) (by omega)
  exact ⟨r, h, by unfold downAt; rw [h]; rfl⟩

theorem wire_at {c : CT} {i : Int} (h0 : 0 ≤ i) (h1 : i < (c.wire.length : Int)) : ∃ r, c.wire[i.toNat]? = some r ∧ wireAt c i = r := by
  obtain ⟨r, h⟩ := getD_some (l := c.wire) (i := i.toNat) (by omega)
  exact ⟨r, h, by unfold wireAt; rw [h]; rfl⟩

theorem m29_eq (c : CT) (i : Int) (hs : ShC c) : m29 ((c, i, ()), ()) = some (((standC c i).1, ()), oC (standC c i).2) := by
  unfold m29 standC
  simp only [m61_eq c i hs, Option.bind_some, bne_decide, decide_not]
  by_cases hr : readyE c i = 0
  · obtain ⟨V, i0, i1⟩ := ready_iff.1 hr
    have hdl := V.dn
    obtain ⟨r, e1, e1'⟩ := rep_at i0 i1
    obtain ⟨d, e2, e2'⟩ := down_at (c := c) i0 (by omega)
    rw [e1', e2']
    simp only [hr, decide_true, sumE, sS, if_true, rowAt_G, rowG_int i0 e2]
    cases d
    · simp only [sumE, sS, m51_eq c hs, Option.bind_some, Bool.false_eq_true, if_false]
      have b1 : (0 : Int) ≤ i ∧ i < (c.1.length : Int) := ⟨i0, i1⟩
      have b3 : i.toNat < c.1.length := by have := b1.2; omega
      have hrs := shrt_of (V.rp _ _ e1).2
      simp only [b1, and_self, e1, sumE, sS, m70_eq (c.reps.length : Int) r hrs]
      have hsl := stand_len (c.reps.length : Int) r
      have hwl := hs.wl
      by_cases h0 : (stand (c.reps.length : Int) r).1 = 0
      · have hw : w64 ((c.wire.length : Int) + ((stand (c.reps.length : Int) r).2.2.length : Int)) = (c.wire.length : Int) + ((stand (c.reps.length : Int) r).2.2.length : Int) := w64_id (by omega) (by omega)
        simp only [h0, decide_true, sumE, sS, if_true, hw]
        have b2 : c.wire.length + (stand (c.reps.length : Int) r).2.2.length ≤ 4294967296 := by omega
        by_cases hg : c.wire.length + (stand (c.reps.length : Int) r).2.2.length > 256
        · have : (c.wire.length : Int) + ((stand (c.reps.length : Int) r).2.2.length : Int) > 256 := by omega
          simp only [this, hg, decide_true, sumE, sS, if_true]
        · have : ¬ (c.wire.length : Int) + ((stand (c.reps.length : Int) r).2.2.length : Int) > 256 := by omega
          simp only [this, hg, b1, b2, b3, and_self, decide_false, decide_true, sumE, sS, if_false]
      · simp only [h0, decide_false, sumE, sS, if_false]
    · simp only [sumE, sS, if_true]
  · simp only [hr, decide_false, sumE, sS, if_false]

theorem m31_eq (c : CT) (i : Int) (o : OpT) (hs : ShC c) : m31 ((c, i, o, ()), ()) = some (((proposeC c i o).1, ()), oC (proposeC c i o).2) := by
  unfold m31 proposeC
  simp only []
  rw [show m61 (((c.1, c.2.1, c.2.2.1, c.2.2.2.1, ()), i, ()), ()) = some ((readyE c i, ()), ()) from m61_eq c i hs]
  simp only [Option.bind_some, bne_decide, decide_not]
  by_cases hr : readyE c i = 0
  · obtain ⟨V, i0, i1⟩ := ready_iff.1 hr
    have hdl := V.dn
    obtain ⟨r, e1, e1'⟩ := rep_at i0 i1
    obtain ⟨d, e2, e2'⟩ := down_at (c := c) i0 (by omega)
    rw [e1', e2']
    simp only [hr, decide_true, sumE, sS, if_true, rowAt_G, rowG_int i0 e2]
    cases d
    · have b1 : (0 : Int) ≤ i ∧ i < (c.1.length : Int) := ⟨i0, i1⟩
      have b3 : i.toNat < c.1.length := by have := b1.2; omega
      have hrs := shrt_of (V.rp _ _ e1).2
      simp only [sumE, sS, m51_eq c hs, Option.bind_some, Bool.false_eq_true, if_false]
      simp only [b1, and_self, e1, sumE, sS, m72_eq (c.reps.length : Int) r o hrs]
      by_cases h0 : (proposeE (c.reps.length : Int) r o).1 = 0
      · simp only [h0, b1, b3, and_self, decide_true, sumE, sS, if_true]
      · simp only [h0, decide_false, sumE, sS, if_false]
    · simp only [sumE, sS, if_true]
  · simp only [hr, decide_false, sumE, sS, if_false]

theorem m33_eq (c : CT) (i : Int) (hs : ShC c) : m33 ((c, i, ()), ()) = some (((beatC c i).1, ()), oC (beatC c i).2) := by
  unfold m33 beatC
  simp only [m61_eq c i hs, Option.bind_some, bne_decide, decide_not]
  by_cases hr : readyE c i = 0
  · obtain ⟨V, i0, i1⟩ := ready_iff.1 hr
    have hdl := V.dn
    obtain ⟨r, e1, e1'⟩ := rep_at i0 i1
    obtain ⟨d, e2, e2'⟩ := down_at (c := c) i0 (by omega)
    rw [e1', e2']
    simp only [hr, decide_true, sumE, sS, if_true, rowAt_G, rowG_int i0 e2, rowG_int i0 e1]
    cases d
    · have b1 : (0 : Int) ≤ i ∧ i < (c.1.length : Int) := ⟨i0, i1⟩
      have hrs := shrt_of (V.rp _ _ e1).2
      simp only [sumE, sS, m51_eq c hs, Option.bind_some, Bool.false_eq_true, if_false]
      by_cases h2 : r.role = 2
      · have hsl := appends_len (c.reps.length : Int) r
        have hwl := hs.wl
        have hw : w64 ((c.wire.length : Int) + ((appendsE (c.reps.length : Int) r).length : Int)) = (c.wire.length : Int) + ((appendsE (c.reps.length : Int) r).length : Int) := w64_id (by omega) (by omega)
        have b2 : c.wire.length + (appendsE (c.reps.length : Int) r).length ≤ 4294967296 := by omega
        simp only [h2, b1, and_self, e1, decide_true, sumE, sS, if_true, m73_eq (c.reps.length : Int) r hrs, hw]
        by_cases hg : c.wire.length + (appendsE (c.reps.length : Int) r).length > 256
        · have : (c.wire.length : Int) + ((appendsE (c.reps.length : Int) r).length : Int) > 256 := by omega
          simp only [this, hg, decide_true, sumE, sS, if_true]
        · have : ¬ (c.wire.length : Int) + ((appendsE (c.reps.length : Int) r).length : Int) > 256 := by omega
          simp only [this, hg, b2, decide_false, decide_true, sumE, sS, if_false]
      · simp only [h2, decide_false, sumE, sS, if_false]
    · simp only [sumE, sS, if_true]
  · simp only [hr, decide_false, sumE, sS, if_false]

theorem m18_eq (c : CT) (i : Int) (hs : ShC c) : m18 ((c, i, ()), ()) = some (((crashC c i).1, ()), oC (crashC c i).2) := by
  unfold m18 crashC
  simp only [m61_eq c i hs, Option.bind_some, bne_decide, decide_not]
  by_cases hr : readyE c i = 0
  · obtain ⟨V, i0, i1⟩ := ready_iff.1 hr
    have hdl := V.dn
    obtain ⟨d, e2, e2'⟩ := down_at (c := c) i0 (by omega)
    rw [e2']
    simp only [hr, decide_true, sumE, sS, if_true, rowAt_G, rowG_int i0 e2]
    cases d
    · have b1 : (0 : Int) ≤ i ∧ i < (c.2.2.1.length : Int) := by show (0 : Int) ≤ i ∧ i < (c.down.length : Int); omega
      have b3 : i.toNat < c.2.2.1.length := by have := b1.2; omega
      simp only [sumE, sS, m51_eq c hs, Option.bind_some, Bool.false_eq_true, if_false, b1, b3, and_self]
    · simp only [sumE, sS, if_true]
  · simp only [hr, decide_false, sumE, sS, if_false]

theorem m39_eq (c : CT) (i : Int) (hs : ShC c) : m39 ((c, i, ()), ()) = some (((restartC c i).1, ()), oC (restartC c i).2) := by
  unfold m39 restartC
  simp only [m61_eq c i hs, Option.bind_some, bne_decide, decide_not]
  by_cases hr : readyE c i = 0
  · obtain ⟨V, i0, i1⟩ := ready_iff.1 hr
    have hdl := V.dn
    obtain ⟨r, e1, e1'⟩ := rep_at i0 i1
    obtain ⟨d, e2, e2'⟩ := down_at (c := c) i0 (by omega)
    rw [e1', e2']
    simp only [hr, decide_true, sumE, sS, if_true, rowAt_G, rowG_int i0 e2]
    cases d
    · simp only [sumE, sS, Bool.false_eq_true, if_false]
    · have b1 : (0 : Int) ≤ i ∧ i < (c.2.2.1.length : Int) := by show (0 : Int) ≤ i ∧ i < (c.down.length : Int); omega
      have b3 : i.toNat < c.2.2.1.length := by have := b1.2; omega
      have b4 : (0 : Int) ≤ i ∧ i < (c.1.length : Int) := ⟨i0, i1⟩
      have b5 : i.toNat < c.1.length := by have := b4.2; omega
      have hrc := V.rp _ _ e1
      have hrs := shrt_of hrc.2
      simp only [sumE, sS, m51_eq c hs, Option.bind_some, if_true, b1, b3, b4, b5, and_self, e1, m80_eq (c.reps.length : Int) r hrs]
      unfold restartE
      rw [if_pos (chk_iff.2 hrc.2)]
      rfl
  · simp only [hr, decide_false, sumE, sS, if_false]

theorem m9_eq (c : CT) (hs : ShC c) : m9 ((c, ()), ()) = some ((), (u2, ((healC c).reps, ((healC c).wire, ((healC c).down, ()))))) ∧ (healC c).cut = [] := by
  unfold m9 healC
  simp only [m15_eq c hs, m51_eq c hs, Option.bind_some]
  cases chkC c
  · simp only [sumE, sS, Bool.false_eq_true, if_false, and_self]
  · simp only [sumE, sS, if_true, and_self]

theorem m19_eq (c : CT) (i j : Int) (hs : ShC c) : m19 ((c, i, j, ()), ()) = some (((cutC c i j).1, ()), oC (cutC c i j).2) := by
  unfold m19 cutC
  simp only []
  rw [show m61 (((c.1, c.2.1, c.2.2.1, c.2.2.2.1, ()), i, ()), ()) = some ((readyE c i, ()), ()) from m61_eq c i hs]
  rw [show m51 (((c.1, c.2.1, c.2.2.1, c.2.2.2.1, ()), ()), ()) = some ((), oC c) from m51_eq c hs]
  simp only [Option.bind_some, bne_decide, beq_decide, decide_not, w64_len hs.rl, m54_eq, m60_eq c.cut i j (by have := hs.cl; omega)]
  by_cases hr : readyE c i = 0
  · simp only [hr, decide_true, sumE, sS, if_true]
    cases hj : inn j 0 ((c.reps.length : Int) - 1)
    · simp only [sumE, sS, Bool.false_eq_true, if_false]
    · simp only [sumE, sS, if_true]
      by_cases hij : i = j
      · simp only [hij, decide_true, sumE, sS, if_true]
      · simp only [hij, decide_false, sumE, sS, if_false]
        have hcl := hs.cl
        have b : ∀ x : CutT, c.cut.length + [x].length ≤ 4294967296 := by intro x; simp; omega
        cases isCut c.cut i j
        · simp only [sumE, sS, Bool.false_eq_true, if_false, min_if, max_if, b]
          rw [show min j i = min i j by omega, show max j i = max i j by omega]
        · simp only [sumE, sS, if_true]
  · simp only [hr, decide_false, sumE, sS, if_false]

/-- What is left of a wire, as the functions return a cluster then. -/
abbrev oW (c : CT) : ((List MT × Unit) × Unit) × List RT × List Bool × List CutT × Unit := (((c.wire, ()), ()), (c.reps, (c.down, (c.cut, ()))))

theorem m35_eq (c : CT) (k : Int) (hs : ShC c) : m35 ((c, k, ()), ()) = some (((dropC c k).1, ()), oW (dropC c k).2) := by
  unfold m35 dropC
  simp only [m78_eq c k hs, Option.bind_some, bne_decide, decide_not]
  by_cases hr : wireE c k = 0
  · obtain ⟨V, k0, k1⟩ := wire_iff.1 hr
    have hwl := V.wl
    have w : w64 (k + 1) = k + 1 := w64_id (by omega) (by omega)
    have b1 : (0 : Int) ≤ k + 1 := by omega
    have b2 : 0 ≤ k.toNat ∧ k.toNat = k.toNat ∧ k.toNat ≤ c.wire.length := by omega
    have b3 : (k + 1).toNat ≤ c.wire.length ∧ c.wire.length ≤ c.wire.length := by omega
    have b4 : (k + 1).toNat + (c.wire.length - (k + 1).toNat) ≤ c.wire.length := by omega
    have b5 : (c.wire.drop (k + 1).toNat).take (c.wire.length - (k + 1).toNat) = c.wire.drop (k + 1).toNat := List.take_of_length_le (by simp)
    have b6 : (k + 1).toNat = k.toNat + 1 := by omega
    have b7 : (c.wire.take k.toNat).length + (c.wire.drop (k + 1).toNat).length ≤ 4294967296 := by simp; omega
    simp only [hr, decide_true, sumE, sS, if_true, m51_eq c hs, w, k0, b1, b2, b3, b4, b5, b7, and_self]
    refine bind_of ((), (u2, (((cutOut c.wire k.toNat, ()), ()), (c.reps, (c.down, (c.cut, ())))))) ?_ rfl
    unfold cutOut
    rw [b6]
    generalize c.wire.take k.toNat = u
    generalize c.wire.drop (k.toNat + 1) = v
    cases u with
    | nil => rfl
    | cons a u => cases v with
      | nil => simp only [List.isEmpty_cons, List.isEmpty_nil, List.append_nil, sumE, sS]
      | cons b v => rfl
  · simp only [hr, decide_false, sumE, sS, if_false]

theorem m36_eq (c : CT) (k : Int) (hs : ShC c) : m36 ((c, k, ()), ()) = some (((doubleC c k).1, ()), oC (doubleC c k).2) := by
  unfold m36 doubleC
  simp only [m78_eq c k hs, Option.bind_some, bne_decide, decide_not]
  by_cases hr : wireE c k = 0
  · obtain ⟨V, k0, k1⟩ := wire_iff.1 hr
    have hwl := V.wl
    obtain ⟨m, e1, e1'⟩ := wire_at k0 k1
    rw [e1']
    have b1 : (0 : Int) ≤ k ∧ k < (c.2.1.length : Int) := ⟨k0, k1⟩
    have b2 : ∀ x : MT, c.wire.length + [x].length ≤ 4294967296 := by intro x; simp; omega
    simp only [hr, decide_true, sumE, sS, if_true]
    by_cases hg : c.wire.length ≥ 256
    · have : (c.wire.length : Int) ≥ 256 := by omega
      simp only [this, hg, decide_true, sumE, sS, if_true]
    · have : ¬ (c.wire.length : Int) ≥ 256 := by omega
      simp only [this, hg, decide_false, sumE, sS, if_false, m51_eq c hs, b1, b2, and_self, e1]
  · simp only [hr, decide_false, sumE, sS, if_false]

theorem re_nil (x : MT) (h : x.ents = []) : (x.kind, x.frm, x.to, x.term, x.prev, x.pterm, x.commit, ([] : Log OpT), x.ok, ()) = x := by
  obtain ⟨kind, frm, to, mterm, prev, pterm, mcommit, ents, ok, ⟨⟩⟩ := x
  simp only [Msg.kind, Msg.frm, Msg.to, Msg.term, Msg.prev, Msg.pterm, Msg.commit, Msg.ents, Msg.ok, mg] at h ⊢
  rw [h]

theorem hear_ents (n : Int) (r : RT) (m : MT) : (hear n r m).2.1.ents = [] := by
  unfold hear; split <;> rfl

theorem accept_ents (n : Int) (r : RT) (m : MT) : (accept n r m).2.1.ents = [] := by
  unfold accept; split
  · simp only; split
    · split <;> rfl
    · rfl
  · rfl

theorem m34_eq (c : CT) (k : Int) (hs : ShC c) : m34 ((c, k, ()), ()) = some (((deliverC c k).1, ()), oW (deliverC c k).2) := by
  unfold m34 deliverC
  simp only [m78_eq c k hs, Option.bind_some, bne_decide, decide_not]
  by_cases hr : wireE c k = 0
  · obtain ⟨V, k0, k1⟩ := wire_iff.1 hr
    have hwl := V.wl
    obtain ⟨m, e1, e1'⟩ := wire_at k0 k1
    rw [e1']
    have hmm := List.mem_of_getElem? e1
    obtain ⟨f0, f1, t0, t1, hft⟩ := V.wm m hmm
    have hme := hs.w m hmm
    have hdn := V.dn
    obtain ⟨r, e2, e2'⟩ := rep_at t0 t1
    obtain ⟨d, e3, e3'⟩ := down_at (c := c) t0 (by omega)
    rw [e2', e3']
    have hrs := shrt_of (V.rp _ _ e2).2
    have w : w64 (k + 1) = k + 1 := w64_id (by omega) (by omega)
    have b1 : (0 : Int) ≤ k + 1 := by omega
    have b2 : 0 ≤ k.toNat ∧ k.toNat = k.toNat ∧ k.toNat ≤ c.wire.length := by omega
    have b3 : (k + 1).toNat ≤ c.wire.length ∧ c.wire.length ≤ c.wire.length := by omega
    have b4 : (k + 1).toNat + (c.wire.length - (k + 1).toNat) ≤ c.wire.length := by omega
    have b5 : (c.wire.drop (k + 1).toNat).take (c.wire.length - (k + 1).toNat) = c.wire.drop (k + 1).toNat := List.take_of_length_le (by simp)
    have b6 : (k + 1).toNat = k.toNat + 1 := by omega
    have b7 : (c.wire.take k.toNat).length + (c.wire.drop (k + 1).toNat).length ≤ 4294967296 := by simp; omega
    have b8 : (0 : Int) ≤ k ∧ k < (c.2.1.length : Int) := ⟨k0, k1⟩
    have hcl := hs.cl
    have hWl : (cutOut c.wire k.toNat).length ≤ 1000 := by unfold cutOut; simp; omega
    have e113 := m60_eq c.cut m.frm m.to (by omega)
    have t2 : (0 : Int) ≤ m.2.2.1 ∧ m.2.2.1 < (c.1.length : Int) := ⟨t0, t1⟩
    have t3 : m.2.2.1.toNat < c.1.length := by have := t2.2; have := t2.1; omega
    simp only [hr, decide_true, sumE, sS, if_true, m51_eq c hs, w, k0, b1, b2, b3, b4, b5, b7, b8, and_self, e1, rowAt_G, rowG_int t0 e3, e113]
    have hW : cutOut c.wire k.toNat = c.wire.take k.toNat ++ c.wire.drop (k + 1).toNat := by unfold cutOut; rw [b6]
    rw [hW] at hWl ⊢
    have e34 := m74_eq (c.reps.length : Int) r m hrs
    have e37 := m75_eq (c.reps.length : Int) r m hrs
    have e52 := m76_eq (c.reps.length : Int) r m hrs hme
    have e53 := m77_eq (c.reps.length : Int) r m hrs
    have hh := hear_ents (c.reps.length : Int) r m
    have ha := accept_ents (c.reps.length : Int) r m
    clear b5 b7 hW hr V e1 e1' e2' e3'
    generalize c.wire.take k.toNat = u at hWl
    generalize c.wire.drop (k + 1).toNat = v at hWl
    have cases3 : u.isEmpty = true ∨ (u.isEmpty = false ∧ v.isEmpty = true ∧ u ++ v = u) ∨ (u.isEmpty = false ∧ v.isEmpty = false) := by
      cases u with
      | nil => exact .inl rfl
      | cons a u => cases v with
        | nil => exact .inr (.inl ⟨rfl, rfl, List.append_nil _⟩)
        | cons b v => exact .inr (.inr ⟨rfl, rfl⟩)
    have key : ∀ W : List MT, W = u ++ v → True := fun _ _ => trivial
    rcases cases3 with h1 | ⟨h1, h2, h3⟩ | ⟨h1, h2⟩
    · simp only [h1, cond_true]
      generalize u ++ v = W at hWl
      have hap : ∀ x : MT, W.length + [x].length ≤ 4294967296 := by intro x; simp; omega
      cases d
      · cases hic : isCut c.cut m.frm m.to
        · simp only [sumE, sS, Bool.false_eq_true, or_self, if_false, t2, t3, and_self, e2, beq_decide]
          unfold hearAny
          by_cases k1 : m.kind = 1
          · simp only [k1, decide_true, sumE, sS, if_true, e34, t2, t3, and_self]
            cases hb : (hear (c.reps.length : Int) r m).2.2
            · simp only [sumE, sS, Bool.false_eq_true, if_false, List.append_nil]
            · simp only [sumE, sS, if_true, hap]
              rw [← re_nil _ hh]
          by_cases k2 : m.kind = 2
          · simp only [Int.reduceEq, k1, k2, decide_true, decide_false, sumE, sS, if_true, if_false, e37, t2, t3, and_self, Bool.false_eq_true, List.append_nil]
          by_cases k3 : m.kind = 3
          · simp only [Int.reduceEq, k1, k2, k3, decide_true, decide_false, sumE, sS, if_true, if_false, e52, t2, t3, and_self]
            cases hb : (accept (c.reps.length : Int) r m).2.2
            · simp only [sumE, sS, Bool.false_eq_true, if_false, List.append_nil]
            · simp only [sumE, sS, if_true, hap]
              rw [← re_nil _ ha]
          by_cases k4 : m.kind = 4
          · simp only [Int.reduceEq, k1, k2, k3, k4, decide_true, decide_false, sumE, sS, if_true, if_false, e53, t2, t3, and_self, Bool.false_eq_true, List.append_nil]
          · simp only [k1, k2, k3, k4, decide_false, sumE, sS, if_false, t2, t3, and_self, Bool.false_eq_true, List.append_nil]
        · simp only [sumE, sS, Bool.false_eq_true, false_or, or_true, if_true]
      · simp only [sumE, sS, true_or, if_true]
    · simp only [h1, h2, cond_true, cond_false]
      rw [h3] at hWl ⊢
      generalize u = W at hWl
      have hap : ∀ x : MT, W.length + [x].length ≤ 4294967296 := by intro x; simp; omega
      cases d
      · cases hic : isCut c.cut m.frm m.to
        · simp only [sumE, sS, Bool.false_eq_true, or_self, if_false, t2, t3, and_self, e2, beq_decide]
          unfold hearAny
          by_cases k1 : m.kind = 1
          · simp only [k1, decide_true, sumE, sS, if_true, e34, t2, t3, and_self]
            cases hb : (hear (c.reps.length : Int) r m).2.2
            · simp only [sumE, sS, Bool.false_eq_true, if_false, List.append_nil]
            · simp only [sumE, sS, if_true, hap]
              rw [← re_nil _ hh]
          by_cases k2 : m.kind = 2
          · simp only [Int.reduceEq, k1, k2, decide_true, decide_false, sumE, sS, if_true, if_false, e37, t2, t3, and_self, Bool.false_eq_true, List.append_nil]
          by_cases k3 : m.kind = 3
          · simp only [Int.reduceEq, k1, k2, k3, decide_true, decide_false, sumE, sS, if_true, if_false, e52, t2, t3, and_self]
            cases hb : (accept (c.reps.length : Int) r m).2.2
            · simp only [sumE, sS, Bool.false_eq_true, if_false, List.append_nil]
            · simp only [sumE, sS, if_true, hap]
              rw [← re_nil _ ha]
          by_cases k4 : m.kind = 4
          · simp only [Int.reduceEq, k1, k2, k3, k4, decide_true, decide_false, sumE, sS, if_true, if_false, e53, t2, t3, and_self, Bool.false_eq_true, List.append_nil]
          · simp only [k1, k2, k3, k4, decide_false, sumE, sS, if_false, t2, t3, and_self, Bool.false_eq_true, List.append_nil]
        · simp only [sumE, sS, Bool.false_eq_true, false_or, or_true, if_true]
      · simp only [sumE, sS, true_or, if_true]
    · simp only [h1, h2, cond_false]
      generalize u ++ v = W at hWl
      have hap : ∀ x : MT, W.length + [x].length ≤ 4294967296 := by intro x; simp; omega
      cases d
      · cases hic : isCut c.cut m.frm m.to
        · simp only [sumE, sS, Bool.false_eq_true, or_self, if_false, t2, t3, and_self, e2, beq_decide]
          unfold hearAny
          by_cases k1 : m.kind = 1
          · simp only [k1, decide_true, sumE, sS, if_true, e34, t2, t3, and_self]
            cases hb : (hear (c.reps.length : Int) r m).2.2
            · simp only [sumE, sS, Bool.false_eq_true, if_false, List.append_nil]
            · simp only [sumE, sS, if_true, hap]
              rw [← re_nil _ hh]
          by_cases k2 : m.kind = 2
          · simp only [Int.reduceEq, k1, k2, decide_true, decide_false, sumE, sS, if_true, if_false, e37, t2, t3, and_self, Bool.false_eq_true, List.append_nil]
          by_cases k3 : m.kind = 3
          · simp only [Int.reduceEq, k1, k2, k3, decide_true, decide_false, sumE, sS, if_true, if_false, e52, t2, t3, and_self]
            cases hb : (accept (c.reps.length : Int) r m).2.2
            · simp only [sumE, sS, Bool.false_eq_true, if_false, List.append_nil]
            · simp only [sumE, sS, if_true, hap]
              rw [← re_nil _ ha]
          by_cases k4 : m.kind = 4
          · simp only [Int.reduceEq, k1, k2, k3, k4, decide_true, decide_false, sumE, sS, if_true, if_false, e53, t2, t3, and_self, Bool.false_eq_true, List.append_nil]
          · simp only [k1, k2, k3, k4, decide_false, sumE, sS, if_false, t2, t3, and_self, Bool.false_eq_true, List.append_nil]
        · simp only [sumE, sS, Bool.false_eq_true, false_or, or_true, if_true]
      · simp only [sumE, sS, true_or, if_true]
  · simp only [hr, decide_false, sumE, sS, if_false]

end Go.Proofs.YtfbikpbejkgegaaGreat

namespace Go.Proofs.YtfbikpbejkgegaaGreat
open Go Go.Abs Go.Raft
/-! ### Cuts are few -/
theorem nodup_lt : ∀ (N : Nat) (l : List Nat), l.Nodup → (∀ x ∈ l, x < N) → l.length ≤ N := by
  intro N
  induction N with
  | zero =>
    intro l _ h
    cases l with
    | nil => simp
    | cons a l => exact absurd (h a (by simp)) (by omega)
  | succ N ih =>
    intro l hn h
    by_cases hm : N ∈ l
    · have h1 := ih (l.erase N) (hn.erase N) (fun x hx => by
        have h2 := h x (List.mem_of_mem_erase hx)
        have h3 : x ≠ N := fun e => by subst e; exact (hn.not_mem_erase hx).elim
        omega)
      rw [List.length_erase_of_mem hm] at h1
      omega
    · have := ih l hn (fun x hx => by
        have h2 := h x hx
        have h3 : x ≠ N := fun e => hm (e ▸ hx)
        omega)
      omega

def key (p : CutT) : Nat := p.1.toNat * 8 + p.2.1.toNat

theorem cuts_nodup {n : Int} (hn : n ≤ 5) : ∀ {l pre : List CutT}, (pre.map key).Nodup → (∀ p ∈ pre, cutOK1 n p = true) → cutsOK n pre l = true → ((pre ++ l).map key).Nodup ∧ ∀ p ∈ pre ++ l, cutOK1 n p = true := by
  intro l
  induction l with
  | nil => intro pre h1 h2 _; rw [List.append_nil]; exact ⟨h1, h2⟩
  | cons x l ih =>
    intro pre h1 h2 h
    simp only [cutsOK, Bool.and_eq_true, Bool.not_eq_true'] at h
    obtain ⟨⟨hx, hic⟩, hl⟩ := h
    have hx' := hx
    simp only [cutOK1, Bool.and_eq_true, decide_eq_true_eq] at hx'
    have := ih (pre := pre ++ [x]) (by
      rw [List.map_append, List.nodup_append]
      refine ⟨h1, by simp, fun a ha b hb => ?_⟩
      simp at hb
      subst hb
      obtain ⟨p, hp, rfl⟩ := List.mem_map.1 ha
      have hp1 := h2 p hp
      simp only [cutOK1, Bool.and_eq_true, decide_eq_true_eq] at hp1
      intro e
      unfold key at e
      have e1 : p.1 = x.1 := by omega
      have e2 : p.2.1 = x.2.1 := by omega
      have : isCut pre x.1 x.2.1 = true := by
        unfold isCut
        rw [List.any_eq_true]
        refine ⟨p, hp, ?_⟩
        rw [Bool.and_eq_true, decide_eq_true_eq, decide_eq_true_eq]
        omega
      rw [hic] at this; cases this) (fun p hp => by
      rcases List.mem_append.1 hp with hp | hp
      · exact h2 p hp
      · simp at hp; subst hp; exact hx) hl
    rw [List.append_assoc, List.singleton_append] at this
    exact this

theorem cuts_len {n : Int} (hn : n ≤ 5) {l : List CutT} (h : cutsOK n [] l = true) : l.length ≤ 48 := by
  obtain ⟨h1, h2⟩ := cuts_nodup (pre := []) hn (by simp) (by simp) h
  rw [List.nil_append] at h1 h2
  have := nodup_lt 48 (l.map key) h1 (fun x hx => by
    obtain ⟨p, hp, rfl⟩ := List.mem_map.1 hx
    have := h2 p hp
    simp only [cutOK1, Bool.and_eq_true, decide_eq_true_eq] at this
    unfold key; omega)
  simpa using this

theorem cutsOK_snoc {n : Int} : ∀ {l pre : List CutT} {x : CutT}, cutsOK n pre l = true → cutOK1 n x = true → isCut (pre ++ l) x.1 x.2.1 = false → cutsOK n pre (l ++ [x]) = true := by
  intro l
  induction l with
  | nil =>
    intro pre x _ h2 h3
    rw [List.append_nil] at h3
    simp [cutsOK, h2, h3]
  | cons y l ih =>
    intro pre x h1 h2 h3
    simp only [cutsOK, Bool.and_eq_true, List.cons_append] at h1 ⊢
    exact ⟨h1.1, ih h1.2 h2 (by rw [List.append_assoc, List.singleton_append]; exact h3)⟩

/-! ### Good clusters -/
structure CG (c : CT) : Prop where
  n1 : 1 ≤ c.reps.length
  n5 : c.reps.length ≤ 5
  dn : c.down.length = c.reps.length
  wl : c.wire.length ≤ 256
  wm : ∀ m ∈ c.wire, 0 ≤ m.frm ∧ m.frm < (c.reps.length : Int) ∧ 0 ≤ m.to ∧ m.to < (c.reps.length : Int) ∧ m.frm ≠ m.to
  we : ∀ m ∈ c.wire, m.ents.length ≤ 256
  cs : cutsOK (c.reps.length : Int) [] c.cut = true
  gd : ∃ g, Inv c.reps.length c.reps g ∧ ∀ m ∈ c.wire, MsgOK c.reps.length g m

theorem CG.v {c : CT} (h : CG c) : VC c := by
  obtain ⟨g, hi, _⟩ := h.gd
  exact ⟨h.n1, h.n5, h.dn, h.wl, fun j r hj => ⟨(hi.nod j r hj).id, (hi.nod j r hj).chk⟩, h.wm, h.cs⟩

theorem VC.sh {c : CT} (V : VC c) (we : ∀ m ∈ c.wire, m.ents.length ≤ 1000000) : ShC c := by
  have h1 := V.n5
  have h2 := V.wl
  have h3 := V.dn
  have h4 := cuts_len (by omega) V.cs
  refine ⟨fun r hr => ?_, by omega, we, by omega, by omega, by omega⟩
  obtain ⟨j, hj⟩ := List.mem_iff_getElem?.1 hr
  exact shrt_of (V.rp j r hj).2

theorem CG.sh {c : CT} (h : CG c) : ShC c := h.v.sh fun m hm => by have := h.we m hm; omega

theorem CG.put {c : CT} (h : CG c) {reps' : List RT} {new : List MT} (hl : reps'.length = c.reps.length)
    (hs : ∀ g, Inv c.reps.length c.reps g → (∀ m ∈ c.wire, MsgOK c.reps.length g m) → Step c.reps.length g reps' new)
    {w' : List MT} (hw : ∀ m ∈ w', m ∈ c.wire ∨ m ∈ new)
    (hn : ∀ m ∈ new, (0 ≤ m.frm ∧ m.frm < (c.reps.length : Int) ∧ 0 ≤ m.to ∧ m.to < (c.reps.length : Int) ∧ m.frm ≠ m.to) ∧ m.ents.length ≤ 256)
    (hwl : w'.length ≤ 256) {down' : List Bool} (hd : down'.length = c.reps.length) {cut' : List CutT} (hc : cutsOK (c.reps.length : Int) [] cut' = true) : CG (cl reps' w' down' cut') := by
  obtain ⟨g, hi, hm⟩ := h.gd
  obtain ⟨g', a, b, d⟩ := hs g hi hm
  have h1 := h.n1
  have h5 := h.n5
  refine ⟨by show 1 ≤ reps'.length; omega, by show reps'.length ≤ 5; omega, by show down'.length = reps'.length; omega, hwl, ?_, ?_, by show cutsOK (reps'.length : Int) [] cut' = true; rw [hl]; exact hc, ?_⟩
  · intro m hm'
    show _ ∧ m.frm < (reps'.length : Int) ∧ _ ∧ m.to < (reps'.length : Int) ∧ _
    rw [hl]
    rcases hw m hm' with hm' | hm'
    · exact h.wm m hm'
    · exact (hn m hm').1
  · intro m hm'
    rcases hw m hm' with hm' | hm'
    · exact h.we m hm'
    · exact (hn m hm').2
  · show ∃ g, Inv reps'.length reps' g ∧ ∀ m ∈ w', MsgOK reps'.length g m
    rw [hl]
    refine ⟨g', a, fun m hm' => ?_⟩
    rcases hw m hm' with hm' | hm'
    · exact b m (hm m hm')
    · exact d m hm'

theorem CG.same {c : CT} (h : CG c) {w' : List MT} (hw : ∀ m ∈ w', m ∈ c.wire) (hwl : w'.length ≤ 256) {down' : List Bool} (hd : down'.length = c.reps.length) {cut' : List CutT} (hc : cutsOK (c.reps.length : Int) [] cut' = true) : CG (cl c.reps w' down' cut') :=
  h.put rfl (fun g hi _ => hi.refl) (new := []) (fun m hm => .inl (hw m hm)) (fun m hm => by cases hm) hwl hd hc

theorem CG.id {c : CT} (h : CG c) {i : Int} {r : RT} (hr : c.reps[i.toNat]? = some r) (i0 : 0 ≤ i) : r.id = i := by
  have := (h.v.rp _ _ hr).1; omega

theorem cg_stand {c : CT} (h : CG c) {i : Int} (h0 : (standC c i).1 = 0) : CG (standC c i).2 ∧ (standC c i).2.reps.length = c.reps.length := by
  unfold standC at h0 ⊢
  by_cases hr : readyE c i = 0
  · obtain ⟨V, i0, i1⟩ := ready_iff.1 hr
    obtain ⟨r, e1, e1'⟩ := rep_at i0 i1
    rw [if_pos hr] at h0 ⊢
    rw [e1'] at h0 ⊢
    split at h0
    · cases h0
    · rename_i hd
      rw [if_neg hd]
      simp only at h0 ⊢
      split at h0
      · rename_i hs
        rw [if_pos hs]
        split at h0
        · cases h0
        · rename_i hg
          rw [if_neg hg]
          have hid := h.id e1 i0
          have hC := (V.rp _ _ e1).2
          unfold stand at hs hg ⊢
          rw [if_pos (chk_iff.2 hC)] at hs hg ⊢
          split at hs
          · cases hs
          · rename_i ht
            rw [if_neg ht] at hg ⊢
            simp only at hg ⊢
            refine ⟨h.put (by simp) (fun g hi _ => hi.standS e1 ht) (new := asks (c.reps.length : Int) r) (fun m hm => List.mem_append.1 hm) ?_ (by show (c.wire ++ asks (c.reps.length : Int) r).length ≤ 256; rw [List.length_append]; omega) h.dn h.cs, List.length_set⟩
            intro m hm
            simp only [asks, List.mem_map, List.mem_filter, List.mem_range, decide_eq_true_eq] at hm
            obtain ⟨j, ⟨hj1, hj2⟩, rfl⟩ := hm
            simp only [mg_frm, mg_to, mg_ents]
            refine ⟨⟨by omega, by omega, by omega, by omega, fun e => hj2 e.symm⟩, by simp⟩
      · rename_i hs
        exact absurd h0 hs
  · rw [if_neg hr] at h0
    exact absurd h0 hr

theorem cg_propose {c : CT} (h : CG c) {i : Int} {o : OpT} (h0 : (proposeC c i o).1 = 0) : CG (proposeC c i o).2 ∧ (proposeC c i o).2.reps.length = c.reps.length := by
  unfold proposeC at h0 ⊢
  by_cases hr : readyE c i = 0
  · obtain ⟨V, i0, i1⟩ := ready_iff.1 hr
    obtain ⟨r, e1, e1'⟩ := rep_at i0 i1
    rw [if_pos hr] at h0 ⊢
    rw [e1'] at h0 ⊢
    split at h0
    · cases h0
    · rename_i hd
      rw [if_neg hd]
      simp only at h0 ⊢
      split at h0
      · rename_i hs
        rw [if_pos hs]
        unfold proposeE at hs ⊢
        have hC := (V.rp _ _ e1).2
        rw [if_pos (chk_iff.2 hC)] at hs ⊢
        split at hs
        · rename_i h2
          rw [if_pos h2]
          split at hs
          · cases hs
          · rename_i hh
            rw [if_neg hh]
            split at hs
            · rename_i hl
              rw [if_pos hl]
              exact ⟨h.put (by simp) (fun g hi _ => hi.proposeS e1 h2 hl o) (new := []) (fun m hm => .inl hm) (fun m hm => by cases hm) h.wl h.dn h.cs, List.length_set⟩
            · cases hs
        · cases hs
      · rename_i hs
        exact absurd h0 hs
  · rw [if_neg hr] at h0
    exact absurd h0 hr

theorem cg_beat {c : CT} (h : CG c) {i : Int} (h0 : (beatC c i).1 = 0) : CG (beatC c i).2 ∧ (beatC c i).2.reps = c.reps := by
  unfold beatC at h0 ⊢
  by_cases hr : readyE c i = 0
  · obtain ⟨V, i0, i1⟩ := ready_iff.1 hr
    obtain ⟨r, e1, e1'⟩ := rep_at i0 i1
    rw [if_pos hr] at h0 ⊢
    rw [e1'] at h0 ⊢
    split at h0
    · cases h0
    · rename_i hd
      rw [if_neg hd]
      split at h0
      · rename_i h2
        rw [if_pos h2]
        simp only at h0 ⊢
        split at h0
        · cases h0
        · rename_i hg
          rw [if_neg hg]
          have hid := h.id e1 i0
          have hC := (V.rp _ _ e1).2
          unfold appendsE at hg ⊢
          rw [if_pos ⟨chk_iff.2 hC, h2⟩] at hg ⊢
          refine ⟨h.put rfl (fun g hi _ => ⟨g, hi, fun _ h => h, hi.appends e1 h2⟩) (new := appends (c.reps.length : Int) r) (fun m hm => List.mem_append.1 hm) ?_ (by simp only [List.length_append]; omega) h.dn h.cs, rfl⟩
          intro m hm
          simp only [appends, List.mem_map, List.mem_filter, List.mem_range, decide_eq_true_eq] at hm
          obtain ⟨j, ⟨hj1, hj2⟩, rfl⟩ := hm
          simp only [mg_frm, mg_to, mg_ents]
          have := hC.ll
          refine ⟨⟨by omega, by omega, by omega, by omega, fun e => hj2 e.symm⟩, by simp only [List.length_drop]; omega⟩
      · cases h0
  · rw [if_neg hr] at h0
    exact absurd h0 hr

theorem cutOut_mem {l : List MT} {k : Nat} {m : MT} (h : m ∈ cutOut l k) : m ∈ l := by
  rcases List.mem_append.1 h with h | h
  · exact List.mem_of_mem_take h
  · exact List.mem_of_mem_drop h

theorem cutOut_len {l : List MT} {k : Nat} (h : k < l.length) : (cutOut l k).length = l.length - 1 := by
  unfold cutOut; simp; omega

theorem cg_drop {c : CT} (h : CG c) {k : Int} (h0 : (dropC c k).1 = 0) : CG (dropC c k).2 ∧ (dropC c k).2.reps = c.reps := by
  unfold dropC at h0 ⊢
  split at h0
  · rename_i hr
    rw [if_pos hr]
    obtain ⟨V, k0, k1⟩ := wire_iff.1 hr
    have := h.wl
    exact ⟨h.same (fun m hm => cutOut_mem hm) (by rw [cutOut_len (by omega)]; omega) h.dn h.cs, rfl⟩
  · rename_i hr; exact absurd h0 hr

theorem cg_double {c : CT} (h : CG c) {k : Int} (h0 : (doubleC c k).1 = 0) : CG (doubleC c k).2 ∧ (doubleC c k).2.reps = c.reps := by
  unfold doubleC at h0 ⊢
  split at h0
  · rename_i hr
    rw [if_pos hr]
    split at h0
    · cases h0
    · rename_i hg
      rw [if_neg hg]
      obtain ⟨V, k0, k1⟩ := wire_iff.1 hr
      obtain ⟨m, e1, e1'⟩ := wire_at k0 k1
      rw [e1']
      refine ⟨h.same (fun x hx => ?_) (by simp; omega) h.dn h.cs, rfl⟩
      rcases List.mem_append.1 hx with hx | hx
      · exact hx
      · simp at hx; subst hx; exact List.mem_of_getElem? e1
  · rename_i hr; exact absurd h0 hr

theorem hearAny_step {n : Nat} {reps : List RT} {g : Gh OpT} (hi : Inv n reps g) {i : Nat} {r : RT} (h : reps[i]? = some r) {m : MT} (hm : MsgOK n g m) :
    Step n g (reps.set i (hearAny (n : Int) r m).1) (if (hearAny (n : Int) r m).2.2 then [(hearAny (n : Int) r m).2.1] else []) := by
  unfold hearAny
  split
  · exact hi.hearS h hm
  split
  · exact hi.votedS h hm
  split
  · exact hi.acceptS h hm
  split
  · exact hi.appendedS h hm
  · exact hi.stay h

theorem hearAny_reply {n : Int} {r : RT} {m : MT} (h : (hearAny n r m).2.2 = true) : (hearAny n r m).2.1.frm = r.id ∧ (hearAny n r m).2.1.to = m.frm ∧ (hearAny n r m).2.1.ents = [] ∧ ((hearAny n r m).2.1.kind = 2 ∨ (hearAny n r m).2.1.kind = 4) ∧ (m.kind = 1 ∨ m.kind = 3) := by
  unfold hearAny at h ⊢
  by_cases h1 : m.kind = 1
  · rw [if_pos h1] at h ⊢
    unfold hear at h ⊢
    split
    · exact ⟨rfl, rfl, rfl, .inl rfl, .inl h1⟩
    · rename_i ho; rw [if_neg ho] at h; cases h
  rw [if_neg h1] at h ⊢
  by_cases h2 : m.kind = 2
  · rw [if_pos h2] at h; cases h
  rw [if_neg h2] at h ⊢
  by_cases h3 : m.kind = 3
  · rw [if_pos h3] at h ⊢
    unfold accept at h ⊢
    split
    · rename_i ha
      rw [if_pos ha] at h
      simp only at h ⊢
      split
      · rename_i hf
        rw [if_pos hf] at h
        split
        · exact ⟨rfl, rfl, rfl, .inr rfl, .inr h3⟩
        · rename_i hj; rw [if_neg hj] at h; cases h
      · exact ⟨rfl, rfl, rfl, .inr rfl, .inr h3⟩
    · rename_i ha; rw [if_neg ha] at h; cases h
  rw [if_neg h3] at h
  by_cases h4 : m.kind = 4
  · rw [if_pos h4] at h; cases h
  · rw [if_neg h4] at h; cases h

def weight (l : List MT) : Nat := (l.map fun m => if m.kind = 1 ∨ m.kind = 3 then 2 else 1).sum

theorem weight_append (a b : List MT) : weight (a ++ b) = weight a + weight b := by unfold weight; rw [List.map_append, List.sum_append]

theorem weight_pos (m : MT) (l : List MT) : weight (m :: l) = (if m.kind = 1 ∨ m.kind = 3 then 2 else 1) + weight l := by unfold weight; rw [List.map_cons, List.sum_cons]

theorem weight_cut {l : List MT} {k : Nat} {m : MT} (h : l[k]? = some m) : weight l = weight (cutOut l k) + (if m.kind = 1 ∨ m.kind = 3 then 2 else 1) := by
  have hk := (List.getElem?_eq_some_iff.1 h).1
  have e : l = l.take k ++ m :: l.drop (k + 1) := by
    conv => lhs; rw [← List.take_append_drop k l]
    rw [List.drop_eq_getElem_cons hk, (List.getElem?_eq_some_iff.1 h).2]
  conv => lhs; rw [e]
  rw [weight_append, weight_pos]
  unfold cutOut
  rw [weight_append]
  omega

theorem cg_deliver {c : CT} (h : CG c) {k : Int} (h0 : (deliverC c k).1 = 0) : CG (deliverC c k).2 ∧ (deliverC c k).2.reps.length = c.reps.length ∧ weight (deliverC c k).2.wire < weight c.wire ∧ (deliverC c k).2.down = c.down ∧ (deliverC c k).2.cut = c.cut := by
  unfold deliverC at h0 ⊢
  split at h0
  · rename_i hr
    rw [if_pos hr]
    obtain ⟨V, k0, k1⟩ := wire_iff.1 hr
    obtain ⟨m, e1, e1'⟩ := wire_at k0 k1
    rw [e1']
    have hmm := List.mem_of_getElem? e1
    obtain ⟨f0, f1, t0, t1, hft⟩ := V.wm m hmm
    have hwl := h.wl
    have hcl := cutOut_len (l := c.wire) (k := k.toNat) (by omega)
    have hwt := weight_cut e1
    simp only
    split
    · refine ⟨h.same (fun m hm => cutOut_mem hm) (by omega) h.dn h.cs, rfl, ?_, rfl, rfl⟩
      show weight (cutOut c.wire k.toNat) < _
      rw [hwt]; split <;> omega
    · obtain ⟨r, e2, e2'⟩ := rep_at t0 t1
      rw [e2']
      have hid := h.id e2 t0
      have hC := (V.rp _ _ e2).2
      have hrep := hearAny_reply (n := (c.reps.length : Int)) (r := r) (m := m)
      refine ⟨h.put (by simp) (fun g hi hm => hearAny_step hi e2 (hm m hmm)) (fun x hx => (List.mem_append.1 hx).imp (fun a => cutOut_mem a) (fun a => a)) ?_ ?_ h.dn h.cs, List.length_set, ?_, rfl, rfl⟩
      · intro x hx
        cases hb : (hearAny (c.reps.length : Int) r m).2.2
        · rw [hb] at hx; simp at hx
        · rw [hb] at hx
          simp at hx
          subst hx
          obtain ⟨a1, a2, a3, _, _⟩ := hrep hb
          rw [a1, a2, a3, hid]
          exact ⟨⟨t0, t1, f0, f1, fun e => hft e.symm⟩, by simp⟩
      · rw [List.length_append, hcl]
        split <;> simp <;> omega
      · show weight (cutOut c.wire k.toNat ++ _) < _
        rw [weight_append, hwt]
        cases hb : (hearAny (c.reps.length : Int) r m).2.2
        · simp only [Bool.false_eq_true, if_false]
          show weight (cutOut c.wire k.toNat) + weight [] < _
          have : weight [] = 0 := rfl
          split <;> omega
        · obtain ⟨_, _, _, a4, a5⟩ := hrep hb
          simp only [if_true]
          rw [if_pos a5, weight_pos, if_neg (by omega)]
          have : weight [] = 0 := rfl
          omega
  · rename_i hr; exact absurd h0 hr

theorem cg_crash {c : CT} (h : CG c) {i : Int} (h0 : (crashC c i).1 = 0) : CG (crashC c i).2 ∧ (crashC c i).2.reps = c.reps := by
  unfold crashC at h0 ⊢
  split at h0
  · rename_i hr
    rw [if_pos hr]
    split at h0
    · cases h0
    · rename_i hd
      rw [if_neg hd]
      exact ⟨h.same (fun m hm => hm) h.wl (by simp [h.dn]) h.cs, rfl⟩
  · rename_i hr; exact absurd h0 hr

theorem cg_restart {c : CT} (h : CG c) {i : Int} (h0 : (restartC c i).1 = 0) : CG (restartC c i).2 ∧ (restartC c i).2.reps.length = c.reps.length := by
  unfold restartC at h0 ⊢
  split at h0
  · rename_i hr
    rw [if_pos hr]
    split at h0
    · rename_i hd
      rw [if_pos hd]
      obtain ⟨V, i0, i1⟩ := ready_iff.1 hr
      obtain ⟨r, e1, e1'⟩ := rep_at i0 i1
      rw [e1']
      unfold restartE
      rw [if_pos (chk_iff.2 (V.rp _ _ e1).2)]
      exact ⟨h.put (by simp) (fun g hi _ => (hi.restart e1).refl) (new := []) (fun m hm => .inl hm) (fun m hm => by cases hm) h.wl (by simp [h.dn]) h.cs, List.length_set⟩
    · cases h0
  · rename_i hr; exact absurd h0 hr

theorem isCut_mm (l : List CutT) (i j : Int) : isCut l (min i j) (max i j) = isCut l i j := by
  unfold isCut
  rw [show min (min i j) (max i j) = min i j by omega, show max (min i j) (max i j) = max i j by omega]

theorem cg_cut {c : CT} (h : CG c) {i j : Int} (h0 : (cutC c i j).1 = 0) : CG (cutC c i j).2 ∧ (cutC c i j).2.reps = c.reps := by
  unfold cutC at h0 ⊢
  split at h0
  · rename_i hr
    rw [if_pos hr]
    obtain ⟨V, i0, i1⟩ := ready_iff.1 hr
    split at h0
    · rename_i hj
      rw [if_pos hj]
      rw [inn_iff] at hj
      split at h0
      · cases h0
      · rename_i hij
        rw [if_neg hij]
        split at h0
        · cases h0
        · rename_i hic
          rw [if_neg hic]
          refine ⟨h.same (fun m hm => hm) h.wl h.dn (cutsOK_snoc h.cs ?_ ?_), rfl⟩
          · simp only [cutOK1, Bool.and_eq_true, decide_eq_true_eq]
            omega
          · rw [List.nil_append, isCut_mm]
            simpa using hic
    · cases h0
  · rename_i hr; exact absurd h0 hr

theorem cg_heal {c : CT} (h : CG c) : CG (healC c) ∧ (healC c).reps = c.reps ∧ (healC c).wire = c.wire ∧ (healC c).down = c.down := by
  unfold healC
  rw [if_pos (chkC_iff.2 h.v)]
  exact ⟨h.same (fun m hm => hm) h.wl h.dn rfl, rfl, rfl, rfl⟩

theorem cg_new {n : Int} (h1 : 1 ≤ n) (h5 : n ≤ 5) : CG (newC n) ∧ (newC n).reps.length = n.toNat := by
  have hl : (newC n).reps.length = n.toNat := by show ((List.range n.toNat).map (rep0 : Nat → RT)).length = n.toNat; simp
  refine ⟨⟨by rw [hl]; omega, by rw [hl]; omega, by rw [hl]; show (List.replicate n.toNat false).length = n.toNat; simp, Nat.zero_le _, fun m hm => (by cases hm), fun m hm => (by cases hm), rfl, ?_⟩, hl⟩
  rw [hl]
  exact ⟨_, inv0 (by omega), fun m hm => (by cases hm)⟩

/-! ### Terms -/
def TB (c : CT) (T : Int) : Prop := (∀ r ∈ c.reps, r.term ≤ T) ∧ ∀ m ∈ c.wire, m.term ≤ T

theorem TB.le {c : CT} {T U : Int} (h : TB c T) (hu : T ≤ U) : TB c U := ⟨fun r hr => by have := h.1 r hr; omega, fun m hm => by have := h.2 m hm; omega⟩

theorem TB.put {c : CT} {T U : Int} (h : TB c T) (hu : T ≤ U) {i : Nat} {r' : RT} (hr : r'.term ≤ U) {w' : List MT} (hw : ∀ m ∈ w', m ∈ c.wire ∨ m.term ≤ U) {d : List Bool} {k : List CutT} : TB (cl (c.reps.set i r') w' d k) U := by
  refine ⟨fun r hr' => ?_, fun m hm => ?_⟩
  · rcases List.mem_or_eq_of_mem_set hr' with hr' | hr'
    · have := h.1 r hr'; omega
    · subst hr'; exact hr
  · rcases hw m hm with hm | hm
    · have := h.2 m hm; omega
    · exact hm

theorem TB.same {c : CT} {T : Int} (h : TB c T) {w' : List MT} (hw : ∀ m ∈ w', m ∈ c.wire ∨ m.term ≤ T) {d : List Bool} {k : List CutT} : TB (cl c.reps w' d k) T := by
  refine ⟨h.1, fun m hm => ?_⟩
  rcases hw m hm with hm | hm
  · exact h.2 m hm
  · exact hm

theorem fol_term (r : RT) (t : Int) : (fol r t).term ≤ max r.term t := by
  unfold fol; split
  · show t ≤ _; omega
  · omega

theorem back_term' (r : RT) (t : Int) : (back r t).term ≤ max r.term t := by
  have := fol_term r t
  unfold back; simp only; split
  · exact this
  · exact this

theorem hearAny_term (n : Int) (r : RT) (m : MT) : (hearAny n r m).1.term ≤ max r.term m.term ∧ ((hearAny n r m).2.2 = true → (hearAny n r m).2.1.term ≤ max r.term m.term) := by
  have hf := fol_term r m.term
  have hb := back_term' r m.term
  have hs : r.term ≤ max r.term m.term := by omega
  unfold hearAny
  split
  · unfold hear
    split
    · refine ⟨?_, fun _ => hf⟩
      unfold hearR; simp only; split
      · exact hf
      · exact hf
    · exact ⟨hs, fun h => by cases h⟩
  split
  · refine ⟨?_, fun h => by cases h⟩
    show (voted n r m).term ≤ _
    unfold voted; split
    · split
      · exact hf
      · split
        · unfold votedR; simp only; split <;> exact hs
        · exact hs
    · exact hs
  split
  · unfold accept
    split
    · simp only
      split
      · split
        · exact ⟨hb, fun _ => hb⟩
        · exact ⟨hs, fun h => by cases h⟩
      · exact ⟨hb, fun _ => hb⟩
    · exact ⟨hs, fun h => by cases h⟩
  split
  · refine ⟨?_, fun h => by cases h⟩
    show (appended n r m).term ≤ _
    unfold appended; split
    · split
      · exact hf
      · split
        · exact hs
        · exact hs
    · exact hs
  · exact ⟨hs, fun h => by cases h⟩

theorem tb_stand {c : CT} {T : Int} (h : CG c) (ht : TB c T) {i : Int} (h0 : (standC c i).1 = 0) : TB (standC c i).2 (T + 1) := by
  unfold standC at h0 ⊢
  by_cases hr : readyE c i = 0
  · obtain ⟨V, i0, i1⟩ := ready_iff.1 hr
    obtain ⟨r, e1, e1'⟩ := rep_at i0 i1
    have htr := ht.1 r (List.mem_of_getElem? e1)
    rw [if_pos hr] at h0 ⊢
    rw [e1'] at h0 ⊢
    split at h0
    · cases h0
    · rename_i hd
      rw [if_neg hd]
      simp only at h0 ⊢
      split at h0
      · rename_i hs
        rw [if_pos hs]
        split at h0
        · cases h0
        · rename_i hg
          rw [if_neg hg]
          have hC := (V.rp _ _ e1).2
          unfold stand at hs ⊢
          rw [if_pos (chk_iff.2 hC)] at hs ⊢
          split at hs
          · cases hs
          · rename_i htm
            rw [if_neg htm]
            refine ht.put (by omega) ?_ (fun m hm => (List.mem_append.1 hm).imp id fun hm => ?_)
            · show (standR _ r).term ≤ _
              unfold standR; simp only; split <;> (show r.term + 1 ≤ T + 1; omega)
            · simp only [asks, List.mem_map] at hm
              obtain ⟨j, _, rfl⟩ := hm
              show r.term + 1 ≤ T + 1; omega
      · rename_i hs
        exact absurd h0 hs
  · rw [if_neg hr] at h0
    exact absurd h0 hr

theorem tb_propose {c : CT} {T : Int} (h : CG c) (ht : TB c T) {i : Int} {o : OpT} (h0 : (proposeC c i o).1 = 0) : TB (proposeC c i o).2 T := by
  unfold proposeC at h0 ⊢
  by_cases hr : readyE c i = 0
  · obtain ⟨V, i0, i1⟩ := ready_iff.1 hr
    obtain ⟨r, e1, e1'⟩ := rep_at i0 i1
    have htr := ht.1 r (List.mem_of_getElem? e1)
    rw [if_pos hr] at h0 ⊢
    rw [e1'] at h0 ⊢
    split at h0
    · cases h0
    · rename_i hd
      rw [if_neg hd]
      simp only at h0 ⊢
      split at h0
      · rename_i hs
        rw [if_pos hs]
        refine ht.put (Int.le_refl _) ?_ (fun m hm => .inl hm)
        unfold proposeE at hs ⊢
        rw [if_pos (chk_iff.2 (V.rp _ _ e1).2)] at hs ⊢
        split at hs
        · rename_i h2
          rw [if_pos h2]
          split at hs
          · cases hs
          · rename_i hh
            rw [if_neg hh]
            split at hs
            · rename_i hl
              rw [if_pos hl]
              exact htr
            · cases hs
        · cases hs
      · rename_i hs
        exact absurd h0 hs
  · rw [if_neg hr] at h0
    exact absurd h0 hr

theorem tb_beat {c : CT} {T : Int} (ht : TB c T) {i : Int} (h0 : (beatC c i).1 = 0) : TB (beatC c i).2 T := by
  unfold beatC at h0 ⊢
  by_cases hr : readyE c i = 0
  · obtain ⟨V, i0, i1⟩ := ready_iff.1 hr
    obtain ⟨r, e1, e1'⟩ := rep_at i0 i1
    have htr := ht.1 r (List.mem_of_getElem? e1)
    rw [if_pos hr] at h0 ⊢
    rw [e1'] at h0 ⊢
    split at h0
    · cases h0
    · rename_i hd
      rw [if_neg hd]
      split at h0
      · rename_i h2
        rw [if_pos h2]
        simp only at h0 ⊢
        split at h0
        · cases h0
        · rename_i hg
          rw [if_neg hg]
          refine ht.same fun m hm => (List.mem_append.1 hm).imp id fun hm => ?_
          unfold appendsE at hm
          split at hm
          · simp only [appends, List.mem_map] at hm
            obtain ⟨j, _, rfl⟩ := hm
            exact htr
          · cases hm
      · cases h0
  · rw [if_neg hr] at h0
    exact absurd h0 hr

theorem tb_drop {c : CT} {T : Int} (ht : TB c T) {k : Int} (h0 : (dropC c k).1 = 0) : TB (dropC c k).2 T := by
  unfold dropC at h0 ⊢
  split at h0
  · rename_i hr
    rw [if_pos hr]
    exact ht.same fun m hm => .inl (cutOut_mem hm)
  · rename_i hr; exact absurd h0 hr

theorem tb_double {c : CT} {T : Int} (ht : TB c T) {k : Int} (h0 : (doubleC c k).1 = 0) : TB (doubleC c k).2 T := by
  unfold doubleC at h0 ⊢
  split at h0
  · rename_i hr
    rw [if_pos hr]
    split at h0
    · cases h0
    · rename_i hg
      rw [if_neg hg]
      obtain ⟨V, k0, k1⟩ := wire_iff.1 hr
      obtain ⟨m, e1, e1'⟩ := wire_at k0 k1
      rw [e1']
      refine ht.same fun x hx => (List.mem_append.1 hx).imp id fun hx => ?_
      simp at hx; subst hx
      exact ht.2 _ (List.mem_of_getElem? e1)
  · rename_i hr; exact absurd h0 hr

theorem tb_deliver {c : CT} {T : Int} (ht : TB c T) {k : Int} (h0 : (deliverC c k).1 = 0) : TB (deliverC c k).2 T := by
  unfold deliverC at h0 ⊢
  split at h0
  · rename_i hr
    rw [if_pos hr]
    obtain ⟨V, k0, k1⟩ := wire_iff.1 hr
    obtain ⟨m, e1, e1'⟩ := wire_at k0 k1
    rw [e1']
    have hmm := List.mem_of_getElem? e1
    obtain ⟨_, _, t0, t1, _⟩ := V.wm m hmm
    simp only
    split
    · exact ht.same fun m hm => .inl (cutOut_mem hm)
    · obtain ⟨r, e2, e2'⟩ := rep_at t0 t1
      rw [e2']
      have h1 := ht.1 r (List.mem_of_getElem? e2)
      have h2 := ht.2 m hmm
      obtain ⟨a1, a2⟩ := hearAny_term (c.reps.length : Int) r m
      refine ht.put (Int.le_refl _) (by omega) fun x hx => (List.mem_append.1 hx).imp (fun a => cutOut_mem a) fun hx => ?_
      cases hb : (hearAny (c.reps.length : Int) r m).2.2
      · rw [hb] at hx; simp at hx
      · rw [hb] at hx
        simp at hx
        subst hx
        have := a2 hb
        omega
  · rename_i hr; exact absurd h0 hr

theorem tb_crash {c : CT} {T : Int} (ht : TB c T) {i : Int} (h0 : (crashC c i).1 = 0) : TB (crashC c i).2 T := by
  unfold crashC at h0 ⊢
  split at h0
  · rename_i hr
    rw [if_pos hr]
    split at h0
    · cases h0
    · rename_i hd
      rw [if_neg hd]
      exact ht.same fun m hm => .inl hm
  · rename_i hr; exact absurd h0 hr

theorem tb_restart {c : CT} {T : Int} (ht : TB c T) {i : Int} (h0 : (restartC c i).1 = 0) : TB (restartC c i).2 T := by
  unfold restartC at h0 ⊢
  split at h0
  · rename_i hr
    rw [if_pos hr]
    split at h0
    · rename_i hd
      rw [if_pos hd]
      obtain ⟨V, i0, i1⟩ := ready_iff.1 hr
      obtain ⟨r, e1, e1'⟩ := rep_at i0 i1
      rw [e1']
      unfold restartE
      rw [if_pos (chk_iff.2 (V.rp _ _ e1).2)]
      exact ht.put (r' := restartR r) (Int.le_refl _) (ht.1 r (List.mem_of_getElem? e1)) fun m hm => .inl hm
    · cases h0
  · rename_i hr; exact absurd h0 hr

theorem tb_cut {c : CT} {T : Int} (ht : TB c T) {i j : Int} (h0 : (cutC c i j).1 = 0) : TB (cutC c i j).2 T := by
  unfold cutC at h0 ⊢
  split at h0
  · rename_i hr
    rw [if_pos hr]
    split at h0
    · rename_i hj
      rw [if_pos hj]
      split at h0
      · cases h0
      · rename_i hij
        rw [if_neg hij]
        split at h0
        · cases h0
        · rename_i hic
          rw [if_neg hic]
          exact ht.same fun m hm => .inl hm
    · cases h0
  · rename_i hr; exact absurd h0 hr

theorem tb_heal {c : CT} {T : Int} (h : CG c) (ht : TB c T) : TB (healC c) T := by
  unfold healC
  rw [if_pos (chkC_iff.2 h.v)]
  exact ht.same fun m hm => .inl hm

theorem tb_new (n : Int) : TB (newC n) 0 := by
  refine ⟨fun r hr => ?_, fun m hm => by cases hm⟩
  have hr : r ∈ (List.range n.toNat).map (rep0 : Nat → RT) := hr
  obtain ⟨j, _, rfl⟩ := List.mem_map.1 hr
  exact Int.le_refl _

end Go.Proofs.YtfbikpbejkgegaaGreat

namespace Go.Proofs.YtfbikpbejkgegaaGreat
open Go Go.Abs Go.Raft
theorem deliver_zero {c : CT} (V : VC c) (h : c.wire ≠ []) : (deliverC c 0).1 = 0 := by
  have hl := List.length_pos_iff.2 h
  have hw : wireE c 0 = 0 := wire_iff.2 ⟨V, Int.le_refl _, by omega⟩
  unfold deliverC
  rw [if_pos hw]
  simp only
  split <;> rfl

/-- Delivering all messages. -/
theorem flush_ok : ∀ (w : Nat) (c : CT), weight c.wire ≤ w → CG c → ∃ c' : CT, loopT l82_0_1 ((), (u2, ((c, ()), ()))) = some ((), (u2, ((c', ()), ()))) ∧ CG c' ∧ c'.wire = [] ∧ c'.reps.length = c.reps.length ∧ c'.down = c.down ∧ c'.cut = c.cut ∧ ∀ T, TB c T → TB c' T := by
  have base : ∀ c : CT, c.wire = [] → loopT l82_0_1 ((), (u2, ((c, ()), ()))) = some ((), (u2, ((c, ()), ()))) := by
    intro c h
    refine loopT_inr ?_
    have : ¬ (c.2.1.length : Int) > 0 := by show ¬ (c.wire.length : Int) > 0; rw [h]; simp
    simp only [l82_0_1, decide_eq_false this, sumE, sS]
  intro w
  induction w with
  | zero =>
    intro c hw h
    have : c.wire = [] := by
      cases hc : c.wire with
      | nil => rfl
      | cons m l => rw [hc, weight_pos] at hw; split at hw <;> omega
    exact ⟨c, base c this, h, this, rfl, rfl, rfl, fun _ h => h⟩
  | succ w ih =>
    intro c hw h
    by_cases hc : c.wire = []
    · exact ⟨c, base c hc, h, hc, rfl, rfl, rfl, fun _ h => h⟩
    · have h0 := deliver_zero h.v hc
      obtain ⟨g1, g2, g3, g4, g5⟩ := cg_deliver h h0
      obtain ⟨c', a1, a2, a3, a4, a5, a6, a7⟩ := ih (deliverC c 0).2 (by omega) g1
      refine ⟨c', ?_, a2, a3, by rw [a4, g2], by rw [a5, g4], by rw [a6, g5], fun T hT => a7 T (tb_deliver hT h0)⟩
      rw [← a1]
      refine loopT_inl ?_
      have hp : (c.2.1.length : Int) > 0 := by have := List.length_pos_iff.2 hc; show (c.wire.length : Int) > 0; omega
      simp only [l82_0_1, decide_eq_true hp, sumE, sS, m34_eq c 0 h.sh, h0]

theorem m82_ok {c : CT} (h : CG c) : ∃ c' : CT, m82 ((c, ()), ()) = some ((), ((c', ()), ())) ∧ CG c' ∧ c'.wire = [] ∧ c'.reps.length = c.reps.length ∧ c'.down = c.down ∧ c'.cut = c.cut ∧ ∀ T, TB c T → TB c' T := by
  obtain ⟨c', a1, a2⟩ := flush_ok _ c (Nat.le_refl _) h
  refine ⟨c', ?_, a2⟩
  unfold m82
  simp only []
  rw [show loopT l82_0_1 ((), (((), ()), ((c, ()), ()))) = _ from a1]
  rfl

theorem beat_zero {c : CT} (h : CG c) {i : Int} (i0 : 0 ≤ i) (i1 : i < (c.reps.length : Int)) (hd : downAt c i = false) (hr : (repAt c i).role = 2) (hw : c.wire = []) : (beatC c i).1 = 0 := by
  unfold beatC
  rw [if_pos (ready_iff.2 ⟨h.v, i0, i1⟩), if_neg (by rw [hd]; simp), if_pos hr]
  simp only
  have := appends_len (c.reps.length : Int) (repAt c i)
  rw [if_neg (by rw [hw]; simp; omega)]

theorem settle_loop {i : Int} (i0 : 0 ≤ i) : ∀ (k j : Nat) (c : CT), j + k = 2 → CG c → i < (c.reps.length : Int) → downAt c i = false → c.wire = [] → ∃ c' : CT, loopT l41_0_11 (((j : Int), i, ()), ((c, ()), (u2, ()))) = some ((), (u2, ((c', ()), ()))) ∧ CG c' ∧ c'.reps.length = c.reps.length ∧ (∀ T, TB c T → TB c' T) ∧ c'.wire = [] := by
  intro k
  induction k with
  | zero =>
    intro j c hj h _ _ hw
    refine ⟨c, loopT_inr ?_, h, rfl, fun _ h => h, hw⟩
    have : ¬ (j : Int) < 2 := by omega
    simp only [l41_0_11, decide_eq_false this, sumE, sS]
  | succ k ih =>
    intro j c hj h i1 hd hw
    have hlt : (j : Int) < 2 := by omega
    obtain ⟨r, e1, e1'⟩ := rep_at (c := c) i0 i1
    by_cases hr : r.role = 2
    · have h0 := beat_zero h i0 i1 hd (by rw [e1']; exact hr) hw
      obtain ⟨g1, g2⟩ := cg_beat h h0
      obtain ⟨c1, a1, a2, a3, a4, a5, a6, a7⟩ := m82_ok g1
      have hlen : c1.reps.length = c.reps.length := by rw [a4, g2]
      have hdown : (beatC c i).2.down = c.down := by
        unfold beatC
        rw [if_pos (ready_iff.2 ⟨h.v, i0, i1⟩), if_neg (by rw [hd]; simp), if_pos (by rw [e1']; exact hr)]
        simp only
        split
        · rename_i hg; exfalso
          have := appends_len (c.reps.length : Int) (repAt c i)
          rw [hw] at hg; simp at hg; omega
        · rfl
      obtain ⟨c', b1, b2, b3, b4, b5⟩ := ih (j + 1) c1 (by omega) a2 (by omega) (by show (c1.down[i.toNat]?.getD false) = false; rw [a5, hdown]; exact hd) a3
      refine ⟨c', ?_, b2, by rw [b3, hlen], fun T hT => b4 T (a7 T (tb_beat hT h0)), b5⟩
      rw [← b1]
      refine loopT_inl ?_
      have hr' : (r.2.2.2.1 : Int) = 2 := hr
      simp only [l41_0_11, decide_eq_true hlt, sumE, sS, rowAt_G, rowG_int i0 e1, beq_decide, decide_eq_true hr', m33_eq c i h.sh]
      rw [show m82 (((((beatC c i).2.1, ((beatC c i).2.2.1, ((beatC c i).2.2.2.1, ((beatC c i).2.2.2.2.1, ())))) : CT), ()), ()) = some ((), ((c1, ()), ())) from a1]
      simp only [Option.bind_some, w64_nat (show j ≤ 4294967296 by omega)]
    · refine ⟨c, loopT_inr ?_, h, rfl, fun _ h => h, hw⟩
      have hr' : ¬ (r.2.2.2.1 : Int) = 2 := hr
      simp only [l41_0_11, decide_eq_true hlt, sumE, sS, rowAt_G, rowG_int i0 e1, beq_decide, decide_eq_false hr']

/-- Settle gives an error or a good cluster of the same size. -/
theorem m41_okw {c : CT} (h : CG c) (i : Int) : ∃ (e : Int) (c' : CT), m41 ((c, i, ()), ()) = some ((e, ()), ((c', ()), ())) ∧ (e = 0 → CG c' ∧ c'.reps.length = c.reps.length ∧ (∀ T, TB c T → TB c' (T + 1)) ∧ c'.wire = []) ∧ (e ≠ 0 → c' = zeroC) ∧ (readyE c i = 0 → (standC (cl c.reps [] c.down c.cut) i).1 = 0 → e = 0) := by
  unfold m41
  simp only [m61_eq c i h.sh, Option.bind_some, bne_decide, decide_not]
  by_cases hr : readyE c i = 0
  · obtain ⟨V, i0, i1⟩ := ready_iff.1 hr
    simp only [hr, decide_true, sumE, sS, m51_eq c h.sh]
    have h1 : CG (cl c.reps [] c.down c.cut) := h.same (fun m hm => (by cases hm)) (Nat.zero_le _) h.dn h.cs
    rw [show m29 (((c.reps, ([], (c.down, (c.cut, ())))), (i, ())), ()) = _ from m29_eq (cl c.reps [] c.down c.cut) i h1.sh]
    simp only [Option.bind_some]
    by_cases h0 : (standC (cl c.reps [] c.down c.cut) i).1 = 0
    · obtain ⟨g1, g2⟩ := cg_stand h1 h0
      obtain ⟨c1, a1, a2, a3, a4, a5, a6, a7⟩ := m82_ok g1
      simp only [h0, decide_true, sumE, sS]
      rw [show m82 (((((standC (cl c.reps [] c.down c.cut) i).2.1, ((standC (cl c.reps [] c.down c.cut) i).2.2.1, ((standC (cl c.reps [] c.down c.cut) i).2.2.2.1, ((standC (cl c.reps [] c.down c.cut) i).2.2.2.2.1, ())))) : CT), ()), ()) = some ((), ((c1, ()), ())) from a1]
      have hd : downAt c i = false ∧ (standC (cl c.reps [] c.down c.cut) i).2.down = c.down := by
        unfold standC at h0 ⊢
        rw [if_pos (ready_iff.2 ⟨h1.v, i0, i1⟩)] at h0 ⊢
        split at h0
        · cases h0
        · rename_i hd
          refine ⟨by simpa using hd, ?_⟩
          rw [if_neg hd]
          simp only at h0 ⊢
          split at h0
          · rename_i hs
            rw [if_pos hs]
            split at h0
            · cases h0
            · rename_i hg; rw [if_neg hg]
          · rename_i hs; exact absurd h0 hs
      have hlen : c1.reps.length = c.reps.length := by rw [a4, g2]
      obtain ⟨c', b1, b2, b3, b4, b5⟩ := settle_loop i0 2 0 c1 rfl a2 (by omega) (by show (c1.down[i.toNat]?.getD false) = false; rw [a5, hd.2]; exact hd.1) a3
      refine ⟨0, c', ?_, fun _ => ⟨b2, by rw [b3, hlen], fun T hT => b4 _ (a7 _ (tb_stand h1 (hT.same (fun m hm => (by cases hm))) h0)), b5⟩, fun hn => absurd rfl hn, fun _ _ => rfl⟩
      simp only [Option.bind_some]
      rw [show loopT l41_0_11 ((0, (i, ())), ((c1, ()), (((), ()), ()))) = _ from b1]
      rfl
    · simp only [h0, decide_false, sumE, sS]
      exact ⟨(standC (cl c.reps [] c.down c.cut) i).1, zeroC, rfl, fun e => absurd e h0, fun _ => rfl, fun _ e => False.elim e⟩
  · simp only [hr, decide_false, sumE, sS]
    exact ⟨readyE c i, zeroC, rfl, fun e => absurd e hr, fun _ => rfl, fun e => False.elim e⟩

/-! ### Leader -/
def leadL (reps : List RT) (down : List Bool) : Nat → List RT → Int → Bool → Int × Bool
  | _, [], b, f => (b, f)
  | i, r :: l, b, f =>
    if decide (r.role = 2) && !(down[i]?.getD false) && (!f || decide (r.term > (reps[b.toNat]?.getD zeroR).term)) then leadL reps down (i + 1) l (i : Int) true else leadL reps down (i + 1) l b f

def leaderC (c : CT) : Int × Bool := if chkC c = true then leadL c.reps c.down 0 c.reps 0 false else (0, false)

theorem leadL_spec (reps : List RT) (down : List Bool) : ∀ (l : List RT) (i : Nat) (b : Int) (f : Bool), reps.drop i = l → (f = true → 0 ≤ b ∧ b < (reps.length : Int) ∧ (reps[b.toNat]?.getD zeroR).role = 2 ∧ (down[b.toNat]?.getD false) = false) →
    (leadL reps down i l b f).2 = true → 0 ≤ (leadL reps down i l b f).1 ∧ (leadL reps down i l b f).1 < (reps.length : Int) ∧ (reps[(leadL reps down i l b f).1.toNat]?.getD zeroR).role = 2 ∧ (down[(leadL reps down i l b f).1.toNat]?.getD false) = false := by
  intro l
  induction l with
  | nil => intro i b f _ hf h; exact hf h
  | cons r l ih =>
    intro i b f hd hf h
    have hi : reps[i]? = some r := by
      have := congrArg (fun l => l[0]?) hd
      simpa using this
    have hd' : reps.drop (i + 1) = l := by
      rw [← List.drop_drop, hd]; rfl
    unfold leadL at h ⊢
    split at h
    · rename_i hc
      rw [if_pos hc]
      refine ih (i + 1) (i : Int) true hd' (fun _ => ?_) h
      simp only [Bool.and_eq_true, Bool.not_eq_true', decide_eq_true_eq] at hc
      have := (List.getElem?_eq_some_iff.1 hi).1
      refine ⟨by omega, by omega, ?_, ?_⟩
      · rw [Int.toNat_natCast, hi]; exact hc.1.1
      · rw [Int.toNat_natCast]; exact hc.1.2
    · rename_i hc
      rw [if_neg hc]
      exact ih (i + 1) b f hd' hf h

theorem leader_spec {c : CT} (h : (leaderC c).2 = true) : VC c ∧ 0 ≤ (leaderC c).1 ∧ (leaderC c).1 < (c.reps.length : Int) ∧ (repAt c (leaderC c).1).role = 2 ∧ downAt c (leaderC c).1 = false := by
  unfold leaderC at h ⊢
  split at h
  · rename_i hc
    rw [if_pos hc]
    exact ⟨chkC_iff.1 hc, leadL_spec c.reps c.down c.reps 0 0 false rfl (fun h => by cases h) h⟩
  · cases h

theorem loop43 (reps : List RT) (wire : List MT) (down : List Bool) (cut : List CutT) (hs : ShC (cl reps wire down cut)) (V : VC (cl reps wire down cut)) : ∀ (k i : Nat) (b : Int) (f : Bool), i + k = reps.length → 0 ≤ b → b < (reps.length : Int) →
    loopT l43_0_3 (((i : Int), b, f, ()), ((cl reps wire down cut, ()), ())) = some (((leadL reps down i (reps.drop i) b f).2, (leadL reps down i (reps.drop i) b f).1, ()), ()) := by
  have hck := chkC_iff.2 V
  have hdn : down.length = reps.length := V.dn
  have hrl : reps.length ≤ 5 := V.n5
  intro k
  induction k with
  | zero =>
    intro i b f h _ _
    rw [List.drop_eq_nil_of_le (by omega)]
    refine loopT_inr ?_
    have : ¬ (i : Int) < (reps.length : Int) := by omega
    simp only [l43_0_3, decide_eq_false this, sumE, sS, leadL]
  | succ k ih =>
    intro i b f h b0 b1
    obtain ⟨e, he, hd⟩ := drop_at (l := reps) (i := i) (by omega)
    obtain ⟨d, hde⟩ := getD_some (l := down) (i := i) (by omega)
    obtain ⟨x, hx⟩ := getD_some (l := reps) (i := b.toNat) (by omega)
    have hlt : (i : Int) < (reps.length : Int) := by omega
    rw [hd]
    unfold leadL
    rw [hde, hx]
    simp only [Option.getD_some]
    have e71 := m15_eq (cl reps wire down cut) hs
    rw [hck] at e71
    have yes_ : loopT l43_0_3 (((i : Int), b, f, ()), ((cl reps wire down cut, ()), ())) = loopT l43_0_3 ((((i + 1 : Nat) : Int), (if decide (e.role = 2) && !d && (!f || decide (e.term > x.term)) then (i : Int) else b), (if decide (e.role = 2) && !d && (!f || decide (e.term > x.term)) then true else f), ()), ((cl reps wire down cut, ()), ())) := by
      refine loopT_inl ?_
      rcases Bool.eq_false_or_eq_true (decide (e.role = 2)) with h1 | h1
      · cases d
        · cases f
          · simp only [l43_0_3, decide_eq_true hlt, sumE, sS, e71, rowAt_G, rowG_nat he, rowG_nat hde, rowG_int b0 hx, beq_decide, h1, w64_nat (show i ≤ 4294967296 by omega), Bool.true_or, if_true]
          · rcases Bool.eq_false_or_eq_true (decide (e.term > x.term)) with h2 | h2
            · simp only [l43_0_3, decide_eq_true hlt, sumE, sS, e71, rowAt_G, rowG_nat he, rowG_nat hde, rowG_int b0 hx, beq_decide, h1, h2, w64_nat (show i ≤ 4294967296 by omega), Bool.false_or, if_true]
            · simp only [l43_0_3, decide_eq_true hlt, sumE, sS, e71, rowAt_G, rowG_nat he, rowG_nat hde, rowG_int b0 hx, beq_decide, h1, h2, w64_nat (show i ≤ 4294967296 by omega), Bool.false_or, Bool.false_eq_true, if_false]
        · simp only [l43_0_3, decide_eq_true hlt, sumE, sS, e71, rowAt_G, rowG_nat he, rowG_nat hde, rowG_int b0 hx, beq_decide, h1, w64_nat (show i ≤ 4294967296 by omega), Bool.false_eq_true, if_false]
      · simp only [l43_0_3, decide_eq_true hlt, sumE, sS, e71, rowAt_G, rowG_nat he, rowG_nat hde, rowG_int b0 hx, beq_decide, h1, w64_nat (show i ≤ 4294967296 by omega), Bool.false_eq_true, if_false]
    rw [yes_]
    split
    · exact ih (i + 1) (i : Int) true (by omega) (by omega) (by omega)
    · exact ih (i + 1) b f (by omega) b0 b1

theorem m43_eq (c : CT) (hs : ShC c) : m43 ((c, ()), ()) = some (((leaderC c).1, (leaderC c).2, ()), ()) := by
  obtain ⟨reps, wire, down, cut, ⟨⟩⟩ := c
  unfold m43 leaderC
  simp only []
  cases hc : chkC (reps, wire, down, cut, PUnit.unit)
  · rw [show loopT l43_0_3 ((0, (0, (false, ()))), (((reps, wire, down, cut, PUnit.unit), ()), ())) = some ((false, 0, ()), ()) from ?_]
    · rfl
    · have e71 := m15_eq (cl reps wire down cut) hs
      rw [show chkC (cl reps wire down cut) = false from hc] at e71
      refine loopT_inr ?_
      by_cases h : (0 : Int) < (reps.length : Int)
      · simp only [l43_0_3, decide_eq_true h, sumE, sS, e71]
      · simp only [l43_0_3, decide_eq_false h, sumE, sS]
  · have V := chkC_iff.1 hc
    have h1 : 1 ≤ reps.length := V.n1
    have := loop43 reps wire down cut hs V reps.length 0 0 false (by omega) (Int.le_refl _) (by omega)
    rw [List.drop_zero] at this
    rw [show loopT l43_0_3 ((0, (0, (false, ()))), (((reps, wire, down, cut, PUnit.unit), ()), ())) = _ from this]
    rfl

end Go.Proofs.YtfbikpbejkgegaaGreat

namespace Go.Proofs.YtfbikpbejkgegaaGreat
open Go Go.Abs Go.Raft
abbrev Dice := List Int × Int × Unit

def DOK (d : Dice) : Prop := 0 ≤ d.2.1 ∧ d.2.1 ≤ d.1.length ∧ d.1.length ≤ 500

theorem next_spec (n : Int) (d : Dice) (hd : DOK d) (hn : n ≤ 9223372036854775807) :
    ∃ (r : Int) (d' : Dice), m17 ((n, ()), ((d, ()), ())) = some ((r, ()), ((d', ()), ())) ∧ DOK d' ∧ (1 ≤ n → 0 ≤ r ∧ r < n) ∧ (n < 1 → r = 0) := by
  obtain ⟨l, at_, u⟩ := d
  obtain ⟨h1, h2, h3⟩ := hd
  simp only at h1 h2 h3
  unfold m17
  simp only [rowAt_G]
  by_cases c1 : at_ ≥ (l.length : Int)
  · refine ⟨0, (l, at_, ()), ?_, ⟨h1, h2, h3⟩, fun h => ⟨by omega, by omega⟩, fun _ => rfl⟩
    simp only [decide_eq_true c1, sumE, sS]
  · by_cases c2 : n < 1
    · refine ⟨0, (l, at_, ()), ?_, ⟨h1, h2, h3⟩, fun h => ⟨by omega, by omega⟩, fun _ => rfl⟩
      simp only [decide_eq_false c1, decide_eq_true c2, sumE, sS]
    · have hat : w64 (at_ + 1) = at_ + 1 := w64_id (by omega) (by omega)
      have hne : n ≠ 0 := by omega
      obtain ⟨e, he⟩ := getD_some (l := l) (i := at_.toNat) (by omega)
      have hb := Int.tmod_lt_of_pos e (show (0 : Int) < n by omega)
      have hb2 : -n < e.tmod n := by
        have := Int.lt_tmod_of_pos e (show (0 : Int) < n by omega)
        omega
      by_cases c3 : e.tmod n < 0
      · refine ⟨e.tmod n + n, (l, at_ + 1, ()), ?_, ⟨by simp only; omega, by simp only; omega, h3⟩, fun h => ⟨by omega, by omega⟩, fun h => by omega⟩
        simp only [decide_eq_false c1, decide_eq_false c2, sumE, sS, rowG_int h1 he, decide_eq_true hne, decide_eq_true c3, hat, w64_id (x := e.tmod n + n) (by omega) (by omega)]
      · refine ⟨e.tmod n, (l, at_ + 1, ()), ?_, ⟨by simp only; omega, by simp only; omega, h3⟩, fun h => ⟨by omega, by omega⟩, fun h => by omega⟩
        simp only [decide_eq_false c1, decide_eq_false c2, sumE, sS, rowG_int h1 he, decide_eq_true hne, decide_eq_false c3, hat]

theorem one_spec (l : List Int) (d : Dice) (hd : DOK d) (h0 : 0 < l.length) (h1 : l.length ≤ 4294967296) :
    ∃ (r : Int) (d' : Dice), m52 ((l, ()), ((d, ()), ())) = some ((r, ()), ((d', ()), ())) ∧ DOK d' ∧ r ∈ l := by
  obtain ⟨n, d', e1, e2, e3, _⟩ := next_spec l.length d hd (by omega)
  obtain ⟨hn0, hn1⟩ := e3 (by omega)
  obtain ⟨r, hr⟩ := getD_some (l := l) (i := n.toNat) (by omega)
  refine ⟨r, d', ?_, e2, List.mem_of_getElem? hr⟩
  unfold m52
  simp only [e1, Option.bind_some, rowAt_G, rowG_int hn0 hr]

theorem bind_ex {A B : Type} {o : Option A} {f : A → Option B} {P : A → Prop} {Q : B → Prop} (h : ∃ a, o = some a ∧ P a) (h2 : ∀ a, P a → ∃ b, f a = some b ∧ Q b) : ∃ b, o.bind f = some b ∧ Q b := by
  obtain ⟨a, rfl, ha⟩ := h
  exact h2 a ha

/-! ### The wire grows by few messages -/
theorem wb_stand {c : CT} {i : Int} : (standC c i).2.wire.length ≤ c.wire.length + 5 := by
  unfold standC
  have := stand_len (c.reps.length : Int) (repAt c i)
  dsimp only
  repeat' split
  all_goals first | exact Nat.zero_le _ | (show (c.wire ++ (stand (c.reps.length : Int) (repAt c i)).2.2).length ≤ _; rw [List.length_append]; omega)

theorem wb_beat {c : CT} {i : Int} : (beatC c i).2.wire.length ≤ c.wire.length + 5 := by
  unfold beatC
  have := appends_len (c.reps.length : Int) (repAt c i)
  dsimp only
  repeat' split
  all_goals first | exact Nat.zero_le _ | (show (c.wire ++ appendsE (c.reps.length : Int) (repAt c i)).length ≤ _; rw [List.length_append]; omega)

theorem wb_propose {c : CT} {i : Int} {o : OpT} : (proposeC c i o).2.wire.length ≤ c.wire.length + 5 := by
  unfold proposeC
  dsimp only
  repeat' split
  all_goals first | exact Nat.zero_le _ | exact Nat.le_add_right _ _

theorem cutOut_le (l : List MT) (k : Nat) : (cutOut l k).length ≤ l.length := by
  unfold cutOut
  rw [List.length_append, List.length_take, List.length_drop]; omega

theorem wb_deliver {c : CT} {k : Int} : (deliverC c k).2.wire.length ≤ c.wire.length + 5 := by
  unfold deliverC
  have := cutOut_le c.wire k.toNat
  split
  · simp only
    split
    · exact Nat.le_trans this (Nat.le_add_right _ _)
    · show (cutOut c.wire k.toNat ++ _).length ≤ _
      rw [List.length_append]
      split
      · simp only [List.length_singleton]; omega
      · simp only [List.length_nil]; omega
  · exact Nat.zero_le _

theorem wb_drop {c : CT} {k : Int} : (dropC c k).2.wire.length ≤ c.wire.length + 5 := by
  unfold dropC
  have := cutOut_le c.wire k.toNat
  split
  · exact Nat.le_trans this (Nat.le_add_right _ _)
  · exact Nat.zero_le _

theorem wb_double {c : CT} {k : Int} : (doubleC c k).2.wire.length ≤ c.wire.length + 5 := by
  unfold doubleC
  repeat' split
  all_goals first | exact Nat.zero_le _ | (show (c.wire ++ _).length ≤ _; rw [List.length_append, List.length_singleton]; omega)

theorem wb_crash {c : CT} {i : Int} : (crashC c i).2.wire.length ≤ c.wire.length + 5 := by
  unfold crashC
  repeat' split
  all_goals first | exact Nat.zero_le _ | exact Nat.le_add_right _ _

theorem wb_restart {c : CT} {i : Int} : (restartC c i).2.wire.length ≤ c.wire.length + 5 := by
  unfold restartC
  repeat' split
  all_goals first | exact Nat.zero_le _ | exact Nat.le_add_right _ _

theorem wb_cut {c : CT} {i j : Int} : (cutC c i j).2.wire.length ≤ c.wire.length + 5 := by
  unfold cutC
  repeat' split
  all_goals first | exact Nat.zero_le _ | exact Nat.le_add_right _ _

theorem wb_heal {c : CT} : (healC c).wire.length ≤ c.wire.length + 5 := by
  unfold healC
  split
  · exact Nat.le_add_right _ _
  · exact Nat.zero_le _

/-- What a step of the dice leaves. -/
def ActP (c0 : CT) (b : Unit × ((Dice × Unit) × (CT × Unit) × Unit)) : Prop := ∃ (c : CT) (d : Dice), b = ((), ((d, ()), ((c, ()), ()))) ∧ CG c ∧ c.reps.length = c0.reps.length ∧ DOK d ∧ (∀ T, TB c0 T → TB c (T + 1)) ∧ c.wire.length ≤ c0.wire.length + 5

theorem m53_ok {c : CT} (h : CG c) {d : Dice} (hd : DOK d) : ∃ b, m53 ((c, ()), ((d, ()), ())) = some b ∧ ActP c b := by
  have n1 := h.n1; have n5 := h.n5; have wl := h.wl
  have hs := h.sh
  unfold m53
  obtain ⟨i, d1, e1, hd1, b1, _⟩ := next_spec c.reps.length d hd (by omega)
  have b1 := b1 (by omega)
  simp only []
  rw [show m17 (((c.1.length : Int), ()), ((d, ()), ())) = _ from e1]
  simp only [Option.bind_some]
  refine bind_ex (P := fun v => ∃ (i : Int) (d : Dice), v = ((i, ()), ((d, ()), (u2, ((c, ()), ())))) ∧ 0 ≤ i ∧ i < (c.reps.length : Int) ∧ DOK d) ?_ ?_
  · simp only [m43_eq c hs, Option.bind_some]
    cases hl : (leaderC c).2
    · simp only [sumE, sS]
      exact ⟨_, rfl, i, d1, rfl, b1.1, b1.2, hd1⟩
    · obtain ⟨n, d2, e2, hd2, b2, _⟩ := next_spec 3 d1 hd1 (by omega)
      have hk := leader_spec hl
      simp only [sumE, sS, e2]
      by_cases hn : n > 0
      · simp only [decide_eq_true hn, sumE, sS]
        exact ⟨_, rfl, _, d2, rfl, hk.2.1, hk.2.2.1, hd2⟩
      · simp only [decide_eq_false hn, sumE, sS]
        exact ⟨_, rfl, _, d2, rfl, b1.1, b1.2, hd2⟩
  clear e1 hd1
  rintro _ ⟨i, d1, rfl, i0, i1, hd1⟩
  obtain ⟨k, d2, e2, hd2, _, _⟩ := next_spec c.wire.length d1 hd1 (by omega)
  simp only []
  rw [show m17 (((c.2.1.length : Int), ()), ((d1, ()), ())) = _ from e2]
  simp only [Option.bind_some]
  refine bind_ex (P := fun v => ∃ (k : Int) (d : Dice), v = ((i, (k, ())), ((d, ()), (u2, ((c, ()), ())))) ∧ DOK d) ?_ ?_
  · obtain ⟨n, d3, e3, hd3, _, _⟩ := next_spec 2 d2 hd2 (by omega)
    simp only [e3, Option.bind_some, beq_decide]
    by_cases hn : n = 0
    · simp only [decide_eq_true hn, sumE, sS]
      exact ⟨_, rfl, 0, d3, rfl, hd3⟩
    · simp only [decide_eq_false hn, sumE, sS]
      exact ⟨_, rfl, k, d3, rfl, hd3⟩
  clear e2 hd2 hd1
  rintro _ ⟨k, d1, rfl, hd1⟩
  refine bind_ex (P := fun v => ∃ (e : Int) (d : Dice) (x : CT), v = ((e, ()), ((d, ()), (u2, ((c, ()), ((x, ()), ()))))) ∧ DOK d ∧ (e = 0 → CG x ∧ x.reps.length = c.reps.length ∧ (∀ T, TB c T → TB x (T + 1)) ∧ x.wire.length ≤ c.wire.length + 5)) ?_ ?_
  · obtain ⟨n, d2, e2, hd2, b2, _⟩ := next_spec 16 d1 hd1 (by omega)
    have b2 := b2 (by omega)
    simp only [e2, Option.bind_some, beq_decide]
    have hn : n = 0 ∨ n = 1 ∨ n = 2 ∨ n = 3 ∨ n = 4 ∨ n = 5 ∨ n = 6 ∨ n = 7 ∨ n = 8 ∨ n = 9 ∨ n = 10 ∨ n = 11 ∨ n = 12 ∨ n = 13 ∨ n = 14 ∨ n = 15 := by omega
    have up : ∀ {x : CT} {T : Int}, TB x T → TB x (T + 1) := fun h => h.le (by omega)
    rcases hn with rfl | rfl | rfl | rfl | rfl | rfl | rfl | rfl | rfl | rfl | rfl | rfl | rfl | rfl | rfl | rfl
    · simp only [sumE, sS, m29_eq c i hs]
      exact ⟨_, rfl, _, d2, _, rfl, hd2, fun h0 => ⟨(cg_stand h h0).1, (cg_stand h h0).2, fun T hT => tb_stand h hT h0, wb_stand⟩⟩
    · obtain ⟨q, d3, e3, hd3, _, _⟩ := next_spec 60 d2 hd2 (by omega)
      simp only [Int.reduceEq, sumE, sS, e3, m31_eq c _ _ hs]
      exact ⟨_, rfl, _, d3, _, rfl, hd3, fun h0 => ⟨(cg_propose h h0).1, (cg_propose h h0).2, fun T hT => up (tb_propose h hT h0), wb_propose⟩⟩
    · obtain ⟨q, d3, e3, hd3, _, _⟩ := next_spec 60 d2 hd2 (by omega)
      simp only [Int.reduceEq, sumE, sS, e3, m31_eq c _ _ hs]
      exact ⟨_, rfl, _, d3, _, rfl, hd3, fun h0 => ⟨(cg_propose h h0).1, (cg_propose h h0).2, fun T hT => up (tb_propose h hT h0), wb_propose⟩⟩
    · simp only [Int.reduceEq, sumE, sS, m33_eq c _ hs]
      exact ⟨_, rfl, _, d2, _, rfl, hd2, fun h0 => ⟨(cg_beat h h0).1, congrArg List.length (cg_beat h h0).2, fun T hT => up (tb_beat hT h0), wb_beat⟩⟩
    · simp only [Int.reduceEq, sumE, sS, m33_eq c _ hs]
      exact ⟨_, rfl, _, d2, _, rfl, hd2, fun h0 => ⟨(cg_beat h h0).1, congrArg List.length (cg_beat h h0).2, fun T hT => up (tb_beat hT h0), wb_beat⟩⟩
    · simp only [Int.reduceEq, sumE, sS, m34_eq c _ hs]
      exact ⟨_, rfl, _, d2, _, rfl, hd2, fun h0 => ⟨(cg_deliver h h0).1, (cg_deliver h h0).2.1, fun T hT => up (tb_deliver hT h0), wb_deliver⟩⟩
    · simp only [Int.reduceEq, sumE, sS, m34_eq c _ hs]
      exact ⟨_, rfl, _, d2, _, rfl, hd2, fun h0 => ⟨(cg_deliver h h0).1, (cg_deliver h h0).2.1, fun T hT => up (tb_deliver hT h0), wb_deliver⟩⟩
    · simp only [Int.reduceEq, sumE, sS, m34_eq c _ hs]
      exact ⟨_, rfl, _, d2, _, rfl, hd2, fun h0 => ⟨(cg_deliver h h0).1, (cg_deliver h h0).2.1, fun T hT => up (tb_deliver hT h0), wb_deliver⟩⟩
    · simp only [Int.reduceEq, sumE, sS, m34_eq c _ hs]
      exact ⟨_, rfl, _, d2, _, rfl, hd2, fun h0 => ⟨(cg_deliver h h0).1, (cg_deliver h h0).2.1, fun T hT => up (tb_deliver hT h0), wb_deliver⟩⟩
    · simp only [Int.reduceEq, sumE, sS, m34_eq c _ hs]
      exact ⟨_, rfl, _, d2, _, rfl, hd2, fun h0 => ⟨(cg_deliver h h0).1, (cg_deliver h h0).2.1, fun T hT => up (tb_deliver hT h0), wb_deliver⟩⟩
    · simp only [Int.reduceEq, sumE, sS, m34_eq c _ hs]
      exact ⟨_, rfl, _, d2, _, rfl, hd2, fun h0 => ⟨(cg_deliver h h0).1, (cg_deliver h h0).2.1, fun T hT => up (tb_deliver hT h0), wb_deliver⟩⟩
    · simp only [Int.reduceEq, sumE, sS, m35_eq c _ hs]
      exact ⟨_, rfl, _, d2, _, rfl, hd2, fun h0 => ⟨(cg_drop h h0).1, congrArg List.length (cg_drop h h0).2, fun T hT => up (tb_drop hT h0), wb_drop⟩⟩
    · simp only [Int.reduceEq, sumE, sS, m36_eq c _ hs]
      exact ⟨_, rfl, _, d2, _, rfl, hd2, fun h0 => ⟨(cg_double h h0).1, congrArg List.length (cg_double h h0).2, fun T hT => up (tb_double hT h0), wb_double⟩⟩
    · simp only [Int.reduceEq, sumE, sS, m18_eq c _ hs]
      exact ⟨_, rfl, _, d2, _, rfl, hd2, fun h0 => ⟨(cg_crash h h0).1, congrArg List.length (cg_crash h h0).2, fun T hT => up (tb_crash hT h0), wb_crash⟩⟩
    · obtain ⟨q, d3, e3, hd3, _, _⟩ := next_spec c.reps.length d2 hd2 (by omega)
      simp only [Int.reduceEq, sumE, sS, e3, m39_eq c _ hs]
      exact ⟨_, rfl, _, d3, _, rfl, hd3, fun h0 => ⟨(cg_restart h h0).1, (cg_restart h h0).2, fun T hT => up (tb_restart hT h0), wb_restart⟩⟩
    · obtain ⟨q, d3, e3, hd3, _, _⟩ := next_spec 2 d2 hd2 (by omega)
      obtain ⟨h1, h2⟩ := m9_eq c hs
      simp only [Int.reduceEq, sumE, sS, h1, e3]
      by_cases hq : q = 0
      · obtain ⟨j, d4, e4, hd4, _, _⟩ := next_spec c.reps.length d3 hd3 (by omega)
        simp only [decide_eq_true hq, sumE, sS, e4, m19_eq c _ _ hs]
        exact ⟨_, rfl, _, d4, _, rfl, hd4, fun h0 => ⟨(cg_cut h h0).1, congrArg List.length (cg_cut h h0).2, fun T hT => up (tb_cut hT h0), wb_cut⟩⟩
      · simp only [decide_eq_false hq, sumE, sS]
        refine ⟨_, rfl, 0, d3, (healC c), ?_, hd3, fun _ => ⟨(cg_heal h).1, congrArg List.length (cg_heal h).2.1, fun T hT => up (tb_heal h hT), wb_heal⟩⟩
        rw [← h2]
  · rintro _ ⟨e, d2, x, rfl, hd2, hx⟩
    simp only [bne_decide]
    by_cases he : e = 0
    · simp only [he, ne_eq, not_true_eq_false, not_false_eq_true, eq_self, sumE, sS]
      exact ⟨_, rfl, x, d2, rfl, (hx he).1, (hx he).2.1, hd2, (hx he).2.2.1, (hx he).2.2.2⟩
    · simp only [he, ne_eq, not_true_eq_false, not_false_eq_true, eq_self, sumE, sS]
      exact ⟨_, rfl, c, d2, rfl, h, rfl, hd2, fun T hT => hT.le (by omega), Nat.le_add_right _ _⟩

theorem acts_ok : ∀ (k : Nat) (c : CT) (d : Dice), k ≤ 1000 → CG c → DOK d → ∃ (c' : CT) (d' : Dice), loopT l10_0_5 (((k : Int), ()), ((d, ()), ((c, ()), (u2, ())))) = some ((), ((d', ()), (u2, ((c', ()), ())))) ∧ CG c' ∧ DOK d' ∧ (∀ T, TB c T → TB c' (T + k)) ∧ c'.wire.length ≤ c.wire.length + 5 * k := by
  intro k
  induction k with
  | zero =>
    intro c d _ h hd
    refine ⟨c, d, loopT_inr ?_, h, hd, fun T hT => hT.le (by omega), Nat.le_refl _⟩
    have : ¬ ((0 : Nat) : Int) > 0 := by omega
    simp only [l10_0_5, decide_eq_false this, sumE, sS]
  | succ k ih =>
    intro c d hk h hd
    obtain ⟨b, e1, c1, d1, rfl, h1, _, hd1, ht1, hw1⟩ := m53_ok h hd
    obtain ⟨c', d', e2, h2, hd2, ht2, hw2⟩ := ih c1 d1 (by omega) h1 hd1
    refine ⟨c', d', ?_, h2, hd2, fun T hT => (ht2 _ (ht1 T hT)).le (by omega), by omega⟩
    rw [← e2]
    refine loopT_inl ?_
    have hp : ((k + 1 : Nat) : Int) > 0 := by omega
    have hw : w64 (((k + 1 : Nat) : Int) - 1) = (k : Int) := by rw [w64_id (by omega) (by omega)]; omega
    simp only [l10_0_5, decide_eq_true hp, sumE, sS, e1, hw]

theorem stand_new {n i : Int} (h1 : 1 ≤ n) (h5 : n ≤ 5) (i0 : 0 ≤ i) (i1 : i < n) : readyE (newC n) i = 0 ∧ (standC (newC n) i).1 = 0 := by
  obtain ⟨hg, hl⟩ := cg_new h1 h5
  have hr : readyE (newC n) i = 0 := ready_iff.2 ⟨hg.v, i0, by omega⟩
  refine ⟨hr, ?_⟩
  unfold standC
  have hd : downAt (newC n) i = false := by
    show ((List.replicate n.toNat false)[i.toNat]?.getD false) = false
    rw [List.getElem?_replicate]; split <;> rfl
  obtain ⟨r, e1, e1'⟩ := rep_at (c := newC n) i0 (by omega)
  have hC := (hg.v.rp _ _ e1).2
  have ht : r.term = 0 := by
    have : ((List.range n.toNat).map (rep0 : Nat → RT))[i.toNat]? = some r := e1
    simp only [List.getElem?_map, Option.map_eq_some_iff] at this
    obtain ⟨j, _, rfl⟩ := this
    rfl
  rw [if_pos hr, if_neg (by rw [hd]; simp), e1']
  simp only
  have hs : (stand ((newC n).reps.length : Int) r).1 = 0 := by
    unfold stand
    rw [if_pos (chk_iff.2 hC), if_neg (by omega)]
  have hsl := stand_len ((newC n).reps.length : Int) r
  rw [if_pos hs, if_neg]
  show ¬ (([] : List MT).length + _ > 256)
  simp only [List.length_nil]; omega

theorem m10_okw (n : Int) (hn0 : 0 ≤ n) (hn : n ≤ 100) {d : Dice} (hd : DOK d) : ∃ (c : CT) (d' : Dice), m10 ((n, ()), ((d, ()), ())) = some ((), ((d', ()), ((c, ()), ()))) ∧ CG c ∧ DOK d' ∧ TB c (n + 1) ∧ (c.wire.length : Int) ≤ 5 * n := by
  obtain ⟨q, d1, e1, hd1, hq⟩ := one_spec [3, 3, 2, 5, 1] d hd (by simp) (by simp)
  have hq : 1 ≤ q ∧ q ≤ 5 := by simp at hq; omega
  obtain ⟨hg, hl⟩ := cg_new hq.1 hq.2
  obtain ⟨e2, _, _⟩ := m50_eq q
  have hne : newE q = (0, newC q) := by
    unfold newE
    rw [if_neg (by rw [quorum_eq hq.1 hq.2]; omega)]
  rw [hne] at e2
  have key : ∃ b, m10 ((n, ()), ((d, ()), ())) = some b ∧ ∃ (c : CT) (d' : Dice), b = ((), ((d', ()), ((c, ()), ()))) ∧ CG c ∧ DOK d' ∧ TB c (n + 1) ∧ (c.wire.length : Int) ≤ 5 * n := by
    unfold m10
    simp only [e1, Option.bind_some, e2]
    refine bind_ex (P := fun v => ∃ (d : Dice) (c : CT), v = ((n, ()), ((d, ()), ((c, ()), (u2, ())))) ∧ DOK d ∧ CG c ∧ TB c 1 ∧ c.wire = []) ?_ ?_
    · obtain ⟨a, d2, e3, hd2, _, _⟩ := next_spec 2 d1 hd1 (by omega)
      simp only [e3, Option.bind_some, beq_decide]
      by_cases ha : a = 0
      · obtain ⟨i, d3, e4, hd3, b3, _⟩ := next_spec (newC q).reps.length d2 hd2 (by omega)
        have b3 := b3 (by omega)
        obtain ⟨s1, s2⟩ := stand_new hq.1 hq.2 b3.1 (by omega)
        obtain ⟨e, c', e5, g1, _, g3⟩ := m41_okw hg i
        have he := g3 s1 s2
        simp only [decide_eq_true ha, sumE, sS, e4]
        rw [show m41 ((((newC q).reps, ([], ((newC q).down, ([], ())))), (i, ())), ()) = _ from e5]
        exact ⟨_, rfl, d3, c', rfl, hd3, (g1 he).1, (g1 he).2.2.1 0 (tb_new q), (g1 he).2.2.2⟩
      · simp only [decide_eq_false ha, sumE, sS]
        exact ⟨_, rfl, d2, newC q, rfl, hd2, hg, (tb_new q).le (by omega), rfl⟩
    · rintro _ ⟨d2, c, rfl, hd2, hc, hT, hw0⟩
      have hw : w64 (n + 1) = n + 1 := w64_id (by omega) (by omega)
      obtain ⟨k, d3, e3, hd3, b3, _⟩ := next_spec (n + 1) d2 hd2 (by omega)
      have b3 := b3 (by omega)
      obtain ⟨c', d', e4, g1, g2, g3, g4⟩ := acts_ok k.toNat c d3 (by omega) hc hd3
      rw [Int.toNat_of_nonneg b3.1] at e4
      simp only [hw, e3, Option.bind_some]
      rw [show loopT l10_0_5 ((k, ()), ((d3, ()), ((c, ()), (((), ()), ())))) = _ from e4]
      exact ⟨_, rfl, c', d', rfl, g1, g2, (g3 _ hT).le (by omega), by rw [hw0, List.length_nil] at g4; omega⟩
  obtain ⟨b, h1, c, d', rfl, h2, h3, h4, h5⟩ := key
  exact ⟨c, d', h1, h2, h3, h4, h5⟩

end Go.Proofs.YtfbikpbejkgegaaGreat

namespace Go.Proofs.YtfbikpbejkgegaaGreat
open Go Go.Abs Go.Raft
theorem light (l : List Int) : m6 ((l, ()), ()) = some ((decide (l.length ≤ 500), ()), ()) := by
  unfold m6
  have : decide ((l.length : Int) ≤ 500) = decide (l.length ≤ 500) := by
    by_cases h : l.length ≤ 500
    · rw [decide_eq_true h, decide_eq_true (by omega)]
    · rw [decide_eq_false h, decide_eq_false (by omega)]
  rw [this]

theorem roll (l : List Int) : m8 ((l, ()), ()) = some ((), (((l, (0, ())), ()), ())) := rfl

theorem dok0 {l : List Int} (h : l.length ≤ 500) : DOK (l, 0, ()) := ⟨Int.le_refl _, by simp only; omega, h⟩

end Go.Proofs.YtfbikpbejkgegaaGreat

namespace Go.Proofs.YtfbikpbejkgegaaGreat
open Go Go.Abs Go.Raft
end Go.Proofs.YtfbikpbejkgegaaGreat

namespace Go.Proofs.YtfbikpbejkgegaaGreat
open Go Go.Abs Go.Raft
end Go.Proofs.YtfbikpbejkgegaaGreat

namespace Go.Proofs.YtfbikpbejkgegaaGreat
open Go Go.Abs Go.Raft
def newV (i n : Int) : Int × Int := if inn n 1 5 = true ∧ inn i 0 (n - 1) = true then (0, i) else (1, 0)

abbrev newI (i n : Int) : (Int × Int × Int × Int × Int × Unit) × Unit := if inn n 1 5 = true ∧ inn i 0 (n - 1) = true then ((i, 0, -1, 0, 0, ()), ()) else ((0, 0, 0, 0, 0, ()), ())

theorem m87_eq (i n : Int) : m87 ((i, n, ()), ()) = some (((newV i n).1, ()), (newI i n, ())) := by
  unfold m87
  simp only [m108_eq, Option.bind_some]
  cases h : inn n 1 5
  · simp only [sumE, sS, newV, newI, h, Bool.false_eq_true, false_and, if_false]
  · simp only [sumE, sS, w64_pred h]
    cases h2 : inn i 0 (n - 1)
    · simp only [sumE, sS, newV, newI, h2, Bool.false_eq_true, and_false, if_false]
    · simp only [sumE, sS, newV, newI, h, h2, and_self, if_true]

end Go.Proofs.YtfbikpbejkgegaaGreat

namespace Go.Proofs.YtfbikpbejkgegaaGreat
open Go Go.Abs Go.Raft
theorem m83_eq (a b c : Int) : m83 ((a, b, c, ()), ()) = some ((inn a b c, ()), ()) := by
  unfold m83 inn
  simp only []
  by_cases h : a ≥ b
  · simp only [decide_eq_true h, sumE, sS]
  · simp only [decide_eq_false h, sumE, sS]

def has (l : List CutT) (a b : Int) : Bool := l.any (fun p => decide (p.1 = a) && decide (p.2.1 = b))

theorem has_cut (l : List CutT) (a b : Int) : has l (min a b) (max a b) = isCut l a b := rfl

theorem loop134 (l : List CutT) (a b : Int) (hl : l.length ≤ 4294967295) : ∀ (k i : Nat), i + k = l.length →
    ∃ j : Int, loopT l107_0_2 (((i : Int), l, (l.length : Int), ()), (((a, b, ()), ()), ())) = some (if has (l.drop i) a b = true then .inl ((j, ()), ()) else .inr ((), ())) ∧ 0 ≤ j := by
  intro k
  induction k with
  | zero =>
    intro i h
    rw [List.drop_eq_nil_of_le (by omega)]
    refine ⟨0, loopT_inr ?_, Int.le_refl _⟩
    have : ¬ (i : Int) < (l.length : Int) := by omega
    simp only [l107_0_2, decide_eq_false this, sumE, sS, has, List.any_nil, Bool.false_eq_true, if_false]
  | succ k ih =>
    intro i h
    obtain ⟨e, he, hd⟩ := drop_at (l := l) (i := i) (by omega)
    have hlt : (i : Int) < (l.length : Int) := by omega
    rw [hd]
    unfold has
    rw [List.any_cons]
    cases hq : (decide (e.1 = a) && decide (e.2.1 = b))
    · obtain ⟨j, e1, e2⟩ := ih (i + 1) (by omega)
      refine ⟨j, ?_, e2⟩
      rw [Bool.false_or]
      refine (loopT_inl ?_).trans e1
      have hq' : (a == e.1 && (b == e.2.1 && true)) = false := by
        rw [← hq, Bool.and_true, beq_decide, beq_decide, decide_eq_decide.2 (eq_comm (a := a) (b := e.1)), decide_eq_decide.2 (eq_comm (a := b) (b := e.2.1))]
      simp only [l107_0_2, decide_eq_true hlt, sumE, sS, rowAt_G, rowG_nat he]
      rw [show (a == e.1 && (b == e.2.1)) = false by simpa using hq']
      simp only [sumE, sS, w64_nat (show i ≤ 4294967296 by omega)]
    · refine ⟨(i : Int), ?_, by omega⟩
      rw [Bool.true_or, if_pos rfl]
      refine loopT_inr ?_
      have hq' : (a == e.1 && (b == e.2.1)) = true := by
        rw [← hq, beq_decide, beq_decide, decide_eq_decide.2 (eq_comm (a := a) (b := e.1)), decide_eq_decide.2 (eq_comm (a := b) (b := e.2.1))]
      simp only [l107_0_2, decide_eq_true hlt, sumE, sS, rowAt_G, rowG_nat he]
      rw [hq']
      simp only [sumE, sS]

theorem m81_eq (l : List CutT) (a b : Int) (hl : l.length ≤ 4294967295) : m81 ((l, (a, b, ()), ()), ()) = some ((has l a b, ()), ()) := by
  unfold m81 m107
  obtain ⟨j, e, hj⟩ := loop134 l a b hl l.length 0 (by omega)
  rw [List.drop_zero] at e
  simp only []
  rw [show loopT l107_0_2 ((0, (l, ((l.length : Int), ()))), (((a, b, ()), ()), ())) = _ from e]
  cases has l a b
  · simp only [Bool.false_eq_true, if_false, sumE, sS]
    rfl
  · simp only [if_true, sumE, sS, decide_eq_true (show j ≥ 0 by omega)]

theorem loop106a (c : CT) (n : Int) (reps : List RT) (hr : ∀ r ∈ reps, Shrt r) (hl : reps.length ≤ 2147483647) : ∀ (k i : Nat), i + k = reps.length →
    loopT l44_0_5 (((i : Int), n, reps, (reps.length : Int), ()), ((c, ()), ())) = some (if repsOK n i (reps.drop i) then .inr ((n, ()), ((c, ()), ())) else .inl ((false, ()), ())) := by
  intro k
  induction k with
  | zero =>
    intro i h
    rw [List.drop_eq_nil_of_le (by omega)]
    refine loopT_inr ?_
    have : ¬ (i : Int) < (reps.length : Int) := by omega
    simp only [l44_0_5, decide_eq_false this, sumE, sS, repsOK, if_true]
  | succ k ih =>
    intro i h
    obtain ⟨e, he, hd⟩ := drop_at (l := reps) (i := i) (by omega)
    have hlt : (i : Int) < (reps.length : Int) := by omega
    have hsh := hr e (List.mem_of_getElem? he)
    rw [hd, repsOK]
    rcases Bool.eq_false_or_eq_true (decide (e.id = (i : Int))) with h1 | h1
    · cases h2 : chk n e
      · rw [h1, Bool.true_and, Bool.false_and, if_neg (by simp)]
        refine loopT_inr ?_
        simp only [l44_0_5, rowAt_G, rowG_nat he, decide_eq_true hlt, bne_decide, decide_not, h1, m84_eq n e hsh, h2, sumE, sS]
      · rw [show loopT l44_0_5 (((i : Int), n, reps, (reps.length : Int), ()), ((c, ()), ())) = loopT l44_0_5 ((((i + 1 : Nat) : Int), n, reps, (reps.length : Int), ()), ((c, ()), ())) from loopT_inl (by
          simp only [l44_0_5, rowAt_G, rowG_nat he, decide_eq_true hlt, bne_decide, decide_not, h1, m84_eq n e hsh, h2, sumE, sS, w64_nat (show i ≤ 4294967296 by omega)])]
        rw [ih (i + 1) (by omega), h1]
        simp only [sumE, sS]
    · rw [h1, Bool.false_and, Bool.false_and, if_neg (by simp)]
      refine loopT_inr ?_
      simp only [l44_0_5, rowAt_G, rowG_nat he, decide_eq_true hlt, bne_decide, decide_not, h1, sumE, sS]

theorem loop106b (c : CT) (n : Int) (wire : List MT) (hl : wire.length ≤ 2147483647) (hn : inn n 1 5 = true) : ∀ (k i : Nat), i + k = wire.length →
    loopT l44_0_11 (((i : Int), n, wire, (wire.length : Int), ()), ((c, ()), ())) = some (if wireOK n (wire.drop i) then .inr ((n, ()), ((c, ()), ())) else .inl ((false, ()), ())) := by
  intro k
  induction k with
  | zero =>
    intro i h
    rw [List.drop_eq_nil_of_le (by omega)]
    refine loopT_inr ?_
    have : ¬ (i : Int) < (wire.length : Int) := by omega
    simp only [l44_0_11, decide_eq_false this, sumE, sS, wireOK, List.all_nil, if_true]
  | succ k ih =>
    intro i h
    obtain ⟨e, he, hd⟩ := drop_at (l := wire) (i := i) (by omega)
    have hlt : (i : Int) < (wire.length : Int) := by omega
    rw [hd]
    unfold wireOK
    rw [List.all_cons]
    have hw := w64_pred hn
    have hbad : (inn e.frm 0 (n - 1) && inn e.to 0 (n - 1) && decide (e.frm ≠ e.to)) = false → l44_0_11 (((i : Int), n, wire, (wire.length : Int), ()), ((c, ()), ())) = some (.inr (.inl ((false, ()), ()))) := by
      intro hb
      cases h1 : inn e.frm 0 (n - 1)
      · simp only [l44_0_11, rowAt_G, rowG_nat he, decide_eq_true hlt, m83_eq, hw, h1, sumE, sS]
      · cases h2 : inn e.to 0 (n - 1)
        · simp only [l44_0_11, rowAt_G, rowG_nat he, decide_eq_true hlt, m83_eq, hw, h1, h2, sumE, sS]
        · rw [h1, h2] at hb
          have h3 : e.frm = e.to := by simpa using hb
          simp only [l44_0_11, rowAt_G, rowG_nat he, decide_eq_true hlt, m83_eq, hw, h1, h2, sumE, sS, h3]
    cases hq : (inn e.frm 0 (n - 1) && inn e.to 0 (n - 1) && decide (e.frm ≠ e.to))
    · rw [Bool.false_and, if_neg (by simp)]
      exact loopT_inr (hbad hq)
    · have hq' := hq
      simp only [Bool.and_eq_true, decide_eq_true_eq] at hq'
      obtain ⟨⟨h1, h2⟩, h3⟩ := hq'
      rw [show loopT l44_0_11 (((i : Int), n, wire, (wire.length : Int), ()), ((c, ()), ())) = loopT l44_0_11 ((((i + 1 : Nat) : Int), n, wire, (wire.length : Int), ()), ((c, ()), ())) from loopT_inl (by
        simp only [l44_0_11, rowAt_G, rowG_nat he, decide_eq_true hlt, m83_eq, hw, h1, h2, beq_decide, decide_eq_false h3, sumE, sS, w64_nat (show i ≤ 4294967296 by omega)])]
      rw [ih (i + 1) (by omega), Bool.true_and]
      rfl

theorem cutOK1_in (n : Int) (hn : inn n 1 5 = true) (x : CutT) : cutOK1 n x = (inn x.1 0 (n - 1) && inn x.2.1 (w64 (x.1 + 1)) (n - 1)) := by
  obtain ⟨n1, n5⟩ := inn_iff.1 hn
  unfold cutOK1
  by_cases h : 0 ≤ x.1 ∧ x.1 ≤ n - 1
  · rw [w64_id (x := x.1 + 1) (by omega) (by omega)]
    unfold inn
    rw [Bool.eq_iff_iff]
    simp only [Bool.and_eq_true, decide_eq_true_eq]
    omega
  · rw [show inn x.1 0 (n - 1) = false from Bool.eq_false_iff.2 fun e => h (inn_iff.1 e)]
    rw [Bool.eq_iff_iff]
    simp only [Bool.and_eq_true, decide_eq_true_eq, Bool.false_and, Bool.false_eq_true, iff_false]
    omega

theorem loop106c (reps : List RT) (wire : List MT) (down : List Bool) (cut : List CutT) (n : Int) (hl : cut.length ≤ 2147483647) (hn : inn n 1 5 = true) : ∀ (k i : Nat), i + k = cut.length →
    loopT l44_0_17 (((i : Int), n, cut, (cut.length : Int), ()), ((cl reps wire down cut, ()), ())) = some (if cutsOK n (cut.take i) (cut.drop i) then .inr ((), ()) else .inl ((false, ()), ())) := by
  intro k
  induction k with
  | zero =>
    intro i h
    rw [List.drop_eq_nil_of_le (by omega)]
    refine loopT_inr ?_
    have : ¬ (i : Int) < (cut.length : Int) := by omega
    simp only [l44_0_17, decide_eq_false this, sumE, sS, cutsOK, if_true]
  | succ k ih =>
    intro i h
    obtain ⟨e, he, hd⟩ := drop_at (l := cut) (i := i) (by omega)
    have hlt : (i : Int) < (cut.length : Int) := by omega
    rw [hd, cutsOK, ← take_at he]
    have b1 : (0 : Int) ≤ (i : Int) := by omega
    have b2 : 0 ≤ i ∧ i ≤ cut.length := by omega
    have b3 : (cut.take i).length ≤ 4294967295 := by simp; omega
    have hw := w64_pred hn
    rw [cutOK1_in n hn]
    cases h1 : inn e.1 0 (n - 1)
    · simp only [sumE, sS, Bool.false_eq_true, if_false]
      refine loopT_inr ?_
      simp only [l44_0_17, rowAt_G, rowG_nat he, decide_eq_true hlt, m83_eq, hw, h1, sumE, sS]
    · cases h2 : inn e.2.1 (w64 (e.1 + 1)) (n - 1)
      · simp only [sumE, sS, Bool.false_eq_true, if_false]
        refine loopT_inr ?_
        simp only [l44_0_17, rowAt_G, rowG_nat he, decide_eq_true hlt, m83_eq, hw, h1, h2, sumE, sS]
      · have hcut : isCut (cut.take i) e.1 e.2.1 = has (cut.take i) e.1 e.2.1 := by
          obtain ⟨a1, a2⟩ := inn_iff.1 h1
          obtain ⟨a3, a4⟩ := inn_iff.1 h2
          obtain ⟨n1, n5⟩ := inn_iff.1 hn
          rw [w64_id (x := e.1 + 1) (by omega) (by omega)] at a3
          rw [← has_cut, show min e.1 e.2.1 = e.1 by omega, show max e.1 e.2.1 = e.2.1 by omega]
        rw [hcut]
        cases h4 : has (cut.take i) e.1 e.2.1
        · rw [show loopT l44_0_17 (((i : Int), n, cut, (cut.length : Int), ()), ((cl reps wire down cut, ()), ())) = loopT l44_0_17 ((((i + 1 : Nat) : Int), n, cut, (cut.length : Int), ()), ((cl reps wire down cut, ()), ())) from loopT_inl (by
            simp only [l44_0_17, rowAt_G, rowG_nat he, decide_eq_true hlt, m83_eq, hw, h1, h2, sumE, sS, decide_eq_true b1]
            simp only [Int.toNat_natCast, b2, and_self, decide_true, cond_true]
            rw [show m81 ((cut.take i, (e, ())), ()) = _ from m81_eq (cut.take i) e.1 e.2.1 b3]
            simp only [h4, w64_nat (show i ≤ 4294967296 by omega), sumE, sS])]
          rw [ih (i + 1) (by omega)]
          simp only [sumE, sS]
        · simp only [sumE, sS, Bool.false_eq_true, if_false]
          refine loopT_inr ?_
          simp only [l44_0_17, rowAt_G, rowG_nat he, decide_eq_true hlt, m83_eq, hw, h1, h2, sumE, sS, decide_eq_true b1]
          simp only [Int.toNat_natCast, b2, and_self, decide_true, cond_true]
          rw [show m81 ((cut.take i, (e, ())), ()) = _ from m81_eq (cut.take i) e.1 e.2.1 b3]
          simp only [h4, sumE, sS]

theorem m44_eq (c : CT) (hs : ShC c) : m44 ((c, ()), ()) = some ((chkC c, ()), ()) := by
  obtain ⟨reps, wire, down, cut, ⟨⟩⟩ := c
  unfold m44 chkC
  have l1 := loop106a (cl reps wire down cut) reps.length reps hs.r hs.rl reps.length 0 (by omega)
  have l2 := fun h => loop106b (cl reps wire down cut) reps.length wire hs.wl h wire.length 0 (by omega)
  have l3 := fun h => loop106c reps wire down cut reps.length hs.cl h cut.length 0 (by omega)
  rw [List.drop_zero] at l1
  simp only [List.drop_zero, List.take_zero] at l2 l3
  simp only [CT.reps, CT.wire, CT.down, CT.cut, m83_eq, Option.bind_some]
  cases hn : inn (reps.length : Int) 1 5
  · simp only [sumE, sS]
  simp only [sumE, sS]
  by_cases hd : down.length = reps.length
  · have : ((down.length : Int) != (reps.length : Int)) = false := by rw [hd]; simp
    simp only [this, decide_eq_true hd, sumE, sS]
    by_cases hw : wire.length ≤ 256
    · have : ¬ (wire.length : Int) > 256 := by omega
      simp only [decide_eq_false this, decide_eq_true hw, sumE, sS]
      rw [show loopT l44_0_5 ((0, ((reps.length : Int), (reps, ((reps.length : Int), ())))), (((reps, wire, down, cut, PUnit.unit), ()), ())) = _ from l1]
      cases repsOK reps.length 0 reps
      · simp only [Bool.false_eq_true, if_false, sumE, sS]
      simp only [if_true, sumE, sS]
      rw [show loopT l44_0_11 ((0, ((reps.length : Int), (wire, ((wire.length : Int), ())))), ((cl reps wire down cut, ()), ())) = _ from l2 hn]
      cases wireOK reps.length wire
      · simp only [Bool.false_eq_true, if_false, sumE, sS]
      simp only [if_true, sumE, sS]
      rw [show loopT l44_0_17 ((0, ((reps.length : Int), (cut, ((cut.length : Int), ())))), ((cl reps wire down cut, ()), ())) = _ from l3 hn]
      cases cutsOK reps.length [] cut
      · simp only [Bool.false_eq_true, if_false, sumE, sS]
      · simp only [if_true, sumE, sS]
    · have : (wire.length : Int) > 256 := by omega
      simp only [decide_eq_true this, decide_eq_false hw, sumE, sS]
  · have : ((down.length : Int) != (reps.length : Int)) = true := by rw [bne_decide, decide_eq_true_eq]; omega
    simp only [this, decide_eq_false hd, sumE, sS]

theorem m62_eq (c : CT) (i : Int) (n : Nat) (hn : n ≤ 2147483647) (hs : ShC c) : m62 ((c, i, (n : Int), ()), ()) = some ((if chkC c = true then (if inn i 0 ((n : Int) - 1) = true then 0 else 3) else 8, ()), ()) := by
  unfold m62
  simp only [m44_eq c hs, Option.bind_some, w64_len hn, m83_eq]
  cases chkC c
  · simp only [sumE, sS, Bool.false_eq_true, if_false]
  · cases h : inn i 0 ((n : Int) - 1)
    · simp only [sumE, sS, Bool.false_eq_true, if_false, if_true]
    · simp only [sumE, sS, if_true]

theorem m62_r (c : CT) (i : Int) (hs : ShC c) : m62 ((c, i, (c.reps.length : Int), ()), ()) = some ((readyE c i, ()), ()) := m62_eq c i c.reps.length hs.rl hs

theorem m62_w (c : CT) (k : Int) (hs : ShC c) : m62 ((c, k, (c.wire.length : Int), ()), ()) = some ((wireE c k, ()), ()) := m62_eq c k c.wire.length hs.wl hs

theorem m55_eq (c : CT) (i : Int) (hs : ShC c) : m55 ((c, i, ()), ()) = some ((if readyE c i = 0 then (if downAt c i = true then 21 else 0) else readyE c i, ()), ()) := by
  unfold m55
  simp only [m62_r c i hs]
  simp only [Option.bind_some, bne_decide, decide_not]
  by_cases hr : readyE c i = 0
  · obtain ⟨V, i0, i1⟩ := ready_iff.1 hr
    have hdl := V.dn
    obtain ⟨d, e2, e2'⟩ := down_at (c := c) i0 (by omega)
    rw [e2']
    simp only [hr, decide_true, sumE, sS, if_true, rowAt_G, rowG_int i0 e2]
    cases d
    · simp only [sumE, sS, Bool.false_eq_true, if_false]
    · simp only [sumE, sS, if_true]
  · simp only [hr, decide_false, sumE, sS, if_false]

theorem m56_eq (c : CT) (hs : ShC c) : m56 ((c, ()), ()) = some ((), oC c) := by
  unfold m56
  obtain ⟨reps, wire, down, cut, ⟨⟩⟩ := c
  obtain ⟨s1, s2, s3, s4, s5, s6⟩ := hs
  simp only [CT.reps, CT.wire, CT.down, CT.cut] at s1 s2 s3 s4 s5 s6
  have a1 : reps.length ≤ 4294967296 := by omega
  have a2 : wire.length ≤ 4294967296 := by omega
  have a3 : down.length ≤ 4294967296 := by omega
  have a4 : cut.length ≤ 4294967296 := by omega
  simp only [m90, m91, m92, m93, a1, a2, a3, a4, decide_true, cond_true, Option.bind_some]
  have l1 := loop_up (f := l56_0_3) (fun i => (((i : Int), (reps.length : Int), ()), (u2, (u2, (reps, (wire, (down, (cut, ())))))))) ((), (u2, (u2, (reps, (wire, (down, (cut, ()))))))) reps.length (fun i hi => by
    obtain ⟨e, he⟩ := getD_some hi
    have hlt : (i : Int) < (reps.length : Int) := by omega
    have h2 : (0 : Int) ≤ (i : Int) ∧ (i : Int) < (reps.length : Int) := by omega
    simp only [l56_0_3, hlt, h2, and_self, decide_true, sumE, sS, Int.toNat_natCast, he, m94_eq e (s1 e (List.mem_of_getElem? he)), hi, w64_nat (show i ≤ 4294967296 by omega)]
    rw [show reps.set i ((cpR e).2.1.1.1, (cpR e).2.1.1.2.1, (cpR e).2.1.1.2.2.1, (cpR e).2.1.1.2.2.2.1, (cpR e).2.2.1, (cpR e).2.1.1.2.2.2.2.1, (cpR e).2.2.2.1, (cpR e).2.2.2.2.1, ()) = reps from set_same he]) (by
    have : ¬ (reps.length : Int) < (reps.length : Int) := by omega
    simp only [l56_0_3, this, decide_false, sumE, sS]) reps.length 0 (by omega)
  have l2 := loop_up (f := l56_0_8) (fun i => (((i : Int), (wire.length : Int), ()), (u2, (u2, (reps, (wire, (down, (cut, ())))))))) ((), (u2, (u2, (reps, (wire, (down, (cut, ()))))))) wire.length (fun i hi => by
    obtain ⟨e, he⟩ := getD_some hi
    have hlt : (i : Int) < (wire.length : Int) := by omega
    have h2 : (0 : Int) ≤ (i : Int) ∧ (i : Int) < (wire.length : Int) := by omega
    have h3 : (e.2.2.2.2.2.2.2.1).length ≤ 4294967296 := Nat.le_trans (s3 e (List.mem_of_getElem? he)) (by omega)
    simp only [l56_0_8, hlt, h2, and_self, decide_true, sumE, sS, Int.toNat_natCast, he, m65, h3, w64_nat (show i ≤ 4294967296 by omega)]
    rw [show wire.set i (e.1, e.2.1, e.2.2.1, e.2.2.2.1, e.2.2.2.2.1, e.2.2.2.2.2.1, e.2.2.2.2.2.2.1, e.2.2.2.2.2.2.2.1, e.2.2.2.2.2.2.2.2) = wire from set_same he]) (by
    have : ¬ (wire.length : Int) < (wire.length : Int) := by omega
    simp only [l56_0_8, this, decide_false, sumE, sS]) wire.length 0 (by omega)
  rw [show loopT l56_0_3 ((0, ((reps.length : Int), ())), (((), ()), (((), ()), (reps, (wire, (down, (cut, ()))))))) = _ from l1]
  simp only [Option.bind_some]
  rw [show loopT l56_0_8 ((0, ((wire.length : Int), ())), (((), ()), (((), ()), (reps, (wire, (down, (cut, ()))))))) = _ from l2]
  simp only [Option.bind_some]

end Go.Proofs.YtfbikpbejkgegaaGreat

namespace Go.Proofs.YtfbikpbejkgegaaGreat
open Go Go.Abs Go.Raft
/-- The error of a step of a region that has to be up. -/
def upE (c : CT) (i : Int) : Int := if readyE c i = 0 then (if downAt c i = true then 21 else 0) else readyE c i

theorem m55_up (c : CT) (i : Int) (hs : ShC c) : m55 ((c, i, ()), ()) = some ((upE c i, ()), ()) := m55_eq c i hs

theorem upE_zero {c : CT} {i : Int} (h : upE c i = 0) : readyE c i = 0 ∧ downAt c i = false := by
  unfold upE at h
  split at h
  · rename_i h0
    split at h
    · omega
    · rename_i h1; exact ⟨h0, by simpa using h1⟩
  · rename_i h0; exact absurd h h0

theorem lens5 (a b c d e : Nat) : (decide (a = a) && (decide (b = b) && (decide (c = c) && (decide (d = d) && (decide (e = e) && true))))) = true := by simp

theorem m28_eq (c : CT) (i : Int) (hs : ShC c) : m28 ((c, i, ()), ()) = some (((standC c i).1, ()), oC (standC c i).2) := by
  unfold m28
  simp only [m55_up c i hs, Option.bind_some, bne_decide, decide_not]
  by_cases h : upE c i = 0
  · obtain ⟨hr, hd⟩ := upE_zero h
    unfold standC
    rw [if_pos hr, hd]
    obtain ⟨V, i0, i1⟩ := ready_iff.1 hr
    obtain ⟨r, e1, e1'⟩ := rep_at i0 i1
    rw [e1']
    have b1 : (0 : Int) ≤ i ∧ i < (c.1.length : Int) := ⟨i0, i1⟩
    have b3 : i.toNat < c.1.length := by have := b1.2; omega
    have hrs := shrt_of (V.rp _ _ e1).2
    simp only [h, decide_true, sumE, sS, m56_eq c hs, b1, and_self, e1, m69_eq (c.reps.length : Int) r hrs, Bool.false_eq_true, if_false]
    have hsl := stand_len (c.reps.length : Int) r
    have hwl := hs.wl
    by_cases h0 : (stand (c.reps.length : Int) r).1 = 0
    · have hw : w64 ((c.wire.length : Int) + ((stand (c.reps.length : Int) r).2.2.length : Int)) = (c.wire.length : Int) + ((stand (c.reps.length : Int) r).2.2.length : Int) := w64_id (by omega) (by omega)
      simp only [h0, decide_true, sumE, sS, if_true, hw, b3, lens5]
      have b2 : c.wire.length + (stand (c.reps.length : Int) r).2.2.length ≤ 4294967296 := by omega
      by_cases hg : c.wire.length + (stand (c.reps.length : Int) r).2.2.length > 256
      · have : (c.wire.length : Int) + ((stand (c.reps.length : Int) r).2.2.length : Int) > 256 := by omega
        simp only [this, hg, decide_true, sumE, sS, if_true]
      · have : ¬ (c.wire.length : Int) + ((stand (c.reps.length : Int) r).2.2.length : Int) > 256 := by omega
        simp only [this, hg, b2, decide_false, decide_true, sumE, sS, if_false]
    · simp only [h0, decide_false, sumE, sS, if_false]
  · have hst : standC c i = (upE c i, zeroC) := by
      unfold standC upE at *
      split
      · rename_i hr
        rw [if_pos hr] at h
        split
        · rfl
        · rename_i hd; rw [if_neg hd] at h; exact absurd rfl h
      · rfl
    rw [hst]
    simp only [h, decide_false, sumE, sS]

theorem m30_eq (c : CT) (i : Int) (o : OpT) (hs : ShC c) : m30 ((c, i, o, ()), ()) = some (((proposeC c i o).1, ()), oC (proposeC c i o).2) := by
  unfold m30
  simp only [m55_up c i hs, Option.bind_some, bne_decide, decide_not]
  by_cases h : upE c i = 0
  · obtain ⟨hr, hd⟩ := upE_zero h
    unfold proposeC
    rw [if_pos hr, hd]
    obtain ⟨V, i0, i1⟩ := ready_iff.1 hr
    obtain ⟨r, e1, e1'⟩ := rep_at i0 i1
    rw [e1']
    have b1 : (0 : Int) ≤ i ∧ i < (c.1.length : Int) := ⟨i0, i1⟩
    have b3 : i.toNat < c.1.length := by have := b1.2; omega
    have hrs := shrt_of (V.rp _ _ e1).2
    simp only [h, decide_true, sumE, sS, m56_eq c hs, b1, and_self, e1, m71_eq (c.reps.length : Int) r o hrs, Bool.false_eq_true, if_false]
    by_cases h0 : (proposeE (c.reps.length : Int) r o).1 = 0
    · simp only [h0, decide_true, sumE, sS, if_true, b3]
    · simp only [h0, decide_false, sumE, sS, if_false]
  · have hst : proposeC c i o = (upE c i, zeroC) := by
      unfold proposeC upE at *
      split
      · rename_i hr
        rw [if_pos hr] at h
        split
        · rfl
        · rename_i hd; rw [if_neg hd] at h; exact absurd rfl h
      · rfl
    rw [hst]
    simp only [h, decide_false, sumE, sS]

theorem m32_eq (c : CT) (i : Int) (hs : ShC c) : m32 ((c, i, ()), ()) = some (((beatC c i).1, ()), oC (beatC c i).2) := by
  unfold m32
  simp only [m55_up c i hs, Option.bind_some, bne_decide, decide_not]
  by_cases h : upE c i = 0
  · obtain ⟨hr, hd⟩ := upE_zero h
    unfold beatC
    rw [if_pos hr, hd]
    obtain ⟨V, i0, i1⟩ := ready_iff.1 hr
    obtain ⟨r, e1, e1'⟩ := rep_at i0 i1
    rw [e1']
    have b1 : (0 : Int) ≤ i ∧ i < (c.1.length : Int) := ⟨i0, i1⟩
    have hrs := shrt_of (V.rp _ _ e1).2
    simp only [h, decide_true, sumE, sS, rowAt_G, rowG_int i0 e1]
    by_cases hl : r.role = 2
    · simp only [show r.2.2.2.1 = 2 from hl, decide_true, sumE, sS, m56_eq c hs, b1, and_self, e1, m58_eq (c.reps.length : Int) r hrs, Bool.false_eq_true, if_false, if_true]
      have hsl := appends_len (c.reps.length : Int) r
      have hwl := hs.wl
      have hw : w64 ((c.wire.length : Int) + ((appendsE (c.reps.length : Int) r).length : Int)) = (c.wire.length : Int) + ((appendsE (c.reps.length : Int) r).length : Int) := w64_id (by omega) (by omega)
      simp only [hw, lens5]
      have b2 : c.wire.length + (appendsE (c.reps.length : Int) r).length ≤ 4294967296 := by omega
      by_cases hg : c.wire.length + (appendsE (c.reps.length : Int) r).length > 256
      · have : (c.wire.length : Int) + ((appendsE (c.reps.length : Int) r).length : Int) > 256 := by omega
        simp only [this, hg, decide_true, sumE, sS, if_true]
      · have : ¬ (c.wire.length : Int) + ((appendsE (c.reps.length : Int) r).length : Int) > 256 := by omega
        simp only [this, hg, b2, decide_false, decide_true, sumE, sS, if_false]
    · simp only [show ¬ r.2.2.2.1 = 2 from hl, decide_false, sumE, sS, Bool.false_eq_true, if_false]
  · have hst : beatC c i = (upE c i, zeroC) := by
      unfold beatC upE at *
      split
      · rename_i hr
        rw [if_pos hr] at h
        split
        · rfl
        · rename_i hd; rw [if_neg hd] at h; exact absurd rfl h
      · rfl
    rw [hst]
    simp only [h, decide_false, sumE, sS]

theorem m37_eq (c : CT) (i : Int) (hs : ShC c) : m37 ((c, i, ()), ()) = some (((crashC c i).1, ()), oC (crashC c i).2) := by
  unfold m37 crashC
  simp only []
  rw [show m62 ((c, (i, ((c.1.length : Int), ()))), ()) = _ from m62_r c i hs]
  simp only [Option.bind_some, bne_decide, decide_not]
  by_cases hr : readyE c i = 0
  · obtain ⟨V, i0, i1⟩ := ready_iff.1 hr
    have hdl := V.dn
    obtain ⟨d, e2, e2'⟩ := down_at (c := c) i0 (by omega)
    rw [e2']
    have b1 : (0 : Int) ≤ i ∧ i < (c.2.2.1.length : Int) := ⟨i0, show i < (c.down.length : Int) by omega⟩
    have b3 : i.toNat < c.2.2.1.length := by have := b1.2; omega
    simp only [hr, decide_true, sumE, sS, if_true, rowAt_G, rowG_int i0 e2]
    cases d
    · simp only [sumE, sS, m56_eq c hs, b1, b3, and_self, decide_true, Bool.false_eq_true, if_false]
    · simp only [sumE, sS, if_true]
  · simp only [hr, decide_false, sumE, sS, if_false]

theorem m38_eq (c : CT) (i : Int) (hs : ShC c) : m38 ((c, i, ()), ()) = some (((restartC c i).1, ()), oC (restartC c i).2) := by
  unfold m38 restartC
  simp only []
  rw [show m62 ((c, (i, ((c.1.length : Int), ()))), ()) = _ from m62_r c i hs]
  simp only [Option.bind_some, bne_decide, decide_not]
  by_cases hr : readyE c i = 0
  · obtain ⟨V, i0, i1⟩ := ready_iff.1 hr
    have hdl := V.dn
    obtain ⟨d, e2, e2'⟩ := down_at (c := c) i0 (by omega)
    obtain ⟨r, e1, e1'⟩ := rep_at i0 i1
    rw [e2', e1']
    have b1 : (0 : Int) ≤ i ∧ i < (c.2.2.1.length : Int) := ⟨i0, show i < (c.down.length : Int) by omega⟩
    have b3 : i.toNat < c.2.2.1.length := by have := b1.2; omega
    have b2 : (0 : Int) ≤ i ∧ i < (c.1.length : Int) := ⟨i0, i1⟩
    have b4 : i.toNat < c.1.length := by have := b2.2; omega
    have hC := (V.rp _ _ e1).2
    have hrs := shrt_of hC
    simp only [hr, decide_true, sumE, sS, if_true, rowAt_G, rowG_int i0 e2]
    cases d
    · simp only [sumE, sS, Bool.false_eq_true, if_false]
    · simp only [sumE, sS, m56_eq c hs, b1, b2, b3, b4, and_self, decide_true, e1, m79_eq (c.reps.length : Int) r hrs, if_true]
      have : (restartE (c.reps.length : Int) r).2 = restartR r := by unfold restartE; rw [if_pos (chk_iff.2 hC)]
      rw [this]
      rfl
  · simp only [hr, decide_false, sumE, sS, if_false]

theorem m45_eq (c : CT) (hs : ShC c) : m45 ((c, ()), ()) = some ((), (u2, ((healC c).reps, ((healC c).wire, ((healC c).down, ()))))) ∧ (healC c).cut = [] := by
  unfold m45 healC
  simp only [m44_eq c hs, Option.bind_some]
  cases chkC c
  · simp only [sumE, sS, Bool.false_eq_true, if_false, and_self]
  · simp only [sumE, sS, if_true, m56_eq c hs, and_self]

theorem readyE_in {c : CT} (h : chkC c = true) (i : Int) : readyE c i = if inn i 0 ((c.reps.length : Int) - 1) = true then 0 else 3 := by unfold readyE; rw [if_pos h]

theorem m40_eq (c : CT) (i j : Int) (hs : ShC c) : m40 ((c, i, j, ()), ()) = some (((cutC c i j).1, ()), oC (cutC c i j).2) := by
  unfold m40 cutC
  simp only [min_if, max_if]
  rw [show m62 ((c, (min j i, ((c.1.length : Int), ()))), ()) = _ from m62_r c (min j i) hs]
  simp only [Option.bind_some, bne_decide, decide_not]
  cases hck : chkC c
  · have h8 : ∀ x, readyE c x = 8 := fun x => by unfold readyE; rw [hck]; simp
    rw [h8, h8]
    simp only [Int.reduceEq, decide_false, sumE, sS, if_false]
  · rw [readyE_in hck, readyE_in hck]
    have hcl := hs.cl
    by_cases h1 : inn i 0 ((c.reps.length : Int) - 1) = true
    · by_cases h2 : inn j 0 ((c.reps.length : Int) - 1) = true
      · obtain ⟨a1, a2⟩ := inn_iff.1 h1
        obtain ⟨a3, a4⟩ := inn_iff.1 h2
        have h3 : inn (min j i) 0 ((c.reps.length : Int) - 1) = true := inn_iff.2 ⟨by omega, by omega⟩
        rw [if_pos h1, if_pos h3, if_pos rfl, if_pos h2]
        have h4 : decide (max j i ≥ (c.1.length : Int)) = false := decide_eq_false (show ¬ max j i ≥ (c.reps.length : Int) by omega)
        simp only [decide_true, sumE, sS, h4, beq_decide]
        by_cases h5 : i = j
        · rw [if_pos h5, decide_eq_true h5]
          simp only [sumE, sS]
        · rw [if_neg h5, decide_eq_false h5]
          have e108 := m81_eq c.cut (min j i) (max j i) (by omega)
          rw [has_cut, isCut_comm] at e108
          simp only [sumE, sS]
          rw [show m81 ((c.2.2.2.1, ((min j i, (max j i, ())), ())), ()) = _ from e108]
          cases isCut c.cut i j
          · simp only [sumE, sS, m56_eq c hs, Bool.false_eq_true, if_false]
            rw [show decide (c.2.2.2.1.length + ([(min j i, (max j i, ()))] : List CutT).length ≤ 4294967296) = true from decide_eq_true (show c.cut.length + _ ≤ _ by simp only [List.length_singleton]; omega)]
            simp only [sumE, sS, show min j i = min i j by omega, show max j i = max i j by omega]
          · simp only [sumE, sS, if_true]
      · rw [if_pos h1, if_pos rfl, if_neg h2]
        by_cases h3 : inn (min j i) 0 ((c.reps.length : Int) - 1) = true
        · rw [if_pos h3]
          obtain ⟨a1, a2⟩ := inn_iff.1 h1
          obtain ⟨a3, a4⟩ := inn_iff.1 h3
          have h4 : decide (max j i ≥ (c.1.length : Int)) = true := decide_eq_true (show max j i ≥ (c.reps.length : Int) by
            have : ¬ (0 ≤ j ∧ j ≤ (c.reps.length : Int) - 1) := fun e => h2 (inn_iff.2 e)
            omega)
          simp only [decide_true, sumE, sS, h4]
        · rw [if_neg h3]
          simp only [Int.reduceEq, decide_false, sumE, sS]
    · rw [if_neg h1]
      simp only [Int.reduceEq, if_false]
      by_cases h3 : inn (min j i) 0 ((c.reps.length : Int) - 1) = true
      · rw [if_pos h3]
        obtain ⟨a3, a4⟩ := inn_iff.1 h3
        have h4 : decide (max j i ≥ (c.1.length : Int)) = true := decide_eq_true (show max j i ≥ (c.reps.length : Int) by
          have : ¬ (0 ≤ i ∧ i ≤ (c.reps.length : Int) - 1) := fun e => h1 (inn_iff.2 e)
          omega)
        simp only [decide_true, sumE, sS, h4]
      · rw [if_neg h3]
        simp only [Int.reduceEq, decide_false, sumE, sS]

theorem m21_eq (c : CT) (k : Int) (hs : ShC c) : m21 ((c, k, ()), ()) = some (((dropC c k).1, ()), oC (dropC c k).2) := by
  unfold m21 dropC
  simp only []
  rw [show m62 ((c, (k, ((c.2.1.length : Int), ()))), ()) = _ from m62_w c k hs]
  simp only [Option.bind_some, bne_decide, decide_not]
  by_cases hr : wireE c k = 0
  · obtain ⟨V, k0, k1⟩ := wire_iff.1 hr
    have hwl := V.wl
    have hw : w64 (k + 1) = k + 1 := w64_id (by omega) (by omega)
    have b1 : (0 : Int) ≤ k ∧ k < k + 1 ∧ k + 1 ≤ (c.2.1.length : Int) ∧ c.2.1.length ≤ 4294967296 := ⟨k0, by omega, show k + 1 ≤ (c.wire.length : Int) by omega, show c.wire.length ≤ _ by omega⟩
    simp only [hr, decide_true, sumE, sS, if_true, m56_eq c hs, hw]
    rw [show decide ((0 : Int) ≤ k ∧ k < k + 1 ∧ k + 1 ≤ (c.2.1.length : Int) ∧ c.2.1.length ≤ 4294967296) = true from decide_eq_true b1]
    simp only [sumE, sS, decide_true]
    unfold cutOut
    rw [show (k + 1).toNat = k.toNat + 1 by omega]
  · simp only [hr, decide_false, sumE, sS, if_false]

theorem m22_eq (c : CT) (k : Int) (hs : ShC c) : m22 ((c, k, ()), ()) = some (((doubleC c k).1, ()), oC (doubleC c k).2) := by
  unfold m22 doubleC
  simp only []
  rw [show m62 ((c, (k, ((c.2.1.length : Int), ()))), ()) = _ from m62_w c k hs]
  simp only [Option.bind_some, bne_decide, decide_not]
  by_cases hr : wireE c k = 0
  · obtain ⟨V, k0, k1⟩ := wire_iff.1 hr
    have hwl := V.wl
    obtain ⟨m, e1, e1'⟩ := wire_at k0 k1
    rw [e1']
    have b1 : (0 : Int) ≤ k ∧ k < (c.2.1.length : Int) := ⟨k0, k1⟩
    have hme : m.2.2.2.2.2.2.2.1.length ≤ 4294967296 := Nat.le_trans (hs.w m (List.mem_of_getElem? e1)) (by omega)
    have hw : w64 ((c.2.1.length : Int) + 1) = (c.2.1.length : Int) + 1 := w64_id (show _ ≤ (c.wire.length : Int) + 1 by omega) (show (c.wire.length : Int) + 1 ≤ _ by omega)
    simp only [hr, decide_true, sumE, sS, if_true, m56_eq c hs, b1, and_self, e1, m65, hme, List.length_singleton, Int.natCast_one, Int.ofNat_eq_natCast]
    have hwlc : c.wire.length = c.2.1.length := rfl
    by_cases hg : c.wire.length ≥ 256
    · have h1 : (c.wire.length : Int) + 1 > 256 := by omega
      simp only [hw, h1, hg, decide_true, sumE, sS, if_true]
    · have h1 : ¬ (c.wire.length : Int) + 1 > 256 := by omega
      have h2 : c.wire.length + 1 ≤ 4294967296 := by omega
      simp only [hw, h1, h2, hg, decide_true, decide_false, sumE, sS, if_false]
  · simp only [hr, decide_false, sumE, sS, if_false]

theorem lens4 (a b c d : Nat) : (decide (a = a) && (decide (b = b) && (decide (c = c) && (decide (d = d) && true)))) = true := by simp

theorem m20_eq (c : CT) (k : Int) (hs : ShC c) : m20 ((c, k, ()), ()) = some (((deliverC c k).1, ()), oC (deliverC c k).2) := by
  unfold m20 deliverC
  simp only [min_if, max_if]
  rw [show m62 ((c, (k, ((c.2.1.length : Int), ()))), ()) = _ from m62_w c k hs]
  simp only [Option.bind_some, bne_decide, decide_not]
  by_cases hr : wireE c k = 0
  · obtain ⟨V, k0, k1⟩ := wire_iff.1 hr
    have hwl := V.wl
    obtain ⟨m, e1, e1'⟩ := wire_at k0 k1
    rw [e1']
    have hmm := List.mem_of_getElem? e1
    obtain ⟨f0, f1, t0, t1, hft⟩ := V.wm m hmm
    have hme := hs.w m hmm
    have hdn := V.dn
    obtain ⟨r, e2, e2'⟩ := rep_at t0 t1
    obtain ⟨d, e3, e3'⟩ := down_at (c := c) t0 (by omega)
    rw [e2', e3']
    have hrs := shrt_of (V.rp _ _ e2).2
    have hw : w64 (k + 1) = k + 1 := w64_id (by omega) (by omega)
    have b1 : decide ((0 : Int) ≤ k ∧ k < k + 1 ∧ k + 1 ≤ (c.2.1.length : Int) ∧ c.2.1.length ≤ 4294967296) = true := decide_eq_true ⟨k0, by omega, show k + 1 ≤ (c.wire.length : Int) by omega, show c.wire.length ≤ _ by omega⟩
    have b8 : decide ((0 : Int) ≤ k ∧ k < (c.2.1.length : Int)) = true := decide_eq_true ⟨k0, k1⟩
    have hcl := hs.cl
    have e108 := m81_eq c.cut (min m.to m.frm) (max m.to m.frm) (by omega)
    rw [has_cut, isCut_comm] at e108
    have t2 : decide ((0 : Int) ≤ m.2.2.1 ∧ m.2.2.1 < (c.1.length : Int)) = true := decide_eq_true ⟨t0, t1⟩
    have t4 : decide ((0 : Int) ≤ m.2.2.1 ∧ m.2.2.1 < (c.2.2.1.length : Int)) = true := decide_eq_true ⟨t0, show m.to < (c.down.length : Int) by omega⟩
    have t3 : decide (m.2.2.1.toNat < c.1.length) = true := decide_eq_true (show m.to.toNat < c.reps.length by omega)
    have e3x : c.2.2.1[m.2.2.1.toNat]? = some d := e3
    have e2x : c.1[m.2.2.1.toNat]? = some r := e2
    have hW : c.2.1.take k.toNat ++ c.2.1.drop (k + 1).toNat = cutOut c.wire k.toNat := by unfold cutOut; rw [show (k + 1).toNat = k.toNat + 1 by omega]
    have hWl : (cutOut c.wire k.toNat).length ≤ 1000 := by unfold cutOut; simp; omega
    simp only [hr, decide_true, sumE, sS, if_true, m56_eq c hs, hw, b8, e1, b1, hW, t4, e3x, beq_decide]
    have e24 := m115_eq (c.reps.length : Int) r m hrs
    have e36 := m116_eq (c.reps.length : Int) r m hrs
    have e47 := m117_eq (c.reps.length : Int) r m hrs hme
    have e44 := m118_eq (c.reps.length : Int) r m hrs
    have hh := hear_ents (c.reps.length : Int) r m
    have ha := accept_ents (c.reps.length : Int) r m
    have e108' : m81 ((c.2.2.2.1, ((min m.2.2.1 m.2.1, (max m.2.2.1 m.2.1, ())), ())), ()) = some ((isCut c.cut m.frm m.to, ()), ()) := e108
    generalize cutOut c.wire k.toNat = W at hWl
    have hap : ∀ x : MT, decide (W.length + [x].length ≤ 4294967296) = true := by intro x; simp; omega
    by_cases q1 : m.1 = 1
    · have hA : hearAny (c.reps.length : Int) r m = hear (c.reps.length : Int) r m := by unfold hearAny; rw [if_pos q1]
      rw [hA]
      simp only [q1, decide_true, sumE, sS]
      cases d
      · simp only [sumE, sS, e108']
        cases isCut c.cut m.frm m.to
        · simp only [sumE, sS, t2, t3, e2x, e24, Bool.false_eq_true, or_self, if_false]
          cases hb : (hear (c.reps.length : Int) r m).2.2
          · simp only [sumE, sS, List.length_set, lens4, Bool.false_eq_true, if_false, List.append_nil]
          · simp only [sumE, sS, hap, List.length_set, lens4, if_true]
            rw [← re_nil _ hh]
        · simp only [sumE, sS, lens4, or_true, if_true]
      · simp only [sumE, sS, lens4, true_or, if_true]
    by_cases q2 : m.1 = 2
    · have hA : hearAny (c.reps.length : Int) r m = (voted (c.reps.length : Int) r m, zeroM, false) := by unfold hearAny; rw [if_neg q1, if_pos q2]
      rw [hA]
      simp only [Int.reduceEq, q1, q2, decide_true, decide_false, sumE, sS]
      cases d
      · simp only [sumE, sS, e108']
        cases isCut c.cut m.frm m.to
        · simp only [sumE, sS, t2, t3, e2x, e36, List.length_set, lens4, Bool.false_eq_true, or_self, if_false, List.append_nil]
        · simp only [sumE, sS, lens4, or_true, if_true]
      · simp only [sumE, sS, lens4, true_or, if_true]
    by_cases q3 : m.1 = 3
    · have hA : hearAny (c.reps.length : Int) r m = accept (c.reps.length : Int) r m := by unfold hearAny; rw [if_neg q1, if_neg q2, if_pos q3]
      rw [hA]
      simp only [Int.reduceEq, q1, q2, q3, decide_true, decide_false, sumE, sS]
      cases d
      · simp only [sumE, sS, e108']
        cases isCut c.cut m.frm m.to
        · simp only [sumE, sS, t2, t3, e2x, e47, Bool.false_eq_true, or_self, if_false]
          cases hb : (accept (c.reps.length : Int) r m).2.2
          · simp only [sumE, sS, List.length_set, lens4, Bool.false_eq_true, if_false, List.append_nil]
          · simp only [sumE, sS, hap, List.length_set, lens4, if_true]
            rw [← re_nil _ ha]
        · simp only [sumE, sS, lens4, or_true, if_true]
      · simp only [sumE, sS, lens4, true_or, if_true]
    by_cases q4 : m.1 = 4
    · have hA : hearAny (c.reps.length : Int) r m = (appended (c.reps.length : Int) r m, zeroM, false) := by unfold hearAny; rw [if_neg q1, if_neg q2, if_neg q3, if_pos q4]
      rw [hA]
      simp only [Int.reduceEq, q1, q2, q3, q4, decide_true, decide_false, sumE, sS]
      cases d
      · simp only [sumE, sS, e108']
        cases isCut c.cut m.frm m.to
        · simp only [sumE, sS, t2, t3, e2x, e44, List.length_set, lens4, Bool.false_eq_true, or_self, if_false, List.append_nil]
        · simp only [sumE, sS, lens4, or_true, if_true]
      · simp only [sumE, sS, lens4, true_or, if_true]
    · have hA : hearAny (c.reps.length : Int) r m = (r, zeroM, false) := by unfold hearAny; rw [if_neg q1, if_neg q2, if_neg q3, if_neg q4]
      rw [hA]
      simp only [q1, q2, q3, q4, decide_false, sumE, sS, lens4]
      have hset : c.1.set m.2.2.1.toNat r = c.1 := set_same e2x
      split
      · rfl
      · simp only [Bool.false_eq_true, if_false, List.append_nil]
        rw [show c.reps.set m.to.toNat r = c.reps from hset]
  · simp only [hr, decide_false, sumE, sS, if_false]

end Go.Proofs.YtfbikpbejkgegaaGreat

namespace Go.Proofs.YtfbikpbejkgegaaGreat
open Go Go.Abs Go.Raft
/-! ### New -/
theorem m49_eq (n : Int) : m49 ((n, ()), ()) = some (((newE n).1, ()), (u2, ((newE n).2.reps, ((newE n).2.down, ())))) ∧ (newE n).2.wire = [] ∧ (newE n).2.cut = [] := by
  unfold m49 newE
  simp only [m83_eq, Option.bind_some]
  cases hq : inn n 1 5
  · have : quorum n = 0 := by have := inn_quorum n; rw [hq] at this; simpa using this
    simp only [this, sumE, sS, if_true, CT.reps, CT.wire, CT.down, CT.cut, cl, and_self]
  · have hq0 : ¬ quorum n = 0 := by have := inn_quorum n; rw [hq] at this; simpa using this
    obtain ⟨n1, n5⟩ := inn_iff.1 hq
    have b1 : decide ((0 : Int) ≤ n ∧ n ≤ n ∧ n ≤ 4294967296) = true := decide_eq_true (by omega)
    simp only [b1, sumE, sS, if_neg hq0]
    refine ⟨?_, rfl, rfl⟩
    have hN : (n.toNat : Int) = n := by omega
    rw [show loopT l49_0_5 ((0, (n, (n, ()))), (((), ()), (((), ()), ([], ((List.replicate n.toNat false), ()))))) = some ((), (u2, (u2, ((List.range n.toNat).map rep0, ((List.replicate n.toNat false), ()))))) from loop_up (fun i => (((i : Int), n, n, ()), (u2, (u2, ((List.range i).map rep0, ((List.replicate n.toNat false), ())))))) _ n.toNat (fun i hi => by
      have hlt : (i : Int) < n := by omega
      have h3 : ∀ x : RT, decide (((List.range i).map (rep0 : Nat → RT)).length + [x].length ≤ 4294967296) = true := by intro x; simp; omega
      have hI : newI (i : Int) n = (((i : Int), 0, -1, 0, 0, ()), ()) := by
        unfold newI
        rw [if_pos ⟨hq, inn_iff.2 (by omega)⟩]
      rw [List.range_succ, List.map_append]
      simp only [l49_0_5, decide_eq_true hlt, m87_eq (i : Int) n, hI, h3, sumE, sS, w64_nat (show i ≤ 4294967296 by omega), List.map_cons, List.map_nil, rep0, rp]) (by
      have : ¬ (n.toNat : Int) < n := by omega
      simp only [l49_0_5, decide_eq_false this, sumE, sS]) n.toNat 0 (by omega)]
    simp only [Option.bind_some, newC, CT.reps, CT.down]

/-! ### Leader -/
theorem loop98 (c : CT) (V : VC c) : ∀ (k i : Nat) (b : Int) (f : Bool), i + k = c.reps.length → 0 ≤ b → b < (c.reps.length : Int) →
    loopT l42_0_5 (((i : Int), b, f, c.reps, (c.reps.length : Int), ()), ((c, ()), ())) = some (((leadL c.reps c.down i (c.reps.drop i) b f).2, (leadL c.reps c.down i (c.reps.drop i) b f).1, ()), ()) := by
  have hdn : c.down.length = c.reps.length := V.dn
  have hrl : c.reps.length ≤ 5 := V.n5
  intro k
  induction k with
  | zero =>
    intro i b f h _ _
    rw [List.drop_eq_nil_of_le (by omega)]
    refine loopT_inr ?_
    have : ¬ (i : Int) < (c.reps.length : Int) := by omega
    simp only [l42_0_5, decide_eq_false this, sumE, sS, leadL]
  | succ k ih =>
    intro i b f h b0 b1
    obtain ⟨e, he, hd⟩ := drop_at (l := c.reps) (i := i) (by omega)
    obtain ⟨d, hde⟩ := getD_some (l := c.down) (i := i) (by omega)
    obtain ⟨x, hx⟩ := getD_some (l := c.reps) (i := b.toNat) (by omega)
    have hlt : (i : Int) < (c.reps.length : Int) := by omega
    rw [hd]
    unfold leadL
    rw [hde, hx]
    simp only [Option.getD_some]
    have yes_ : loopT l42_0_5 (((i : Int), b, f, c.reps, (c.reps.length : Int), ()), ((c, ()), ())) = loopT l42_0_5 ((((i + 1 : Nat) : Int), (if decide (e.role = 2) && !d && (!f || decide (e.term > x.term)) then (i : Int) else b), (if decide (e.role = 2) && !d && (!f || decide (e.term > x.term)) then true else f), c.reps, (c.reps.length : Int), ()), ((c, ()), ())) := by
      refine loopT_inl ?_
      rcases Bool.eq_false_or_eq_true (decide (e.role = 2)) with h1 | h1
      · cases d
        · cases f
          · simp only [l42_0_5, decide_eq_true hlt, sumE, sS, rowAt_G, rowG_nat he, rowG_nat hde, rowG_int b0 hx, beq_decide, h1, w64_nat (show i ≤ 4294967296 by omega), Bool.true_or, if_true]
          · rcases Bool.eq_false_or_eq_true (decide (e.term > x.term)) with h2 | h2
            · simp only [l42_0_5, decide_eq_true hlt, sumE, sS, rowAt_G, rowG_nat he, rowG_nat hde, rowG_int b0 hx, beq_decide, h1, h2, w64_nat (show i ≤ 4294967296 by omega), Bool.false_or, if_true]
            · simp only [l42_0_5, decide_eq_true hlt, sumE, sS, rowAt_G, rowG_nat he, rowG_nat hde, rowG_int b0 hx, beq_decide, h1, h2, w64_nat (show i ≤ 4294967296 by omega), Bool.false_or, Bool.false_eq_true, if_false]
        · simp only [l42_0_5, decide_eq_true hlt, sumE, sS, rowAt_G, rowG_nat he, rowG_nat hde, rowG_int b0 hx, beq_decide, h1, w64_nat (show i ≤ 4294967296 by omega), Bool.false_eq_true, if_false]
      · cases d
        · simp only [l42_0_5, decide_eq_true hlt, sumE, sS, rowAt_G, rowG_nat he, rowG_nat hde, rowG_int b0 hx, beq_decide, h1, w64_nat (show i ≤ 4294967296 by omega), Bool.false_eq_true, if_false]
        · simp only [l42_0_5, decide_eq_true hlt, sumE, sS, rowAt_G, rowG_nat he, rowG_nat hde, rowG_int b0 hx, beq_decide, h1, w64_nat (show i ≤ 4294967296 by omega), Bool.false_eq_true, if_false]
    rw [yes_]
    split
    · exact ih (i + 1) (i : Int) true (by omega) (by omega) (by omega)
    · exact ih (i + 1) b f (by omega) b0 b1

theorem m42_eq (c : CT) (hs : ShC c) : m42 ((c, ()), ()) = some (((leaderC c).1, (leaderC c).2, ()), ()) := by
  unfold m42 leaderC
  simp only [m44_eq c hs, Option.bind_some]
  cases hc : chkC c
  · simp only [sumE, sS, Bool.false_eq_true, if_false]
  · have V := chkC_iff.1 hc
    have h1 : 1 ≤ c.reps.length := V.n1
    have := loop98 c V c.reps.length 0 0 false (by omega) (Int.le_refl _) (by omega)
    rw [List.drop_zero] at this
    simp only [sumE, sS, if_true]
    rw [show loopT l42_0_5 ((0, (0, (false, (c.1, ((c.1.length : Int), ()))))), ((c, ()), ())) = _ from this]
    simp only [Option.bind_some]

/-! ### Agreed -/
def agL : List RT → List OpT → List OpT
  | [], out => out
  | r :: l, out => agL l (if (committed r).length > out.length then committed r else out)

def agreedC (c : CT) : List OpT := if chkC c = true then agL c.reps [] else []

theorem loop66 (reps : List RT) (hl : reps.length ≤ 2147483647) (hr : ∀ r ∈ reps, r.log.length ≤ 4294967295) : ∀ (k i : Nat) (out : List OpT), i + k = reps.length →
    loopT l47_0_5 (((i : Int), reps, (reps.length : Int), ()), (out, ())) = some ((), (agL (reps.drop i) out, ())) := by
  intro k
  induction k with
  | zero =>
    intro i out h
    rw [List.drop_eq_nil_of_le (by omega)]
    refine loopT_inr ?_
    have : ¬ (i : Int) < (reps.length : Int) := by omega
    simp only [l47_0_5, decide_eq_false this, sumE, sS, agL]
  | succ k ih =>
    intro i out h
    obtain ⟨e, he, hd⟩ := drop_at (l := reps) (i := i) (by omega)
    have hlt : (i : Int) < (reps.length : Int) := by omega
    rw [hd, agL, ← ih (i + 1) _ (by omega)]
    refine loopT_inl ?_
    simp only [l47_0_5, decide_eq_true hlt, sumE, sS, rowAt_G, rowG_nat he, m85_eq e (hr e (List.mem_of_getElem? he))]
    by_cases hg : (committed e).length > out.length
    · have : ((committed e).length : Int) > (out.length : Int) := by omega
      simp only [decide_eq_true this, if_pos hg, sumE, sS, w64_nat (show i ≤ 4294967296 by omega)]
    · have : ¬ ((committed e).length : Int) > (out.length : Int) := by omega
      simp only [decide_eq_false this, if_neg hg, sumE, sS, w64_nat (show i ≤ 4294967296 by omega)]

theorem m47_eq (c : CT) (hs : ShC c) : m47 ((c, ()), ()) = some ((), (agreedC c, ())) := by
  unfold m47 agreedC
  simp only [m44_eq c hs, Option.bind_some]
  cases hc : chkC c
  · simp only [sumE, sS, Bool.false_eq_true, if_false]
  · have := loop66 c.reps hs.rl (fun r hr => (hs.r r hr).1) c.reps.length 0 [] (by omega)
    rw [List.drop_zero] at this
    simp only [sumE, sS, if_true]
    rw [show loopT l47_0_5 ((0, (c.1, ((c.1.length : Int), ()))), ([], ())) = _ from this]
    simp only [Option.bind_some]

/-! ### Settle -/
abbrev sC (c : CT) : (Unit × Unit) × (Unit × Unit) × List RT × List MT × List Bool × List CutT × Unit := (u2, (u2, (c.reps, (c.wire, (c.down, (c.cut, ()))))))

theorem drain_step {c : CT} (hs : ShC c) (V : VC c) (hne : c.wire ≠ []) : l14_1_1 ((), sC c) = some (.inl ((), sC (deliverC c 0).2)) := by
  have hl := List.length_pos_iff.2 hne
  have k1 : (0 : Int) < (c.wire.length : Int) := by omega
  have hr : wireE c 0 = 0 := wire_iff.2 ⟨V, Int.le_refl _, k1⟩
  have hwl := V.wl
  unfold deliverC
  rw [if_pos hr]
  obtain ⟨m, e1, e1'⟩ := wire_at (Int.le_refl (0 : Int)) k1
  rw [e1']
  have hmm := List.mem_of_getElem? e1
  obtain ⟨f0, f1, t0, t1, hft⟩ := V.wm m hmm
  have hme := hs.w m hmm
  have hdn := V.dn
  obtain ⟨r, e2, e2'⟩ := rep_at t0 t1
  obtain ⟨d, e3, e3'⟩ := down_at (c := c) t0 (by omega)
  dsimp only
  rw [e2', e3']
  have hrs := shrt_of (V.rp _ _ e2).2
  have b1 : decide ((0 : Int) ≤ 0 ∧ (0 : Int) < 1 ∧ (1 : Int) ≤ (c.2.1.length : Int) ∧ c.2.1.length ≤ 4294967296) = true := decide_eq_true ⟨by omega, by omega, show (1 : Int) ≤ (c.wire.length : Int) by omega, show c.wire.length ≤ _ by omega⟩
  have b8 : decide ((0 : Int) ≤ 0 ∧ (0 : Int) < (c.2.1.length : Int)) = true := decide_eq_true ⟨by omega, k1⟩
  have b9 : decide ((c.2.1.length : Int) > 0) = true := decide_eq_true k1
  have hcl := hs.cl
  have e108 := m81_eq c.cut (min m.to m.frm) (max m.to m.frm) (by omega)
  rw [has_cut, isCut_comm] at e108
  have t2 : decide ((0 : Int) ≤ m.2.2.1 ∧ m.2.2.1 < (c.1.length : Int)) = true := decide_eq_true ⟨t0, t1⟩
  have t4 : decide ((0 : Int) ≤ m.2.2.1 ∧ m.2.2.1 < (c.2.2.1.length : Int)) = true := decide_eq_true ⟨t0, show m.to < (c.down.length : Int) by omega⟩
  have t3 : decide (m.2.2.1.toNat < c.1.length) = true := decide_eq_true (show m.to.toNat < c.reps.length by omega)
  have e3x : c.2.2.1[m.2.2.1.toNat]? = some d := e3
  have e2x : c.1[m.2.2.1.toNat]? = some r := e2
  have e1x : c.2.1[0]? = some m := e1
  have hW : c.2.1.take 0 ++ c.2.1.drop 1 = cutOut c.wire (0 : Int).toNat := rfl
  have hWl : (cutOut c.wire (0 : Int).toNat).length ≤ 1000 := by unfold cutOut; simp; omega
  have hX : ∀ x : (Unit × Unit) × (Unit × Unit) × List RT × List MT × List Bool × List CutT × Unit, x.2.2.1 = x.2.2.1 := fun _ => rfl
  simp only [l14_1_1, sC, min_if, max_if, b9, b8, b1, e1x, decide_true, sumE, sS, hW, t4, e3x, beq_decide]
  have e24 := m115_eq (c.reps.length : Int) r m hrs
  have e36 := m116_eq (c.reps.length : Int) r m hrs
  have e47 := m117_eq (c.reps.length : Int) r m hrs hme
  have e44 := m118_eq (c.reps.length : Int) r m hrs
  have hh := hear_ents (c.reps.length : Int) r m
  have ha := accept_ents (c.reps.length : Int) r m
  have e108' : m81 ((c.2.2.2.1, ((min m.2.2.1 m.2.1, (max m.2.2.1 m.2.1, ())), ())), ()) = some ((isCut c.cut m.frm m.to, ()), ()) := e108
  generalize cutOut c.wire (0 : Int).toNat = W at hWl
  have hap : ∀ x : MT, decide (W.length + [x].length ≤ 4294967296) = true := by intro x; simp; omega
  by_cases q1 : m.1 = 1
  · have hA : hearAny (c.reps.length : Int) r m = hear (c.reps.length : Int) r m := by unfold hearAny; rw [if_pos q1]
    rw [hA]
    simp only [q1, decide_true, sumE, sS]
    cases d
    · simp only [sumE, sS, e108']
      cases isCut c.cut m.frm m.to
      · simp only [sumE, sS, t2, t3, e2x, e24, Bool.false_eq_true, or_self, if_false]
        cases hb : (hear (c.reps.length : Int) r m).2.2
        · simp only [sumE, sS, List.length_set, lens4, Bool.false_eq_true, if_false, List.append_nil]
        · simp only [sumE, sS, hap, List.length_set, lens4, if_true]
          rw [← re_nil _ hh]
      · simp only [sumE, sS, lens4, or_true, if_true]
    · simp only [sumE, sS, lens4, true_or, if_true]
  by_cases q2 : m.1 = 2
  · have hA : hearAny (c.reps.length : Int) r m = (voted (c.reps.length : Int) r m, zeroM, false) := by unfold hearAny; rw [if_neg q1, if_pos q2]
    rw [hA]
    simp only [Int.reduceEq, q1, q2, decide_true, decide_false, sumE, sS]
    cases d
    · simp only [sumE, sS, e108']
      cases isCut c.cut m.frm m.to
      · simp only [sumE, sS, t2, t3, e2x, e36, List.length_set, lens4, Bool.false_eq_true, or_self, if_false, List.append_nil]
      · simp only [sumE, sS, lens4, or_true, if_true]
    · simp only [sumE, sS, lens4, true_or, if_true]
  by_cases q3 : m.1 = 3
  · have hA : hearAny (c.reps.length : Int) r m = accept (c.reps.length : Int) r m := by unfold hearAny; rw [if_neg q1, if_neg q2, if_pos q3]
    rw [hA]
    simp only [Int.reduceEq, q1, q2, q3, decide_true, decide_false, sumE, sS]
    cases d
    · simp only [sumE, sS, e108']
      cases isCut c.cut m.frm m.to
      · simp only [sumE, sS, t2, t3, e2x, e47, Bool.false_eq_true, or_self, if_false]
        cases hb : (accept (c.reps.length : Int) r m).2.2
        · simp only [sumE, sS, List.length_set, lens4, Bool.false_eq_true, if_false, List.append_nil]
        · simp only [sumE, sS, hap, List.length_set, lens4, if_true]
          rw [← re_nil _ ha]
      · simp only [sumE, sS, lens4, or_true, if_true]
    · simp only [sumE, sS, lens4, true_or, if_true]
  by_cases q4 : m.1 = 4
  · have hA : hearAny (c.reps.length : Int) r m = (appended (c.reps.length : Int) r m, zeroM, false) := by unfold hearAny; rw [if_neg q1, if_neg q2, if_neg q3, if_pos q4]
    rw [hA]
    simp only [Int.reduceEq, q1, q2, q3, q4, decide_true, decide_false, sumE, sS]
    cases d
    · simp only [sumE, sS, e108']
      cases isCut c.cut m.frm m.to
      · simp only [sumE, sS, t2, t3, e2x, e44, List.length_set, lens4, Bool.false_eq_true, or_self, if_false, List.append_nil]
      · simp only [sumE, sS, lens4, or_true, if_true]
    · simp only [sumE, sS, lens4, true_or, if_true]
  · have hA : hearAny (c.reps.length : Int) r m = (r, zeroM, false) := by unfold hearAny; rw [if_neg q1, if_neg q2, if_neg q3, if_neg q4]
    rw [hA]
    simp only [q1, q2, q3, q4, decide_false, sumE, sS, lens4]
    have hset : c.1.set m.2.2.1.toNat r = c.1 := set_same e2x
    split
    · rfl
    · simp only [Bool.false_eq_true, if_false, List.append_nil]
      rw [show c.reps.set m.to.toNat r = c.reps from hset]

theorem l62_same : l14_4_1 = l14_1_1 := rfl

end Go.Proofs.YtfbikpbejkgegaaGreat

namespace Go.Proofs.YtfbikpbejkgegaaGreat
open Go Go.Abs Go.Raft
theorem stand_down {c : CT} {i : Int} (h0 : (standC c i).1 = 0) : downAt c i = false ∧ (standC c i).2.down = c.down := by
  unfold standC at h0 ⊢
  split at h0
  · rename_i hr
    rw [if_pos hr]
    split at h0
    · simp at h0
    · rename_i hd
      rw [if_neg hd]
      refine ⟨by simpa using hd, ?_⟩
      simp only at h0 ⊢
      split at h0
      · rename_i hs
        rw [if_pos hs]
        split at h0
        · simp at h0
        · rename_i hg; rw [if_neg hg]
      · rename_i hs; exact absurd h0 hs
  · rename_i hr; exact absurd h0 hr

end Go.Proofs.YtfbikpbejkgegaaGreat

namespace Go.Proofs.YtfbikpbejkgegaaGreat
open Go Go.Abs Go.Raft
theorem sane34 : m7 ((), ()) = some ((true, ()), ()) := by kernel_rfl

end Go.Proofs.YtfbikpbejkgegaaGreat

namespace Go.Proofs.YtfbikpbejkgegaaGreat
open Go Go.Abs Go.Raft
theorem m23_refl (c : CT) (hs : ShC c) : m23 ((c, c, ()), ()) = some ((true, ()), ()) := by
  have hr := hs.r; have hrl := hs.rl; have hw := hs.w; have hwl := hs.wl; have hdl := hs.dl; have hcl := hs.cl
  obtain ⟨reps, wire, down, cut, ⟨⟩⟩ := c
  simp only [CT.reps, CT.wire, CT.down, CT.cut] at hr hrl hw hwl hdl hcl
  unfold m23
  simp only [sumE, sS, m67_refl wire (by omega) (fun m hm => by have := hw m hm; omega)]
  rw [show loopT l23_0_4 ((0, ()), (((reps, (wire, (down, (cut, ())))), ()), (((reps, (wire, (down, (cut, ())))), ()), ()))) = some (.inr ((), (((reps, wire, down, cut, ()), ()), (((reps, wire, down, cut, ()), ()), ())))) from loop_up (fun i => (((i : Int), ()), (((reps, wire, down, cut, ()), ()), (((reps, wire, down, cut, ()), ()), ())))) _ reps.length (fun i hi => by
    obtain ⟨e, he⟩ := getD_some (l := reps) (i := i) hi
    have hlt : (i : Int) < (reps.length : Int) := by omega
    simp only [l23_0_4, decide_eq_true hlt, sumE, sS]
    rw [rowAt_G, rowG_nat he, rowAt_G, rowG_nat he]
    simp only [m68_refl e (hr e (List.mem_of_getElem? he)), sumE, sS, w64_nat (show i ≤ 4294967296 by omega)]) (by
    have : ¬ (reps.length : Int) < (reps.length : Int) := by omega
    simp only [l23_0_4, decide_eq_false this, sumE, sS]) reps.length 0 (by omega)]
  simp only [sumE, sS]
  rw [show loopT l23_0_9 ((0, ()), (((reps, (wire, (down, (cut, ())))), ()), (((reps, (wire, (down, (cut, ())))), ()), ()))) = some (.inr ((), (((reps, wire, down, cut, ()), ()), (((reps, wire, down, cut, ()), ()), ())))) from loop_up (fun i => (((i : Int), ()), (((reps, wire, down, cut, ()), ()), (((reps, wire, down, cut, ()), ()), ())))) _ down.length (fun i hi => by
    obtain ⟨e, he⟩ := getD_some (l := down) (i := i) hi
    have hlt : (i : Int) < (down.length : Int) := by omega
    simp only [l23_0_9, decide_eq_true hlt, sumE, sS]
    rw [rowAt_G, rowG_nat he, rowAt_G, rowG_nat he]
    simp only [sumE, sS, w64_nat (show i ≤ 4294967296 by omega)]) (by
    have : ¬ (down.length : Int) < (down.length : Int) := by omega
    simp only [l23_0_9, decide_eq_false this, sumE, sS]) down.length 0 (by omega)]
  simp only [sumE, sS]
  rw [show loopT l23_0_14 ((0, ()), (((reps, (wire, (down, (cut, ())))), ()), (((reps, (wire, (down, (cut, ())))), ()), ()))) = some (.inr ((), ())) from loop_up (fun i => (((i : Int), ()), (((reps, wire, down, cut, ()), ()), (((reps, wire, down, cut, ()), ()), ())))) _ cut.length (fun i hi => by
    obtain ⟨e, he⟩ := getD_some (l := cut) (i := i) hi
    have hlt : (i : Int) < (cut.length : Int) := by omega
    simp only [l23_0_14, decide_eq_true hlt, sumE, sS]
    rw [rowAt_G, rowG_nat he, rowAt_G, rowG_nat he]
    simp only [sumE, sS, w64_nat (show i ≤ 4294967296 by omega)]) (by
    have : ¬ (cut.length : Int) < (cut.length : Int) := by omega
    simp only [l23_0_14, decide_eq_false this, sumE, sS]) cut.length 0 (by omega)]
  simp only [sumE, sS]

end Go.Proofs.YtfbikpbejkgegaaGreat

namespace Go.Proofs.YtfbikpbejkgegaaGreat
open Go Go.Abs Go.Raft
/-- A valid cluster with messages of bounded size. -/
structure GV (c : CT) : Prop where
  v : VC c
  we : ∀ m ∈ c.wire, m.ents.length ≤ 256

theorem GV.sh {c : CT} (h : GV c) : ShC c := h.v.sh fun m hm => by have := h.we m hm; omega

theorem CG.gv {c : CT} (h : CG c) : GV c := ⟨h.v, h.we⟩

theorem fol_id (r : RT) (t : Int) : (fol r t).id = r.id := by unfold fol; split <;> rfl

theorem any_id (n : Int) (r : RT) (m : MT) : (hearAny n r m).1.id = r.id := by
  unfold hearAny
  split
  · unfold hear; split
    · unfold hearR fol vote; dsimp only; repeat' split
      all_goals rfl
    · rfl
  split
  · unfold voted votedR fol lead; dsimp only; repeat' split
    all_goals rfl
  split
  · unfold accept back; dsimp only; repeat' split
    all_goals first | rfl | exact fol_id r _
  split
  · unfold appended appendedR fol; dsimp only; repeat' split
    all_goals rfl
  · rfl

theorem any_chk {n : Int} {r : RT} (m : MT) (h : Chk n r) : Chk n (hearAny n r m).1 := by
  unfold hearAny
  split
  · exact chk_hear h
  split
  · exact chk_voted h
  split
  · exact chk_accept h
  split
  · exact chk_appended h
  · exact h

theorem VC.set {c : CT} (h : VC c) {i : Nat} {r r' : RT} (hi : c.reps[i]? = some r) (hid : r'.id = r.id) (hC : Chk (c.reps.length : Int) r') {w : List MT} (hw : ∀ m ∈ w, 0 ≤ m.frm ∧ m.frm < (c.reps.length : Int) ∧ 0 ≤ m.to ∧ m.to < (c.reps.length : Int) ∧ m.frm ≠ m.to) (hwl : w.length ≤ 256) : VC (cl (c.reps.set i r') w c.down c.cut) := by
  have hl : (c.reps.set i r').length = c.reps.length := List.length_set
  refine ⟨by show 1 ≤ (c.reps.set i r').length; rw [hl]; exact h.n1, by show (c.reps.set i r').length ≤ 5; rw [hl]; exact h.n5, by show c.down.length = (c.reps.set i r').length; rw [hl]; exact h.dn, hwl, ?_, ?_, by show cutsOK ((c.reps.set i r').length : Int) [] c.cut = true; rw [hl]; exact h.cs⟩
  · intro j x hj
    have hj : (c.reps.set i r')[j]? = some x := hj
    show _ ∧ Chk ((c.reps.set i r').length : Int) x
    rw [hl]
    by_cases hij : i = j
    · subst hij
      rw [List.getElem?_set_self (List.getElem?_eq_some_iff.1 hi).1] at hj
      cases hj
      exact ⟨by rw [hid]; exact (h.rp i r hi).1, hC⟩
    · rw [List.getElem?_set_ne hij] at hj
      exact h.rp j x hj
  · intro m hm
    show _ ∧ m.frm < ((c.reps.set i r').length : Int) ∧ _ ∧ m.to < ((c.reps.set i r').length : Int) ∧ _
    rw [hl]
    exact hw m hm

theorem gv_deliver {c : CT} (h : GV c) (hne : c.wire ≠ []) : (deliverC c 0).1 = 0 ∧ GV (deliverC c 0).2 ∧ (deliverC c 0).2.reps.length = c.reps.length ∧ weight (deliverC c 0).2.wire < weight c.wire ∧ (deliverC c 0).2.down = c.down ∧ (deliverC c 0).2.cut = c.cut := by
  have h0 := deliver_zero h.v hne
  refine ⟨h0, ?_⟩
  unfold deliverC at h0 ⊢
  split at h0
  · rename_i hr
    rw [if_pos hr]
    obtain ⟨V, k0, k1⟩ := wire_iff.1 hr
    obtain ⟨m, e1, e1'⟩ := wire_at k0 k1
    rw [e1']
    have hmm := List.mem_of_getElem? e1
    obtain ⟨f0, f1, t0, t1, hft⟩ := V.wm m hmm
    have hwl := V.wl
    have hcl := cutOut_len (l := c.wire) (k := (0 : Int).toNat) (by simp; omega)
    have hwt := weight_cut e1
    simp only
    split
    · refine ⟨⟨⟨V.n1, V.n5, V.dn, by show (cutOut c.wire (0 : Int).toNat).length ≤ 256; omega, V.rp, fun m hm => V.wm m (cutOut_mem hm), V.cs⟩, fun m hm => h.we m (cutOut_mem hm)⟩, rfl, ?_, rfl, rfl⟩
      show weight (cutOut c.wire (0 : Int).toNat) < _
      rw [hwt]; split <;> omega
    · obtain ⟨r, e2, e2'⟩ := rep_at t0 t1
      rw [e2']
      have hid : r.id = m.to := by have := (V.rp _ _ e2).1; omega
      have hC := (V.rp _ _ e2).2
      have hrep := hearAny_reply (n := (c.reps.length : Int)) (r := r) (m := m)
      have hnew : ∀ x ∈ (if (hearAny (c.reps.length : Int) r m).2.2 = true then [(hearAny (c.reps.length : Int) r m).2.1] else []), (0 ≤ x.frm ∧ x.frm < (c.reps.length : Int) ∧ 0 ≤ x.to ∧ x.to < (c.reps.length : Int) ∧ x.frm ≠ x.to) ∧ x.ents.length ≤ 256 := by
        intro x hx
        cases hb : (hearAny (c.reps.length : Int) r m).2.2
        · rw [hb] at hx; simp at hx
        · rw [hb] at hx
          simp at hx
          subst hx
          obtain ⟨a1, a2, a3, _, _⟩ := hrep hb
          rw [a1, a2, a3, hid]
          exact ⟨⟨t0, t1, f0, f1, fun e => hft e.symm⟩, by simp⟩
      refine ⟨⟨VC.set V e2 (any_id _ _ _) (any_chk m hC) (fun x hx => ?_) ?_, fun x hx => ?_⟩, List.length_set, ?_, rfl, rfl⟩
      · rcases List.mem_append.1 hx with hx | hx
        · exact V.wm x (cutOut_mem hx)
        · exact (hnew x hx).1
      · rw [List.length_append, hcl]
        split <;> simp <;> omega
      · rcases List.mem_append.1 hx with hx | hx
        · exact h.we x (cutOut_mem hx)
        · exact (hnew x hx).2
      · show weight (cutOut c.wire (0 : Int).toNat ++ _) < _
        rw [weight_append, hwt]
        cases hb : (hearAny (c.reps.length : Int) r m).2.2
        · simp only [Bool.false_eq_true, if_false]
          show weight (cutOut c.wire (0 : Int).toNat) + weight [] < _
          have : weight [] = 0 := rfl
          split <;> omega
        · obtain ⟨_, _, _, a4, a5⟩ := hrep hb
          simp only [if_true]
          rw [if_pos a5, weight_pos, if_neg (by omega)]
          have : weight [] = 0 := rfl
          omega
  · rename_i hr; exact absurd h0 hr

theorem gv_stand {c : CT} (h : GV c) {i : Int} (h0 : (standC c i).1 = 0) : GV (standC c i).2 ∧ (standC c i).2.reps.length = c.reps.length ∧ (standC c i).2.cut = c.cut := by
  unfold standC at h0 ⊢
  by_cases hr : readyE c i = 0
  · obtain ⟨V, i0, i1⟩ := ready_iff.1 hr
    obtain ⟨r, e1, e1'⟩ := rep_at i0 i1
    rw [if_pos hr] at h0 ⊢
    rw [e1'] at h0 ⊢
    split at h0
    · cases h0
    · rename_i hd
      rw [if_neg hd]
      simp only at h0 ⊢
      split at h0
      · rename_i hs
        rw [if_pos hs]
        split at h0
        · cases h0
        · rename_i hg
          rw [if_neg hg]
          have hid : r.id = i := by have := (V.rp _ _ e1).1; omega
          have hC := (V.rp _ _ e1).2
          unfold stand at hs hg ⊢
          rw [if_pos (chk_iff.2 hC)] at hs hg ⊢
          split at hs
          · cases hs
          · rename_i ht
            rw [if_neg ht] at hg ⊢
            have hnew : ∀ x ∈ asks (c.reps.length : Int) r, (0 ≤ x.frm ∧ x.frm < (c.reps.length : Int) ∧ 0 ≤ x.to ∧ x.to < (c.reps.length : Int) ∧ x.frm ≠ x.to) ∧ x.ents.length ≤ 256 := by
              intro m hm
              simp only [asks, List.mem_map, List.mem_filter, List.mem_range, decide_eq_true_eq] at hm
              obtain ⟨j, ⟨hj1, hj2⟩, rfl⟩ := hm
              simp only [mg_frm, mg_to, mg_ents]
              refine ⟨⟨by omega, by omega, by omega, by omega, fun e => hj2 e.symm⟩, by simp⟩
            refine ⟨⟨VC.set V e1 ?_ (chk_stand hC ht) (fun x hx => ?_) (by rw [List.length_append]; omega), fun x hx => ?_⟩, List.length_set, rfl⟩
            · unfold standR lead; dsimp only; repeat' split
              all_goals rfl
            · rcases List.mem_append.1 hx with hx | hx
              · exact V.wm x hx
              · exact (hnew x hx).1
            · rcases List.mem_append.1 hx with hx | hx
              · exact h.we x hx
              · exact (hnew x hx).2
      · rename_i hs
        exact absurd h0 hs
  · rw [if_neg hr] at h0
    exact absurd h0 hr

/-- A cluster with the messages of a leader and no others. -/
def beat0 (c : CT) (i : Int) : CT := cl c.reps (appendsE (c.reps.length : Int) (repAt c i)) c.down c.cut

theorem gv_beat0 {c : CT} (h : GV c) {i : Int} (i0 : 0 ≤ i) (i1 : i < (c.reps.length : Int)) : GV (beat0 c i) := by
  obtain ⟨r, e1, e1'⟩ := rep_at i0 i1
  have V := h.v
  have hid : r.id = i := by have := (V.rp _ _ e1).1; omega
  have hC := (V.rp _ _ e1).2
  have hlen := appends_len (c.reps.length : Int) r
  have hnew : ∀ x ∈ appendsE (c.reps.length : Int) r, (0 ≤ x.frm ∧ x.frm < (c.reps.length : Int) ∧ 0 ≤ x.to ∧ x.to < (c.reps.length : Int) ∧ x.frm ≠ x.to) ∧ x.ents.length ≤ 256 := by
    unfold appendsE
    split
    · intro m hm
      simp only [appends, List.mem_map, List.mem_filter, List.mem_range, decide_eq_true_eq] at hm
      obtain ⟨j, ⟨hj1, hj2⟩, rfl⟩ := hm
      simp only [mg_frm, mg_to, mg_ents]
      have := hC.ll
      refine ⟨⟨by omega, by omega, by omega, by omega, fun e => hj2 e.symm⟩, by simp only [List.length_drop]; omega⟩
    · intro m hm; cases hm
  unfold beat0
  rw [e1']
  exact ⟨⟨V.n1, V.n5, V.dn, by show (appendsE (c.reps.length : Int) r).length ≤ 256; omega, V.rp, fun x hx => (hnew x hx).1, V.cs⟩, fun x hx => (hnew x hx).2⟩

/-! ### Flush -/
def flushN : Nat → CT → CT
  | 0, c => c
  | n + 1, c => if c.wire = [] then c else flushN n (deliverC c 0).2

def flushC (c : CT) : CT := flushN (weight c.wire) c

theorem weight_nil {c : CT} (h : weight c.wire ≤ 0) : c.wire = [] := by
  cases hc : c.wire with
  | nil => rfl
  | cons m l => rw [hc, weight_pos] at h; split at h <;> omega

theorem flush_base {c : CT} (h : c.wire = []) : loopT l14_1_1 ((), sC c) = some ((), sC c) ∧ loopT l82_0_1 ((), (u2, ((c, ()), ()))) = some ((), (u2, ((c, ()), ()))) := by
  have : ¬ (c.2.1.length : Int) > 0 := by show ¬ (c.wire.length : Int) > 0; rw [h]; simp
  constructor
  · refine loopT_inr ?_
    simp only [l14_1_1, sC, decide_eq_false this, sumE, sS]
  · refine loopT_inr ?_
    simp only [l82_0_1, decide_eq_false this, sumE, sS]

theorem flush_eq : ∀ (w : Nat) (c : CT), weight c.wire ≤ w → GV c → loopT l14_1_1 ((), sC c) = some ((), sC (flushN w c)) ∧ loopT l82_0_1 ((), (u2, ((c, ()), ()))) = some ((), (u2, ((flushN w c, ()), ()))) ∧ GV (flushN w c) ∧ (flushN w c).wire = [] ∧ (flushN w c).reps.length = c.reps.length ∧ (flushN w c).down = c.down ∧ (flushN w c).cut = c.cut := by
  intro w
  induction w with
  | zero =>
    intro c hw h
    have := weight_nil hw
    exact ⟨(flush_base this).1, (flush_base this).2, h, this, rfl, rfl, rfl⟩
  | succ w ih =>
    intro c hw h
    unfold flushN
    by_cases hc : c.wire = []
    · rw [if_pos hc]
      exact ⟨(flush_base hc).1, (flush_base hc).2, h, hc, rfl, rfl, rfl⟩
    · rw [if_neg hc]
      obtain ⟨h0, g1, g2, g3, g4, g5⟩ := gv_deliver h hc
      obtain ⟨a1, a2, a3, a4, a5, a6, a7⟩ := ih (deliverC c 0).2 (by omega) g1
      refine ⟨?_, ?_, a3, a4, by rw [a5, g2], by rw [a6, g4], by rw [a7, g5]⟩
      · rw [← a1]
        exact loopT_inl (drain_step h.sh h.v hc)
      · rw [← a2]
        refine loopT_inl ?_
        have hp : (c.2.1.length : Int) > 0 := by have := List.length_pos_iff.2 hc; show (c.wire.length : Int) > 0; omega
        simp only [l82_0_1, decide_eq_true hp, sumE, sS, m34_eq c 0 h.sh, h0]

structure FlushOK (c : CT) : Prop where
  gv : GV (flushC c)
  w : (flushC c).wire = []
  l : (flushC c).reps.length = c.reps.length
  d : (flushC c).down = c.down
  k : (flushC c).cut = c.cut

theorem flush_ok' {c : CT} (h : GV c) : FlushOK c := by
  obtain ⟨_, _, a3, a4, a5, a6, a7⟩ := flush_eq _ c (Nat.le_refl _) h
  exact ⟨a3, a4, a5, a6, a7⟩

/-! ### Settle -/
/-- A round of a leader: its messages, and all answers. -/
def round1 (c : CT) (i : Int) : CT := if (repAt c i).role = 2 then flushC (beat0 c i) else c

def settleC (c : CT) (i : Int) : Int × CT :=
  if readyE c i = 0 then
    let s := standC (cl c.reps [] c.down c.cut) i
    if s.1 = 0 then (0, round1 (round1 (flushC s.2) i) i) else (s.1, zeroC)
  else (readyE c i, zeroC)

theorem round_ok {c : CT} (h : GV c) (hw : c.wire = []) {i : Int} (i0 : 0 ≤ i) (i1 : i < (c.reps.length : Int)) : GV (round1 c i) ∧ (round1 c i).wire = [] ∧ (round1 c i).reps.length = c.reps.length ∧ (round1 c i).down = c.down ∧ (round1 c i).cut = c.cut := by
  unfold round1
  split
  · have f := flush_ok' (gv_beat0 h i0 i1)
    exact ⟨f.gv, f.w, f.l, f.d, f.k⟩
  · exact ⟨h, hw, rfl, rfl, rfl⟩

theorem round_prog {c : CT} (h : GV c) {i : Int} (i0 : 0 ≤ i) (i1 : i < (c.reps.length : Int)) (j : Nat) (hj : j < 2) : l14_0_11 (((j : Int), i, ()), sC c) = some (.inl ((((j + 1 : Nat) : Int), i, ()), sC (round1 c i))) := by
  have hlt : decide ((j : Int) < 2) = true := decide_eq_true (by omega)
  obtain ⟨r, e1, e1'⟩ := rep_at (c := c) i0 i1
  have hbd : decide ((0 : Int) ≤ i ∧ i < (c.1.length : Int)) = true := decide_eq_true ⟨i0, i1⟩
  have e1x : c.1[i.toNat]? = some r := e1
  unfold round1
  rw [e1']
  by_cases hr : r.role = 2
  · have hr' : (r.2.2.2.1 : Int) = 2 := hr
    rw [if_pos hr]
    obtain ⟨a1, _⟩ := flush_eq _ _ (Nat.le_refl _) (gv_beat0 h i0 i1)
    have hb : beat0 c i = cl c.reps (appendsE (c.reps.length : Int) r) c.down c.cut := by unfold beat0; rw [e1']
    rw [hb] at a1
    simp only [l14_0_11, sC, hlt, sumE, sS, hbd, e1x, beq_decide, decide_eq_true hr', m58_eq (c.reps.length : Int) r (shrt_of (h.v.rp _ _ e1).2)]
    rw [l62_same]
    rw [show loopT l14_1_1 ((), (((), ()), (((), ()), (c.1, (appendsE (c.reps.length : Int) r, (c.2.2.1, (c.2.2.2.1, ()))))))) = _ from a1]
    simp only [Option.bind_some, lens4, sumE, sS, w64_nat (show j ≤ 4294967296 by omega)]
    rw [hb]
    rfl
  · have hr' : ¬ (r.2.2.2.1 : Int) = 2 := hr
    rw [if_neg hr]
    simp only [l14_0_11, sC, hlt, sumE, sS, hbd, e1x, beq_decide, decide_eq_false hr', w64_nat (show j ≤ 4294967296 by omega)]

end Go.Proofs.YtfbikpbejkgegaaGreat

namespace Go.Proofs.YtfbikpbejkgegaaGreat
open Go Go.Abs Go.Raft
theorem settle_prog {c : CT} (h : GV c) (hw : c.wire = []) {i : Int} (i0 : 0 ≤ i) (i1 : i < (c.reps.length : Int)) : loopT l14_0_11 (((0 : Int), i, ()), sC c) = some ((), sC (round1 (round1 c i) i)) := by
  obtain ⟨g1, g2, g3, _, _⟩ := round_ok h hw i0 i1
  obtain ⟨g1', g2', g3', _, _⟩ := round_ok g1 g2 i0 (by rw [g3]; exact i1)
  have s1 := round_prog h i0 i1 0 (by omega)
  have s2 := round_prog g1 i0 (by rw [g3]; exact i1) 1 (by omega)
  rw [show loopT l14_0_11 (((0 : Int), i, ()), sC c) = _ from loopT_inl s1]
  rw [show loopT l14_0_11 ((((0 + 1 : Nat) : Int), i, ()), sC (round1 c i)) = _ from loopT_inl s2]
  refine loopT_inr ?_
  simp only [l14_0_11, sC, show decide (((1 + 1 : Nat) : Int) < 2) = false from rfl, sumE, sS]

theorem round_ref {c : CT} (h : GV c) (hw : c.wire = []) {i : Int} (i0 : 0 ≤ i) (i1 : i < (c.reps.length : Int)) (hd : downAt c i = false) (hr : (repAt c i).role = 2) (j : Nat) (hj : j < 2) : l41_0_11 (((j : Int), i, ()), ((c, ()), (u2, ()))) = some (.inl ((((j + 1 : Nat) : Int), i, ()), ((round1 c i, ()), (u2, ())))) := by
  have hlt : (j : Int) < 2 := by omega
  obtain ⟨r, e1, e1'⟩ := rep_at (c := c) i0 i1
  have hr0 := hr
  rw [e1'] at hr
  have hr' : (r.2.2.2.1 : Int) = 2 := hr
  have hb : beatC c i = (0, beat0 c i) := by
    unfold beatC beat0
    rw [if_pos (ready_iff.2 ⟨h.v, i0, i1⟩), if_neg (by rw [hd]; simp), if_pos hr0]
    simp only
    have := appends_len (c.reps.length : Int) (repAt c i)
    rw [if_neg (by rw [hw]; simp; omega), hw, List.nil_append]
  have hm : m82 ((beat0 c i, ()), ()) = some ((), ((flushC (beat0 c i), ()), ())) := by
    obtain ⟨_, a2, _⟩ := flush_eq _ _ (Nat.le_refl _) (gv_beat0 h i0 i1)
    unfold m82
    simp only []
    rw [show loopT l82_0_1 ((), (((), ()), ((beat0 c i, ()), ()))) = _ from a2]
    rfl
  unfold round1
  rw [if_pos hr0]
  simp only [l41_0_11, decide_eq_true hlt, sumE, sS, rowAt_G, rowG_int i0 e1, beq_decide, decide_eq_true hr', m33_eq c i h.sh, hb]
  rw [show m82 ((((beat0 c i).1, ((beat0 c i).2.1, ((beat0 c i).2.2.1, ((beat0 c i).2.2.2.1, ())))), ()), ()) = some ((), ((flushC (beat0 c i), ()), ())) from hm]
  simp only [Option.bind_some, w64_nat (show j ≤ 4294967296 by omega)]

theorem stop_ref {c : CT} {i : Int} (i0 : 0 ≤ i) (i1 : i < (c.reps.length : Int)) (hr : ¬ (repAt c i).role = 2) (j : Nat) : loopT l41_0_11 (((j : Int), i, ()), ((c, ()), (u2, ()))) = some ((), (u2, ((c, ()), ()))) := by
  obtain ⟨r, e1, e1'⟩ := rep_at (c := c) i0 i1
  rw [e1'] at hr
  have hr' : ¬ (r.2.2.2.1 : Int) = 2 := hr
  refine loopT_inr ?_
  by_cases hlt : (j : Int) < 2
  · simp only [l41_0_11, decide_eq_true hlt, sumE, sS, rowAt_G, rowG_int i0 e1, beq_decide, decide_eq_false hr']
  · simp only [l41_0_11, decide_eq_false hlt, sumE, sS]

theorem settle_ref {c : CT} (h : GV c) (hw : c.wire = []) {i : Int} (i0 : 0 ≤ i) (i1 : i < (c.reps.length : Int)) (hd : downAt c i = false) : loopT l41_0_11 (((0 : Int), i, ()), ((c, ()), (u2, ()))) = some ((), (u2, ((round1 (round1 c i) i, ()), ()))) := by
  obtain ⟨g1, g2, g3, g4, _⟩ := round_ok h hw i0 i1
  have i1' : i < ((round1 c i).reps.length : Int) := by rw [g3]; exact i1
  have hd' : downAt (round1 c i) i = false := by
    show ((round1 c i).down[i.toNat]?.getD false) = false
    rw [g4]; exact hd
  by_cases hr : (repAt c i).role = 2
  · rw [show loopT l41_0_11 (((0 : Int), i, ()), ((c, ()), (u2, ()))) = _ from loopT_inl (round_ref h hw i0 i1 hd hr 0 (by omega))]
    by_cases hr2 : (repAt (round1 c i) i).role = 2
    · rw [show loopT l41_0_11 ((((0 + 1 : Nat) : Int), i, ()), ((round1 c i, ()), (u2, ()))) = _ from loopT_inl (round_ref g1 g2 i0 i1' hd' hr2 1 (by omega))]
      refine loopT_inr ?_
      simp only [l41_0_11, show decide (((1 + 1 : Nat) : Int) < 2) = false from rfl, sumE, sS]
    · have : round1 (round1 c i) i = round1 c i := by
        rw [show round1 (round1 c i) i = if (repAt (round1 c i) i).role = 2 then flushC (beat0 (round1 c i) i) else round1 c i from rfl, if_neg hr2]
      rw [this]
      exact stop_ref i0 i1' hr2 1
  · have e : round1 c i = c := by unfold round1; rw [if_neg hr]
    rw [e, e]
    exact stop_ref i0 i1 hr 0

theorem settle_mid {c : CT} {i : Int} (hr : readyE c i = 0) (h0 : (standC (cl c.reps [] c.down c.cut) i).1 = 0) : GV (standC (cl c.reps [] c.down c.cut) i).2 ∧ downAt c i = false ∧ (flushC (standC (cl c.reps [] c.down c.cut) i).2).wire = [] ∧ GV (flushC (standC (cl c.reps [] c.down c.cut) i).2) ∧ i < ((flushC (standC (cl c.reps [] c.down c.cut) i).2).reps.length : Int) ∧ downAt (flushC (standC (cl c.reps [] c.down c.cut) i).2) i = false := by
  obtain ⟨V, i0, i1⟩ := ready_iff.1 hr
  have h1 : GV (cl c.reps [] c.down c.cut) := ⟨⟨V.n1, V.n5, V.dn, Nat.zero_le _, V.rp, fun m hm => (by cases hm), V.cs⟩, fun m hm => (by cases hm)⟩
  obtain ⟨g1, g2, _⟩ := gv_stand h1 h0
  obtain ⟨d1, d2⟩ := stand_down h0
  have f := flush_ok' g1
  refine ⟨g1, d1, f.w, f.gv, by rw [f.l, g2]; exact i1, ?_⟩
  show ((flushC (standC (cl c.reps [] c.down c.cut) i).2).down[i.toNat]?.getD false) = false
  rw [f.d, d2]
  exact d1

theorem m14_eq (c : CT) (i : Int) (hs : ShC c) : m14 ((c, i, ()), ()) = some (((settleC c i).1, ()), oC (settleC c i).2) := by
  unfold m14 settleC
  simp only [m55_up c i hs, Option.bind_some, bne_decide, decide_not]
  by_cases hu : upE c i = 0
  · obtain ⟨hr, hdn⟩ := upE_zero hu
    obtain ⟨V, i0, i1⟩ := ready_iff.1 hr
    rw [if_pos hr]
    simp only [hu, decide_true, sumE, sS, m56_eq c hs]
    have h1 : GV (cl c.reps [] c.down c.cut) := ⟨⟨V.n1, V.n5, V.dn, Nat.zero_le _, V.rp, fun m hm => (by cases hm), V.cs⟩, fun m hm => (by cases hm)⟩
    rw [show m28 (((c.reps, ([], (c.down, (c.cut, ())))), (i, ())), ()) = _ from m28_eq (cl c.reps [] c.down c.cut) i h1.sh]
    simp only [Option.bind_some]
    by_cases h0 : (standC (cl c.reps [] c.down c.cut) i).1 = 0
    · obtain ⟨g1, _, w2, g2, i2, d2⟩ := settle_mid hr h0
      obtain ⟨a1, _⟩ := flush_eq _ _ (Nat.le_refl _) g1
      rw [if_pos h0]
      simp only [h0, decide_true, sumE, sS]
      rw [show loopT l14_1_1 ((), (((), ()), (((), ()), ((standC (cl c.reps [] c.down c.cut) i).2.reps, ((standC (cl c.reps [] c.down c.cut) i).2.wire, ((standC (cl c.reps [] c.down c.cut) i).2.down, ((standC (cl c.reps [] c.down c.cut) i).2.cut, ()))))))) = some ((), sC (flushC (standC (cl c.reps [] c.down c.cut) i).2)) from a1]
      have b1 := settle_prog g2 w2 i0 i2
      simp only [Option.bind_some, lens4, sumE, sS]
      rw [show loopT l14_0_11 ((0, (i, ())), (((), ()), (((), ()), ((flushC (standC (cl c.reps [] c.down c.cut) i).2).1, ((flushC (standC (cl c.reps [] c.down c.cut) i).2).2.1, ((flushC (standC (cl c.reps [] c.down c.cut) i).2).2.2.1, ((flushC (standC (cl c.reps [] c.down c.cut) i).2).2.2.2.1, ()))))))) = _ from b1]
      rfl
    · rw [if_neg h0]
      simp only [h0, decide_false, sumE, sS]
  · simp only [hu, decide_false, sumE, sS]
    unfold upE at hu ⊢
    by_cases hr : readyE c i = 0
    · rw [if_pos hr] at hu ⊢
      rw [if_pos hr]
      split at hu
      · rename_i hd
        have hst : standC (cl c.reps [] c.down c.cut) i = (21, zeroC) := by
          obtain ⟨V, i0, i1⟩ := ready_iff.1 hr
          have hV : VC (cl c.reps [] c.down c.cut) := ⟨V.n1, V.n5, V.dn, Nat.zero_le _, V.rp, fun m hm => (by cases hm), V.cs⟩
          unfold standC
          rw [if_pos (ready_iff.2 ⟨hV, i0, i1⟩), if_pos hd]
        rw [if_pos hd, hst, if_neg (by simp)]
      · exact absurd rfl hu
    · rw [if_neg hr, if_neg hr]

theorem m41_eq (c : CT) (i : Int) (hs : ShC c) : m41 ((c, i, ()), ()) = some (((settleC c i).1, ()), (((settleC c i).2, ()), ())) := by
  unfold m41 settleC
  simp only [m61_eq c i hs, Option.bind_some, bne_decide, decide_not]
  by_cases hr : readyE c i = 0
  · obtain ⟨V, i0, i1⟩ := ready_iff.1 hr
    rw [if_pos hr]
    simp only [hr, decide_true, sumE, sS, m51_eq c hs]
    have h1 : GV (cl c.reps [] c.down c.cut) := ⟨⟨V.n1, V.n5, V.dn, Nat.zero_le _, V.rp, fun m hm => (by cases hm), V.cs⟩, fun m hm => (by cases hm)⟩
    rw [show m29 (((c.reps, ([], (c.down, (c.cut, ())))), (i, ())), ()) = _ from m29_eq (cl c.reps [] c.down c.cut) i h1.sh]
    simp only [Option.bind_some]
    by_cases h0 : (standC (cl c.reps [] c.down c.cut) i).1 = 0
    · obtain ⟨g1, _, w2, g2, i2, d2⟩ := settle_mid hr h0
      rw [if_pos h0]
      simp only [h0, decide_true, sumE, sS]
      have hm : m82 (((standC (cl c.reps [] c.down c.cut) i).2, ()), ()) = some ((), ((flushC (standC (cl c.reps [] c.down c.cut) i).2, ()), ())) := by
        obtain ⟨_, a2, _⟩ := flush_eq _ _ (Nat.le_refl _) g1
        unfold m82
        simp only []
        rw [show loopT l82_0_1 ((), (((), ()), (((standC (cl c.reps [] c.down c.cut) i).2, ()), ()))) = _ from a2]
        rfl
      rw [show m82 (((((standC (cl c.reps [] c.down c.cut) i).2.1, ((standC (cl c.reps [] c.down c.cut) i).2.2.1, ((standC (cl c.reps [] c.down c.cut) i).2.2.2.1, ((standC (cl c.reps [] c.down c.cut) i).2.2.2.2.1, ())))) : CT), ()), ()) = _ from hm]
      simp only [Option.bind_some]
      rw [show loopT l41_0_11 ((0, (i, ())), ((flushC (standC (cl c.reps [] c.down c.cut) i).2, ()), (((), ()), ()))) = _ from settle_ref g2 w2 i0 i2 d2]
      rfl
    · rw [if_neg h0]
      simp only [h0, decide_false, sumE, sS]
  · rw [if_neg hr]
    simp only [hr, decide_false, sumE, sS]

end Go.Proofs.YtfbikpbejkgegaaGreat

namespace Go.Proofs.YtfbikpbejkgegaaGreat
open Go Go.Abs Go.Raft
theorem sh_zero : ShC zeroC := by
  refine ⟨fun r hr => (by cases hr), Nat.zero_le _, fun m hm => (by cases hm), Nat.zero_le _, Nat.zero_le _, Nat.zero_le _⟩

theorem sh_r0 : Shrt zeroR := ⟨Nat.zero_le _, Nat.zero_le _, Nat.zero_le _⟩

theorem sh_put {c : CT} (h : ShC c) {i : Nat} {r' : RT} (hr : Shrt r') {w : List MT} (hw : ∀ m ∈ w, m.ents.length ≤ 1000000) (hwl : w.length ≤ 2147483647) {d : List Bool} (hd : d.length ≤ 2147483647) {k : List CutT} (hk : k.length ≤ 2147483647) : ShC (cl (c.reps.set i r') w d k) := by
  refine ⟨fun r hr' => ?_, by show (c.reps.set i r').length ≤ _; rw [List.length_set]; exact h.rl, hw, hwl, hd, hk⟩
  rcases List.mem_or_eq_of_mem_set hr' with hr' | rfl
  · exact h.r r hr'
  · exact hr

theorem sh_same {c : CT} (h : ShC c) {w : List MT} (hw : ∀ m ∈ w, m.ents.length ≤ 1000000) (hwl : w.length ≤ 2147483647) {d : List Bool} (hd : d.length ≤ 2147483647) {k : List CutT} (hk : k.length ≤ 2147483647) : ShC (cl c.reps w d k) := ⟨h.r, h.rl, hw, hwl, hd, hk⟩

theorem sh_stand {c : CT} (h : ShC c) (i : Int) : ShC (standC c i).2 := by
  unfold standC
  by_cases hr : readyE c i = 0
  · obtain ⟨V, i0, i1⟩ := ready_iff.1 hr
    obtain ⟨r, e1, e1'⟩ := rep_at i0 i1
    rw [if_pos hr, e1']
    have hC := (V.rp _ _ e1).2
    have hwl := V.wl
    have hsl := stand_len (c.reps.length : Int) r
    split
    · exact sh_zero
    simp only
    split
    · split
      · exact sh_zero
      · refine sh_put h ?_ (fun m hm => ?_) (by rw [List.length_append]; omega) h.dl h.cl
        · unfold stand
          rw [if_pos (chk_iff.2 hC)]
          split
          · exact sh_r0
          · rename_i ht; exact shrt_of (chk_stand hC ht)
        · rcases List.mem_append.1 hm with hm | hm
          · exact h.w m hm
          · unfold stand at hm
            rw [if_pos (chk_iff.2 hC)] at hm
            split at hm
            · cases hm
            · simp only [asks, List.mem_map] at hm
              obtain ⟨j, _, rfl⟩ := hm
              simp
    · exact sh_zero
  · rw [if_neg hr]; exact sh_zero

theorem sh_propose {c : CT} (h : ShC c) (i : Int) (o : OpT) : ShC (proposeC c i o).2 := by
  unfold proposeC
  by_cases hr : readyE c i = 0
  · obtain ⟨V, i0, i1⟩ := ready_iff.1 hr
    obtain ⟨r, e1, e1'⟩ := rep_at i0 i1
    rw [if_pos hr, e1']
    have hC := (V.rp _ _ e1).2
    split
    · exact sh_zero
    simp only
    split
    · refine sh_put h ?_ h.w h.wl h.dl h.cl
      unfold proposeE
      have hs := shrt_of hC
      have h1 := hC.ll
      repeat' split
      all_goals first | exact hs | exact sh_r0 | skip
      obtain ⟨a, b, d⟩ := hs
      refine ⟨?_, b, ?_⟩
      · show (r.log ++ _).length ≤ _
        rw [List.length_append, List.length_singleton]; omega
      · show (r.mtch.set _ _).length ≤ _
        rw [List.length_set]; exact d
    · exact sh_zero
  · rw [if_neg hr]; exact sh_zero

theorem sh_beat {c : CT} (h : ShC c) (i : Int) : ShC (beatC c i).2 := by
  unfold beatC
  by_cases hr : readyE c i = 0
  · obtain ⟨V, i0, i1⟩ := ready_iff.1 hr
    obtain ⟨r, e1, e1'⟩ := rep_at i0 i1
    rw [if_pos hr, e1']
    have hC := (V.rp _ _ e1).2
    have hwl := V.wl
    have hal := appends_len (c.reps.length : Int) r
    split
    · exact sh_zero
    split
    · simp only
      split
      · exact sh_zero
      · refine sh_same h (fun m hm => ?_) (by rw [List.length_append]; omega) h.dl h.cl
        rcases List.mem_append.1 hm with hm | hm
        · exact h.w m hm
        · unfold appendsE at hm
          split at hm
          · simp only [appends, List.mem_map] at hm
            obtain ⟨j, _, rfl⟩ := hm
            have := hC.ll
            simp only [mg_ents, List.length_drop]; omega
          · cases hm
    · exact sh_zero
  · rw [if_neg hr]; exact sh_zero

theorem sh_cutOut {c : CT} (h : ShC c) (k : Nat) : (∀ m ∈ cutOut c.wire k, m.ents.length ≤ 1000000) ∧ (cutOut c.wire k).length ≤ 2147483647 :=
  ⟨fun m hm => h.w m (cutOut_mem hm), Nat.le_trans (cutOut_le _ _) h.wl⟩

theorem sh_deliver {c : CT} (h : ShC c) (k : Int) : ShC (deliverC c k).2 := by
  unfold deliverC
  by_cases hr : wireE c k = 0
  · obtain ⟨V, k0, k1⟩ := wire_iff.1 hr
    obtain ⟨m, e1, e1'⟩ := wire_at k0 k1
    obtain ⟨f0, f1, t0, t1, hft⟩ := V.wm m (List.mem_of_getElem? e1)
    obtain ⟨r, e2, e2'⟩ := rep_at t0 t1
    have hC := (V.rp _ _ e2).2
    have hwl := V.wl
    have hco := cutOut_le c.wire k.toNat
    obtain ⟨w1, w2⟩ := sh_cutOut h k.toNat
    rw [if_pos hr, e1']
    simp only
    rw [e2']
    split
    · exact sh_same h w1 w2 h.dl h.cl
    · refine sh_put h (shrt_of (any_chk m hC)) (fun x hx => ?_) ?_ h.dl h.cl
      · rcases List.mem_append.1 hx with hx | hx
        · exact w1 x hx
        · cases hb : (hearAny (c.reps.length : Int) r m).2.2
          · rw [hb] at hx; simp at hx
          · rw [hb] at hx
            simp at hx
            subst hx
            obtain ⟨_, _, a3, _, _⟩ := hearAny_reply hb
            rw [a3]; exact Nat.zero_le _
      · rw [List.length_append]
        split
        · simp only [List.length_singleton]; omega
        · simp only [List.length_nil]; omega
  · rw [if_neg hr]; exact sh_zero

theorem sh_drop {c : CT} (h : ShC c) (k : Int) : ShC (dropC c k).2 := by
  unfold dropC
  obtain ⟨w1, w2⟩ := sh_cutOut h k.toNat
  split
  · exact sh_same h w1 w2 h.dl h.cl
  · exact sh_zero

theorem sh_double {c : CT} (h : ShC c) (k : Int) : ShC (doubleC c k).2 := by
  unfold doubleC
  split
  · rename_i hr
    obtain ⟨V, k0, k1⟩ := wire_iff.1 hr
    obtain ⟨m, e1, e1'⟩ := wire_at k0 k1
    have hwl := V.wl
    rw [e1']
    split
    · exact sh_zero
    · refine sh_same h (fun x hx => ?_) (by rw [List.length_append, List.length_singleton]; omega) h.dl h.cl
      rcases List.mem_append.1 hx with hx | hx
      · exact h.w x hx
      · simp at hx; subst hx; exact h.w _ (List.mem_of_getElem? e1)
  · exact sh_zero

theorem sh_crash {c : CT} (h : ShC c) (i : Int) : ShC (crashC c i).2 := by
  unfold crashC
  split
  · split
    · exact sh_zero
    · exact sh_same h h.w h.wl (by rw [List.length_set]; exact h.dl) h.cl
  · exact sh_zero

theorem sh_restart {c : CT} (h : ShC c) (i : Int) : ShC (restartC c i).2 := by
  unfold restartC
  split
  · rename_i hr
    obtain ⟨V, i0, i1⟩ := ready_iff.1 hr
    obtain ⟨r, e1, e1'⟩ := rep_at i0 i1
    have hC := (V.rp _ _ e1).2
    rw [e1']
    split
    · refine sh_put h ?_ h.w h.wl (by rw [List.length_set]; exact h.dl) h.cl
      unfold restartE
      rw [if_pos (chk_iff.2 hC)]
      exact shrt_of (chk_restart hC)
    · exact sh_zero
  · exact sh_zero

theorem sh_cut {c : CT} (h : ShC c) (i j : Int) : ShC (cutC c i j).2 := by
  unfold cutC
  split
  · rename_i hr
    obtain ⟨V, _, _⟩ := ready_iff.1 hr
    have hk := cuts_len (by have := V.n5; omega) V.cs
    repeat' split
    all_goals first | exact sh_zero | skip
    refine sh_same h h.w h.wl h.dl (by rw [List.length_append, List.length_singleton]; omega)
  · exact sh_zero

theorem sh_heal {c : CT} (h : ShC c) : ShC (healC c) := by
  unfold healC
  split
  · exact sh_same h h.w h.wl h.dl (Nat.zero_le _)
  · exact sh_zero

theorem sh_settle {c : CT} (h : ShC c) (i : Int) : ShC (settleC c i).2 := by
  unfold settleC
  split
  · rename_i hr
    simp only
    split
    · rename_i h0
      obtain ⟨V, i0, i1⟩ := ready_iff.1 hr
      obtain ⟨g1, _, w2, g2, i2, d2⟩ := settle_mid hr h0
      obtain ⟨a1, a2, a3, _, _⟩ := round_ok g2 w2 i0 i2
      exact (round_ok a1 a2 i0 (by rw [a3]; exact i2)).1.sh
    · exact sh_zero
  · exact sh_zero

theorem sh_new (n : Int) : ShC (newE n).2 := by
  unfold newE
  split
  · exact sh_zero
  · rename_i hq
    have hn : 1 ≤ n ∧ n ≤ 5 := by
      unfold quorum at hq
      split at hq
      · assumption
      · exact absurd rfl hq
    exact (cg_new hn.1 hn.2).1.sh

/-! ### The reference's Agreed -/
theorem loop48 (c : CT) (hs : ShC c) (hc : chkC c = true) : ∀ (k i : Nat) (out : List OpT), i + k = c.reps.length →
    loopT l48_0_3 (((i : Int), ()), (out, ((c, ()), ()))) = some ((), (agL (c.reps.drop i) out, ())) := by
  have hl := hs.rl
  intro k
  induction k with
  | zero =>
    intro i out h
    rw [List.drop_eq_nil_of_le (by omega)]
    refine loopT_inr ?_
    have : decide ((i : Int) < (c.1.length : Int)) = false := decide_eq_false (show ¬ (i : Int) < (c.reps.length : Int) by omega)
    simp only [l48_0_3, this, sumE, sS, agL]
  | succ k ih =>
    intro i out h
    obtain ⟨e, he, hd⟩ := drop_at (l := c.reps) (i := i) (by omega)
    have hlt : decide ((i : Int) < (c.1.length : Int)) = true := decide_eq_true (show (i : Int) < (c.reps.length : Int) by omega)
    have hel := (hs.r e (List.mem_of_getElem? he)).1
    rw [hd, agL, ← ih (i + 1) _ (by omega)]
    refine loopT_inl ?_
    simp only [l48_0_3, hlt, sumE, sS, m15_eq c hs, hc]
    rw [rowAt_G, rowG_nat (show c.1[i]? = some e from he)]
    by_cases hg : (committed e).length > out.length
    · have : decide (((committed e).length : Int) > (out.length : Int)) = true := decide_eq_true (by omega)
      simp only [m86_eq e hel, this, if_pos hg, sumE, sS, w64_nat (show i ≤ 4294967296 by omega)]
    · have : decide (((committed e).length : Int) > (out.length : Int)) = false := decide_eq_false (by omega)
      simp only [m86_eq e hel, this, if_neg hg, sumE, sS, w64_nat (show i ≤ 4294967296 by omega)]

theorem m48_eq (c : CT) (hs : ShC c) : m48 ((c, ()), ()) = some ((), (agreedC c, ())) := by
  unfold m48 agreedC
  cases hc : chkC c
  · have hl : loopT l48_0_3 ((0, ()), ([], ((c, ()), ()))) = some ((), ([], ())) := by
      refine loopT_inr ?_
      by_cases h : (0 : Int) < (c.1.length : Int)
      · simp only [l48_0_3, decide_eq_true h, sumE, sS, m15_eq c hs, hc]
      · simp only [l48_0_3, decide_eq_false h, sumE, sS]
    simp only []
    rw [hl]
    simp only [sumE, sS, Bool.false_eq_true, if_false]
  · have := loop48 c hs hc c.reps.length 0 [] (by omega)
    rw [List.drop_zero] at this
    simp only []
    rw [show loopT l48_0_3 ((0, ()), ([], ((c, ()), ()))) = _ from this]
    simp only [sumE, sS, if_true]

theorem agL_len : ∀ (l : List RT) (out : List OpT), out.length ≤ 4294967295 → (∀ r ∈ l, r.log.length ≤ 4294967295) → (agL l out).length ≤ 4294967295 := by
  intro l
  induction l with
  | nil => intro out h _; exact h
  | cons x l ih =>
    intro out h hl
    unfold agL
    refine ih _ ?_ (fun r hr => hl r (List.mem_cons_of_mem _ hr))
    have := hl x (List.mem_cons_self ..)
    split
    · unfold committed
      rw [List.length_map, List.length_take]; omega
    · exact h

theorem agreed_size {c : CT} (hs : ShC c) : (agreedC c).length ≤ 4294967295 := by
  unfold agreedC
  split
  · exact agL_len _ _ (Nat.zero_le _) (fun r hr => (hs.r r hr).1)
  · exact Nat.zero_le _

end Go.Proofs.YtfbikpbejkgegaaGreat

namespace Go.Proofs.YtfbikpbejkgegaaGreat
open Go Go.Abs Go.Raft
abbrev ResT := List (CT × Int × Unit)

theorem loop5c (L : ResT) (hL : L.length ≤ 1000000) (hs : ∀ p ∈ L, ShC p.1) (x1 x2 x3 x4 x5 x6 x7 : Int) (x : CT) (o : OpT) (d : Dice) (rs : List Int) (xs : List CT) : ∀ (q z : Nat), z + q = L.length →
    loopT l5_0_38 (((z : Int), x1, x2, x3, x4, x5, x6, x7, (L.length : Int), ()), ((), ((), ((x, ()), ((o, ()), ((d, ()), (rs, (xs, (L, (L, ()))))))))) ) = some (.inr ((x1, x2, x3, x4, x5, x6, x7, ()), ((x, ()), ((o, ()), ((d, ()), (rs, (xs, ()))))))) := by
  intro q
  induction q with
  | zero =>
    intro z hz
    refine loopT_inr ?_
    have : ¬ (z : Int) < (L.length : Int) := by omega
    simp only [l5_0_38, decide_eq_false this, sumE, sS]
  | succ q ih =>
    intro z hz
    obtain ⟨p, hp⟩ := getD_some (l := L) (i := z) (by omega)
    have hlt : decide ((z : Int) < (L.length : Int)) = true := decide_eq_true (by omega)
    have hb : decide ((0 : Int) ≤ (z : Int) ∧ (z : Int) < (L.length : Int)) = true := decide_eq_true (by omega)
    rw [← ih (z + 1) (by omega)]
    refine loopT_inl ?_
    simp only [l5_0_38, hlt, hb, sumE, sS, Int.toNat_natCast, hp]
    rw [show m23 ((p.1, (p.1, ())), ()) = _ from m23_refl p.1 (hs p (List.mem_of_getElem? hp))]
    simp only [sumE, sS, w64_nat (show z ≤ 4294967296 by omega)]

/-- All steps of a cluster. -/
def stepsC (x : CT) (r j m k : Int) (o : OpT) : ResT :=
  [((standC x r).2, (standC x r).1, ()), ((proposeC x r o).2, (proposeC x r o).1, ()), ((beatC x r).2, (beatC x r).1, ()), ((deliverC x m).2, (deliverC x m).1, ()), ((dropC x k).2, (dropC x k).1, ()), ((dropC x m).2, (dropC x m).1, ()), ((doubleC x m).2, (doubleC x m).1, ()),
    ((crashC x r).2, (crashC x r).1, ()), ((restartC x r).2, (restartC x r).1, ()), ((cutC x r j).2, (cutC x r j).1, ()), ((settleC x r).2, (settleC x r).1, ())]

theorem steps_sh {x : CT} (h : ShC x) (r j m k : Int) (o : OpT) : ∀ p ∈ stepsC x r j m k o, ShC p.1 := by
  intro p hp
  simp only [stepsC, List.mem_cons, List.not_mem_nil, or_false] at hp
  rcases hp with rfl | rfl | rfl | rfl | rfl | rfl | rfl | rfl | rfl | rfl | rfl
  · exact sh_stand h r
  · exact sh_propose h r o
  · exact sh_beat h r
  · exact sh_deliver h m
  · exact sh_drop h k
  · exact sh_drop h m
  · exact sh_double h m
  · exact sh_crash h r
  · exact sh_restart h r
  · exact sh_cut h r j
  · exact sh_settle h r

set_option maxHeartbeats 2000000 in
theorem loop5b (x : CT) (hs : ShC x) (o : OpT) (rs : List Int) (xs : List CT) (hrs : rs.length ≤ 1000000) (k x2 x3 x4 x5 : Int) : ∀ (q z : Nat) (d : Dice), z + q = rs.length → DOK d →
    ∃ d' : Dice, loopT l5_0_9 (((z : Int), k, x2, x3, x4, x5, (rs.length : Int), ()), ((x, ()), ((o, ()), ((d, ()), (rs, (xs, ())))))) = some (.inr ((k, x2, x3, x4, x5, ()), ((o, ()), ((d', ()), (xs, ((x, ()), ())))))) ∧ DOK d' := by
  intro q
  induction q with
  | zero =>
    intro z d hz hd
    refine ⟨d, loopT_inr ?_, hd⟩
    have : ¬ (z : Int) < (rs.length : Int) := by omega
    simp only [l5_0_9, decide_eq_false this, sumE, sS]
  | succ q ih =>
    intro z d hz hd
    obtain ⟨r, hr⟩ := getD_some (l := rs) (i := z) (by omega)
    have hlt : decide ((z : Int) < (rs.length : Int)) = true := decide_eq_true (by omega)
    have hb : decide ((0 : Int) ≤ (z : Int) ∧ (z : Int) < (rs.length : Int)) = true := decide_eq_true (by omega)
    obtain ⟨j, d1, e1, hd1, _, _⟩ := next_spec 4 d hd (by omega)
    obtain ⟨m, d2, e2, hd2, _, _⟩ := next_spec 6 d1 hd1 (by omega)
    obtain ⟨d', e3, hd3⟩ := ih (z + 1) d2 (by omega) hd2
    refine ⟨d', ?_, hd3⟩
    rw [← e3]
    refine loopT_inl ?_
    have lp := loop5c (stepsC x r j (w64 (m - 1)) k o) (by simp [stepsC]) (steps_sh hs _ _ _ _ _) k x2 x3 x4 x5 (rs.length : Int) (z : Int) x o d2 rs xs 11 0 rfl
    simp only [l5_0_9, hlt, hb, sumE, sS, Int.toNat_natCast, hr, e1, e2, m28_eq x _ hs, m29_eq x _ hs, m30_eq x _ _ hs, m31_eq x _ _ hs, m32_eq x _ hs, m33_eq x _ hs, m20_eq x _ hs, m34_eq x _ hs, m21_eq x _ hs, m35_eq x _ hs, m22_eq x _ hs, m36_eq x _ hs, m37_eq x _ hs, m18_eq x _ hs, m38_eq x _ hs, m39_eq x _ hs, m40_eq x _ _ hs, m19_eq x _ _ hs, m14_eq x _ hs, m41_eq x _ hs,
      List.length_append, List.length_cons, List.length_nil, Nat.reduceAdd, Nat.reduceLeDiff]
    refine bind_of (.inr ((k, x2, x3, x4, x5, (rs.length : Int), (z : Int), ()), ((x, ()), ((o, ()), ((d2, ()), (rs, (xs, ()))))))) lp ?_
    simp only [sumE, sS, w64_nat (show z ≤ 4294967296 by omega)]

end Go.Proofs.YtfbikpbejkgegaaGreat

namespace Go.Proofs.YtfbikpbejkgegaaGreat
open Go Go.Abs Go.Raft
theorem loop5a (o : OpT) (k i n : Int) (xs : List CT) (hxs : xs.length ≤ 1000000) (hs : ∀ x ∈ xs, ShC x) : ∀ (q z : Nat) (d : Dice), z + q = xs.length → DOK d →
    loopT l5_0_6 ((k, (z : Int), i, n, (xs.length : Int), ()), ((o, ()), ((d, ()), (xs, ())))) = some (.inr ((n, ()), ())) := by
  intro q
  induction q with
  | zero =>
    intro z d hz _
    refine loopT_inr ?_
    have : ¬ (z : Int) < (xs.length : Int) := by omega
    simp only [l5_0_6, decide_eq_false this, sumE, sS]
  | succ q ih =>
    intro z d hz hd
    obtain ⟨x, hx⟩ := getD_some (l := xs) (i := z) (by omega)
    have hlt : decide ((z : Int) < (xs.length : Int)) = true := decide_eq_true (by omega)
    have hb : decide ((0 : Int) ≤ (z : Int) ∧ (z : Int) < (xs.length : Int)) = true := decide_eq_true (by omega)
    have h := hs x (List.mem_of_getElem? hx)
    obtain ⟨m, d1, e1, hd1, _, _⟩ := next_spec 6 d hd (by omega)
    obtain ⟨d2, e2, hd2⟩ := loop5b x h o [i, w64 (m - 1), 0] xs (by simp) k i n (xs.length : Int) (z : Int) 3 0 d1 rfl hd1
    rw [← ih (z + 1) d2 (by omega) hd2]
    refine loopT_inl ?_
    have hh := sh_heal h
    have hk := (m45_eq x h).2
    simp only [l5_0_6, hlt, hb, sumE, sS, Int.toNat_natCast, hx, e1]
    refine bind_of (.inr ((k, i, n, (xs.length : Int), (z : Int), ()), ((o, ()), ((d2, ()), (xs, ((x, ()), ())))))) e2 ?_
    simp only [sumE, sS, m42_eq x h, m43_eq x h, m44_eq x h, m15_eq x h, (m45_eq x h).1, (m9_eq x h).1, m47_eq x h, m48_eq x h, m46_refl (agreedC x) (agreed_size h)]
    have e23 := m23_refl (healC x) hh
    rw [show m23 ((((healC x).reps, ((healC x).wire, ((healC x).down, ([], ())))), (((healC x).reps, ((healC x).wire, ((healC x).down, ([], ())))), ())), ()) = some ((true, ()), ()) from by
      have : ((healC x).reps, ((healC x).wire, ((healC x).down, (([] : List CutT), ())))) = healC x := by rw [← hk]
      rw [this]; exact e23]
    simp only [sumE, sS, w64_nat (show z ≤ 4294967296 by omega)]

/-- What odd makes of a cluster. -/
def OddP (b : Unit × ((Dice × Unit) × (((Nat × Nat) × Unit) × Unit) × List RT × List MT × List Bool × List CutT × Unit)) : Prop :=
  ∃ (d : Dice) (a n : Nat) (R : List RT) (W : List MT) (D : List Bool) (K : List CutT), b = ((), ((d, ()), ((((a, n), ()), ()), (R, (W, (D, (K, ()))))))) ∧ a + n ≤ R.length ∧ DOK d ∧ ShC (cl ((R.drop a).take n) W D K)

theorem m25_ok {c : CT} (h : CG c) {d : Dice} (hd : DOK d) : ∃ b, m25 ((c, ()), ((d, ()), ())) = some b ∧ OddP b := by
  have hs := h.sh
  have n1 := h.n1
  have n5 := h.n5
  have hwl := h.wl
  have hdn := h.dn
  have hcl := cuts_len (by omega) h.cs
  have full : ∀ R : List RT, (R.drop 0).take R.length = R := fun R => by rw [List.drop_zero, List.take_length]
  unfold m25
  simp only [m51_eq c hs, Option.bind_some]
  refine bind_ex (P := fun v => ∃ (d : Dice) (a n : Nat) (R : List RT) (W : List MT) (D : List Bool) (K : List CutT), v = ((), ((d, ()), (u2, ((((a, n), ()), ()), (R, (W, (D, (K, ())))))))) ∧ a + n ≤ R.length ∧ DOK d ∧ ShC (cl ((R.drop a).take n) W D K)) ?_ ?_
  · obtain ⟨q, d1, e1, hd1, b1, _⟩ := next_spec 6 d hd (by omega)
    have b1 := b1 (by omega)
    simp only [e1, Option.bind_some, beq_decide]
    have hq : q = 0 ∨ q = 1 ∨ q = 2 ∨ q = 3 ∨ q = 4 ∨ q = 5 := by omega
    rcases hq with rfl | rfl | rfl | rfl | rfl | rfl
    · have b2 : decide (c.down.length + 1 ≤ 4294967296) = true := decide_eq_true (by omega)
      simp only [sumE, sS, List.length_cons, List.length_nil, Nat.zero_add, b2]
      refine ⟨_, rfl, d1, 0, c.reps.length, c.reps, c.wire, _, c.cut, rfl, by omega, hd1, ?_⟩
      rw [full]
      exact sh_same hs hs.w hs.wl (by rw [List.length_append, List.length_singleton]; omega) hs.cl
    · obtain ⟨u, d2, e2, hd2, _, _⟩ := next_spec 3 d1 hd1 (by omega)
      obtain ⟨t, d3, e3, hd3, _, _⟩ := next_spec 7 d2 hd2 (by omega)
      have b2 : decide (c.wire.length + 1 ≤ 4294967296) = true := decide_eq_true (by omega)
      simp only [Int.reduceEq, sumE, sS, e2, e3, List.length_cons, List.length_nil, Nat.zero_add, b2]
      refine ⟨_, rfl, d3, 0, c.reps.length, c.reps, _, c.down, c.cut, rfl, by omega, hd3, ?_⟩
      rw [full]
      refine sh_same hs (fun m hm => ?_) (by rw [List.length_append, List.length_singleton]; omega) hs.dl hs.cl
      rcases List.mem_append.1 hm with hm | hm
      · exact hs.w m hm
      · simp at hm; subst hm; exact Nat.zero_le _
    · obtain ⟨u, d2, e2, hd2, _, _⟩ := next_spec 4 d1 hd1 (by omega)
      obtain ⟨t, d3, e3, hd3, _, _⟩ := next_spec 4 d2 hd2 (by omega)
      have b2 : decide (c.cut.length + 1 ≤ 4294967296) = true := decide_eq_true (by omega)
      simp only [Int.reduceEq, sumE, sS, e2, e3, List.length_cons, List.length_nil, Nat.zero_add, b2]
      refine ⟨_, rfl, d3, 0, c.reps.length, c.reps, c.wire, c.down, _, rfl, by omega, hd3, ?_⟩
      rw [full]
      exact sh_same hs hs.w hs.wl hs.dl (by rw [List.length_append, List.length_singleton]; omega)
    · obtain ⟨u, d2, e2, hd2, bu, _⟩ := next_spec (c.reps.length : Int) d1 hd1 (by omega)
      obtain ⟨t, d3, e3, hd3, _, _⟩ := next_spec 3 d2 hd2 (by omega)
      have bu := bu (by omega)
      obtain ⟨r, er⟩ := getD_some (l := c.reps) (i := u.toNat) (by omega)
      have b2 : decide ((0 : Int) ≤ u ∧ u < (c.reps.length : Int)) = true := decide_eq_true bu
      simp only [Int.reduceEq, sumE, sS, e2, e3, b2, er]
      refine ⟨_, rfl, d3, 0, _, _, c.wire, c.down, c.cut, rfl, by omega, hd3, ?_⟩
      rw [full]
      exact sh_put hs (by have := hs.r r (List.mem_of_getElem? er); exact ⟨this.1, this.2.1, this.2.2⟩) hs.w hs.wl hs.dl hs.cl
    · have b2 : decide (1 ≤ c.reps.length ∧ c.reps.length ≤ c.reps.length) = true := decide_eq_true ⟨n1, Nat.le_refl _⟩
      simp only [Int.reduceEq, sumE, sS, b2]
      refine ⟨_, rfl, d1, 1, c.reps.length - 1, c.reps, c.wire, c.down, c.cut, rfl, by omega, hd1, ?_⟩
      refine ⟨fun r hr => hs.r r (List.mem_of_mem_drop (List.mem_of_mem_take hr)), ?_, hs.w, hs.wl, hs.dl, hs.cl⟩
      show ((c.reps.drop 1).take _).length ≤ _
      rw [List.length_take, List.length_drop]; omega
    · obtain ⟨u, d2, e2, hd2, _, _⟩ := next_spec 4 d1 hd1 (by omega)
      obtain ⟨r, er⟩ := getD_some (l := c.reps) (i := 0) (by omega)
      have b2 : decide ((0 : Int) ≤ 0 ∧ (0 : Int) < (c.reps.length : Int)) = true := decide_eq_true (by omega)
      simp only [Int.reduceEq, sumE, sS, e2, b2, er]
      refine ⟨_, rfl, d2, 0, _, _, c.wire, c.down, c.cut, rfl, by omega, hd2, ?_⟩
      rw [full]
      exact sh_put hs (by have := hs.r r (List.mem_of_getElem? er); exact ⟨this.1, this.2.1, this.2.2⟩) hs.w hs.wl hs.dl hs.cl
  · rintro _ ⟨d1, a, n, R, W, D, K, rfl, h1, h2, h3⟩
    exact ⟨_, rfl, d1, a, n, R, W, D, K, rfl, h1, h2, h3⟩

theorem law5c (l : List Int) (n i k : Int) (o : OpT) : m5 ((l, (n, (i, (k, (o, ()))))), ()) = some ((true, ()), ()) := by
  unfold m5
  simp only [light, Option.bind_some, sane34]
  by_cases hl : l.length ≤ 500
  · simp only [decide_eq_true hl, sumE, sS, roll]
    obtain ⟨c, d1, e1, h, hd1, _, _⟩ := m10_okw 16 (by omega) (by omega) (dok0 hl)
    obtain ⟨_, e2, d2, a, z, R, W, D, K, rfl, hb, hd2, hx⟩ := m25_ok h hd1
    simp only [e1, sumE, sS, e2, decide_eq_true hb]
    have lp := loop5a o k i n [c, cl ((R.drop a).take z) W D K] (by simp) (by
      intro x hx'
      simp only [List.mem_cons, List.not_mem_nil, or_false] at hx'
      rcases hx' with rfl | rfl
      · exact h.sh
      · exact hx) 2 0 d2 rfl hd2
    refine bind_of (.inr ((n, ()), ())) lp ?_
    obtain ⟨a1, a2, a3⟩ := m49_eq n
    simp only [sumE, sS, a1, (m50_eq n).1]
    rw [show m23 ((((newE n).2.reps, ([], ((newE n).2.down, ([], ())))), (((newE n).2.reps, ([], ((newE n).2.down, ([], ())))), ())), ()) = some ((true, ()), ()) from by
      have : ((newE n).2.reps, (([] : List MT), ((newE n).2.down, (([] : List CutT), ())))) = (newE n).2 := by
        rw [← a2, ← a3]
      rw [this]; exact m23_refl _ (sh_new n)]
    simp only [sumE, sS]
  · simp only [decide_eq_false hl, sumE, sS]

theorem law5 : ∀ x, Abs.InRs [.row (.int .i64), .int .i64, .int .i64, .int .i64, Z6] x → m5 (x, ()) = some ((true, ()), ()) := fun x _ => law5c x.1 x.2.1 x.2.2.1 x.2.2.2.1 x.2.2.2.2.1

end Go.Proofs.YtfbikpbejkgegaaGreat
