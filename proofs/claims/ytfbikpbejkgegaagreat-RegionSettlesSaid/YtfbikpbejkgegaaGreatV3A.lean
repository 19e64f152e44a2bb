/- Lemmas for the statement of the last text of this claim. -/
import Derived.Test.YtfbikpbejkgegaaGreatChecked
import Derived.Test.YtfbikpbejkgegaaGreatPxM
import Derived.WalkKit
import Derived.ProofKit
import Derived.Deep.RegionLaw
import Derived.Deep.LoopGhost
import Derived.Lib.Walk
import Derived.Maps.Own
import Derived.Shelf.RegionOpenPlain
import Derived.Lib.LazyBuf
import Derived.Test.YtfbikpbejkgegaaGreatPxK
set_option linter.unusedSimpArgs false
set_option linter.unusedVariables false
namespace Go.Raft
abbrev Ent (O : Type) := Int × O × Unit

abbrev Log (O : Type) := List (Ent O)

abbrev Rep (O : Type) := Int × Int × Int × Int × Log O × Int × List Bool × List Int × Unit

abbrev Msg (O : Type) := Int × Int × Int × Int × Int × Int × Int × Log O × Bool × Unit

variable {O : Type}
/-! ### Fields -/
abbrev rp (id term voted role : Int) (log : Log O) (commit : Int) (votes : List Bool) (mtch : List Int) : Rep O := (id, term, voted, role, log, commit, votes, mtch, ())

abbrev Rep.id (r : Rep O) : Int := r.1

abbrev Rep.term (r : Rep O) : Int := r.2.1

abbrev Rep.voted (r : Rep O) : Int := r.2.2.1

abbrev Rep.role (r : Rep O) : Int := r.2.2.2.1

abbrev Rep.log (r : Rep O) : Log O := r.2.2.2.2.1

abbrev Rep.commit (r : Rep O) : Int := r.2.2.2.2.2.1

abbrev Rep.votes (r : Rep O) : List Bool := r.2.2.2.2.2.2.1

abbrev Rep.mtch (r : Rep O) : List Int := r.2.2.2.2.2.2.2.1

section
variable (a b c d : Int) (l : Log O) (e : Int) (v : List Bool) (m : List Int)
@[simp] theorem rp_id : Rep.id (rp a b c d l e v m) = a := rfl

@[simp] theorem rp_term : Rep.term (rp a b c d l e v m) = b := rfl

@[simp] theorem rp_voted : Rep.voted (rp a b c d l e v m) = c := rfl

@[simp] theorem rp_role : Rep.role (rp a b c d l e v m) = d := rfl

@[simp] theorem rp_log : Rep.log (rp a b c d l e v m) = l := rfl

@[simp] theorem rp_commit : Rep.commit (rp a b c d l e v m) = e := rfl

@[simp] theorem rp_votes : Rep.votes (rp a b c d l e v m) = v := rfl

@[simp] theorem rp_mtch : Rep.mtch (rp a b c d l e v m) = m := rfl

end
abbrev mg (kind frm to term prev pterm commit : Int) (ents : Log O) (ok : Bool) : Msg O := (kind, frm, to, term, prev, pterm, commit, ents, ok, ())

abbrev Msg.kind (r : Msg O) : Int := r.1

abbrev Msg.frm (r : Msg O) : Int := r.2.1

abbrev Msg.to (r : Msg O) : Int := r.2.2.1

abbrev Msg.term (r : Msg O) : Int := r.2.2.2.1

abbrev Msg.prev (r : Msg O) : Int := r.2.2.2.2.1

abbrev Msg.pterm (r : Msg O) : Int := r.2.2.2.2.2.1

abbrev Msg.commit (r : Msg O) : Int := r.2.2.2.2.2.2.1

abbrev Msg.ents (r : Msg O) : Log O := r.2.2.2.2.2.2.2.1

abbrev Msg.ok (r : Msg O) : Bool := r.2.2.2.2.2.2.2.2.1

section
variable (a b c d e f g : Int) (l : Log O) (v : Bool)
@[simp] theorem mg_kind : Msg.kind (mg a b c d e f g l v) = a := rfl

@[simp] theorem mg_frm : Msg.frm (mg a b c d e f g l v) = b := rfl

@[simp] theorem mg_to : Msg.to (mg a b c d e f g l v) = c := rfl

@[simp] theorem mg_term : Msg.term (mg a b c d e f g l v) = d := rfl

@[simp] theorem mg_prev : Msg.prev (mg a b c d e f g l v) = e := rfl

@[simp] theorem mg_pterm : Msg.pterm (mg a b c d e f g l v) = f := rfl

@[simp] theorem mg_commit : Msg.commit (mg a b c d e f g l v) = g := rfl

@[simp] theorem mg_ents : Msg.ents (mg a b c d e f g l v) = l := rfl

@[simp] theorem mg_ok : Msg.ok (mg a b c d e f g l v) = v := rfl

end
/-! ### Chapter 32 -/
def quorum (n : Int) : Int := if 1 ≤ n ∧ n ≤ 5 then n / 2 + 1 else 0

def srt (top : Int) : Int → Log O → Bool
  | _, [] => true
  | lo, e :: l => decide (lo ≤ e.1) && decide (e.1 ≤ top) && srt top e.1 l

def logFits (l : Log O) (term : Int) : Bool := srt term 1 l && decide (l.length ≤ 256)

def inn (x a b : Int) : Bool := decide (a ≤ x) && decide (x ≤ b)

def roleOK (n : Int) (r : Rep O) : Bool :=
  if r.role = 0 then decide (r.votes.length = 0) && decide (r.mtch.length = 0)
  else if r.role = 1 then decide ((r.votes.length : Int) = n) && r.votes[r.id.toNat]?.getD false && decide (r.mtch.length = 0)
  else if r.role = 2 then decide ((r.votes.length : Int) = n) && r.votes[r.id.toNat]?.getD false && decide ((r.mtch.length : Int) = n) && decide (r.mtch[r.id.toNat]?.getD 0 = (r.log.length : Int)) && r.mtch.all (fun m => inn m 0 r.log.length)
  else false

def chk (n : Int) (r : Rep O) : Bool :=
  inn n 1 5 && inn r.id 0 (n - 1) && inn r.term 0 1048576 && inn r.voted (-1) (n - 1) && logFits r.log r.term && inn r.commit 0 r.log.length && roleOK n r

def lastT (l : Log O) : Int := match l.getLast? with
  | some e => e.1
  | none => 0

def fresh (l : Log O) (last term : Int) : Bool := decide (term > lastT l) || (decide (term = lastT l) && decide (last ≥ (l.length : Int)))

def fol (r : Rep O) (t : Int) : Rep O := if t > r.term then rp r.id t (-1) 0 r.log r.commit [] [] else r

def lead (n : Int) (r : Rep O) : Rep O := rp r.id r.term r.voted 2 r.log r.commit r.votes ((List.replicate n.toNat (0 : Int)).set r.id.toNat r.log.length)

def yes (v : List Bool) : Int := v.countP (· == true)

def asks (n : Int) (r : Rep O) : List (Msg O) :=
  ((List.range n.toNat).filter (fun (i : Nat) => (i : Int) ≠ r.id)).map fun (i : Nat) => mg 1 r.id (i : Int) (r.term + 1) r.log.length (lastT r.log) 0 [] false

def standR (n : Int) (r : Rep O) : Rep O :=
  let x := rp r.id (r.term + 1) r.id 1 r.log r.commit ((List.replicate n.toNat false).set r.id.toNat true) []
  if quorum n = 1 then lead n x else x

/-- Whether a message of a kind is one to a valid replica from another region. -/
def toOK (n : Int) (r : Rep O) (m : Msg O) (kind : Int) : Bool :=
  chk n r && decide (m.kind = kind) && decide (m.to = r.id) && inn m.frm 0 (n - 1) && decide (m.frm ≠ r.id) && inn m.term 1 1048576

def hearYes (r : Rep O) (m : Msg O) : Bool :=
  decide (r.term = m.term) && (decide (r.voted = -1) || decide (r.voted = m.frm)) && decide (r.role = 0) && fresh r.log m.prev m.pterm

def vote (r : Rep O) (c : Int) : Rep O := rp r.id r.term c r.role r.log r.commit r.votes r.mtch

def hearR (r : Rep O) (m : Msg O) : Rep O :=
  let x := fol r m.term
  if hearYes x m then vote x m.frm else x

def hearM (r : Rep O) (m : Msg O) : Msg O :=
  let x := fol r m.term
  mg 2 r.id m.frm x.term 0 0 0 [] (hearYes x m)

def zeroM : Msg O := mg 0 0 0 0 0 0 0 [] false

def hear (n : Int) (r : Rep O) (m : Msg O) : Rep O × Msg O × Bool :=
  if toOK n r m 1 then (hearR r m, hearM r m, true) else (r, zeroM, false)

def votedR (n : Int) (r : Rep O) (m : Msg O) : Rep O :=
  let x := rp r.id r.term r.voted r.role r.log r.commit (r.votes.set m.frm.toNat true) r.mtch
  if yes x.votes ≥ quorum n then lead n x else x

def voted (n : Int) (r : Rep O) (m : Msg O) : Rep O :=
  if toOK n r m 2 then
    if m.term > r.term then fol r m.term
    else if r.role = 1 ∧ m.term = r.term ∧ m.ok = true then votedR n r m else r
  else r

/-! ### Chapter 33 -/
def proposeR (n : Int) (r : Rep O) (o : O) : Rep O :=
  let l := r.log ++ [(r.term, o, ())]
  rp r.id r.term r.voted r.role l (if quorum n = 1 then (l.length : Int) else r.commit) r.votes (r.mtch.set r.id.toNat l.length)

/-- The term of the entry ahead of a place. -/
def ptermAt (l : Log O) (p : Int) : Int := if p > 0 then ((l[(p - 1).toNat]?).map (·.1)).getD 0 else 0

def appends (n : Int) (r : Rep O) : List (Msg O) :=
  ((List.range n.toNat).filter (fun (i : Nat) => (i : Int) ≠ r.id)).map fun (i : Nat) =>
    let p := r.mtch[i]?.getD 0
    mg 3 r.id (i : Int) r.term p (ptermAt r.log p) r.commit (r.log.drop p.toNat) false

/-- The number of entries at the beginning of a list that have the terms of those of a log. -/
def agree : Log O → Log O → Nat
  | e :: l, x :: y => if e.1 = x.1 then agree l y + 1 else 0
  | _, _ => 0

def joined (l : Log O) (prev : Nat) (ents : Log O) : Log O × Nat :=
  let s := agree (l.drop prev) ents
  if s = ents.length then (l, l.length) else (l.take (prev + s) ++ ents.drop s, prev + s)

def fits (r : Rep O) (m : Msg O) : Bool :=
  decide (m.term = r.term) && decide (r.role ≠ 2) && decide (m.prev ≤ r.log.length) && (decide (m.prev = 0) || decide (ptermAt r.log m.prev = m.pterm))

/-- What a replica is that hears the leader of its term. -/
def back (r : Rep O) (t : Int) : Rep O :=
  let x := fol r t
  if x.role = 1 ∧ x.term = t then rp x.id x.term x.voted 0 x.log x.commit [] x.mtch else x

def acceptable (n : Int) (r : Rep O) (m : Msg O) : Bool := toOK n r m 3 && decide (0 ≤ m.prev) && decide (0 ≤ m.pterm) && decide (0 ≤ m.commit)

def accept (n : Int) (r : Rep O) (m : Msg O) : Rep O × Msg O × Bool :=
  if acceptable n r m then
    let x := back r m.term
    if fits x m then
      let j := joined x.log m.prev.toNat m.ents
      let e := m.prev + m.ents.length
      if logFits j.1 m.term && decide (x.commit ≤ (j.2 : Int)) then
        (rp x.id x.term x.voted x.role j.1 (max x.commit (min m.commit e)) x.votes x.mtch, mg 4 r.id m.frm x.term e 0 0 [] true, true)
      else (r, zeroM, false)
    else (x, mg 4 r.id m.frm x.term 0 0 0 [] false, true)
  else (r, zeroM, false)

def have_ (v : List Int) (i : Int) : Int := v.countP (fun m => decide (m ≥ i))

/-- The greatest commit from a place downwards. -/
def newCommit (n : Int) (r : Rep O) (v : List Int) : Nat → Int
  | 0 => r.commit
  | i + 1 => if ((i + 1 : Nat) : Int) > r.commit then
      (if have_ v ((i + 1 : Nat) : Int) ≥ quorum n ∧ ((r.log[i]?).map (·.1)).getD 0 = r.term then ((i + 1 : Nat) : Int) else newCommit n r v i)
    else r.commit

def appendedR (n : Int) (r : Rep O) (m : Msg O) : Rep O :=
  let v := r.mtch.set m.frm.toNat (max (r.mtch[m.frm.toNat]?.getD 0) m.prev)
  rp r.id r.term r.voted r.role r.log (newCommit n r v r.log.length) r.votes v

def appended (n : Int) (r : Rep O) (m : Msg O) : Rep O :=
  if toOK n r m 4 then
    if m.term > r.term then fol r m.term
    else if r.role = 2 ∧ m.term = r.term ∧ m.ok = true ∧ 0 ≤ m.prev ∧ m.prev ≤ r.log.length then appendedR n r m else r
  else r

def restartR (r : Rep O) : Rep O := rp r.id r.term r.voted 0 r.log r.commit [] []

end Go.Raft

namespace Go.Raft
variable {O : Type}
theorem srt_iff {top : Int} : ∀ {lo : Int} {l : Log O}, srt top lo l = true ↔ (∀ e ∈ l, lo ≤ e.1 ∧ e.1 ≤ top) ∧ l.Pairwise (fun a b => a.1 ≤ b.1) := by
  intro lo l
  induction l generalizing lo with
  | nil => simp [srt]
  | cons e l ih =>
    simp only [srt, Bool.and_eq_true, decide_eq_true_eq, ih, List.mem_cons, forall_eq_or_imp, List.pairwise_cons]
    constructor
    · rintro ⟨⟨h1, h2⟩, h3, h4⟩
      exact ⟨⟨⟨h1, h2⟩, fun a ha => ⟨by have := (h3 a ha).1; omega, (h3 a ha).2⟩⟩, fun a ha => (h3 a ha).1, h4⟩
    · rintro ⟨⟨⟨h1, h2⟩, h3⟩, h4, h5⟩
      exact ⟨⟨h1, h2⟩, fun a ha => ⟨h4 a ha, (h3 a ha).2⟩, h5⟩

theorem srt_top {a b lo : Int} {l : Log O} (h : srt a lo l = true) (hab : a ≤ b) : srt b lo l = true := by
  rw [srt_iff] at h ⊢
  exact ⟨fun e he => ⟨(h.1 e he).1, by have := (h.1 e he).2; omega⟩, h.2⟩

theorem srt_snoc {a lo : Int} {l : Log O} {e : Ent O} (h : srt a lo l = true) (h1 : lo ≤ e.1) (h2 : a ≤ e.1) : srt e.1 lo (l ++ [e]) = true := by
  rw [srt_iff] at h ⊢
  constructor
  · intro x hx
    rcases List.mem_append.1 hx with hx | hx
    · have := h.1 x hx; omega
    · simp at hx; subst hx; omega
  · rw [List.pairwise_append]
    refine ⟨h.2, List.pairwise_singleton _ _, fun x hx y hy => ?_⟩
    simp at hy; subst hy
    have := h.1 x hx; omega

theorem lastT_nil : lastT ([] : Log O) = 0 := rfl

theorem lastT_get {l : Log O} {k : Nat} {e : Ent O} (h : l[k]? = some e) (hk : k + 1 = l.length) : lastT l = e.1 := by
  unfold lastT
  rw [List.getLast?_eq_getElem?, show l.length - 1 = k by omega, h]

theorem le_lastT {top : Int} {l : Log O} (h : srt top 1 l = true) {k : Nat} {e : Ent O} (hk : l[k]? = some e) : e.1 ≤ lastT l := by
  rw [srt_iff] at h
  obtain ⟨hk1, hk2⟩ := List.getElem?_eq_some_iff.1 hk
  have hl : l[l.length - 1]? = some (l[l.length - 1]'(by omega)) := List.getElem?_eq_getElem _
  rw [lastT_get hl (by omega)]
  rcases Nat.lt_or_ge k (l.length - 1) with hlt | hge
  · have := (List.pairwise_iff_getElem.1 h.2) k (l.length - 1) hk1 (by omega) hlt
    rw [← hk2]; exact this
  · have : k = l.length - 1 := by omega
    subst this
    rw [← hk2]; exact Int.le_refl _

theorem lastT_nonneg {top : Int} {l : Log O} (h : srt top 1 l = true) : 0 ≤ lastT l := by
  unfold lastT
  cases hg : l.getLast? with
  | none => exact Int.le_refl _
  | some e => have := ((srt_iff.1 h).1 e (List.mem_of_getLast? hg)).1; show 0 ≤ e.1; omega

structure Chk (n : Int) (r : Rep O) : Prop where
  n1 : 1 ≤ n
  n5 : n ≤ 5
  i0 : 0 ≤ r.id
  i1 : r.id < n
  t0 : 0 ≤ r.term
  t1 : r.term ≤ 1048576
  v0 : -1 ≤ r.voted
  v1 : r.voted < n
  so : srt r.term 1 r.log = true
  ll : r.log.length ≤ 256
  c0 : 0 ≤ r.commit
  c1 : r.commit ≤ r.log.length
  ro : roleOK n r = true

theorem chk_iff {n : Int} {r : Rep O} : chk n r = true ↔ Chk n r := by
  simp only [chk, inn, logFits, Bool.and_eq_true, decide_eq_true_eq]
  constructor
  · rintro ⟨⟨⟨⟨⟨⟨h1, h2⟩, h3⟩, h4⟩, h5⟩, h6⟩, h7⟩
    exact ⟨by omega, by omega, by omega, by omega, by omega, by omega, by omega, by omega, h5.1, h5.2, by omega, by omega, h7⟩
  · rintro ⟨h1, h2, h3, h4, h5, h6, h7, h8, h9, h10, h11, h12, h13⟩
    exact ⟨⟨⟨⟨⟨⟨by omega, by omega⟩, by omega⟩, by omega⟩, h9, h10⟩, by omega⟩, h13⟩

theorem quorum_eq {n : Int} (h1 : 1 ≤ n) (h5 : n ≤ 5) : quorum n = n / 2 + 1 := by rw [quorum, if_pos ⟨h1, h5⟩]

theorem role_cases {n : Int} {r : Rep O} (h : roleOK n r = true) : r.role = 0 ∨ r.role = 1 ∨ r.role = 2 := by
  unfold roleOK at h
  by_cases h0 : r.role = 0
  · exact .inl h0
  by_cases h1 : r.role = 1
  · exact .inr (.inl h1)
  by_cases h2 : r.role = 2
  · exact .inr (.inr h2)
  rw [if_neg h0, if_neg h1, if_neg h2] at h
  cases h

theorem role0_iff {n : Int} {r : Rep O} (h : r.role = 0) : roleOK n r = true ↔ r.votes = [] ∧ r.mtch = [] := by
  unfold roleOK
  rw [if_pos h]
  simp

theorem role1_iff {n : Int} {r : Rep O} (h : r.role = 1) : roleOK n r = true ↔ (r.votes.length : Int) = n ∧ r.votes[r.id.toNat]? = some true ∧ r.mtch = [] := by
  unfold roleOK
  rw [if_neg (by omega), if_pos h]
  simp only [Bool.and_eq_true, decide_eq_true_eq, and_assoc, List.length_eq_zero_iff]
  cases hg : r.votes[r.id.toNat]? <;> simp

theorem role2_iff {n : Int} {r : Rep O} (h : r.role = 2) : roleOK n r = true ↔ (r.votes.length : Int) = n ∧ r.votes[r.id.toNat]? = some true ∧ (r.mtch.length : Int) = n ∧ r.mtch[r.id.toNat]?.getD 0 = (r.log.length : Int) ∧ ∀ m ∈ r.mtch, 0 ≤ m ∧ m ≤ (r.log.length : Int) := by
  unfold roleOK
  rw [if_neg (by omega), if_neg (by omega), if_pos h]
  simp only [Bool.and_eq_true, decide_eq_true_eq, and_assoc, List.all_eq_true, inn]
  cases hg : r.votes[r.id.toNat]? <;> simp

theorem chk_follow {n : Int} {r : Rep O} {t : Int} (h : Chk n r) (ht : t ≤ 1048576) : Chk n (fol r t) := by
  unfold fol
  split
  · rename_i hgt
    have := h.n1; have := h.t0
    exact ⟨h.n1, h.n5, h.i0, h.i1, by simp; omega, by simpa using ht, by simp, by simp; omega, by simpa using srt_top h.so (by omega), h.ll, h.c0, h.c1, (role0_iff rfl).2 ⟨rfl, rfl⟩⟩
  · exact h

theorem chk_lead {n : Int} {r : Rep O} (h : Chk n r) (h1 : r.role = 1) : Chk n (lead n r) := by
  obtain ⟨v1, v2, _⟩ := (role1_iff h1).1 h.ro
  have := h.n1; have := h.i0; have := h.i1
  refine ⟨h.n1, h.n5, h.i0, h.i1, h.t0, h.t1, h.v0, h.v1, h.so, h.ll, h.c0, h.c1, (role2_iff (by simp [lead])).2 ?_⟩
  refine ⟨by simpa [lead] using v1, by simpa [lead] using v2, by simp [lead]; omega, ?_, ?_⟩
  · simp only [lead, rp_mtch, rp_id, rp_log]
    rw [List.getElem?_set_self (by simp; omega)]; rfl
  · intro m hm
    simp only [lead, rp_mtch, rp_log] at hm ⊢
    rcases List.mem_or_eq_of_mem_set hm with hm | hm
    · have := List.eq_of_mem_replicate hm; omega
    · omega

/-- A candidate in a new term. -/
def cand (n : Int) (r : Rep O) : Rep O := rp r.id (r.term + 1) r.id 1 r.log r.commit ((List.replicate n.toNat false).set r.id.toNat true) []

theorem chk_cand {n : Int} {r : Rep O} (h : Chk n r) (ht : r.term ≠ 1048576) : Chk n (cand n r) := by
  have := h.n1; have := h.i0; have := h.i1; have := h.t0; have := h.t1
  refine ⟨h.n1, h.n5, h.i0, h.i1, by simp [cand]; omega, by simp [cand]; omega, by simp [cand]; omega, by simp [cand]; omega, by simpa [cand] using srt_top h.so (by omega), h.ll, h.c0, h.c1, (role1_iff (by simp [cand])).2 ?_⟩
  refine ⟨by simp [cand]; omega, ?_, by simp [cand]⟩
  simp only [cand, rp_votes, rp_id]
  rw [List.getElem?_set_self (by simp; omega)]

theorem chk_stand {n : Int} {r : Rep O} (h : Chk n r) (ht : r.term ≠ 1048576) : Chk n (standR n r) := by
  unfold standR
  simp only
  split
  · exact chk_lead (chk_cand h ht) (by simp [cand])
  · exact chk_cand h ht

theorem toOK_iff {n : Int} {r : Rep O} {m : Msg O} {k : Int} : toOK n r m k = true ↔ Chk n r ∧ m.kind = k ∧ m.to = r.id ∧ 0 ≤ m.frm ∧ m.frm < n ∧ m.frm ≠ r.id ∧ 1 ≤ m.term ∧ m.term ≤ 1048576 := by
  simp only [toOK, inn, Bool.and_eq_true, decide_eq_true_eq, chk_iff, and_assoc]
  constructor
  · rintro ⟨h1, h2, h3, h4, h5, h6, h7, h8⟩; exact ⟨h1, h2, h3, h4, by omega, h6, h7, h8⟩
  · rintro ⟨h1, h2, h3, h4, h5, h6, h7, h8⟩; exact ⟨h1, h2, h3, h4, by omega, h6, h7, h8⟩

theorem chk_vote {n : Int} {r : Rep O} (h : Chk n r) {c : Int} (h0 : 0 ≤ c) (h1 : c < n) : Chk n (vote r c) :=
  ⟨h.n1, h.n5, h.i0, h.i1, h.t0, h.t1, by simp [vote]; omega, by simpa [vote] using h1, h.so, h.ll, h.c0, h.c1, h.ro⟩

theorem chk_hearR {n : Int} {r : Rep O} {m : Msg O} (h : toOK n r m 1 = true) : Chk n (hearR r m) := by
  obtain ⟨h1, _, _, h4, h5, _, _, h8⟩ := toOK_iff.1 h
  unfold hearR
  simp only
  split
  · exact chk_vote (chk_follow h1 h8) h4 h5
  · exact chk_follow h1 h8

theorem chk_voted {n : Int} {r : Rep O} {m : Msg O} (h : Chk n r) : Chk n (voted n r m) := by
  unfold voted
  split
  · rename_i ho
    obtain ⟨h1, _, _, h4, h5, h6, _, h8⟩ := toOK_iff.1 ho
    split
    · exact chk_follow h1 h8
    · split
      · rename_i hr
        obtain ⟨v1, v2, v3⟩ := (role1_iff hr.1).1 h.ro
        have hc : Chk n (rp r.id r.term r.voted r.role r.log r.commit (r.votes.set m.frm.toNat true) r.mtch) := by
          refine ⟨h.n1, h.n5, h.i0, h.i1, h.t0, h.t1, h.v0, h.v1, h.so, h.ll, h.c0, h.c1, (role1_iff (by simpa using hr.1)).2 ⟨by simpa using v1, ?_, by simpa using v3⟩⟩
          simp only [rp_votes, rp_id]
          rw [List.getElem?_set]
          have := h.i0
          split
          · have : r.id.toNat < r.votes.length := (List.getElem?_eq_some_iff.1 v2).1
            rename_i e; rw [if_pos (by omega)]
          · exact v2
        unfold votedR
        simp only
        split
        · exact chk_lead hc (by simpa using hr.1)
        · exact hc
      · exact h
  · exact h

theorem chk_propose {n : Int} {r : Rep O} {o : O} (h : Chk n r) (h2 : r.role = 2) (h3 : r.log.length < 256) (ht : 1 ≤ r.term) : Chk n (proposeR n r o) := by
  obtain ⟨v1, v2, v3, v4, v5⟩ := (role2_iff h2).1 h.ro
  have := h.i0; have := h.i1; have := h.c0; have := h.c1
  refine ⟨h.n1, h.n5, h.i0, h.i1, h.t0, h.t1, h.v0, h.v1, ?_, by simp [proposeR]; omega, ?_, ?_, (role2_iff (by simpa [proposeR] using h2)).2 ?_⟩
  · exact srt_snoc (e := (r.term, o, ())) h.so ht (Int.le_refl _)
  · simp only [proposeR, rp_commit]; split <;> (try simp) <;> omega
  · simp only [proposeR, rp_commit, rp_log]; split <;> (try simp) <;> omega
  · refine ⟨by simpa [proposeR] using v1, by simpa [proposeR] using v2, by simpa [proposeR] using v3, ?_, ?_⟩
    · simp only [proposeR, rp_mtch, rp_id, rp_log]
      rw [List.getElem?_set_self (by omega)]; rfl
    · intro m hm
      simp only [proposeR, rp_mtch, rp_log] at hm ⊢
      rcases List.mem_or_eq_of_mem_set hm with hm | hm
      · have := v5 m hm; simp; omega
      · simp at hm ⊢; omega

theorem chk_back {n : Int} {r : Rep O} {t : Int} (h : Chk n r) (ht : t ≤ 1048576) : Chk n (back r t) := by
  have hf := chk_follow (t := t) h ht
  unfold back
  simp only
  split
  · rename_i hr
    obtain ⟨v1, v2, v3⟩ := (role1_iff hr.1).1 hf.ro
    exact ⟨hf.n1, hf.n5, hf.i0, hf.i1, hf.t0, hf.t1, hf.v0, hf.v1, hf.so, hf.ll, hf.c0, hf.c1, (role0_iff rfl).2 ⟨rfl, by simpa using v3⟩⟩
  · exact hf

theorem agree_le : ∀ (l e : Log O), agree l e ≤ l.length ∧ agree l e ≤ e.length := by
  intro l e
  induction l generalizing e with
  | nil => simp [agree]
  | cons x l ih =>
    cases e with
    | nil => simp [agree]
    | cons y e =>
      simp only [agree]
      split
      · have := ih e; simp only [List.length_cons]; omega
      · simp

theorem joined_le {l : Log O} {p : Nat} {e : Log O} (hp : p ≤ l.length) : (joined l p e).2 ≤ (joined l p e).1.length := by
  have := agree_le (l.drop p) e
  simp only [List.length_drop] at this
  unfold joined
  simp only
  split
  · exact Nat.le_refl _
  · simp; omega

theorem joined_end {l : Log O} {p : Nat} {e : Log O} (hp : p ≤ l.length) : p + e.length ≤ (joined l p e).1.length := by
  have := agree_le (l.drop p) e
  simp only [List.length_drop] at this
  unfold joined
  simp only
  split
  · simp only; omega
  · simp; omega

theorem back_role {r : Rep O} {t : Int} (ht : (back r t).term = t) : (back r t).role ≠ 1 := by
  unfold back at ht ⊢
  simp only at ht ⊢
  split
  · simp
  · rename_i h
    intro h1
    rw [if_neg h] at ht
    exact h ⟨h1, ht⟩

theorem chk_accept {n : Int} {r : Rep O} {m : Msg O} (h : Chk n r) : Chk n (accept n r m).1 := by
  unfold accept
  split
  · rename_i ha
    simp only [acceptable, Bool.and_eq_true, decide_eq_true_eq] at ha
    obtain ⟨⟨⟨ha, hp⟩, _⟩, hcm⟩ := ha
    obtain ⟨_, _, _, _, _, _, ht1, ht2⟩ := toOK_iff.1 ha
    have hb := chk_back (t := m.term) h ht2
    simp only
    split
    · rename_i hf
      split
      · rename_i hj
        simp only [fits, Bool.and_eq_true, decide_eq_true_eq] at hf
        obtain ⟨⟨⟨hf1, hf2⟩, hf3⟩, _⟩ := hf
        simp only [logFits, Bool.and_eq_true, decide_eq_true_eq] at hj
        have hle : m.prev.toNat ≤ (back r m.term).log.length := by omega
        have h1 := joined_le (e := m.ents) hle
        have h2 := joined_end (e := m.ents) hle
        have := hb.c0
        refine ⟨hb.n1, hb.n5, hb.i0, hb.i1, hb.t0, hb.t1, hb.v0, hb.v1, ?_, hj.1.2, ?_, ?_, ?_⟩
        · have := hj.1.1; simp only [rp_term, rp_log]; rw [← hf1]; exact this
        · simp only [rp_commit]; omega
        · simp only [rp_commit, rp_log]; omega
        · have hr : (back r m.term).role = 0 := by
            rcases role_cases hb.ro with h0 | h0 | h0
            · exact h0
            · exact absurd h0 (back_role hf1.symm)
            · exact absurd h0 hf2
          exact (role0_iff (by simpa using hr)).2 ((role0_iff hr).1 hb.ro)
      · exact h
    · exact hb
  · exact h

theorem newCommit_le {n : Int} {r : Rep O} {v : List Int} : ∀ (i : Nat), r.commit ≤ newCommit n r v i ∧ (newCommit n r v i = r.commit ∨ newCommit n r v i ≤ i) := by
  intro i
  induction i with
  | zero => simp [newCommit]
  | succ i ih =>
    unfold newCommit
    split
    · split
      · constructor
        · omega
        · right; omega
      · exact ⟨ih.1, ih.2.imp id (by omega)⟩
    · simp

theorem chk_appended {n : Int} {r : Rep O} {m : Msg O} (h : Chk n r) : Chk n (appended n r m) := by
  unfold appended
  split
  · rename_i ho
    obtain ⟨h1, _, _, h4, h5, h6, _, h8⟩ := toOK_iff.1 ho
    split
    · exact chk_follow h1 h8
    · split
      · rename_i hr
        obtain ⟨v1, v2, v3, v4, v5⟩ := (role2_iff hr.1).1 h.ro
        have hn := newCommit_le (n := n) (r := r) (v := r.mtch.set m.frm.toNat (max (r.mtch[m.frm.toNat]?.getD 0) m.prev)) r.log.length
        have := h.c0; have := h.c1; have := h.i0; have := h.i1
        refine ⟨h.n1, h.n5, h.i0, h.i1, h.t0, h.t1, h.v0, h.v1, h.so, h.ll, ?_, ?_, (role2_iff (by simpa [appendedR] using hr.1)).2 ?_⟩
        · simp only [appendedR, rp_commit]; omega
        · simp only [appendedR, rp_commit, rp_log]; omega
        · refine ⟨by simpa [appendedR] using v1, by simpa [appendedR] using v2, by simpa [appendedR] using v3, ?_, ?_⟩
          · simp only [appendedR, rp_mtch, rp_id, rp_log]
            rw [List.getElem?_set, if_neg (by omega)]; exact v4
          · intro x hx
            simp only [appendedR, rp_mtch, rp_log] at hx ⊢
            rcases List.mem_or_eq_of_mem_set hx with hx | hx
            · exact v5 x hx
            · have : 0 ≤ r.mtch[m.frm.toNat]?.getD 0 ∧ r.mtch[m.frm.toNat]?.getD 0 ≤ (r.log.length : Int) := by
                cases hg : r.mtch[m.frm.toNat]? with
                | none => simp
                | some y => exact v5 y (List.mem_of_getElem? hg)
              omega
      · exact h
  · exact h

theorem chk_restart {n : Int} {r : Rep O} (h : Chk n r) : Chk n (restartR r) :=
  ⟨h.n1, h.n5, h.i0, h.i1, h.t0, h.t1, h.v0, h.v1, h.so, h.ll, h.c0, h.c1, (role0_iff rfl).2 ⟨rfl, rfl⟩⟩

theorem chk_hear {n : Int} {r : Rep O} {m : Msg O} (h : Chk n r) : Chk n (hear n r m).1 := by
  unfold hear
  split
  · rename_i ho; exact chk_hearR ho
  · exact h

end Go.Raft

namespace Go.Raft
variable {O : Type}
/-! ### Majorities -/
def Maj (n : Nat) (p : Nat → Prop) : Prop := ∃ q : Nat → Bool, (∀ j, j < n → q j = true → p j) ∧ n < 2 * (List.range n).countP q

theorem countP_both (p q : Nat → Bool) (l : List Nat) : l.countP p + l.countP q ≤ l.length + l.countP (fun j => p j && q j) := by
  induction l with
  | nil => simp
  | cons a l ih =>
    simp only [List.countP_cons, List.length_cons]
    cases p a <;> cases q a <;> simp <;> omega

theorem Maj.both {n : Nat} {p q : Nat → Prop} (h1 : Maj n p) (h2 : Maj n q) : ∃ j, j < n ∧ p j ∧ q j := by
  obtain ⟨a, ha, ca⟩ := h1
  obtain ⟨b, hb, cb⟩ := h2
  have h := countP_both a b (List.range n)
  rw [List.length_range] at h
  have h0 : 0 < (List.range n).countP (fun j => a j && b j) := by omega
  obtain ⟨j, hj, hab⟩ := List.countP_pos_iff.1 h0
  rw [Bool.and_eq_true] at hab
  exact ⟨j, List.mem_range.1 hj, ha j (List.mem_range.1 hj) hab.1, hb j (List.mem_range.1 hj) hab.2⟩

theorem Maj.mono {n : Nat} {p q : Nat → Prop} (h : Maj n p) (f : ∀ j, j < n → p j → q j) : Maj n q := by
  obtain ⟨a, ha, ca⟩ := h
  exact ⟨a, fun j hj hq => f j hj (ha j hj hq), ca⟩

/-! ### The book of what has happened -/
structure LR (O : Type) where
  who : Nat
  el : Log O
  cur : Log O

structure Gh (O : Type) where
  rc : Int → Option (LR O)
  vt : Int → Nat → Option (Nat × Log O)
  ack : Int → Nat → Nat

def Own (g : Gh O) (T : Int) (k : Nat) : Prop := ∃ R e, g.rc T = some R ∧ R.cur[k]? = some e ∧ e.1 = T

def Has (g : Gh O) (T : Int) (k : Nat) (L : Log O) : Prop := ∃ R, g.rc T = some R ∧ k < R.cur.length ∧ L.take (k + 1) = R.cur.take (k + 1)

def Dead (n : Nat) (tm : Nat → Int) (g : Gh O) (T : Int) (k : Nat) : Prop := Maj n (fun j => T < tm j ∧ g.ack T j ≤ k)

def logP (g : Gh O) (L : Log O) : Prop := ∀ k e, L[k]? = some e → Has g e.1 k L

def Comm (n : Nat) (g : Gh O) (T : Int) (k : Nat) : Prop := Own g T k ∧ Maj n (fun j => k < g.ack T j)

def Cov (n : Nat) (g : Gh O) (T : Int) (L : Log O) (c : Nat) : Prop := c = 0 ∨ ∃ T' k R, T' ≤ T ∧ Comm n g T' k ∧ c ≤ k + 1 ∧ g.rc T' = some R ∧ L.take c = R.cur.take c

def upto (a b : Log O) : Prop := lastT b < lastT a ∨ (lastT b = lastT a ∧ b.length ≤ a.length)

structure VotOK (n : Nat) (tm : Nat → Int) (g : Gh O) (U : Int) (i c : Nat) (vl : Log O) : Prop where
  hi : i < n
  hc : c < n
  hU : 1 ≤ U
  ht : U ≤ tm i
  fr : ∃ cl, g.vt U c = some (c, cl) ∧ upto cl vl
  lp : logP g vl
  so : ∃ top, srt top 1 vl = true
  own : i = c → ∀ e ∈ vl, e.1 < U
  ak : ∀ T k, T < U → Own g T k → k < g.ack T i → Has g T k vl ∨ Dead n tm g T k

structure RecOK (n : Nat) (tm : Nat → Int) (g : Gh O) (U : Int) (R : LR O) : Prop where
  hw : R.who < n
  hU : 1 ≤ U
  ht : U ≤ tm R.who
  pre : R.el <+: R.cur
  vt : g.vt U R.who = some (R.who, R.el)
  mj : Maj n (fun j => ∃ vl, g.vt U j = some (R.who, vl))
  tms : ∀ k e, R.cur[k]? = some e → if k < R.el.length then e.1 < U else e.1 = U
  lp : logP g R.cur
  sf : ∀ T k, T < U → Own g T k → Has g T k R.el ∨ Dead n tm g T k

def AckOK (tm : Nat → Int) (g : Gh O) : Prop := ∀ T j, 0 < g.ack T j → T ≤ tm j ∧ ∃ R, g.rc T = some R ∧ g.ack T j ≤ R.cur.length

structure NodOK (n : Nat) (tm : Nat → Int) (g : Gh O) (i : Nat) (r : Rep O) : Prop where
  id : r.id = (i : Int)
  chk : Chk (n : Int) r
  tme : tm i = r.term
  lp : logP g r.log
  ak : ∀ T k, Own g T k → k < g.ack T i → Has g T k r.log ∨ Dead n tm g T k
  v0 : g.vt r.term i = none → r.voted = -1
  v1 : ∀ c vl, g.vt r.term i = some (c, vl) → r.voted = (c : Int)
  cv : Cov n g r.term r.log r.commit.toNat
  cd : r.role = 1 → g.vt r.term i = some (i, r.log) ∧ (∀ R, g.rc r.term = some R → R.who ≠ i) ∧ ∀ j, r.votes[j]? = some true → ∃ vl, g.vt r.term j = some (i, vl)
  ld : r.role = 2 → ∃ R, g.rc r.term = some R ∧ R.who = i ∧ R.cur = r.log ∧ ∀ j p, r.mtch[j]? = some p → p.toNat ≤ g.ack r.term j

structure MsgOK (n : Nat) (g : Gh O) (m : Msg O) : Prop where
  k1 : m.kind = 1 → ∃ (c : Nat) (cl : Log O), m.frm = (c : Int) ∧ g.vt m.term c = some (c, cl) ∧ m.prev = (cl.length : Int) ∧ m.pterm = lastT cl
  k2 : m.kind = 2 → m.ok = true → ∃ (i c : Nat) (vl : Log O), m.frm = (i : Int) ∧ m.to = (c : Int) ∧ g.vt m.term i = some (c, vl)
  k3 : m.kind = 3 → ∃ R, g.rc m.term = some R ∧ 0 ≤ m.prev ∧ m.prev.toNat + m.ents.length ≤ R.cur.length ∧ (R.cur.drop m.prev.toNat).take m.ents.length = m.ents ∧ m.pterm = ptermAt R.cur m.prev ∧ Cov n g m.term R.cur m.commit.toNat
  k4 : m.kind = 4 → m.ok = true → ∃ (i : Nat), m.frm = (i : Int) ∧ m.prev.toNat ≤ g.ack m.term i

def tmOf (reps : List (Rep O)) (j : Nat) : Int := ((reps[j]?).map Rep.term).getD 0

structure Inv (n : Nat) (reps : List (Rep O)) (g : Gh O) : Prop where
  len : reps.length = n
  nod : ∀ i r, reps[i]? = some r → NodOK n (tmOf reps) g i r
  vot : ∀ U i c vl, g.vt U i = some (c, vl) → VotOK n (tmOf reps) g U i c vl
  rcd : ∀ U R, g.rc U = some R → RecOK n (tmOf reps) g U R
  ack : AckOK (tmOf reps) g

structure Ext (tm : Nat → Int) (g : Gh O) (tm' : Nat → Int) (g' : Gh O) : Prop where
  tml : ∀ j, tm j ≤ tm' j
  rc : ∀ T R, g.rc T = some R → ∃ R', g'.rc T = some R' ∧ R'.who = R.who ∧ R'.el = R.el ∧ R.cur <+: R'.cur
  nw : ∀ T R', g'.rc T = some R' → (∃ R, g.rc T = some R) ∨ ∀ (k : Nat) e, R'.cur[k]? = some e → e.1 ≠ T
  vt : ∀ T j x, g.vt T j = some x → g'.vt T j = some x
  ak : ∀ T j, g.ack T j ≤ g'.ack T j
  fz : ∀ T j, T < tm j → g'.ack T j = g.ack T j

/-! ### Beginnings of lists -/
theorem pre_get {α : Type} {a b : List α} (h : a <+: b) {k : Nat} (hk : k < a.length) : b[k]? = a[k]? := by
  obtain ⟨t, rfl⟩ := h
  rw [List.getElem?_append_left hk]

theorem pre_take {α : Type} {a b : List α} (h : a <+: b) {k : Nat} (hk : k ≤ a.length) : b.take k = a.take k := by
  obtain ⟨t, rfl⟩ := h
  rw [List.take_append_of_le_length hk]

theorem take_lt {α : Type} {a b : List α} {k : Nat} (h : a.take k = b.take k) (hb : k ≤ b.length) : k ≤ a.length := by
  have := congrArg List.length h
  simp only [List.length_take] at this
  omega

theorem take_le {α : Type} {a b : List α} {k m : Nat} (h : a.take k = b.take k) (hm : m ≤ k) : a.take m = b.take m := by
  have := congrArg (List.take m) h
  rwa [List.take_take, List.take_take, Nat.min_eq_left hm] at this

theorem take_get {α : Type} {a b : List α} {k m : Nat} (h : a.take k = b.take k) (hm : m < k) : a[m]? = b[m]? := by
  have := congrArg (fun l => l[m]?) h
  simpa only [List.getElem?_take_of_lt hm] using this

theorem Has.lt {g : Gh O} {T : Int} {k : Nat} {L : Log O} (h : Has g T k L) : k < L.length := by
  obtain ⟨R, _, hk, e⟩ := h
  have := take_lt e (by omega)
  omega

theorem Cov.le {n : Nat} {g : Gh O} {T : Int} {L : Log O} {c : Nat} (h : Cov n g T L c) : c ≤ L.length := by
  rcases h with rfl | ⟨T', k, R, _, ⟨⟨R1, e, h1, h2, _⟩, _⟩, hc, hr, he⟩
  · omega
  · rw [h1] at hr; cases hr
    have := (List.getElem?_eq_some_iff.1 h2).1
    exact take_lt he (by omega)

theorem Cov.down {n : Nat} {g : Gh O} {T : Int} {L : Log O} {c d : Nat} (h : Cov n g T L c) (hd : d ≤ c) : Cov n g T L d := by
  rcases h with rfl | ⟨T', k, R, h1, h2, h3, h4, h5⟩
  · exact .inl (by omega)
  · exact .inr ⟨T', k, R, h1, h2, by omega, h4, take_le h5 hd⟩

theorem Cov.term {n : Nat} {g : Gh O} {T U : Int} {L : Log O} {c : Nat} (h : Cov n g T L c) (hd : T ≤ U) : Cov n g U L c := by
  rcases h with rfl | ⟨T', k, R, h1, h2, h3, h4, h5⟩
  · exact .inl rfl
  · exact .inr ⟨T', k, R, by omega, h2, h3, h4, h5⟩

theorem Cov.log {n : Nat} {g : Gh O} {T : Int} {L M : Log O} {c : Nat} (h : Cov n g T L c) (hd : M.take c = L.take c) : Cov n g T M c := by
  rcases h with rfl | ⟨T', k, R, h1, h2, h3, h4, h5⟩
  · exact .inl rfl
  · exact .inr ⟨T', k, R, h1, h2, h3, h4, by rw [hd, h5]⟩

/-! ### What stays -/

section
variable {n : Nat} {tm tm' : Nat → Int} {g g' : Gh O} (X : Ext tm g tm' g')
include X
theorem Own.mono {T : Int} {k : Nat} (h : Own g T k) : Own g' T k := by
  obtain ⟨R, e, h1, h2, h3⟩ := h
  obtain ⟨R', h4, _, _, h5⟩ := X.rc T R h1
  exact ⟨R', e, h4, by rw [pre_get h5 (List.getElem?_eq_some_iff.1 h2).1, h2], h3⟩

theorem Own.back {T : Int} {k : Nat} (ha : AckOK tm g) (h : Own g' T k) : Own g T k ∨ ∀ j, g.ack T j ≤ k := by
  obtain ⟨R', e, h1, h2, h3⟩ := h
  rcases X.nw T R' h1 with ⟨R, hR⟩ | h4
  · obtain ⟨R'', h5, _, _, h6⟩ := X.rc T R hR
    rw [h1] at h5; cases h5
    rcases Nat.lt_or_ge k R.cur.length with hlt | hge
    · exact .inl ⟨R, e, hR, by rw [← pre_get h6 hlt, h2], h3⟩
    · right
      intro j
      rcases Nat.eq_zero_or_pos (g.ack T j) with h0 | h0
      · omega
      · obtain ⟨_, R2, h7, h8⟩ := ha T j h0
        rw [hR] at h7; cases h7
        omega
  · exact absurd h3 (h4 k e h2)

theorem Has.mono {T : Int} {k : Nat} {L : Log O} (h : Has g T k L) : Has g' T k L := by
  obtain ⟨R, h1, h2, h3⟩ := h
  obtain ⟨R', h4, _, _, h5⟩ := X.rc T R h1
  exact ⟨R', h4, by have := h5.length_le; omega, by rw [pre_take h5 (by omega), h3]⟩

theorem Dead.mono {T : Int} {k : Nat} (h : Dead n tm g T k) : Dead n tm' g' T k :=
  Maj.mono h fun j _ ⟨h1, h2⟩ => ⟨by have := X.tml j; omega, by rw [X.fz T j h1]; exact h2⟩

theorem logP.mono {L : Log O} (h : logP g L) : logP g' L := fun k e hk => (h k e hk).mono X

theorem Comm.mono {T : Int} {k : Nat} (h : Comm n g T k) : Comm n g' T k :=
  ⟨h.1.mono X, Maj.mono h.2 fun j _ h1 => by have := X.ak T j; omega⟩

theorem Cov.mono {T : Int} {L : Log O} {c : Nat} (h : Cov n g T L c) : Cov n g' T L c := by
  rcases h with rfl | ⟨T', k, R, h1, h2, h3, h4, h5⟩
  · exact .inl rfl
  · obtain ⟨R', h6, _, _, h7⟩ := X.rc T' R h4
    obtain ⟨R1, e, h8, h9, _⟩ := h2.1
    rw [h4] at h8; cases h8
    have := (List.getElem?_eq_some_iff.1 h9).1
    exact .inr ⟨T', k, R', h1, h2.mono X, h3, h6, by rw [pre_take h7 (by omega), h5]⟩

theorem VotOK.mono (ha : AckOK tm g) {U : Int} {i c : Nat} {vl : Log O} (h : VotOK n tm g U i c vl) : VotOK n tm' g' U i c vl where
  hi := h.hi
  hc := h.hc
  hU := h.hU
  ht := by have := h.ht; have := X.tml i; omega
  fr := by obtain ⟨cl, h1, h2⟩ := h.fr; exact ⟨cl, X.vt _ _ _ h1, h2⟩
  lp := h.lp.mono X
  so := h.so
  own := h.own
  ak := by
    intro T k hT ho hk
    rw [X.fz T i (by have := h.ht; omega)] at hk
    rcases ho.back X ha with ho | ho
    · exact (h.ak T k hT ho hk).imp (fun a => a.mono X) (fun a => a.mono X)
    · have := ho i; omega

theorem RecOK.sf_mono (ha : AckOK tm g) (hv : ∀ U i c vl, g.vt U i = some (c, vl) → VotOK n tm g U i c vl) {U : Int} {R : LR O} (h : RecOK n tm g U R) :
    ∀ T k, T < U → Own g' T k → Has g' T k R.el ∨ Dead n tm' g' T k := by
  intro T k hT ho
  rcases ho.back X ha with ho | ho
  · exact (h.sf T k hT ho).imp (fun a => a.mono X) (fun a => a.mono X)
  · right
    refine Maj.mono h.mj fun j _ ⟨vl, hj⟩ => ?_
    have h1 := (hv _ _ _ _ hj).ht
    exact ⟨by have := X.tml j; omega, by rw [X.fz T j (by omega)]; exact ho j⟩

theorem RecOK.mono (ha : AckOK tm g) (hv : ∀ U i c vl, g.vt U i = some (c, vl) → VotOK n tm g U i c vl) {U : Int} {R : LR O} (h : RecOK n tm g U R) : RecOK n tm' g' U R where
  hw := h.hw
  hU := h.hU
  ht := by have := h.ht; have := X.tml R.who; omega
  pre := h.pre
  vt := X.vt _ _ _ h.vt
  mj := Maj.mono h.mj fun j _ ⟨vl, hj⟩ => ⟨vl, X.vt _ _ _ hj⟩
  tms := h.tms
  lp := h.lp.mono X
  sf := h.sf_mono X ha hv

theorem MsgOK.mono {m : Msg O} (h : MsgOK n g m) : MsgOK n g' m where
  k1 hk := by obtain ⟨c, cl, h1, h2, h3⟩ := h.k1 hk; exact ⟨c, cl, h1, X.vt _ _ _ h2, h3⟩
  k2 hk ho := by obtain ⟨i, c, vl, h1, h2, h3⟩ := h.k2 hk ho; exact ⟨i, c, vl, h1, h2, X.vt _ _ _ h3⟩
  k3 hk := by
    obtain ⟨R, h1, h2, h3, h4, h5, h6⟩ := h.k3 hk
    obtain ⟨R', h7, _, _, h8⟩ := X.rc _ R h1
    have hl := h8.length_le
    refine ⟨R', h7, h2, by omega, ?_, ?_, ?_⟩
    · obtain ⟨t, ht⟩ := h8
      rw [← ht, List.drop_append_of_le_length (by omega), List.take_append_of_le_length (by simp; omega), h4]
    · rw [h5]
      unfold ptermAt
      split
      · rw [pre_get h8 (by omega)]
      · rfl
    · exact (h6.mono X).log (pre_take h8 h6.le)
  k4 hk ho := by obtain ⟨i, h1, h2⟩ := h.k4 hk ho; exact ⟨i, h1, by have := X.ak m.term i; omega⟩

end
theorem Ext.same {tm tm' : Nat → Int} {g : Gh O} (h : ∀ j, tm j ≤ tm' j) : Ext tm g tm' g :=
  ⟨h, fun _ R hR => ⟨R, hR, rfl, rfl, List.prefix_refl _⟩, fun _ R hR => .inl ⟨R, hR⟩, fun _ _ _ h => h, fun _ _ => Nat.le_refl _, fun _ _ _ => rfl⟩

theorem tmOf_set {reps : List (Rep O)} {i : Nat} {r r' : Rep O} (hi : reps[i]? = some r) (j : Nat) : tmOf (reps.set i r') j = if j = i then r'.term else tmOf reps j := by
  unfold tmOf
  rw [List.getElem?_set]
  have hlt := (List.getElem?_eq_some_iff.1 hi).1
  by_cases h : i = j
  · subst h; rw [if_pos rfl, if_pos rfl, if_pos hlt]; rfl
  · rw [if_neg h, if_neg (by omega)]

theorem tmOf_eq {reps : List (Rep O)} {i : Nat} {r : Rep O} (hi : reps[i]? = some r) : tmOf reps i = r.term := by
  unfold tmOf; rw [hi]; rfl

theorem tmOf_le {reps : List (Rep O)} {i : Nat} {r r' : Rep O} (hi : reps[i]? = some r) (h : r.term ≤ r'.term) (j : Nat) : tmOf reps j ≤ tmOf (reps.set i r') j := by
  rw [tmOf_set hi]
  split
  · rename_i e; subst e; rw [tmOf_eq hi]; exact h
  · exact Int.le_refl _

/-- One replica becomes another one, and the book goes on. -/
theorem Inv.step {n : Nat} {reps : List (Rep O)} {g : Gh O} (h : Inv n reps g) {i : Nat} {r r' : Rep O} {g' : Gh O} (hi : reps[i]? = some r)
    (X : Ext (tmOf reps) g (tmOf (reps.set i r')) g')
    (hn : NodOK n (tmOf (reps.set i r')) g' i r')
    (ovt : ∀ j, j ≠ i → ∀ T, g'.vt T j = g.vt T j)
    (oak : ∀ j, j ≠ i → ∀ T, g'.ack T j = g.ack T j)
    (orc : ∀ U R, g.rc U = some R → R.who ≠ i → g'.rc U = some R)
    (nrc : ∀ U R, g'.rc U = some R → g.rc U = some R ∨ (R.who = i ∧ RecOK n (tmOf (reps.set i r')) g' U R))
    (nvt : ∀ U c vl, g'.vt U i = some (c, vl) → g.vt U i = some (c, vl) ∨ VotOK n (tmOf (reps.set i r')) g' U i c vl)
    (ak : AckOK (tmOf (reps.set i r')) g') : Inv n (reps.set i r') g' where
  len := by rw [List.length_set, h.len]
  nod := by
    intro j x hj
    rw [List.getElem?_set] at hj
    have hlt := (List.getElem?_eq_some_iff.1 hi).1
    by_cases hij : i = j
    · subst hij
      rw [if_pos rfl, if_pos hlt] at hj
      cases hj
      exact hn
    · rw [if_neg hij] at hj
      have hji : j ≠ i := fun e => hij e.symm
      have hx := h.nod j x hj
      refine ⟨hx.id, hx.chk, ?_, hx.lp.mono X, ?_, ?_, ?_, hx.cv.mono X, ?_, ?_⟩
      · rw [tmOf_set hi, if_neg hji]; exact hx.tme
      · intro T k ho hk
        rw [oak j hji] at hk
        rcases ho.back X h.ack with ho | ho
        · exact (hx.ak T k ho hk).imp (fun a => a.mono X) (fun a => a.mono X)
        · have := ho j; omega
      · rw [ovt j hji]; exact hx.v0
      · rw [ovt j hji]; exact hx.v1
      · intro hr
        obtain ⟨h1, h2, h3⟩ := hx.cd hr
        refine ⟨X.vt _ _ _ h1, ?_, ?_⟩
        · intro R hR
          rcases nrc _ R hR with hR | ⟨hR, _⟩
          · exact h2 R hR
          · omega
        · intro k hk
          obtain ⟨vl, hv⟩ := h3 k hk
          exact ⟨vl, X.vt _ _ _ hv⟩
      · intro hr
        obtain ⟨R, h1, h2, h3, h4⟩ := hx.ld hr
        refine ⟨R, orc _ R h1 (by omega), h2, h3, fun k p hk => ?_⟩
        have := h4 k p hk
        have := X.ak x.term k
        omega
  vot := by
    intro U j c vl hv
    by_cases hji : j = i
    · subst hji
      rcases nvt U c vl hv with hv | hv
      · exact (h.vot U j c vl hv).mono X h.ack
      · exact hv
    · rw [ovt j hji] at hv
      exact (h.vot U j c vl hv).mono X h.ack
  rcd := by
    intro U R hR
    rcases nrc U R hR with hR | ⟨_, hR⟩
    · exact (h.rcd U R hR).mono X h.ack h.vot
    · exact hR
  ack := ak

/-- A step that writes nothing into the book. -/
theorem Inv.step0 {n : Nat} {reps : List (Rep O)} {g : Gh O} (h : Inv n reps g) {i : Nat} {r r' : Rep O} (hi : reps[i]? = some r) (ht : r.term ≤ r'.term)
    (hn : NodOK n (tmOf (reps.set i r')) g i r') : Inv n (reps.set i r') g := by
  have X : Ext (tmOf reps) g (tmOf (reps.set i r')) g := Ext.same (tmOf_le hi ht)
  refine h.step hi X hn (fun _ _ _ => rfl) (fun _ _ _ => rfl) (fun _ _ h _ => h) (fun _ _ h => .inl h) (fun _ _ _ h => .inl h) ?_
  intro T j hj
  obtain ⟨h1, h2⟩ := h.ack T j hj
  exact ⟨by have := tmOf_le hi ht j; omega, h2⟩

end Go.Raft

namespace Go.Raft
variable {O : Type}
theorem set_same {α : Type} {l : List α} {i : Nat} {x : α} (h : l[i]? = some x) : l.set i x = l := by
  apply List.ext_getElem?
  intro j
  rw [List.getElem?_set]
  split
  · rename_i e; subst e
    rw [if_pos (List.getElem?_eq_some_iff.1 h).1, h]
  · rfl

/-- A step: the new book, what was right stays right, and the new messages are right. -/
def Step (n : Nat) (g : Gh O) (reps' : List (Rep O)) (new : List (Msg O)) : Prop :=
  ∃ g', Inv n reps' g' ∧ (∀ x, MsgOK n g x → MsgOK n g' x) ∧ ∀ x ∈ new, MsgOK n g' x

theorem Inv.refl {n : Nat} {reps : List (Rep O)} {g : Gh O} (h : Inv n reps g) : Step n g reps [] := ⟨g, h, fun _ h => h, fun _ h => by cases h⟩

section
variable {n : Nat} {reps : List (Rep O)} {g : Gh O} (h : Inv n reps g) {i : Nat} {r : Rep O} (hi : reps[i]? = some r)
include h hi
theorem Inv.lt : i < n := by rw [← h.len]; exact (List.getElem?_eq_some_iff.1 hi).1

theorem Inv.fol {t : Int} (ht : t ≤ 1048576) : Inv n (reps.set i (fol r t)) g := by
  have hn := h.nod i r hi
  have hc := chk_follow hn.chk ht
  unfold Raft.fol at hc ⊢
  split
  · rename_i hgt
    rw [if_pos hgt] at hc
    refine h.step0 hi (by simp; omega) ⟨hn.id, hc, ?_, hn.lp, ?_, fun _ => rfl, ?_, hn.cv.term (by simp; omega), fun hr => by simp at hr, fun hr => by simp at hr⟩
    · rw [tmOf_set hi, if_pos rfl]
    · intro T k ho hk
      exact (hn.ak T k ho hk).imp id (fun a => a.mono (Ext.same (tmOf_le hi (by simp; omega))))
    · intro c vl hv
      have := (h.vot _ _ _ _ hv).ht
      rw [hn.tme] at this
      simp at this; omega
  · rw [set_same hi]; exact h

theorem Inv.back {t : Int} (ht : t ≤ 1048576) : Inv n (reps.set i (back r t)) g := by
  have hb := chk_back (h.nod i r hi).chk ht
  have h1 := h.fol hi ht
  have hi1 : (reps.set i (Raft.fol r t))[i]? = some (Raft.fol r t) := List.getElem?_set_self (List.getElem?_eq_some_iff.1 hi).1
  have hn := h1.nod i _ hi1
  have h2 : ∀ y : Rep O, y = Raft.back r t → Inv n ((reps.set i (Raft.fol r t)).set i y) g := by
    intro y hy
    have hc : Chk n y := hy ▸ hb
    unfold Raft.back at hy
    simp only at hy
    split at hy
    · subst hy
      refine h1.step0 hi1 (by simp) ⟨hn.id, hc, ?_, hn.lp, ?_, hn.v0, hn.v1, hn.cv, fun hr => by simp at hr, fun hr => by simp at hr⟩
      · rw [tmOf_set hi1, if_pos rfl]
      · intro T k ho hk
        exact (hn.ak T k ho hk).imp id (fun a => a.mono (Ext.same (tmOf_le hi1 (by simp))))
    · subst hy
      rw [set_same hi1]; exact h1
  have := h2 _ rfl
  rwa [List.set_set] at this

theorem Inv.restart : Inv n (reps.set i (restartR r)) g := by
  have hn := h.nod i r hi
  refine h.step0 hi (by simp [restartR]) ⟨hn.id, chk_restart hn.chk, ?_, hn.lp, ?_, hn.v0, hn.v1, hn.cv, fun hr => by simp [restartR] at hr, fun hr => by simp [restartR] at hr⟩
  · rw [tmOf_set hi, if_pos rfl]
  · intro T k ho hk
    exact (hn.ak T k ho hk).imp id (fun a => a.mono (Ext.same (tmOf_le hi (by simp [restartR]))))

end
/-! ### Votes -/
def Gh.cast (g : Gh O) (U : Int) (i c : Nat) (L : Log O) : Gh O := ⟨g.rc, fun V j => if V = U ∧ j = i then some (c, L) else g.vt V j, g.ack⟩

theorem cast_vt {g : Gh O} {U : Int} {i c : Nat} {L : Log O} : (g.cast U i c L).vt U i = some (c, L) := if_pos ⟨rfl, rfl⟩

theorem Ext.cast {tm tm' : Nat → Int} {g : Gh O} {U : Int} {i c : Nat} {L : Log O} (ht : ∀ j, tm j ≤ tm' j) (hv : g.vt U i = none) : Ext tm g tm' (g.cast U i c L) where
  tml := ht
  rc _ R hR := ⟨R, hR, rfl, rfl, List.prefix_refl _⟩
  nw _ R hR := .inl ⟨R, hR⟩
  vt T j x hx := by
    unfold Gh.cast
    simp only
    split
    · rename_i e; rw [e.1, e.2, hv] at hx; cases hx
    · exact hx
  ak _ _ := Nat.le_refl _
  fz _ _ _ := rfl

theorem upto_refl (a : Log O) : upto a a := .inr ⟨rfl, Nat.le_refl _⟩

section
variable {n : Nat} {reps : List (Rep O)} {g : Gh O} (h : Inv n reps g) {i : Nat} {r : Rep O} (hi : reps[i]? = some r)
include h hi
theorem Inv.ackmono {r' : Rep O} (ht : r.term ≤ r'.term) {U : Int} {c : Nat} {L : Log O} : AckOK (tmOf (reps.set i r')) (g.cast U i c L) := by
  intro T j hj
  obtain ⟨h1, h2⟩ := h.ack T j hj
  exact ⟨by have := tmOf_le hi ht j; omega, h2⟩

/-- A replica becomes a candidate. -/
theorem Inv.cand (ht : r.term ≠ 1048576) : Step n g (reps.set i (cand n r)) (asks n r) := by
  have hn := h.nod i r hi
  have hcand := chk_cand hn.chk ht
  have hnone : g.vt (r.term + 1) i = none := by
    cases hv : g.vt (r.term + 1) i with
    | none => rfl
    | some x => have := (h.vot _ _ _ _ hv).ht; rw [hn.tme] at this; omega
  have hle : r.term ≤ (Raft.cand (n : Int) r).term := by simp [Raft.cand]; omega
  have X : Ext (tmOf reps) g (tmOf (reps.set i (Raft.cand n r))) (g.cast (r.term + 1) i i r.log) := Ext.cast (tmOf_le hi hle) hnone
  have htm : tmOf (reps.set i (Raft.cand (n : Int) r)) i = r.term + 1 := by rw [tmOf_set hi, if_pos rfl]; rfl
  refine ⟨g.cast (r.term + 1) i i r.log, ?_, fun x hx => hx.mono X, ?_⟩
  · refine h.step hi X ⟨hn.id, hcand, ?_, hn.lp.mono X, ?_, ?_, ?_, (hn.cv.term hle).mono X, ?_, ?_⟩ ?_ (fun _ _ _ => rfl) (fun _ _ h _ => h) (fun _ _ h => .inl h) ?_ (h.ackmono hi hle)
    · rw [htm]; rfl
    · intro T k ho hk
      have ho : Own g T k := ho
      exact (hn.ak T k ho hk).imp (fun a => a.mono X) (fun a => a.mono X)
    · intro hv
      rw [show (Raft.cand (n : Int) r).term = r.term + 1 from rfl, cast_vt] at hv
      cases hv
    · intro c vl hv
      rw [show (Raft.cand (n : Int) r).term = r.term + 1 from rfl, cast_vt] at hv
      cases hv
      exact hn.id
    · intro _
      refine ⟨cast_vt, ?_, ?_⟩
      · intro R hR hw
        have hR : g.rc (r.term + 1) = some R := hR
        have := (h.rcd _ R hR).ht
        rw [hw, hn.tme] at this
        omega
      · intro j hj
        simp only [Raft.cand, rp_votes, hn.id] at hj
        rw [List.getElem?_set] at hj
        by_cases e : (i : Int).toNat = j
        · have : j = i := by omega
          subst this
          exact ⟨_, cast_vt⟩
        · rw [if_neg e] at hj
          have := List.mem_of_getElem? hj
          have := List.eq_of_mem_replicate this
          cases this
    · intro hr; simp [Raft.cand] at hr
    · intro j hj T
      unfold Gh.cast
      simp only
      rw [if_neg (fun e => hj e.2)]
    · intro U c vl hv
      by_cases hU : U = r.term + 1
      · subst hU
        rw [cast_vt] at hv
        cases hv
        right
        refine ⟨h.lt hi, h.lt hi, by have := hn.chk.t0; omega, by rw [htm]; exact Int.le_refl _, ⟨r.log, cast_vt, upto_refl _⟩, hn.lp.mono X, ⟨_, hn.chk.so⟩, ?_, ?_⟩
        · intro _ e he
          have := ((srt_iff.1 hn.chk.so).1 e he).2
          omega
        · intro T k _ ho hk
          have ho : Own g T k := ho
          exact (hn.ak T k ho hk).imp (fun a => a.mono X) (fun a => a.mono X)
      · left
        unfold Gh.cast at hv
        simp only at hv
        rwa [if_neg (fun e => hU e.1)] at hv
  · intro x hx
    simp only [asks, List.mem_map, List.mem_filter] at hx
    obtain ⟨j, _, rfl⟩ := hx
    exact ⟨fun _ => ⟨i, r.log, hn.id, cast_vt, rfl, rfl⟩, fun hk => by simp at hk, fun hk => by simp at hk, fun hk => by simp at hk⟩

/-- A replica votes. -/
theorem Inv.vote {m : Msg O} (hm : MsgOK n g m) (hk : m.kind = 1) (ht : r.term = m.term) (h1 : 1 ≤ m.term) (hv : r.voted = -1) (hr : r.role = 0) (hf : fresh r.log m.prev m.pterm = true) :
    ∃ (c : Nat) (vl : Log O), m.frm = (c : Int) ∧ ∃ g', Inv n (reps.set i (vote r m.frm)) g' ∧ (∀ x, MsgOK n g x → MsgOK n g' x) ∧ g'.vt m.term i = some (c, vl) := by
  have hn := h.nod i r hi
  obtain ⟨c, cl, hc, hcl, hp, hpt⟩ := hm.k1 hk
  have hcv := h.vot _ _ _ _ hcl
  have hnone : g.vt r.term i = none := by
    cases hq : g.vt r.term i with
    | none => rfl
    | some x => have := hn.v1 _ _ hq; omega
  have hle : r.term ≤ (Raft.vote r m.frm).term := by simp [Raft.vote]
  have X : Ext (tmOf reps) g (tmOf (reps.set i (Raft.vote r m.frm))) (g.cast r.term i c r.log) := Ext.cast (tmOf_le hi hle) hnone
  have htm : tmOf (reps.set i (Raft.vote r m.frm)) i = r.term := by rw [tmOf_set hi, if_pos rfl]; rfl
  have hup : upto cl r.log := by
    simp only [fresh, Bool.or_eq_true, Bool.and_eq_true, decide_eq_true_eq, hp, hpt] at hf
    rcases hf with hf | ⟨hf1, hf2⟩
    · exact .inl hf
    · exact .inr ⟨hf1.symm, by omega⟩
  have hic : i ≠ c := by
    intro e; subst e
    rw [← ht, hnone] at hcl; cases hcl
  refine ⟨c, r.log, hc, g.cast r.term i c r.log, ?_, fun x hx => hx.mono X, by rw [← ht]; exact cast_vt⟩
  have hcc : Chk n (Raft.vote r m.frm) := chk_vote hn.chk (by omega) (by have := hcv.hc; omega)
  refine h.step hi X ⟨hn.id, hcc, htm, hn.lp.mono X, ?_, ?_, ?_, hn.cv.mono X, ?_, ?_⟩ ?_ (fun _ _ _ => rfl) (fun _ _ h _ => h) (fun _ _ h => .inl h) ?_ (h.ackmono hi hle)
  · intro T k ho hk
    have ho : Own g T k := ho
    exact (hn.ak T k ho hk).imp (fun a => a.mono X) (fun a => a.mono X)
  · intro hv
    rw [show (Raft.vote r m.frm).term = r.term from rfl, cast_vt] at hv
    cases hv
  · intro c' vl hv
    rw [show (Raft.vote r m.frm).term = r.term from rfl, cast_vt] at hv
    cases hv
    exact hc
  · intro hr'; simp [Raft.vote] at hr'; omega
  · intro hr'; simp [Raft.vote] at hr'; omega
  · intro j hj T
    unfold Gh.cast
    simp only
    rw [if_neg (fun e => hj e.2)]
  · intro U c' vl hv
    by_cases hU : U = r.term
    · subst hU
      rw [cast_vt] at hv
      cases hv
      right
      refine ⟨h.lt hi, hcv.hc, by omega, by rw [htm]; exact Int.le_refl _, ⟨cl, X.vt _ _ _ (ht ▸ hcl), hup⟩, hn.lp.mono X, ⟨_, hn.chk.so⟩, fun e => absurd e hic, ?_⟩
      intro T k _ ho hk
      have ho : Own g T k := ho
      exact (hn.ak T k ho hk).imp (fun a => a.mono X) (fun a => a.mono X)
    · left
      unfold Gh.cast at hv
      simp only at hv
      rwa [if_neg (fun e => hU e.1)] at hv

end
theorem Step.trans {n : Nat} {g : Gh O} {g1 : Gh O} {reps2 : List (Rep O)} {new : List (Msg O)} (h1 : ∀ x, MsgOK n g x → MsgOK n g1 x) (h2 : Step n g1 reps2 new) : Step n g reps2 new := by
  obtain ⟨g2, a, b, c⟩ := h2
  exact ⟨g2, a, fun x hx => b x (h1 x hx), c⟩

section
variable {n : Nat} {reps : List (Rep O)} {g : Gh O} (h : Inv n reps g) {i : Nat} {r : Rep O} (hi : reps[i]? = some r)
include h hi
/-- What a replica makes of a candidate's message. -/
theorem Inv.hear {m : Msg O} (hm : MsgOK n g m) (ho : toOK n r m 1 = true) : Step n g (reps.set i (hearR r m)) [hearM r m] := by
  obtain ⟨_, hk, hto, _, _, _, ht1, ht2⟩ := toOK_iff.1 ho
  have h1 := h.fol hi ht2
  have hi1 : (reps.set i (Raft.fol r m.term))[i]? = some (Raft.fol r m.term) := List.getElem?_set_self (List.getElem?_eq_some_iff.1 hi).1
  have hn := h1.nod i _ hi1
  have hid : r.id = (i : Int) := (h.nod i r hi).id
  by_cases hy : hearYes (Raft.fol r m.term) m = true
  · have e : hearR r m = Raft.vote (Raft.fol r m.term) m.frm := by unfold hearR; simp only; rw [if_pos hy]
    have e2 : hearM r m = mg 2 r.id m.frm (Raft.fol r m.term).term 0 0 0 [] true := by unfold hearM; simp only; rw [hy]
    rw [e, e2]
    simp only [hearYes, Bool.and_eq_true, Bool.or_eq_true, decide_eq_true_eq] at hy
    obtain ⟨⟨⟨hy1, hy2⟩, hy3⟩, hy4⟩ := hy
    rw [show reps.set i (Raft.vote (Raft.fol r m.term) m.frm) = (reps.set i (Raft.fol r m.term)).set i (Raft.vote (Raft.fol r m.term) m.frm) by rw [List.set_set]]
    have fin : ∀ {g' : Gh O} {c : Nat} {vl : Log O}, m.frm = (c : Int) → g'.vt m.term i = some (c, vl) → ∀ x ∈ [mg 2 r.id m.frm (Raft.fol r m.term).term 0 0 0 ([] : Log O) true], MsgOK n g' x := by
      intro g' c vl hc hv x hx
      simp at hx
      subst hx
      refine ⟨fun hk => by simp at hk, fun _ _ => ⟨i, c, vl, hid, hc, ?_⟩, fun hk => by simp at hk, fun hk => by simp at hk⟩
      simp only [mg_term]; rw [hy1]; exact hv
    by_cases hv : (Raft.fol r m.term).voted = -1
    · obtain ⟨c, vl, hc, g', a, b, d⟩ := h1.vote hi1 hm hk hy1 ht1 hv hy3 hy4
      exact ⟨g', a, b, fin hc d⟩
    · have hvf : (Raft.fol r m.term).voted = m.frm := hy2.resolve_left hv
      have e3 : Raft.vote (Raft.fol r m.term) m.frm = Raft.fol r m.term := by rw [← hvf]; rfl
      rw [e3, set_same hi1]
      cases hq : g.vt (Raft.fol r m.term).term i with
      | none => exact absurd (hn.v0 hq) hv
      | some x =>
        obtain ⟨c, vl⟩ := x
        have hc := hn.v1 c vl hq
        exact ⟨g, h1, fun _ h => h, fin (by rw [← hvf]; exact hc) (by rw [← hy1]; exact hq)⟩
  · have hy : hearYes (Raft.fol r m.term) m = false := by simpa using hy
    have e : hearR r m = Raft.fol r m.term := by unfold hearR; simp only; rw [if_neg (by rw [hy]; simp)]
    have e2 : hearM r m = mg 2 r.id m.frm (Raft.fol r m.term).term 0 0 0 [] false := by unfold hearM; simp only; rw [hy]
    rw [e, e2]
    refine ⟨g, h1, fun _ h => h, fun x hx => ?_⟩
    simp at hx
    subst hx
    exact ⟨fun hk => by simp at hk, fun _ ho => by simp at ho, fun hk => by simp at hk, fun hk => by simp at hk⟩

end
/-! ### Elections -/
def Gh.lead (g : Gh O) (U : Int) (i : Nat) (R : LR O) : Gh O := ⟨fun T => if T = U then some R else g.rc T, g.vt, fun T j => if T = U ∧ j = i then R.cur.length else g.ack T j⟩

theorem countP_range {α : Type} (p : α → Bool) : ∀ l : List α, (List.range l.length).countP (fun j => (l[j]?).any p) = l.countP p := by
  intro l
  induction l with
  | nil => rfl
  | cons a l ih =>
    rw [List.length_cons, List.range_succ_eq_map, List.countP_cons, List.countP_map, List.countP_cons, ← ih]
    congr 1

theorem maj_of {n : Nat} {α : Type} {l : List α} (hl : l.length = n) (p : α → Bool) (P : Nat → Prop) (hp : ∀ j a, l[j]? = some a → p a = true → P j) (hc : ((l.countP p : Nat) : Int) ≥ (n : Int) / 2 + 1) : Maj n P := by
  refine ⟨fun j => (l[j]?).any p, fun j _ hj => ?_, ?_⟩
  · have hj : (l[j]?).any p = true := hj
    cases hq : l[j]? with
    | none => rw [hq] at hj; cases hj
    | some a => rw [hq] at hj; exact hp j a hq hj
  · rw [← hl, countP_range p l, hl]; omega

theorem sf_elect {n : Nat} {reps : List (Rep O)} {g : Gh O} (h : Inv n reps g) {U : Int} {i : Nat} {L : Log O} (hvi : g.vt U i = some (i, L)) (hmj : Maj n (fun j => ∃ vl, g.vt U j = some (i, vl))) :
    ∀ T k, T < U → Own g T k → Has g T k L ∨ Dead n (tmOf reps) g T k := by
  intro T k hT ho
  by_cases hd : Dead n (tmOf reps) g T k
  · exact .inr hd
  left
  have hex : ∃ j vl, g.vt U j = some (i, vl) ∧ k < g.ack T j := by
    apply Classical.byContradiction
    intro hno
    apply hd
    refine Maj.mono hmj fun j _ ⟨vl, hj⟩ => ⟨by have := (h.vot _ _ _ _ hj).ht; omega, ?_⟩
    rcases Nat.lt_or_ge k (g.ack T j) with hlt | hge
    · exact absurd ⟨j, vl, hj, hlt⟩ hno
    · exact hge
  obtain ⟨j, vl, hj, hk⟩ := hex
  have hv := h.vot _ _ _ _ hj
  have hhas := (hv.ak T k hT ho hk).resolve_right hd
  obtain ⟨cl, hcl, hup⟩ := hv.fr
  rw [hvi] at hcl; cases hcl
  obtain ⟨top, hso⟩ := hv.so
  obtain ⟨R, hR, hkR, htk⟩ := hhas
  obtain ⟨R1, e, hR1, hek, heT⟩ := ho
  rw [hR] at hR1; cases hR1
  have hvk : vl[k]? = some e := by rw [take_get htk (by omega), hek]
  have hTl : T ≤ lastT vl := by rw [← heT]; exact le_lastT hso hvk
  have hT1 := (h.rcd T R hR).hU
  have hvown := (h.vot _ _ _ _ hvi)
  have hne : L ≠ [] := by
    intro e0; subst e0
    rcases hup with hup | ⟨hup, _⟩ <;> rw [lastT_nil] at hup <;> omega
  have hlen : 0 < L.length := List.length_pos_iff.2 hne
  have hx : L[L.length - 1]? = some (L[L.length - 1]'(by omega)) := List.getElem?_eq_getElem _
  generalize L[L.length - 1]'(by omega) = x at hx
  have hW : lastT L = x.1 := lastT_get hx (by omega)
  have hxU : x.1 < U := hvown.own rfl x (List.mem_of_getElem? hx)
  obtain ⟨RW, hRW, hRWl, hRWt⟩ := hvown.lp _ _ hx
  rw [show L.length - 1 + 1 = L.length by omega] at hRWt
  have hle : lastT vl ≤ lastT L := by rcases hup with hup | ⟨hup, _⟩ <;> omega
  rcases Int.lt_or_le T x.1 with hlt | hge
  · obtain ⟨R2, hR2, hk2, ht2⟩ := ((h.rcd _ RW hRW).sf T k hlt ⟨R, e, hR, hek, heT⟩).resolve_right hd
    rw [hR] at hR2; cases hR2
    have hkel := take_lt ht2 (by omega)
    have hcx : RW.cur[L.length - 1]? = some x := by rw [← take_get hRWt (by omega), hx]
    have htms := (h.rcd _ RW hRW).tms _ _ hcx
    have hge : RW.el.length ≤ L.length - 1 := by
      rcases Nat.lt_or_ge (L.length - 1) RW.el.length with hq | hq
      · rw [if_pos hq] at htms; omega
      · exact hq
    refine ⟨R, hR, hk2, ?_⟩
    rw [take_le hRWt (show k + 1 ≤ L.length by omega), pre_take (h.rcd _ RW hRW).pre hkel, ht2]
  · have hxT : x.1 = T := by omega
    have hlv : lastT vl = lastT L := by omega
    have hll : vl.length ≤ L.length := by rcases hup with hup | ⟨_, hup⟩; · omega
                                          · exact hup
    have hkv := (List.getElem?_eq_some_iff.1 hvk).1
    rw [hxT, hR] at hRW; cases hRW
    exact ⟨R, hR, hkR, take_le hRWt (by omega)⟩

section
variable {n : Nat} {reps : List (Rep O)} {g : Gh O} (h : Inv n reps g) {i : Nat} {r : Rep O} (hi : reps[i]? = some r)
include h hi
theorem Inv.lead (hr : r.role = 1) (hy : yes r.votes ≥ quorum n) : Step n g (reps.set i (lead n r)) [] := by
  have hn := h.nod i r hi
  obtain ⟨hvi, hno, hvotes⟩ := hn.cd hr
  have hvl : r.votes.length = n := by have := ((role1_iff hr).1 hn.chk.ro).1; omega
  have hmj : Maj n (fun j => ∃ vl, g.vt r.term j = some (i, vl)) := by
    refine maj_of hvl (· == true) _ (fun j a hj ha => hvotes j ?_) ?_
    · rw [hj]; simp at ha; rw [ha]
    · rw [quorum_eq hn.chk.n1 hn.chk.n5] at hy; exact hy
  have hnone : g.rc r.term = none := by
    cases hR : g.rc r.term with
    | none => rfl
    | some R =>
      obtain ⟨j, _, ⟨vl, h1⟩, ⟨vl', h2⟩⟩ := (h.rcd _ R hR).mj.both hmj
      rw [h1] at h2
      have := hno R hR
      simp at h2; omega
  have hack0 : ∀ j, g.ack r.term j = 0 := by
    intro j
    rcases Nat.eq_zero_or_pos (g.ack r.term j) with h0 | h0
    · exact h0
    · obtain ⟨_, R, hR, _⟩ := h.ack _ _ h0
      rw [hnone] at hR; cases hR
  have hvv := h.vot _ _ _ _ hvi
  have hown := hvv.own rfl
  have hterm : (Raft.lead (n : Int) r).term = r.term := rfl
  have hle : r.term ≤ (Raft.lead (n : Int) r).term := Int.le_refl _
  have htm : tmOf (reps.set i (Raft.lead (n : Int) r)) i = r.term := by rw [tmOf_set hi, if_pos rfl]; rfl
  have hrc' : (g.lead r.term i ⟨i, r.log, r.log⟩).rc r.term = some ⟨i, r.log, r.log⟩ := if_pos rfl
  have hrcn : ∀ {T : Int}, T ≠ r.term → (g.lead r.term i ⟨i, r.log, r.log⟩).rc T = g.rc T := fun hT => if_neg hT
  have hackn : ∀ {T : Int} {j : Nat}, ¬ (T = r.term ∧ j = i) → (g.lead r.term i ⟨i, r.log, r.log⟩).ack T j = g.ack T j := fun hT => if_neg hT
  have hacki : (g.lead r.term i ⟨i, r.log, r.log⟩).ack r.term i = r.log.length := if_pos ⟨rfl, rfl⟩
  have hnown : ∀ k, ¬ Own (g.lead r.term i ⟨i, r.log, r.log⟩) r.term k := by
    rintro k ⟨R, e, h1, h2, h3⟩
    rw [hrc'] at h1; cases h1
    have := hown e (List.mem_of_getElem? h2)
    omega
  have hown' : ∀ {T : Int} {k : Nat}, Own (g.lead r.term i ⟨i, r.log, r.log⟩) T k → T ≠ r.term ∧ Own g T k := by
    intro T k ho
    have hT : T ≠ r.term := fun e => hnown k (e ▸ ho)
    obtain ⟨R, e, h1, h2, h3⟩ := ho
    rw [hrcn hT] at h1
    exact ⟨hT, R, e, h1, h2, h3⟩
  have X : Ext (tmOf reps) g (tmOf (reps.set i (Raft.lead n r))) (g.lead r.term i ⟨i, r.log, r.log⟩) := by
    refine ⟨tmOf_le hi hle, ?_, ?_, fun _ _ _ h => h, ?_, ?_⟩
    · intro T R hR
      have hT : T ≠ r.term := fun e => by rw [e, hnone] at hR; cases hR
      exact ⟨R, by rw [hrcn hT]; exact hR, rfl, rfl, List.prefix_refl _⟩
    · intro T R' hR
      by_cases hT : T = r.term
      · subst hT
        right
        intro k e he
        rw [hrc'] at hR; cases hR
        have := hown e (List.mem_of_getElem? he)
        omega
      · rw [hrcn hT] at hR; exact .inl ⟨R', hR⟩
    · intro T j
      by_cases hT : T = r.term ∧ j = i
      · rw [hT.1, hack0]; exact Nat.zero_le _
      · rw [hackn hT]; exact Nat.le_refl _
    · intro T j hlt
      refine hackn fun e => ?_
      rw [e.1, e.2, hn.tme] at hlt; omega
  refine ⟨g.lead r.term i ⟨i, r.log, r.log⟩, ?_, fun x hx => hx.mono X, fun x hx => by cases hx⟩
  refine h.step hi X ⟨hn.id, chk_lead hn.chk hr, htm, hn.lp.mono X, ?_, hn.v0, hn.v1, hn.cv.mono X, fun h2 => by simp [Raft.lead] at h2, ?_⟩ (fun _ _ _ => rfl) ?_ ?_ ?_ (fun _ _ _ h => .inl h) ?_
  · intro T k ho hk
    obtain ⟨hT, ho⟩ := hown' ho
    rw [hackn (fun e => hT e.1)] at hk
    exact (hn.ak T k ho hk).imp (fun a => a.mono X) (fun a => a.mono X)
  · intro _
    refine ⟨_, hrc', rfl, rfl, ?_⟩
    intro j p hp
    simp only [Raft.lead, rp_mtch, hn.id] at hp
    rw [List.getElem?_set] at hp
    by_cases e : (i : Int).toNat = j
    · have : j = i := by omega
      subst this
      rw [if_pos e] at hp
      split at hp
      · cases hp
        rw [hterm, hacki]; simp
      · cases hp
    · rw [if_neg e] at hp
      have := List.eq_of_mem_replicate (List.mem_of_getElem? hp)
      subst this
      simp
  · intro j hj T
    exact hackn fun e => hj e.2
  · intro U R hR _
    have hT : U ≠ r.term := fun e => by rw [e, hnone] at hR; cases hR
    rw [hrcn hT]; exact hR
  · intro U R hR
    by_cases hT : U = r.term
    · subst hT
      rw [hrc'] at hR; cases hR
      right
      refine ⟨rfl, h.lt hi, hvv.hU, by rw [htm]; exact Int.le_refl _, List.prefix_refl _, hvi, hmj, ?_, hn.lp.mono X, ?_⟩
      · intro k e he
        rw [if_pos (List.getElem?_eq_some_iff.1 he).1]
        exact hown e (List.mem_of_getElem? he)
      · intro T k hT ho
        obtain ⟨_, ho⟩ := hown' ho
        exact (sf_elect h hvi hmj T k hT ho).imp (fun a => a.mono X) (fun a => a.mono X)
    · left; rw [hrcn hT] at hR; exact hR
  · intro T j hj
    by_cases hT : T = r.term ∧ j = i
    · rw [hT.1, hT.2, htm, hacki]
      exact ⟨Int.le_refl _, _, hrc', Nat.le_refl _⟩
    · rw [hackn hT] at hj ⊢
      obtain ⟨h1, R, h2, h3⟩ := h.ack T j hj
      refine ⟨by have := tmOf_le hi hle j; omega, R, ?_, h3⟩
      have hT' : T ≠ r.term := fun e => by rw [e, hnone] at h2; cases h2
      rw [hrcn hT']; exact h2

end
end Go.Raft

namespace Go.Raft
variable {O : Type}
def Gh.grow (g : Gh O) (U : Int) (i : Nat) (R : LR O) (k : Nat) : Gh O := ⟨fun T => if T = U then some R else g.rc T, g.vt, fun T j => if T = U ∧ j = i then max (g.ack T j) k else g.ack T j⟩

theorem Has.app {g : Gh O} {T : Int} {k : Nat} {L x : Log O} (h : Has g T k L) : Has g T k (L ++ x) := by
  have hl := h.lt
  obtain ⟨R, h1, h2, h3⟩ := h
  exact ⟨R, h1, h2, by rw [List.take_append_of_le_length (by omega), h3]⟩

/-- A book in which a leader's log has grown, and a replica holds more of it. -/
theorem Ext.grow {n : Nat} {reps : List (Rep O)} {g : Gh O} (h : Inv n reps g) {i : Nat} {r r' : Rep O} (hi : reps[i]? = some r) (ht : r'.term = r.term) {R R' : LR O} (hR : g.rc r.term = some R) (hw : R'.who = R.who) (he : R'.el = R.el) (hp : R.cur <+: R'.cur) (k : Nat) :
    Ext (tmOf reps) g (tmOf (reps.set i r')) (g.grow r.term i R' k) := by
  refine ⟨tmOf_le hi (by omega), ?_, ?_, fun _ _ _ h => h, ?_, ?_⟩
  · intro T R1 h1
    by_cases hT : T = r.term
    · subst hT
      rw [hR] at h1; cases h1
      exact ⟨R', if_pos rfl, hw, he, hp⟩
    · exact ⟨R1, by rw [← h1]; exact if_neg hT, rfl, rfl, List.prefix_refl _⟩
  · intro T R1 h1
    by_cases hT : T = r.term
    · exact .inl ⟨R, hT ▸ hR⟩
    · exact .inl ⟨R1, by rw [← h1]; exact (if_neg hT).symm⟩
  · intro T j
    show g.ack T j ≤ if T = r.term ∧ j = i then max (g.ack T j) k else g.ack T j
    split <;> omega
  · intro T j hlt
    refine if_neg fun e => ?_
    rw [e.1, e.2, tmOf_eq hi] at hlt; omega

section
variable {n : Nat} {reps : List (Rep O)} {g : Gh O} (h : Inv n reps g) {i : Nat} {r : Rep O} (hi : reps[i]? = some r)
include h hi
/-- A leader puts an entry behind its log. -/
theorem Inv.propose (hr : r.role = 2) (hl : r.log.length < 256) (ht1 : 1 ≤ r.term) (o : O) : Step n g (reps.set i (proposeR n r o)) [] := by
  have hn := h.nod i r hi
  obtain ⟨R, hR, hw, hcur, hm⟩ := hn.ld hr
  have hchk := chk_propose (o := o) hn.chk hr hl ht1
  have hlog : (proposeR n r o).log = r.log ++ [(r.term, o, ())] := rfl
  have htm : tmOf (reps.set i (proposeR n r o)) i = r.term := by rw [tmOf_set hi, if_pos rfl]; rfl
  have X : Ext (tmOf reps) g (tmOf (reps.set i (proposeR n r o))) (g.grow r.term i ⟨i, R.el, r.log ++ [(r.term, o, ())]⟩ (r.log.length + 1)) :=
    Ext.grow h hi (r' := proposeR n r o) (R' := ⟨i, R.el, r.log ++ [(r.term, o, ())]⟩) rfl hR hw.symm rfl (by rw [hcur]; exact List.prefix_append _ _) _
  have hrc' : (g.grow r.term i ⟨i, R.el, r.log ++ [(r.term, o, ())]⟩ (r.log.length + 1)).rc r.term = some ⟨i, R.el, r.log ++ [(r.term, o, ())]⟩ := if_pos rfl
  have hrcn : ∀ {T : Int}, T ≠ r.term → (g.grow r.term i ⟨i, R.el, r.log ++ [(r.term, o, ())]⟩ (r.log.length + 1)).rc T = g.rc T := fun hT => if_neg hT
  have hackn : ∀ {T : Int} {j : Nat}, ¬ (T = r.term ∧ j = i) → (g.grow r.term i ⟨i, R.el, r.log ++ [(r.term, o, ())]⟩ (r.log.length + 1)).ack T j = g.ack T j := fun hT => if_neg hT
  have hacki : r.log.length + 1 ≤ (g.grow r.term i ⟨i, R.el, r.log ++ [(r.term, o, ())]⟩ (r.log.length + 1)).ack r.term i := by
    show _ ≤ if r.term = r.term ∧ i = i then max (g.ack r.term i) (r.log.length + 1) else g.ack r.term i
    rw [if_pos ⟨rfl, rfl⟩]; omega
  have hackl : ∀ {j : Nat}, 0 < g.ack r.term j → g.ack r.term j ≤ r.log.length := by
    intro j hj
    obtain ⟨_, R1, h1, h2⟩ := h.ack _ _ hj
    rw [hR] at h1; cases h1; rw [hcur] at h2; exact h2
  have hlp : logP (g.grow r.term i ⟨i, R.el, r.log ++ [(r.term, o, ())]⟩ (r.log.length + 1)) (r.log ++ [(r.term, o, ())]) := by
    intro k e hk
    rcases Nat.lt_or_ge k r.log.length with hlt | hge
    · rw [List.getElem?_append_left hlt] at hk
      exact ((hn.lp k e hk).mono X).app
    · have hkl := (List.getElem?_eq_some_iff.1 hk).1
      simp at hkl
      have : k = r.log.length := by omega
      subst this
      rw [List.getElem?_append_right (Nat.le_refl _)] at hk
      simp at hk
      subst hk
      exact ⟨_, hrc', by simp, rfl⟩
  have hrec := h.rcd _ R hR
  refine ⟨_, ?_, fun x hx => hx.mono X, fun x hx => by cases hx⟩
  refine h.step hi X ⟨hn.id, hchk, htm, hlp, ?_, hn.v0, hn.v1, ?_, fun h1 => by simp [proposeR] at h1; omega, ?_⟩ (fun _ _ _ => rfl) ?_ ?_ ?_ (fun _ _ _ h => .inl h) ?_
  · intro T k ho hk
    by_cases hT : T = r.term
    · subst hT
      left
      obtain ⟨R1, e, h1, h2, _⟩ := ho
      rw [hrc'] at h1; cases h1
      exact ⟨_, hrc', (List.getElem?_eq_some_iff.1 h2).1, rfl⟩
    · rw [hackn (fun e => hT e.1)] at hk
      have ho : Own g T k := by
        obtain ⟨R1, e, h1, h2⟩ := ho
        rw [hrcn hT] at h1
        exact ⟨R1, e, h1, h2⟩
      exact (hn.ak T k ho hk).imp (fun a => (a.mono X).app) (fun a => a.mono X)
  · simp only [proposeR, rp_commit, rp_term, rp_log]
    split
    · rename_i hq
      have hn1 : n = 1 := by
        rw [quorum_eq hn.chk.n1 hn.chk.n5] at hq; have := hn.chk.n1; omega
      right
      refine ⟨r.term, r.log.length, _, Int.le_refl _, ⟨⟨_, (r.term, o, ()), hrc', by simp, rfl⟩, fun _ => true, fun j hj _ => ?_, by subst hn1; decide⟩, by simp, hrc', rfl⟩
      have := h.lt hi
      have : j = i := by omega
      subst this
      omega
    · exact (hn.cv.mono X).log (List.take_append_of_le_length hn.cv.le)
  · intro _
    refine ⟨_, hrc', rfl, rfl, ?_⟩
    intro j p hp
    simp only [proposeR, rp_mtch, hn.id] at hp
    rw [List.getElem?_set] at hp
    by_cases e : (i : Int).toNat = j
    · have : j = i := by omega
      subst this
      rw [if_pos e] at hp
      split at hp
      · cases hp
        show _ ≤ (g.grow _ _ _ _).ack r.term j
        simp; exact hacki
      · cases hp
    · rw [if_neg e] at hp
      have := hm j p hp
      have := X.ak r.term j
      show _ ≤ (g.grow _ _ _ _).ack r.term j
      omega
  · intro j hj T
    exact hackn fun e => hj e.2
  · intro U R1 h1 hne
    have hT : U ≠ r.term := fun e => by rw [e, hR] at h1; cases h1; exact hne hw
    rw [hrcn hT]; exact h1
  · intro U R1 h1
    by_cases hT : U = r.term
    · subst hT
      rw [hrc'] at h1; cases h1
      right
      have hm := hrec.mono X h.ack h.vot
      refine ⟨rfl, h.lt hi, hrec.hU, by rw [htm]; exact Int.le_refl _, ?_, ?_, ?_, ?_, hlp, hm.sf⟩
      · exact hrec.pre.trans (by rw [hcur]; exact List.prefix_append _ _)
      · have := hrec.vt; rw [hw] at this; exact this
      · have := hm.mj; rw [hw] at this; exact this
      · intro k e hk
        rcases Nat.lt_or_ge k r.log.length with hlt | hge
        · rw [List.getElem?_append_left hlt] at hk
          exact hrec.tms k e (by rw [hcur]; exact hk)
        · have hle := hrec.pre.length_le
          rw [hcur] at hle
          rw [if_neg (by simp only; omega)]
          have hkl := (List.getElem?_eq_some_iff.1 hk).1
          simp at hkl
          have : k = r.log.length := by omega
          subst this
          rw [List.getElem?_append_right (Nat.le_refl _)] at hk
          simp at hk
          subst hk; rfl
    · left; rw [hrcn hT] at h1; exact h1
  · intro T j hj
    by_cases hT : T = r.term ∧ j = i
    · obtain ⟨rfl, rfl⟩ := hT
      refine ⟨by rw [htm]; exact Int.le_refl _, _, hrc', ?_⟩
      show (if r.term = r.term ∧ j = j then max (g.ack r.term j) (r.log.length + 1) else g.ack r.term j) ≤ _
      rw [if_pos ⟨rfl, rfl⟩]
      have := @hackl j
      simp only [List.length_append, List.length_singleton]
      omega
    · rw [hackn hT] at hj ⊢
      obtain ⟨h1, R1, h2, h3⟩ := h.ack T j hj
      obtain ⟨R2, h4, _, _, h5⟩ := X.rc T R1 h2
      refine ⟨by have := tmOf_le hi (r' := proposeR n r o) (Int.le_refl _) j; omega, R2, h4, by have := h5.length_le; omega⟩

/-- A leader's appends are right. -/
theorem Inv.appends (hr : r.role = 2) : ∀ x ∈ appends n r, MsgOK n g x := by
  have hn := h.nod i r hi
  obtain ⟨R, hR, hw, hcur, hm⟩ := hn.ld hr
  obtain ⟨_, _, _, _, hb⟩ := (role2_iff hr).1 hn.chk.ro
  intro x hx
  simp only [Raft.appends, List.mem_map, List.mem_filter] at hx
  obtain ⟨j, _, rfl⟩ := hx
  have hp : 0 ≤ r.mtch[j]?.getD 0 ∧ r.mtch[j]?.getD 0 ≤ (r.log.length : Int) := by
    cases hg : r.mtch[j]? with
    | none => simp
    | some p => exact hb p (List.mem_of_getElem? hg)
  refine ⟨fun hk => by simp at hk, fun hk => by simp at hk, fun _ => ⟨R, hR, hp.1, ?_, ?_, ?_, ?_⟩, fun hk => by simp at hk⟩
  · simp only [mg_prev, mg_ents, List.length_drop, hcur]; omega
  · simp only [mg_prev, mg_ents, hcur]
    rw [List.take_of_length_le (Nat.le_refl _)]
  · simp only [mg_prev, mg_pterm, hcur]
  · simp only [mg_term, mg_commit, hcur]; exact hn.cv

/-- What a leader makes of a reply. -/
theorem Inv.appended {m : Msg O} (hm : MsgOK n g m) (ho : toOK n r m 4 = true) (hr : r.role = 2) (ht : m.term = r.term) (hok : m.ok = true) (hp : 0 ≤ m.prev) (hpl : m.prev ≤ r.log.length) : Inv n (reps.set i (appendedR n r m)) g := by
  have hn := h.nod i r hi
  obtain ⟨R, hR, hw, hcur, hmt⟩ := hn.ld hr
  obtain ⟨_, hk, hto, hf0, hf1, hfi, ht1, ht2⟩ := toOK_iff.1 ho
  obtain ⟨_, _, hlen, _, hb⟩ := (role2_iff hr).1 hn.chk.ro
  have hchk : Chk n (appendedR n r m) := by
    have := chk_appended (m := m) hn.chk
    unfold Raft.appended at this
    rw [if_pos ho, if_neg (by omega), if_pos ⟨hr, ht, hok, hp, hpl⟩] at this
    exact this
  obtain ⟨f, hfm, hfp⟩ := hm.k4 hk hok
  have hv : ∀ (j : Nat) (p : Int), (r.mtch.set m.frm.toNat (max (r.mtch[m.frm.toNat]?.getD 0) m.prev))[j]? = some p → p.toNat ≤ g.ack r.term j := by
    intro j p hj
    rw [List.getElem?_set] at hj
    split at hj
    · rename_i e
      split at hj
      · cases hj
        have hjf : j = f := by omega
        subst hjf
        rw [ht] at hfp
        have : (r.mtch[m.frm.toNat]?.getD 0).toNat ≤ g.ack r.term j := by
          cases hg : r.mtch[m.frm.toNat]? with
          | none => simp
          | some q => exact hmt j q (by rw [← e]; exact hg)
        omega
      · cases hj
    · exact hmt j p hj
  have hX : Ext (tmOf reps) g (tmOf (reps.set i (appendedR n r m))) g := Ext.same (tmOf_le hi (Int.le_refl _))
  refine h.step0 hi (Int.le_refl _) ⟨hn.id, hchk, ?_, hn.lp, ?_, hn.v0, hn.v1, ?_, fun h1 => by simp [appendedR] at h1; omega, fun _ => ⟨R, hR, hw, hcur, hv⟩⟩
  · rw [tmOf_set hi, if_pos rfl]
  · intro T k ho hk
    exact (hn.ak T k ho hk).imp id (fun a => a.mono hX)
  · show Cov n g r.term r.log (newCommit n r _ r.log.length).toNat
    have key : ∀ c : Nat, c ≤ r.log.length → Cov n g r.term r.log (newCommit n r (r.mtch.set m.frm.toNat (max (r.mtch[m.frm.toNat]?.getD 0) m.prev)) c).toNat := by
      intro c
      induction c with
      | zero => intro _; exact hn.cv
      | succ c ih =>
        intro hc
        unfold newCommit
        split
        · split
          · rename_i _ hq
            obtain ⟨hq1, hq2⟩ := hq
            right
            have hx : r.log[c]? = some (r.log[c]'(by omega)) := List.getElem?_eq_getElem _
            generalize r.log[c]'(by omega) = x at hx
            rw [hx] at hq2
            refine ⟨r.term, c, R, Int.le_refl _, ⟨⟨R, x, hR, by rw [hcur]; exact hx, hq2⟩, ?_⟩, by omega, hR, by rw [hcur]⟩
            rw [quorum_eq hn.chk.n1 hn.chk.n5] at hq1
            refine maj_of (l := r.mtch.set m.frm.toNat (max (r.mtch[m.frm.toNat]?.getD 0) m.prev)) (by simp; omega) (fun x => decide (x ≥ ((c + 1 : Nat) : Int))) _ (fun j a hj ha => ?_) hq1
            have := hv j a hj
            simp at ha
            omega
          · exact ih (by omega)
        · exact hn.cv
    exact key _ (Nat.le_refl _)

end
/-! ### Joined logs -/
theorem agree_spec : ∀ (a b : Log O) (m : Nat), m < agree a b → ∃ x y, a[m]? = some x ∧ b[m]? = some y ∧ x.1 = y.1 := by
  intro a b
  induction a generalizing b with
  | nil => intro m h; simp [agree] at h
  | cons x a ih =>
    cases b with
    | nil => intro m h; simp [agree] at h
    | cons y b =>
      intro m h
      simp only [agree] at h
      split at h
      · rename_i e
        cases m with
        | zero => exact ⟨x, y, rfl, rfl, e⟩
        | succ m => simpa using ih b m (by omega)
      · omega

theorem agree_stop : ∀ (a b : Log O), agree a b < b.length → a[agree a b]? = none ∨ ∃ x y, a[agree a b]? = some x ∧ b[agree a b]? = some y ∧ x.1 ≠ y.1 := by
  intro a b
  induction a generalizing b with
  | nil => intro h; left; rfl
  | cons x a ih =>
    cases b with
    | nil => intro h; simp at h
    | cons y b =>
      intro h
      simp only [agree] at h ⊢
      split
      · rename_i e
        rw [if_pos e] at h
        simpa using ih b (by simpa using h)
      · rename_i e
        exact .inr ⟨x, y, rfl, rfl, e⟩

theorem logP.take {g : Gh O} {L : Log O} (h : logP g L) (c : Nat) : logP g (L.take c) := by
  intro k e hk
  have hkl := (List.getElem?_eq_some_iff.1 hk).1
  simp at hkl
  rw [List.getElem?_take_of_lt (by omega)] at hk
  obtain ⟨R, h1, h2, h3⟩ := h k e hk
  exact ⟨R, h1, h2, by rw [List.take_take, Nat.min_eq_left (by omega), h3]⟩

/-- Logs with an entry of the same term at the same place are the same up to there. -/
theorem logP.same {g : Gh O} {L M : Log O} (hL : logP g L) (hM : logP g M) {k : Nat} {x y : Ent O} (hx : L[k]? = some x) (hy : M[k]? = some y) (e : x.1 = y.1) : L.take (k + 1) = M.take (k + 1) := by
  obtain ⟨R, h1, _, h3⟩ := hL k x hx
  obtain ⟨R', h4, _, h6⟩ := hM k y hy
  rw [← e, h1] at h4; cases h4
  rw [h3, h6]

theorem joined_spec {g : Gh O} {L cur ents : Log O} {p : Nat} (hL : logP g L) (hC : logP g cur) (hp : L.take p = cur.take p) (hpl : p ≤ L.length) (hE : p + ents.length ≤ cur.length) (he : (cur.drop p).take ents.length = ents) :
    (joined L p ents).1.take (p + ents.length) = cur.take (p + ents.length) ∧ logP g (joined L p ents).1 ∧ ∀ c, L.take c = cur.take c → c ≤ cur.length → (joined L p ents).1.take c = cur.take c := by
  have hs := agree_le (L.drop p) ents
  have hent : ∀ k, k < ents.length → ents[k]? = cur[p + k]? := by
    intro k hk
    conv => lhs; rw [← he]
    rw [List.getElem?_take_of_lt hk, List.getElem?_drop]
  have htk : L.take (p + agree (L.drop p) ents) = cur.take (p + agree (L.drop p) ents) := by
    rcases Nat.eq_zero_or_pos (agree (L.drop p) ents) with h0 | h0
    · rw [h0]; exact hp
    · obtain ⟨x, y, h1, h2, h3⟩ := agree_spec (L.drop p) ents (agree (L.drop p) ents - 1) (by omega)
      rw [List.getElem?_drop] at h1
      rw [hent _ (by omega)] at h2
      have := hL.same hC h1 h2 h3
      rwa [show p + (agree (L.drop p) ents - 1) + 1 = p + agree (L.drop p) ents by omega] at this
  by_cases hall : agree (L.drop p) ents = ents.length
  · have hj : (joined L p ents).1 = L := by unfold joined; simp only; rw [if_pos hall]
    rw [hj]
    rw [hall] at htk
    exact ⟨htk, hL, fun c h _ => h⟩
  · have hj : (joined L p ents).1 = cur.take (p + ents.length) := by
      unfold joined
      simp only
      rw [if_neg hall, htk]
      conv => lhs; rw [← he]
      rw [List.drop_take, List.drop_drop]
      have e2 : p + ents.length = (p + agree (L.drop p) ents) + (ents.length - agree (L.drop p) ents) := by omega
      conv => rhs; rw [e2, List.take_add]
      congr 2
      rw [he]
    rw [hj]
    refine ⟨by rw [List.take_take, Nat.min_self], hC.take _, fun c hc hcl => ?_⟩
    have hle : c ≤ p + agree (L.drop p) ents := by
      rcases Nat.lt_or_ge (p + agree (L.drop p) ents) c with hlt | hge
      · have hLl := take_lt hc hcl
        have hg := take_get hc hlt
        have hx : L[p + agree (L.drop p) ents]? = some (L[p + agree (L.drop p) ents]'(by omega)) := List.getElem?_eq_getElem _
        rcases agree_stop (L.drop p) ents (by omega) with h1 | ⟨x, y, h1, h2, h3⟩
        · rw [List.getElem?_drop, hx] at h1; cases h1
        · rw [List.getElem?_drop] at h1
          rw [hent _ (by omega)] at h2
          rw [h1, h2] at hg
          exact absurd (congrArg Prod.fst (Option.some.inj hg)) h3
      · exact hge
    rw [List.take_take, Nat.min_eq_left (by omega)]

/-- What is committed at a term is in the log of its leader, and of each later one. -/
theorem Inv.cur {n : Nat} {reps : List (Rep O)} {g : Gh O} (h : Inv n reps g) {T : Int} {k : Nat} {W : Int} {R RT : LR O} (hc : Comm n g T k) (hT : T ≤ W) (hR : g.rc W = some R) (hRT : g.rc T = some RT) : R.cur.take (k + 1) = RT.cur.take (k + 1) ∧ k < R.cur.length := by
  obtain ⟨RT', e, h1, h2, h3⟩ := hc.1
  rw [hRT] at h1; cases h1
  have hkl := (List.getElem?_eq_some_iff.1 h2).1
  by_cases hTW : T = W
  · subst hTW
    rw [hRT] at hR; cases hR
    exact ⟨rfl, hkl⟩
  · have hlt : T < W := by omega
    have hnd : ¬ Dead n (tmOf reps) g T k := by
      intro hd
      obtain ⟨j, _, ⟨_, a⟩, b⟩ := hd.both hc.2
      omega
    obtain ⟨R1, h4, h5, h6⟩ := ((h.rcd W R hR).sf T k hlt hc.1).resolve_right hnd
    rw [hRT] at h4; cases h4
    have hle := take_lt h6 (by omega)
    have := (h.rcd W R hR).pre
    exact ⟨by rw [pre_take this hle, h6], by have := this.length_le; omega⟩

theorem Cov.inCur {n : Nat} {reps : List (Rep O)} {g : Gh O} (h : Inv n reps g) {T W : Int} {L : Log O} {c : Nat} (hc : Cov n g T L c) (hT : T ≤ W) {R : LR O} (hR : g.rc W = some R) : L.take c = R.cur.take c ∧ c ≤ R.cur.length := by
  rcases hc with rfl | ⟨T', k, RT, h1, h2, h3, h4, h5⟩
  · simp
  · obtain ⟨h6, h7⟩ := h.cur h2 (by omega) hR h4
    exact ⟨by rw [h5, ← take_le h6 h3], by omega⟩

section
variable {n : Nat} {reps : List (Rep O)} {g : Gh O} (h : Inv n reps g) {i : Nat} {x : Rep O} (hi : reps[i]? = some x)
include h hi
/-- A replica takes a leader's entries. -/
theorem Inv.take {m : Msg O} (hm : MsgOK n g m) (hk : m.kind = 3) (hf : fits x m = true) (h0 : x.role = 0) {r' : Rep O}
    (hr' : r' = rp x.id x.term x.voted x.role (joined x.log m.prev.toNat m.ents).1 (max x.commit (min m.commit (m.prev + m.ents.length))) x.votes x.mtch) (hc : Chk n r') (hcm : 0 ≤ m.commit) :
    Step n g (reps.set i r') [mg 4 x.id m.frm x.term (m.prev + m.ents.length) 0 0 [] true] := by
  have hn := h.nod i x hi
  obtain ⟨R, hR, hp0, hE, he, hpt, hcv⟩ := hm.k3 hk
  simp only [fits, Bool.and_eq_true, Bool.or_eq_true, decide_eq_true_eq] at hf
  obtain ⟨⟨⟨hf1, hf2⟩, hf3⟩, hf4⟩ := hf
  have hRx : g.rc x.term = some R := by rw [← hf1]; exact hR
  have hrec := h.rcd _ R hRx
  have hp : x.log.take m.prev.toNat = R.cur.take m.prev.toNat := by
    rcases Nat.eq_zero_or_pos m.prev.toNat with hz | hz
    · rw [hz]; rfl
    · have hf4 := hf4.resolve_left (by omega)
      unfold ptermAt at hf4 hpt
      rw [if_pos (by omega)] at hf4 hpt
      have ha : x.log[(m.prev - 1).toNat]? = some (x.log[(m.prev - 1).toNat]'(by omega)) := List.getElem?_eq_getElem _
      have hb : R.cur[(m.prev - 1).toNat]? = some (R.cur[(m.prev - 1).toNat]'(by omega)) := List.getElem?_eq_getElem _
      generalize x.log[(m.prev - 1).toNat]'(by omega) = a at ha
      generalize R.cur[(m.prev - 1).toNat]'(by omega) = b at hb
      rw [ha] at hf4
      rw [hb] at hpt
      have := hn.lp.same hrec.lp ha hb (by simp at hf4 hpt; omega)
      rwa [show (m.prev - 1).toNat + 1 = m.prev.toNat by omega] at this
  obtain ⟨j1, j2, j3⟩ := joined_spec hn.lp hrec.lp hp (by omega) hE he
  have hlog : r'.log = (joined x.log m.prev.toNat m.ents).1 := by rw [hr']
  have hterm : r'.term = x.term := by rw [hr']
  have hvoted : r'.voted = x.voted := by rw [hr']
  have hrole : r'.role = 0 := by rw [hr']; simpa using h0
  have hid : r'.id = x.id := by rw [hr']
  have hcom : r'.commit = max x.commit (min m.commit (m.prev + m.ents.length)) := by rw [hr']
  have htm : tmOf (reps.set i r') i = x.term := by rw [tmOf_set hi, if_pos rfl, hterm]
  have X : Ext (tmOf reps) g (tmOf (reps.set i r')) (g.grow x.term i R (m.prev.toNat + m.ents.length)) := Ext.grow h hi hterm hRx rfl rfl (List.prefix_refl _) _
  have hrc : ∀ T, (g.grow x.term i R (m.prev.toNat + m.ents.length)).rc T = g.rc T := by
    intro T
    show (if T = x.term then some R else g.rc T) = g.rc T
    split
    · rename_i e; rw [e, hRx]
    · rfl
  have hackn : ∀ {T : Int} {j : Nat}, ¬ (T = x.term ∧ j = i) → (g.grow x.term i R (m.prev.toNat + m.ents.length)).ack T j = g.ack T j := fun hT => if_neg hT
  have hacki : (g.grow x.term i R (m.prev.toNat + m.ents.length)).ack x.term i = max (g.ack x.term i) (m.prev.toNat + m.ents.length) := if_pos ⟨rfl, rfl⟩
  have hownb : ∀ {T k}, Own (g.grow x.term i R (m.prev.toNat + m.ents.length)) T k → Own g T k := by
    rintro T k ⟨R1, e, h1, h2⟩
    rw [hrc] at h1
    exact ⟨R1, e, h1, h2⟩
  have hhas : ∀ {k}, k < R.cur.length → (joined x.log m.prev.toNat m.ents).1.take (k + 1) = R.cur.take (k + 1) → Has g x.term k (joined x.log m.prev.toNat m.ents).1 := fun hk h => ⟨R, hRx, hk, h⟩
  refine ⟨_, ?_, fun y hy => hy.mono X, ?_⟩
  · refine h.step hi X ⟨by rw [hid]; exact hn.id, hc, by rw [htm, hterm], by rw [hlog]; exact j2.mono X, ?_, ?_, ?_, ?_, fun h1 => by omega, fun h1 => by omega⟩ (fun _ _ _ => rfl) ?_ ?_ ?_ (fun _ _ _ h => .inl h) ?_
    · intro T k ho hk
      have ho := hownb ho
      rw [hlog]
      by_cases hT : T = x.term
      · subst hT
        rw [hacki] at hk
        by_cases hold : k < g.ack x.term i
        · rcases hn.ak _ k ho hold with a | a
          · obtain ⟨R1, h1, h2, h3⟩ := a
            rw [hRx] at h1; cases h1
            exact .inl ((hhas h2 (j3 _ h3 (by omega))).mono X)
          · exact .inr (a.mono X)
        · exact .inl ((hhas (by omega) (take_le j1 (by omega))).mono X)
      · rw [hackn (fun e => hT e.1)] at hk
        rcases hn.ak T k ho hk with a | a
        · have hTle := (h.ack T i (by omega)).1
          rw [hn.tme] at hTle
          rcases hrec.sf T k (by omega) ho with b | b
          · left
            obtain ⟨R1, h1, h2, h3⟩ := a
            obtain ⟨R2, h4, h5, h6⟩ := b
            rw [h1] at h4; cases h4
            have hel := take_lt h6 (by omega)
            have hcl := hrec.pre.length_le
            have e1 : R.cur.take (k + 1) = R1.cur.take (k + 1) := by rw [pre_take hrec.pre hel, h6]
            exact Has.mono X ⟨R1, h1, h2, by rw [j3 (k + 1) (by rw [h3, e1]) (by omega), e1]⟩
          · exact .inr (b.mono X)
        · exact .inr (a.mono X)
    · intro hv; rw [hterm] at hv; rw [hvoted]; exact hn.v0 hv
    · intro c vl hv; rw [hterm] at hv; rw [hvoted]; exact hn.v1 c vl hv
    · rw [hlog, hterm, hcom]
      have hmax : (max x.commit (min m.commit (m.prev + m.ents.length))).toNat = x.commit.toNat ∨ (max x.commit (min m.commit (m.prev + m.ents.length))).toNat = (min m.commit (m.prev + m.ents.length)).toNat := by omega
      rcases hmax with e | e
      · rw [e]
        obtain ⟨e1, e2⟩ := hn.cv.inCur h (Int.le_refl _) hRx
        exact (hn.cv.mono X).log (by rw [j3 _ e1 e2, e1])
      · rw [e]
        have hd : (min m.commit (m.prev + m.ents.length)).toNat ≤ m.commit.toNat := by omega
        refine (((hcv.down hd).mono X).log (M := (joined x.log m.prev.toNat m.ents).1) (take_le j1 (by omega))).term (by omega)
    · intro j hj T
      exact hackn fun e => hj e.2
    · intro U R1 h1 _; rw [hrc]; exact h1
    · intro U R1 h1; left; rw [hrc] at h1; exact h1
    · intro T j hj
      by_cases hT : T = x.term ∧ j = i
      · obtain ⟨rfl, rfl⟩ := hT
        refine ⟨by rw [htm]; exact Int.le_refl _, R, by rw [hrc]; exact hRx, ?_⟩
        rw [hacki]
        rcases Nat.eq_zero_or_pos (g.ack x.term j) with hz | hz
        · omega
        · obtain ⟨_, R1, h2, h3⟩ := h.ack _ _ hz
          rw [hRx] at h2; cases h2
          omega
      · rw [hackn hT] at hj ⊢
        obtain ⟨h1, R1, h2, h3⟩ := h.ack T j hj
        exact ⟨by have := tmOf_le hi (r' := r') (by omega) j; omega, R1, by rw [hrc]; exact h2, h3⟩
  · intro y hy
    simp at hy
    subst hy
    refine ⟨fun hk => by simp at hk, fun hk => by simp at hk, fun hk => by simp at hk, fun _ _ => ⟨i, hn.id, ?_⟩⟩
    simp only [mg_prev, mg_term]
    rw [hacki]
    omega

end
end Go.Raft

namespace Go.Raft
variable {O : Type}
theorem yes_one {n : Nat} {k : Nat} (hk : k < n) : 1 ≤ yes ((List.replicate n false).set k true) := by
  unfold yes
  have : 0 < ((List.replicate n false).set k true).countP (· == true) := by
    rw [List.countP_pos_iff]
    exact ⟨true, List.mem_iff_getElem?.2 ⟨k, List.getElem?_set_self (by simpa using hk)⟩, rfl⟩
  omega

section
variable {n : Nat} {reps : List (Rep O)} {g : Gh O} (h : Inv n reps g) {i : Nat} {r : Rep O} (hi : reps[i]? = some r)
include h hi
theorem Inv.stay : Step n g (reps.set i r) [] := by rw [set_same hi]; exact h.refl

theorem Inv.standS (ht : r.term ≠ 1048576) : Step n g (reps.set i (standR n r)) (asks n r) := by
  have hc := h.cand hi ht
  have hlt := (List.getElem?_eq_some_iff.1 hi).1
  by_cases hq : quorum (n : Int) = 1
  · obtain ⟨g1, a, b, c⟩ := hc
    have e : standR (n : Int) r = Raft.lead n (Raft.cand n r) := by unfold standR; simp only; rw [if_pos hq]; rfl
    have hi1 : (reps.set i (Raft.cand (n : Int) r))[i]? = some (Raft.cand n r) := List.getElem?_set_self hlt
    have hl := a.lead hi1 (by simp [Raft.cand]) (by
      rw [hq]
      simp only [Raft.cand, rp_votes]
      have hid := (h.nod i r hi).id
      have hn := h.lt hi
      exact yes_one (by omega))
    rw [List.set_set, ← e] at hl
    obtain ⟨g2, a2, b2, _⟩ := hl
    exact ⟨g2, a2, fun x hx => b2 x (b x hx), fun x hx => b2 x (c x hx)⟩
  · have e : standR (n : Int) r = Raft.cand n r := by unfold standR; simp only; rw [if_neg hq]; rfl
    rw [e]; exact hc

theorem Inv.hearS {m : Msg O} (hm : MsgOK n g m) : Step n g (reps.set i (Raft.hear n r m).1) (if (Raft.hear n r m).2.2 then [(Raft.hear n r m).2.1] else []) := by
  unfold Raft.hear
  split
  · rename_i ho; exact h.hear hi hm ho
  · exact h.stay hi

theorem Inv.votedS {m : Msg O} (hm : MsgOK n g m) : Step n g (reps.set i (voted n r m)) [] := by
  have hlt := (List.getElem?_eq_some_iff.1 hi).1
  have hn := h.nod i r hi
  unfold Raft.voted
  split
  · rename_i ho
    obtain ⟨_, hk, hto, hf0, hf1, hfi, ht1, ht2⟩ := toOK_iff.1 ho
    split
    · exact (h.fol hi ht2).refl
    · split
      · rename_i hr
        obtain ⟨hr, ht, hok⟩ := hr
        obtain ⟨v1, v2, v3⟩ := (role1_iff hr).1 hn.chk.ro
        obtain ⟨c1, c2, c3⟩ := hn.cd hr
        obtain ⟨f, c, vl, hf, hc, hv⟩ := hm.k2 hk hok
        have hci : c = i := by have := hn.id; omega
        subst hci
        have hx : Chk n (rp r.id r.term r.voted r.role r.log r.commit (r.votes.set m.frm.toNat true) r.mtch) := by
          have := hn.chk
          refine ⟨this.n1, this.n5, this.i0, this.i1, this.t0, this.t1, this.v0, this.v1, this.so, this.ll, this.c0, this.c1, (role1_iff (by simpa using hr)).2 ⟨by simpa using v1, ?_, by simpa using v3⟩⟩
          simp only [rp_votes, rp_id]
          rw [List.getElem?_set]
          have := this.i0
          split
          · have : r.id.toNat < r.votes.length := (List.getElem?_eq_some_iff.1 v2).1
            rename_i e; rw [if_pos (by omega)]
          · exact v2
        have h1 : Inv n (reps.set c (rp r.id r.term r.voted r.role r.log r.commit (r.votes.set m.frm.toNat true) r.mtch)) g := by
          refine h.step0 hi (Int.le_refl _) ⟨hn.id, hx, ?_, hn.lp, ?_, hn.v0, hn.v1, hn.cv, fun _ => ⟨c1, c2, ?_⟩, fun h1 => by simp at h1; omega⟩
          · rw [tmOf_set hi, if_pos rfl]
          · intro T k ho hk
            exact (hn.ak T k ho hk).imp id (fun a => a.mono (Ext.same (tmOf_le hi (r' := rp r.id r.term r.voted r.role r.log r.commit (r.votes.set m.frm.toNat true) r.mtch) (Int.le_refl _))))
          · intro j hj
            simp only [rp_votes] at hj
            rw [List.getElem?_set] at hj
            split at hj
            · have : j = f := by omega
              subst this
              exact ⟨vl, by simpa [ht] using hv⟩
            · exact c3 j hj
        have hi1 : (reps.set c (rp r.id r.term r.voted r.role r.log r.commit (r.votes.set m.frm.toNat true) r.mtch))[c]? = some _ := List.getElem?_set_self hlt
        unfold votedR
        simp only
        split
        · rename_i hy
          have := h1.lead hi1 (by simpa using hr) hy
          rwa [List.set_set] at this
        · exact h1.refl
      · exact h.stay hi
  · exact h.stay hi

theorem Inv.proposeS (hr : r.role = 2) (hl : r.log.length < 256) (o : O) : Step n g (reps.set i (proposeR n r o)) [] := by
  obtain ⟨R, hR, hw, _⟩ := (h.nod i r hi).ld hr
  exact h.propose hi hr hl (h.rcd _ R hR).hU o

theorem Inv.acceptS {m : Msg O} (hm : MsgOK n g m) : Step n g (reps.set i (accept n r m).1) (if (accept n r m).2.2 then [(accept n r m).2.1] else []) := by
  have hlt := (List.getElem?_eq_some_iff.1 hi).1
  have hn := h.nod i r hi
  have hca := chk_accept (m := m) hn.chk
  unfold Raft.accept at hca ⊢
  split
  · rename_i ha
    rw [if_pos ha] at hca
    simp only [acceptable, Bool.and_eq_true, decide_eq_true_eq] at ha
    obtain ⟨⟨⟨ha, hp⟩, _⟩, hcm⟩ := ha
    obtain ⟨_, hk, hto, hf0, hf1, hfi, ht1, ht2⟩ := toOK_iff.1 ha
    have h1 := h.back hi ht2
    have hi1 : (reps.set i (Raft.back r m.term))[i]? = some (Raft.back r m.term) := List.getElem?_set_self hlt
    have hb := chk_back (t := m.term) hn.chk ht2
    have hbid : (Raft.back r m.term).id = r.id := by
      unfold Raft.back Raft.fol; simp only; split <;> split <;> rfl
    simp only at hca ⊢
    split
    · rename_i hf
      rw [if_pos hf] at hca
      split
      · rename_i hj
        rw [if_pos hj] at hca
        have hft := hf
        simp only [fits, Bool.and_eq_true, decide_eq_true_eq] at hft
        have hr0 : (Raft.back r m.term).role = 0 := by
          rcases role_cases hb.ro with h0 | h0 | h0
          · exact h0
          · exact absurd h0 (back_role hft.1.1.1.symm)
          · exact absurd h0 hft.1.1.2
        have := h1.take hi1 hm hk hf hr0 rfl hca hcm
        rw [List.set_set] at this
        simp only [if_true]
        rw [← hbid]
        exact this
      · exact h.stay hi
    · refine ⟨g, h1, fun _ h => h, ?_⟩
      intro y hy
      simp at hy
      subst hy
      exact ⟨fun hk => by simp at hk, fun hk => by simp at hk, fun hk => by simp at hk, fun _ hk => by simp at hk⟩
  · exact h.stay hi

theorem Inv.appendedS {m : Msg O} (hm : MsgOK n g m) : Step n g (reps.set i (Raft.appended n r m)) [] := by
  unfold Raft.appended
  split
  · rename_i ho
    obtain ⟨_, hk, hto, hf0, hf1, hfi, ht1, ht2⟩ := toOK_iff.1 ho
    split
    · exact (h.fol hi ht2).refl
    · split
      · rename_i hr
        exact (h.appended hi hm ho hr.1 hr.2.1 hr.2.2.1 hr.2.2.2.1 hr.2.2.2.2).refl
      · exact h.stay hi
  · exact h.stay hi

/-! ### What follows -/

theorem Inv.one {j : Nat} {b : Rep O} (hj : reps[j]? = some b) (ha : r.role = 2) (hb : b.role = 2) (ht : r.term = b.term) : i = j := by
  obtain ⟨R, h1, h2, _⟩ := (h.nod i r hi).ld ha
  obtain ⟨R', h3, h4, _⟩ := (h.nod j b hj).ld hb
  rw [← ht, h1] at h3; cases h3
  omega

theorem Inv.same {j : Nat} {b : Rep O} (hj : reps[j]? = some b) {k : Nat} {x y : Ent O} (hx : r.log[k]? = some x) (hy : b.log[k]? = some y) (e : x.1 = y.1) : r.log.take (k + 1) = b.log.take (k + 1) :=
  (h.nod i r hi).lp.same (h.nod j b hj).lp hx hy e

theorem Inv.leader {j : Nat} {b : Rep O} (hj : reps[j]? = some b) (hb : b.role = 2) (ht : r.term ≤ b.term) : r.log.take r.commit.toNat = b.log.take r.commit.toNat ∧ r.commit.toNat ≤ b.log.length := by
  obtain ⟨R, h1, _, h3, _⟩ := (h.nod j b hj).ld hb
  rw [← h3]
  exact (h.nod i r hi).cv.inCur h ht h1

end
/-! ### The beginning -/
def rep0 (i : Nat) : Rep O := rp (i : Int) 0 (-1) 0 [] 0 [] []

theorem chk_rep0 {n i : Nat} (h5 : n ≤ 5) (hi : i < n) : Chk (n : Int) (rep0 i : Rep O) :=
  ⟨by omega, by omega, by simp [rep0], by simp [rep0]; omega, by simp [rep0], by simp [rep0], by simp [rep0], by simp [rep0]; omega, rfl, by simp [rep0], by simp [rep0], by simp [rep0], (role0_iff rfl).2 ⟨rfl, rfl⟩⟩

theorem inv0 {n : Nat} (h5 : n ≤ 5) : Inv n ((List.range n).map rep0) (⟨fun _ => none, fun _ _ => none, fun _ _ => 0⟩ : Gh O) := by
  refine ⟨by simp, ?_, fun U i c vl h => (by cases h), fun U R h => (by cases h), fun T j h => (by simp at h)⟩
  intro i r hi
  have hti := tmOf_eq hi
  simp only [List.getElem?_map, Option.map_eq_some_iff] at hi
  obtain ⟨j, hj, rfl⟩ := hi
  obtain ⟨hj1, hj2⟩ := List.getElem?_eq_some_iff.1 hj
  simp at hj1 hj2
  subst hj2
  exact ⟨rfl, chk_rep0 h5 hj1, hti, fun k e hk => by simp [rep0] at hk, fun T k _ hk => by simp at hk, fun _ => rfl, fun c vl hv => (by cases hv), .inl rfl, fun h1 => by simp [rep0] at h1, fun h1 => by simp [rep0] at h1⟩

/-! ### What is committed stays -/
def Keeps (r r' : Rep O) : Prop := r.term ≤ r'.term ∧ r.commit ≤ r'.commit ∧ r'.log.take r.commit.toNat = r.log.take r.commit.toNat

theorem Keeps.refl (r : Rep O) : Keeps r r := ⟨Int.le_refl _, Int.le_refl _, rfl⟩

end Go.Raft

namespace Go.Proofs.YtfbikpbejkgegaaGreat
open Go Go.Abs Go.RowKit
set_option maxHeartbeats 1000000 in
theorem quiet_calls (g : FuncId) (w : World) : Calls Tryz.prog 113 #[.func (.func g) #[] #[]] w fun e w' => e = .returned (.func (.func 114) #[] #[.pointer (some ⟨w.heap.size, 0, none⟩)]) ∧ w' = w.alloc (.cells #[.func (.func g) #[] #[]] 97) := by
  go_enter Tryz.func113, Tryz.ntmps113
  go_wp2
  go_ret
  exact ⟨rfl, rfl⟩

/-- The block of a map with one more entry. -/
def ins1 (w : World) (r : Nat) (es : Array MapEntry) (clock : Nat) (k : Int) (v : Value) : World :=
  { w with heap := w.heap.setIfInBounds r (.map (es.push { key := .int .i64 k, val := v, born := clock }) (clock + 1)) }

theorem run_ins1 {P : Program} {t kt et : TypeId} (ht : P.underlying t = some (.map kt et)) (hk : P.underlying kt = some (.int .i64)) (w : World) (r : Nat) (es : Array MapEntry) (clock : Nat) (k : Int) (v : Value)
    (hb : w.heap[r]? = some (.map es clock)) (hf : Instr.findNow (.int .i64) (.int .i64 k) es.toList 0 = some none) :
    (Instr.mapUpdate t (.map (some r)) (.int .i64 k) v).run P w = .ok () (ins1 w r es clock k v) := by
  have hg : (getObj r).run P w = .ok (.map es clock) w := by simp [getObj, Sem.run, hb]
  have hck : (Instr.checkKey false 10000 kt (.int .i64 k)).run P w = .ok () w := by
    rw [show (10000 : Nat) = 9999 + 1 from rfl]
    unfold Instr.checkKey
    simp only [Sem.run_bind, run_underlying hk, Result.andThen_ok]
    rfl
  have hfk : (Instr.findKey kt (.int .i64 k) es.toList).run P w = .ok none w := by
    simp [Instr.findKey, run_underlying hk, hf]
  have hset : (setObj r (.map (es.push { key := .int .i64 k, val := v, born := clock }) (clock + 1))).run P w = .ok () (ins1 w r es clock k v) := by
    simp [setObj, Sem.run, hb, ins1]
  simp [Instr.mapUpdate, run_underlying ht, hg, hck, hfk, hset]

theorem wpList_ins {P : Program} (w : World) {ops : Array Oper} {rest : List Oper} {o : Oper} {a : Act} {Q : Exit → Act → World → Prop} (hg : o.guard = none) (m x v : Operand) (t : TypeId) (hop : o.op = Op.insert t m x v)
    (kt et : TypeId) (ht : P.underlying t = some (.map kt et)) (hk : P.underlying kt = some (.int .i64)) (r : Nat) (es : Array MapEntry) (clock : Nat) (k : Int) (vv : Value) (hm : a.eval m = .map (some r)) (hx : a.eval x = .int .i64 k) (hv : a.eval v = vv)
    (hb : w.heap[r]? = some (.map es clock)) (hf : Instr.findNow (.int .i64) (.int .i64 k) es.toList 0 = some none)
    (hK : wpList P ops Q rest (a.put o.dst undef) (ins1 w r es clock k vv)) : wpList P ops Q (o :: rest) a w := by
  refine wpList_plain hg fun K' hK' => ?_
  unfold Oper.wp
  simp [execOp, hop, hm, hx, hv, run_ins1 ht hk w r es clock k vv hb hf, Result.andThen]
  exact hK' _ _ hK

theorem at_new (w : World) (o : Obj) : (w.alloc o).heap[w.heap.size]? = some o := heap_alloc_new w o

theorem at_alloc {w : World} {r : Nat} {x : Obj} (o : Obj) (h : w.heap[r]? = some x) : (w.alloc o).heap[r]? = some x :=
  (heap_alloc_old w o (Array.getElem?_eq_some_iff.1 h).1).trans h

theorem at_ins {w : World} {r : Nat} {es : Array MapEntry} {c : Nat} (k : Int) (v : Value) (h : w.heap[r]? = some (.map es c)) : (ins1 w r es c k v).heap[r]? = some (.map (es.push { key := .int .i64 k, val := v, born := c }) (c + 1)) := by
  have := (Array.getElem?_eq_some_iff.1 h).1
  simp [ins1, this]

theorem size_alloc (w : World) (o : Obj) : (w.alloc o).heap.size = w.heap.size + 1 := by simp

theorem size_ins (w : World) (r : Nat) (es : Array MapEntry) (c : Nat) (k : Int) (v : Value) : (ins1 w r es c k v).heap.size = w.heap.size := by simp [ins1]

theorem off_alloc {w : World} {i : Nat} (o : Obj) (h : i < w.heap.size) : (w.alloc o).heap[i]? = w.heap[i]? := heap_alloc_old w o h

theorem off_ins {w : World} {r i : Nat} {es : Array MapEntry} {c : Nat} (k : Int) (v : Value) (h : i ≠ r) : (ins1 w r es c k v).heap[i]? = w.heap[i]? := by
  simp only [ins1]
  rw [Array.getElem?_setIfInBounds_ne (by omega)]

def hearL : List (Int × FuncId × List FuncId) := [(1, 115, []), (2, 114, [116]), (3, 117, []), (4, 114, [118])]

abbrev en (k : Int) (v : Value) (b : Nat) : MapEntry := { key := .int .i64 k, val := v, born := b }

abbrev fv (f : FuncId) : Value := .func (.func f) #[] #[]

abbrev qv (b : Nat) : Value := .func (.func 114) #[] #[.pointer (some ⟨b, 0, none⟩)]

/-- What is the same of two worlds. -/
def SameW (w w' : World) : Prop := (∀ i, i < w.heap.size → w'.heap[i]? = w.heap[i]?) ∧ w'.os = w.os ∧ w'.tape = w.tape ∧ w'.output = w.output

theorem SameW.alloc {w W : World} (h : SameW w W) (o : Obj) (hs : w.heap.size ≤ W.heap.size) : SameW w (W.alloc o) :=
  ⟨fun i hi => (off_alloc o (by omega)).trans (h.1 i hi), h.2⟩

theorem SameW.ins {w W : World} (h : SameW w W) (es : Array MapEntry) (c : Nat) (k : Int) (v : Value) : SameW w (ins1 W w.heap.size es c k v) :=
  ⟨fun i hi => (off_ins k v (by omega)).trans (h.1 i hi), h.2⟩

set_option maxHeartbeats 4000000 in
set_option maxRecDepth 1000000 in
theorem hear_calls (w : World) : Calls Tryz.prog 96 #[] w (MakesFm hearL w) := by
  have hk3 : Tryz.prog.underlying 3 = some (.int .i64) := by kernel_rfl
  go_enter Tryz.func96, Tryz.ntmps96
  go_wp2_with fail
  rename_i K1 h1 K2 h2
  rw [run_makeMap]
  simp only [Result.andThen, Oper.upon]
  apply h2
  have f1 := at_new w (.map #[] 0)
  have s1 := size_alloc w (.map #[] 0)
  have o1 : SameW w (w.alloc (.map #[] 0)) := SameW.alloc ⟨fun _ _ => rfl, rfl, rfl, rfl⟩ _ (Nat.le_refl _)
  generalize w.alloc (.map #[] 0) = W1 at f1 s1 o1
  refine wpList_ins _ rfl _ _ _ _ rfl _ _ Tryz.underlying109 hk3 w.heap.size #[] 0 1 (fv 115) rfl rfl rfl f1 rfl ?_
  have f2 : (ins1 W1 w.heap.size #[] 0 1 (fv 115)).heap[w.heap.size]? = some (.map #[en 1 (fv 115) 0] 1) := at_ins 1 (fv 115) f1
  have s2 := size_ins W1 w.heap.size #[] 0 1 (fv 115)
  have o2 := o1.ins #[] 0 1 (fv 115)
  generalize ins1 W1 w.heap.size #[] 0 1 (fv 115) = W2 at f2 s2 o2
  go_wp2_with fail
  refine (quiet_calls 116 _).mono ?_
  rintro e w' ⟨rfl, rfl⟩
  rename_i K3 h3
  apply h3
  have g1 := at_new W2 (.cells #[fv 116] 97)
  have f3 := at_alloc (.cells #[fv 116] 97) f2
  have s3 := size_alloc W2 (.cells #[fv 116] 97)
  have o3 := o2.alloc (.cells #[fv 116] 97) (by omega)
  generalize hb1 : W2.heap.size = b1 at g1 s3
  generalize W2.alloc (.cells #[fv 116] 97) = W3 at g1 f3 s3 o3
  have hb1' : b1 = w.heap.size + 1 := by omega
  refine wpList_ins _ rfl _ _ _ _ rfl _ _ Tryz.underlying109 hk3 w.heap.size #[en 1 (fv 115) 0] 1 2 (qv b1) rfl rfl rfl f3 rfl ?_
  have f4 : (ins1 W3 w.heap.size #[en 1 (fv 115) 0] 1 2 (qv b1)).heap[w.heap.size]? = some (.map #[en 1 (fv 115) 0, en 2 (qv b1) 1] 2) := at_ins 2 (qv b1) f3
  have s4 := size_ins W3 w.heap.size #[en 1 (fv 115) 0] 1 2 (qv b1)
  have o4 := o3.ins #[en 1 (fv 115) 0] 1 2 (qv b1)
  have g2 : (ins1 W3 w.heap.size #[en 1 (fv 115) 0] 1 2 (qv b1)).heap[b1]? = _ := (off_ins _ _ (by omega)).trans g1
  generalize ins1 W3 w.heap.size #[en 1 (fv 115) 0] 1 2 (qv b1) = W4 at f4 s4 o4 g2
  refine wpList_ins _ rfl _ _ _ _ rfl _ _ Tryz.underlying109 hk3 w.heap.size #[en 1 (fv 115) 0, en 2 (qv b1) 1] 2 3 (fv 117) rfl rfl rfl f4 rfl ?_
  have f5 : (ins1 W4 w.heap.size #[en 1 (fv 115) 0, en 2 (qv b1) 1] 2 3 (fv 117)).heap[w.heap.size]? = some (.map #[en 1 (fv 115) 0, en 2 (qv b1) 1, en 3 (fv 117) 2] 3) := at_ins 3 (fv 117) f4
  have s5 := size_ins W4 w.heap.size #[en 1 (fv 115) 0, en 2 (qv b1) 1] 2 3 (fv 117)
  have o5 := o4.ins #[en 1 (fv 115) 0, en 2 (qv b1) 1] 2 3 (fv 117)
  have g3 : (ins1 W4 w.heap.size #[en 1 (fv 115) 0, en 2 (qv b1) 1] 2 3 (fv 117)).heap[b1]? = _ := (off_ins _ _ (by omega)).trans g2
  generalize ins1 W4 w.heap.size #[en 1 (fv 115) 0, en 2 (qv b1) 1] 2 3 (fv 117) = W5 at f5 s5 o5 g3
  go_wp2_with fail
  refine (quiet_calls 118 _).mono ?_
  rintro e w' ⟨rfl, rfl⟩
  rename_i K4 h4
  apply h4
  have g4 := at_new W5 (.cells #[fv 118] 97)
  have g5 := at_alloc (.cells #[fv 118] 97) g3
  have f6 := at_alloc (.cells #[fv 118] 97) f5
  have s6 := size_alloc W5 (.cells #[fv 118] 97)
  have o6 := o5.alloc (.cells #[fv 118] 97) (by omega)
  generalize hb2 : W5.heap.size = b2 at g4 s6
  generalize W5.alloc (.cells #[fv 118] 97) = W6 at g4 g5 f6 s6 o6
  have hb2' : b2 = w.heap.size + 2 := by omega
  refine wpList_ins _ rfl _ _ _ _ rfl _ _ Tryz.underlying109 hk3 w.heap.size #[en 1 (fv 115) 0, en 2 (qv b1) 1, en 3 (fv 117) 2] 3 4 (qv b2) rfl rfl rfl f6 rfl ?_
  have f7 : (ins1 W6 w.heap.size #[en 1 (fv 115) 0, en 2 (qv b1) 1, en 3 (fv 117) 2] 3 4 (qv b2)).heap[w.heap.size]? = some (.map #[en 1 (fv 115) 0, en 2 (qv b1) 1, en 3 (fv 117) 2, en 4 (qv b2) 3] 4) := at_ins 4 (qv b2) f6
  have s7 := size_ins W6 w.heap.size #[en 1 (fv 115) 0, en 2 (qv b1) 1, en 3 (fv 117) 2] 3 4 (qv b2)
  have o7 := o6.ins #[en 1 (fv 115) 0, en 2 (qv b1) 1, en 3 (fv 117) 2] 3 4 (qv b2)
  have g6 : (ins1 W6 w.heap.size #[en 1 (fv 115) 0, en 2 (qv b1) 1, en 3 (fv 117) 2] 3 4 (qv b2)).heap[b1]? = _ := (off_ins _ _ (by omega)).trans g5
  have g7 : (ins1 W6 w.heap.size #[en 1 (fv 115) 0, en 2 (qv b1) 1, en 3 (fv 117) 2] 3 4 (qv b2)).heap[b2]? = _ := (off_ins _ _ (by omega)).trans g4
  generalize ins1 W6 w.heap.size #[en 1 (fv 115) 0, en 2 (qv b1) 1, en 3 (fv 117) 2] 3 4 (qv b2) = W7 at f7 s7 o7 g6 g7
  go_wp2_with fail
  go_ret
  refine ⟨w.heap.size, _, _, rfl, Nat.le_refl _, f7, rfl, ?_, o7.2.1, o7.2.2.1, o7.2.2.2, by omega, o7.1⟩
  intro i k f gs hi
  match i, hi with
  | 0, hi => cases hi; exact ⟨_, #[], rfl, rfl, rfl, rfl, fun j g hj => by simp at hj⟩
  | 1, hi =>
    cases hi
    refine ⟨_, #[.pointer (some ⟨b1, 0, none⟩)], rfl, rfl, rfl, rfl, fun j g hj => ?_⟩
    match j, hj with
    | 0, hj => cases hj; exact ⟨b1, rfl, by omega, by simp [World.cell?, g6]⟩
  | 2, hi => cases hi; exact ⟨_, #[], rfl, rfl, rfl, rfl, fun j g hj => by simp at hj⟩
  | 3, hi =>
    cases hi
    refine ⟨_, #[.pointer (some ⟨b2, 0, none⟩)], rfl, rfl, rfl, rfl, fun j g hj => ?_⟩
    match j, hj with
    | 0, hj => cases hj; exact ⟨b2, rfl, by omega, by simp [World.cell?, g7]⟩

theorem hand96 : CallOK Tryz.prog 96 (fmS hearL) := fm_ok (entered Tryz.func96 rfl (by decide)) hear_calls

/-! ### slices.Delete -/

theorem run_clear_cells {P : Program} (w : World) (t e ty : TypeId) (z : Value) (ht : P.underlying t = some (.slice e)) (hv : ∀ w, (zeroValue e).run P w = .ok z w) (b o n c : Nat) (hn : 0 < n) (vs : List Value) (hvs : (Builtin.zeroCells z.cells n).toList = vs)
    (h1 : ∀ v ∈ vs, v.oneCell' = true) (hc : ∀ j, j < vs.length → (w.cell? ⟨b, o + j, none⟩).isSome = true) (hf : ∀ j, j < vs.length → w.frozen? ⟨b, o + j, none⟩ = false) :
    (Builtin.clear_ #[t] ty #[.slice (some ⟨b, o, none⟩) n c]).run P w = .ok (.tuple #[]) (w.setCells b o vs) := by
  have hst := run_storeCells_cells (P := P) b o vs 0 w (by simpa using hc) (by simpa using hf) h1
  simp only [Nat.add_zero] at hst
  obtain ⟨m, rfl⟩ : ∃ m, n = m + 1 := ⟨n - 1, by omega⟩
  simp [Builtin.clear_, run_underlying ht, hv, hvs, hst]

theorem setCells_frame (b : Nat) : ∀ (vs : List Value) (o : Nat) (w : World), (w.setCells b o vs).os = w.os ∧ (w.setCells b o vs).tape = w.tape ∧ (w.setCells b o vs).output = w.output ∧ (w.setCells b o vs).heap.size = w.heap.size ∧ ∀ k, k ≠ b → (w.setCells b o vs).heap[k]? = w.heap[k]?
  | [], _, _ => ⟨rfl, rfl, rfl, rfl, fun _ _ => rfl⟩
  | v :: r, o, w => by
    obtain ⟨h1, h2, h3, h4, h5⟩ := setCells_frame b r (o + 1) (w.setCell ⟨b, o, none⟩ v)
    rw [World.setCells]
    refine ⟨h1, h2, h3, h4.trans (by simp [World.setCell]), fun k hk => (h5 k hk).trans ?_⟩
    simp only [World.setCell]
    rw [Array.getElem?_modify, if_neg (fun e => hk e.symm)]

theorem cell_row {w : World} {b : Nat} {cs : Array Value} {T : TypeId} (h : w.heap[b]? = some (.cells cs T (0, 0))) {o : Nat} (ho : o < cs.size) : w.cell? ⟨b, o, none⟩ = some (cs.getD o undef) ∧ w.frozen? ⟨b, o, none⟩ = false := by
  constructor
  · simp [World.cell?, h, Array.getD, ho]
  · simp [World.frozen?, h]

theorem row_of {w : World} {b : Nat} {cs : Array Value} {T : TypeId} (h : w.heap[b]? = some (.cells cs T (0, 0))) : w.rowIs b T cs.size (fun k => cs.getD k undef) :=
  ⟨cs, h, rfl, fun i hi => by simp [Array.getD, hi]⟩

set_option maxHeartbeats 4000000 in
set_option maxRecDepth 1000000 in
theorem del_calls (w : World) (b n cap i j : Nat) (cs : Array Value) (T : TypeId) (hh : w.heap[b]? = some (.cells cs T (0, 0))) (hk : cap * 9 ≤ cs.size) (hone : ∀ k, k < n * 9 → (cs.getD k undef).oneCell' = true) (hij : i < j) (hj : j ≤ n) (hn : n ≤ cap) (hm : n ≤ 4294967296) :
    Calls Tryz.prog 64 #[.slice (some ⟨b, 0, none⟩) n cap, .int .i64 i, .int .i64 j] w (MakesDel 9 b n cap i j w cs T) := by
  have hic : i ≤ cap := by omega
  have hjc : j ≤ cap := by omega
  obtain ⟨i0, hi0, hz0, hz1, _⟩ := info_parts (P := Tryz.prog) (e := 47) (z := .agg #[.int .i64 0, .int .i64 0, .int .i64 0, .int .i64 0, .int .i64 0, .int .i64 0, .int .i64 0, .slice none 0 0, .bool false]) (size := 9) (bytes := 88) (by kernel_rfl)
  have hv44 : ∀ w, (zeroValue 47).run Tryz.prog w = .ok (.agg #[.int .i64 0, .int .i64 0, .int .i64 0, .int .i64 0, .int .i64 0, .int .i64 0, .int .i64 0, .slice none 0 0, .bool false]) w := fun w => by simp [zeroValue, typeInfo, hi0, hz0]
  -- the cells that are moved
  obtain ⟨news, hnews⟩ : ∃ news : List Value, news = (List.range ((n - j) * 9)).map (fun k => cs.getD (j * 9 + k) undef) := ⟨_, rfl⟩
  have hlen : news.length = (n - j) * 9 := by rw [hnews]; simp
  have hget : ∀ k, k < (n - j) * 9 → news[k]? = some (cs.getD (j * 9 + k) undef) := by intro k hk'; rw [hnews]; simp [hk']
  have hin : ∀ k, k < cap * 9 → k < cs.size := fun k hk' => by omega
  have hdrew : w.drew.heap[b]? = some (.cells cs T (0, 0)) := hh
  obtain ⟨A, hA, hsrc⟩ : ∃ A : Addr, (if cap = j then (some (⟨b, 0, none⟩ : Addr)) else some ⟨b, j * 9, none⟩) = some A ∧ Hid (∀ k u, news[k]? = some u → w.drew.cell? (A.add k) = some u) := by
    by_cases h : cap = j
    · refine ⟨⟨b, 0, none⟩, by simp [h], fun k u hu => ?_⟩
      have h0 : news.length = 0 := by rw [hlen]; omega
      rw [List.length_eq_zero_iff.1 h0] at hu
      simp at hu
    · refine ⟨⟨b, j * 9, none⟩, by simp [h], fun k u hu => ?_⟩
      have hk' := (List.getElem?_eq_some_iff.1 hu).1
      rw [hlen] at hk'
      rw [hget k hk'] at hu
      rw [addr_add]
      rw [← hu]
      exact (cell_row hdrew (hin _ (by omega))).1
  have s2 : Hid (∀ u ∈ news, u.oneCell' = true) := by
    intro u hu
    rw [hnews] at hu
    simp only [List.mem_map, List.mem_range] at hu
    obtain ⟨k, hk', rfl⟩ := hu
    exact hone _ (by omega)
  have s3 : Hid (∀ k, k < news.length → (w.drew.cell? ⟨b, 0 + i * 9 + k, none⟩).isSome = true ∧ w.drew.frozen? ⟨b, 0 + i * 9 + k, none⟩ = false) := by
    intro k hk'
    rw [hlen] at hk'
    rw [Nat.zero_add]
    obtain ⟨c1, c2⟩ := cell_row hdrew (o := i * 9 + k) (hin _ (by omega))
    exact ⟨by rw [c1]; rfl, c2⟩
  have s1 : Hid (news.length = (n - j) * 9) := hlen
  obtain ⟨W1, hW1⟩ : ∃ W1, W1 = w.drew.setCells b (0 + i * 9) news := ⟨_, rfl⟩
  have hW : Hid (W1 = w.drew.setCells b (0 + i * 9) news) := hW1
  have hrow1 : W1.rowIs b T cs.size (fun k => if 0 + i * 9 ≤ k ∧ k < 0 + i * 9 + news.length then news[k - (0 + i * 9)]?.getD default else cs.getD k undef) := by
    rw [hW1]; exact rowIs_setCells news (0 + i * 9) w.drew _ (row_of hdrew)
  have hfrm1 := setCells_frame b news (0 + i * 9) w.drew
  rw [← hW1] at hfrm1
  -- what is cleared
  obtain ⟨zs, hzs⟩ : ∃ zs, zs = (Builtin.zeroCells (Value.agg #[.int .i64 0, .int .i64 0, .int .i64 0, .int .i64 0, .int .i64 0, .int .i64 0, .int .i64 0, .slice none 0 0, .bool false]).cells (n - (i + (n - j)))).toList := ⟨_, rfl⟩
  have hzl : zs.length = (n - (i + (n - j))) * 9 := by rw [hzs]; simp [Builtin.zeroCells, Value.cells]
  have hz1' : ∀ v ∈ zs, v.oneCell' = true := by
    intro v hv
    rw [hzs] at hv
    simp only [Builtin.zeroCells, Value.cells, Array.toList_map, List.mem_map] at hv
    obtain ⟨k, _, rfl⟩ := hv
    have hk9 : k % 9 < 9 := Nat.mod_lt _ (by omega)
    simp only [List.size_toArray, List.length_cons, List.length_nil]
    generalize k % 9 = q at hk9
    match q, hk9 with
    | 0, _ => rfl
    | 1, _ => rfl
    | 2, _ => rfl
    | 3, _ => rfl
    | 4, _ => rfl
    | 5, _ => rfl
    | 6, _ => rfl
    | 7, _ => rfl
    | 8, _ => rfl
  obtain ⟨c1, hc1, hc1s, hc1g⟩ := hrow1
  have hcl : ∀ ty, (Builtin.clear_ #[28] ty #[.slice (some ⟨b, (i + (n - j)) * 9, none⟩) (n - (i + (n - j))) (cap - (i + (n - j)))]).run Tryz.prog W1 = .ok (.tuple #[]) (W1.setCells b ((i + (n - j)) * 9) zs) :=
    fun ty => run_clear_cells W1 28 47 ty _ Tryz.underlying28 hv44 b _ _ _ (by omega) zs hzs.symm hz1' (fun q hq => by rw [(cell_row hc1 (by omega)).1]; rfl) (fun q hq => (cell_row hc1 (by omega)).2)
  have hrow2 := rowIs_setCells zs ((i + (n - j)) * 9) W1 _ ⟨c1, hc1, hc1s, hc1g⟩
  have hfrm2 := setCells_frame b zs ((i + (n - j)) * 9) W1
  obtain ⟨c2, hc2, hc2s, hc2g⟩ := hrow2
  have fin : Aside (MakesDel 9 b n cap i j w cs T (.returned (.slice (some ⟨b, 0, none⟩) (i + (n - j)) cap)) (W1.setCells b ((i + (n - j)) * 9) zs)) := by
    refine ⟨c2, by rw [show n - (j - i) = i + (n - j) by omega], hc2, hc2s, fun k hk' => ?_, fun k hk' hk2 => ?_, hfrm2.1.trans hfrm1.1, hfrm2.2.1.trans hfrm1.2.1, hfrm2.2.2.1.trans hfrm1.2.2.1, hfrm2.2.2.2.1.trans hfrm1.2.2.2.1, fun k hk' => (hfrm2.2.2.2.2 k hk').trans (hfrm1.2.2.2.2 k hk')⟩
    · have := hc2g k (by omega)
      simp only at this
      rw [if_neg (by omega), if_neg (by omega)] at this
      rw [Array.getD_eq_getD_getElem?, this]
      rfl
    · have := hc2g k (by omega)
      simp only at this
      rw [if_neg (by omega), if_pos (by omega), hget _ (by omega)] at this
      rw [Array.getD_eq_getD_getElem?, this]
      simp only [Option.getD_some]
      congr 1
      omega
  have mixed : Tryz.prog.follows .mixedOrders = true := by kernel_rfl
  clear hh hk hone hnews hget hlen hin hdrew hfrm1 hfrm2 hc1 hc1s hc1g hc2 hc2s hc2g hzs hzl hz1' hW1
  go_enter Tryz.func64, Tryz.ntmps64
  go_wp2_with fail
  go_region_law_o (refine step_append_room rfl (.tmp 22) (.tmp 25) 28 rfl 47 i0 9 Tryz.underlying28 hi0 hz1 b 0 i cap (by simp [Act.eval, Act.put]) A (n - j) (cap - j) news (by simp [Act.eval, Act.put, hA]) s1.out hsrc.out s2.out (by omega) s3.out ?_; rw [← hW.out])
  go_wp2
  go_ret
  exact fin.out

theorem hand64 (t : Ty) (ht : t.size = 9) : CallOK Tryz.prog 64 (delS t) :=
  del_ok (entered Tryz.func64 rfl (by decide)) (fun w b n cap i j cs T h1 h2 h3 h4 h5 h6 h7 => by
    rw [ht] at h2 h3 ⊢
    exact del_calls w b n cap i j cs T h1 h2 h3 h4 h5 h6 h7)

end Go.Proofs.YtfbikpbejkgegaaGreat
