/- Lemmas for the statement of the last text of this claim. -/
import Derived.Test.YtfbikpbejkgegaaGreatChecked
import Derived.Test.YtfbikpbejkgegaaGreatPxM
import Derived.WalkKit
import Derived.ProofKit
import Derived.Deep.RegionLaw
import Derived.Deep.LoopGhost
import Derived.Lib.Walk
import Derived.Maps.Own
import Derived.Shelf.RegionOpenPlain
import Derived.Lib.LazyBuf
import Derived.Test.YtfbikpbejkgegaaGreatPxK
set_option linter.unusedSimpArgs false
set_option linter.unusedVariables false
namespace Go.Raft
abbrev Ent (O : Type) := Int × O × Unit

abbrev Log (O : Type) := List (Ent O)

abbrev Rep (O : Type) := Int × Int × Int × Int × Log O × Int × List Bool × List Int × Unit

abbrev Msg (O : Type) := Int × Int × Int × Int × Int × Int × Int × Log O × Bool × Unit

variable {O : Type}
/-! ### Fields -/
abbrev rp (id term voted role : Int) (log : Log O) (commit : Int) (votes : List Bool) (mtch : List Int) : Rep O := (id, term, voted, role, log, commit, votes, mtch, ())

abbrev Rep.id (r : Rep O) : Int := r.1

abbrev Rep.term (r : Rep O) : Int := r.2.1

abbrev Rep.voted (r : Rep O) : Int := r.2.2.1

abbrev Rep.role (r : Rep O) : Int := r.2.2.2.1

abbrev Rep.log (r : Rep O) : Log O := r.2.2.2.2.1

abbrev Rep.commit (r : Rep O) : Int := r.2.2.2.2.2.1

abbrev Rep.votes (r : Rep O) : List Bool := r.2.2.2.2.2.2.1

abbrev Rep.mtch (r : Rep O) : List Int := r.2.2.2.2.2.2.2.1

section
variable (a b c d : Int) (l : Log O) (e : Int) (v : List Bool) (m : List Int)
@[simp] theorem rp_id : Rep.id (rp a b c d l e v m) = a := rfl

@[simp] theorem rp_term : Rep.term (rp a b c d l e v m) = b := rfl

@[simp] theorem rp_voted : Rep.voted (rp a b c d l e v m) = c := rfl

@[simp] theorem rp_role : Rep.role (rp a b c d l e v m) = d := rfl

@[simp] theorem rp_log : Rep.log (rp a b c d l e v m) = l := rfl

@[simp] theorem rp_commit : Rep.commit (rp a b c d l e v m) = e := rfl

@[simp] theorem rp_votes : Rep.votes (rp a b c d l e v m) = v := rfl

@[simp] theorem rp_mtch : Rep.mtch (rp a b c d l e v m) = m := rfl

end
abbrev mg (kind frm to term prev pterm commit : Int) (ents : Log O) (ok : Bool) : Msg O := (kind, frm, to, term, prev, pterm, commit, ents, ok, ())

abbrev Msg.kind (r : Msg O) : Int := r.1

abbrev Msg.frm (r : Msg O) : Int := r.2.1

abbrev Msg.to (r : Msg O) : Int := r.2.2.1

abbrev Msg.term (r : Msg O) : Int := r.2.2.2.1

abbrev Msg.prev (r : Msg O) : Int := r.2.2.2.2.1

abbrev Msg.pterm (r : Msg O) : Int := r.2.2.2.2.2.1

abbrev Msg.commit (r : Msg O) : Int := r.2.2.2.2.2.2.1

abbrev Msg.ents (r : Msg O) : Log O := r.2.2.2.2.2.2.2.1

abbrev Msg.ok (r : Msg O) : Bool := r.2.2.2.2.2.2.2.2.1

section
variable (a b c d e f g : Int) (l : Log O) (v : Bool)
@[simp] theorem mg_kind : Msg.kind (mg a b c d e f g l v) = a := rfl

@[simp] theorem mg_frm : Msg.frm (mg a b c d e f g l v) = b := rfl

@[simp] theorem mg_to : Msg.to (mg a b c d e f g l v) = c := rfl

@[simp] theorem mg_term : Msg.term (mg a b c d e f g l v) = d := rfl

@[simp] theorem mg_prev : Msg.prev (mg a b c d e f g l v) = e := rfl

@[simp] theorem mg_pterm : Msg.pterm (mg a b c d e f g l v) = f := rfl

@[simp] theorem mg_commit : Msg.commit (mg a b c d e f g l v) = g := rfl

@[simp] theorem mg_ents : Msg.ents (mg a b c d e f g l v) = l := rfl

@[simp] theorem mg_ok : Msg.ok (mg a b c d e f g l v) = v := rfl

end
/-! ### Chapter 32 -/
def quorum (n : Int) : Int := if 1 ≤ n ∧ n ≤ 5 then n / 2 + 1 else 0

def srt (top : Int) : Int → Log O → Bool
  | _, [] => true
  | lo, e :: l => decide (lo ≤ e.1) && decide (e.1 ≤ top) && srt top e.1 l

def logFits (l : Log O) (term : Int) : Bool := srt term 1 l && decide (l.length ≤ 256)

def inn (x a b : Int) : Bool := decide (a ≤ x) && decide (x ≤ b)

def roleOK (n : Int) (r : Rep O) : Bool :=
  if r.role = 0 then decide (r.votes.length = 0) && decide (r.mtch.length = 0)
  else if r.role = 1 then decide ((r.votes.length : Int) = n) && r.votes[r.id.toNat]?.getD false && decide (r.mtch.length = 0)
  else if r.role = 2 then decide ((r.votes.length : Int) = n) && r.votes[r.id.toNat]?.getD false && decide ((r.mtch.length : Int) = n) && decide (r.mtch[r.id.toNat]?.getD 0 = (r.log.length : Int)) && r.mtch.all (fun m => inn m 0 r.log.length)
  else false

def chk (n : Int) (r : Rep O) : Bool :=
  inn n 1 5 && inn r.id 0 (n - 1) && inn r.term 0 1048576 && inn r.voted (-1) (n - 1) && logFits r.log r.term && inn r.commit 0 r.log.length && roleOK n r

def lastT (l : Log O) : Int := match l.getLast? with
  | some e => e.1
  | none => 0

def fresh (l : Log O) (last term : Int) : Bool := decide (term > lastT l) || (decide (term = lastT l) && decide (last ≥ (l.length : Int)))

def fol (r : Rep O) (t : Int) : Rep O := if t > r.term then rp r.id t (-1) 0 r.log r.commit [] [] else r

def lead (n : Int) (r : Rep O) : Rep O := rp r.id r.term r.voted 2 r.log r.commit r.votes ((List.replicate n.toNat (0 : Int)).set r.id.toNat r.log.length)

def yes (v : List Bool) : Int := v.countP (· == true)

def asks (n : Int) (r : Rep O) : List (Msg O) :=
  ((List.range n.toNat).filter (fun (i : Nat) => (i : Int) ≠ r.id)).map fun (i : Nat) => mg 1 r.id (i : Int) (r.term + 1) r.log.length (lastT r.log) 0 [] false

def standR (n : Int) (r : Rep O) : Rep O :=
  let x := rp r.id (r.term + 1) r.id 1 r.log r.commit ((List.replicate n.toNat false).set r.id.toNat true) []
  if quorum n = 1 then lead n x else x

/-- Whether a message of a kind is one to a valid replica from another region. -/
def toOK (n : Int) (r : Rep O) (m : Msg O) (kind : Int) : Bool :=
  chk n r && decide (m.kind = kind) && decide (m.to = r.id) && inn m.frm 0 (n - 1) && decide (m.frm ≠ r.id) && inn m.term 1 1048576

def hearYes (r : Rep O) (m : Msg O) : Bool :=
  decide (r.term = m.term) && (decide (r.voted = -1) || decide (r.voted = m.frm)) && decide (r.role = 0) && fresh r.log m.prev m.pterm

def vote (r : Rep O) (c : Int) : Rep O := rp r.id r.term c r.role r.log r.commit r.votes r.mtch

def hearR (r : Rep O) (m : Msg O) : Rep O :=
  let x := fol r m.term
  if hearYes x m then vote x m.frm else x

def hearM (r : Rep O) (m : Msg O) : Msg O :=
  let x := fol r m.term
  mg 2 r.id m.frm x.term 0 0 0 [] (hearYes x m)

def zeroM : Msg O := mg 0 0 0 0 0 0 0 [] false

def hear (n : Int) (r : Rep O) (m : Msg O) : Rep O × Msg O × Bool :=
  if toOK n r m 1 then (hearR r m, hearM r m, true) else (r, zeroM, false)

def votedR (n : Int) (r : Rep O) (m : Msg O) : Rep O :=
  let x := rp r.id r.term r.voted r.role r.log r.commit (r.votes.set m.frm.toNat true) r.mtch
  if yes x.votes ≥ quorum n then lead n x else x

def voted (n : Int) (r : Rep O) (m : Msg O) : Rep O :=
  if toOK n r m 2 then
    if m.term > r.term then fol r m.term
    else if r.role = 1 ∧ m.term = r.term ∧ m.ok = true then votedR n r m else r
  else r

/-! ### Chapter 33 -/
def proposeR (n : Int) (r : Rep O) (o : O) : Rep O :=
  let l := r.log ++ [(r.term, o, ())]
  rp r.id r.term r.voted r.role l (if quorum n = 1 then (l.length : Int) else r.commit) r.votes (r.mtch.set r.id.toNat l.length)

/-- The term of the entry ahead of a place. -/
def ptermAt (l : Log O) (p : Int) : Int := if p > 0 then ((l[(p - 1).toNat]?).map (·.1)).getD 0 else 0

def appends (n : Int) (r : Rep O) : List (Msg O) :=
  ((List.range n.toNat).filter (fun (i : Nat) => (i : Int) ≠ r.id)).map fun (i : Nat) =>
    let p := r.mtch[i]?.getD 0
    mg 3 r.id (i : Int) r.term p (ptermAt r.log p) r.commit (r.log.drop p.toNat) false

/-- The number of entries at the beginning of a list that have the terms of those of a log. -/
def agree : Log O → Log O → Nat
  | e :: l, x :: y => if e.1 = x.1 then agree l y + 1 else 0
  | _, _ => 0

def joined (l : Log O) (prev : Nat) (ents : Log O) : Log O × Nat :=
  let s := agree (l.drop prev) ents
  if s = ents.length then (l, l.length) else (l.take (prev + s) ++ ents.drop s, prev + s)

def fits (r : Rep O) (m : Msg O) : Bool :=
  decide (m.term = r.term) && decide (r.role ≠ 2) && decide (m.prev ≤ r.log.length) && (decide (m.prev = 0) || decide (ptermAt r.log m.prev = m.pterm))

/-- What a replica is that hears the leader of its term. -/
def back (r : Rep O) (t : Int) : Rep O :=
  let x := fol r t
  if x.role = 1 ∧ x.term = t then rp x.id x.term x.voted 0 x.log x.commit [] x.mtch else x

def acceptable (n : Int) (r : Rep O) (m : Msg O) : Bool := toOK n r m 3 && decide (0 ≤ m.prev) && decide (0 ≤ m.pterm) && decide (0 ≤ m.commit)

def accept (n : Int) (r : Rep O) (m : Msg O) : Rep O × Msg O × Bool :=
  if acceptable n r m then
    let x := back r m.term
    if fits x m then
      let j := joined x.log m.prev.toNat m.ents
      let e := m.prev + m.ents.length
      if logFits j.1 m.term && decide (x.commit ≤ (j.2 : Int)) then
        (rp x.id x.term x.voted x.role j.1 (max x.commit (min m.commit e)) x.votes x.mtch, mg 4 r.id m.frm x.term e 0 0 [] true, true)
      else (r, zeroM, false)
    else (x, mg 4 r.id m.frm x.term 0 0 0 [] false, true)
  else (r, zeroM, false)

def have_ (v : List Int) (i : Int) : Int := v.countP (fun m => decide (m ≥ i))

/-- The greatest commit from a place downwards. -/
def newCommit (n : Int) (r : Rep O) (v : List Int) : Nat → Int
  | 0 => r.commit
  | i + 1 => if ((i + 1 : Nat) : Int) > r.commit then
      (if have_ v ((i + 1 : Nat) : Int) ≥ quorum n ∧ ((r.log[i]?).map (·.1)).getD 0 = r.term then ((i + 1 : Nat) : Int) else newCommit n r v i)
    else r.commit

def appendedR (n : Int) (r : Rep O) (m : Msg O) : Rep O :=
  let v := r.mtch.set m.frm.toNat (max (r.mtch[m.frm.toNat]?.getD 0) m.prev)
  rp r.id r.term r.voted r.role r.log (newCommit n r v r.log.length) r.votes v

def appended (n : Int) (r : Rep O) (m : Msg O) : Rep O :=
  if toOK n r m 4 then
    if m.term > r.term then fol r m.term
    else if r.role = 2 ∧ m.term = r.term ∧ m.ok = true ∧ 0 ≤ m.prev ∧ m.prev ≤ r.log.length then appendedR n r m else r
  else r

def restartR (r : Rep O) : Rep O := rp r.id r.term r.voted 0 r.log r.commit [] []

def committed (r : Rep O) : List O := (r.log.take r.commit.toNat).map (·.2.1)

end Go.Raft

namespace Go.Raft
variable {O : Type}
theorem srt_iff {top : Int} : ∀ {lo : Int} {l : Log O}, srt top lo l = true ↔ (∀ e ∈ l, lo ≤ e.1 ∧ e.1 ≤ top) ∧ l.Pairwise (fun a b => a.1 ≤ b.1) := by
  intro lo l
  induction l generalizing lo with
  | nil => simp [srt]
  | cons e l ih =>
    simp only [srt, Bool.and_eq_true, decide_eq_true_eq, ih, List.mem_cons, forall_eq_or_imp, List.pairwise_cons]
    constructor
    · rintro ⟨⟨h1, h2⟩, h3, h4⟩
      exact ⟨⟨⟨h1, h2⟩, fun a ha => ⟨by have := (h3 a ha).1; omega, (h3 a ha).2⟩⟩, fun a ha => (h3 a ha).1, h4⟩
    · rintro ⟨⟨⟨h1, h2⟩, h3⟩, h4, h5⟩
      exact ⟨⟨h1, h2⟩, fun a ha => ⟨h4 a ha, (h3 a ha).2⟩, h5⟩

theorem srt_top {a b lo : Int} {l : Log O} (h : srt a lo l = true) (hab : a ≤ b) : srt b lo l = true := by
  rw [srt_iff] at h ⊢
  exact ⟨fun e he => ⟨(h.1 e he).1, by have := (h.1 e he).2; omega⟩, h.2⟩

theorem srt_snoc {a lo : Int} {l : Log O} {e : Ent O} (h : srt a lo l = true) (h1 : lo ≤ e.1) (h2 : a ≤ e.1) : srt e.1 lo (l ++ [e]) = true := by
  rw [srt_iff] at h ⊢
  constructor
  · intro x hx
    rcases List.mem_append.1 hx with hx | hx
    · have := h.1 x hx; omega
    · simp at hx; subst hx; omega
  · rw [List.pairwise_append]
    refine ⟨h.2, List.pairwise_singleton _ _, fun x hx y hy => ?_⟩
    simp at hy; subst hy
    have := h.1 x hx; omega

theorem lastT_get {l : Log O} {k : Nat} {e : Ent O} (h : l[k]? = some e) (hk : k + 1 = l.length) : lastT l = e.1 := by
  unfold lastT
  rw [List.getLast?_eq_getElem?, show l.length - 1 = k by omega, h]

structure Chk (n : Int) (r : Rep O) : Prop where
  n1 : 1 ≤ n
  n5 : n ≤ 5
  i0 : 0 ≤ r.id
  i1 : r.id < n
  t0 : 0 ≤ r.term
  t1 : r.term ≤ 1048576
  v0 : -1 ≤ r.voted
  v1 : r.voted < n
  so : srt r.term 1 r.log = true
  ll : r.log.length ≤ 256
  c0 : 0 ≤ r.commit
  c1 : r.commit ≤ r.log.length
  ro : roleOK n r = true

theorem chk_iff {n : Int} {r : Rep O} : chk n r = true ↔ Chk n r := by
  simp only [chk, inn, logFits, Bool.and_eq_true, decide_eq_true_eq]
  constructor
  · rintro ⟨⟨⟨⟨⟨⟨h1, h2⟩, h3⟩, h4⟩, h5⟩, h6⟩, h7⟩
    exact ⟨by omega, by omega, by omega, by omega, by omega, by omega, by omega, by omega, h5.1, h5.2, by omega, by omega, h7⟩
  · rintro ⟨h1, h2, h3, h4, h5, h6, h7, h8, h9, h10, h11, h12, h13⟩
    exact ⟨⟨⟨⟨⟨⟨by omega, by omega⟩, by omega⟩, by omega⟩, h9, h10⟩, by omega⟩, h13⟩

theorem quorum_eq {n : Int} (h1 : 1 ≤ n) (h5 : n ≤ 5) : quorum n = n / 2 + 1 := by rw [quorum, if_pos ⟨h1, h5⟩]

theorem role_cases {n : Int} {r : Rep O} (h : roleOK n r = true) : r.role = 0 ∨ r.role = 1 ∨ r.role = 2 := by
  unfold roleOK at h
  by_cases h0 : r.role = 0
  · exact .inl h0
  by_cases h1 : r.role = 1
  · exact .inr (.inl h1)
  by_cases h2 : r.role = 2
  · exact .inr (.inr h2)
  rw [if_neg h0, if_neg h1, if_neg h2] at h
  cases h

theorem role0_iff {n : Int} {r : Rep O} (h : r.role = 0) : roleOK n r = true ↔ r.votes = [] ∧ r.mtch = [] := by
  unfold roleOK
  rw [if_pos h]
  simp

theorem role1_iff {n : Int} {r : Rep O} (h : r.role = 1) : roleOK n r = true ↔ (r.votes.length : Int) = n ∧ r.votes[r.id.toNat]? = some true ∧ r.mtch = [] := by
  unfold roleOK
  rw [if_neg (by omega), if_pos h]
  simp only [Bool.and_eq_true, decide_eq_true_eq, and_assoc, List.length_eq_zero_iff]
  cases hg : r.votes[r.id.toNat]? <;> simp

theorem role2_iff {n : Int} {r : Rep O} (h : r.role = 2) : roleOK n r = true ↔ (r.votes.length : Int) = n ∧ r.votes[r.id.toNat]? = some true ∧ (r.mtch.length : Int) = n ∧ r.mtch[r.id.toNat]?.getD 0 = (r.log.length : Int) ∧ ∀ m ∈ r.mtch, 0 ≤ m ∧ m ≤ (r.log.length : Int) := by
  unfold roleOK
  rw [if_neg (by omega), if_neg (by omega), if_pos h]
  simp only [Bool.and_eq_true, decide_eq_true_eq, and_assoc, List.all_eq_true, inn]
  cases hg : r.votes[r.id.toNat]? <;> simp

theorem chk_follow {n : Int} {r : Rep O} {t : Int} (h : Chk n r) (ht : t ≤ 1048576) : Chk n (fol r t) := by
  unfold fol
  split
  · rename_i hgt
    have := h.n1; have := h.t0
    exact ⟨h.n1, h.n5, h.i0, h.i1, by simp; omega, by simpa using ht, by simp, by simp; omega, by simpa using srt_top h.so (by omega), h.ll, h.c0, h.c1, (role0_iff rfl).2 ⟨rfl, rfl⟩⟩
  · exact h

theorem chk_lead {n : Int} {r : Rep O} (h : Chk n r) (h1 : r.role = 1) : Chk n (lead n r) := by
  obtain ⟨v1, v2, _⟩ := (role1_iff h1).1 h.ro
  have := h.n1; have := h.i0; have := h.i1
  refine ⟨h.n1, h.n5, h.i0, h.i1, h.t0, h.t1, h.v0, h.v1, h.so, h.ll, h.c0, h.c1, (role2_iff (by simp [lead])).2 ?_⟩
  refine ⟨by simpa [lead] using v1, by simpa [lead] using v2, by simp [lead]; omega, ?_, ?_⟩
  · simp only [lead, rp_mtch, rp_id, rp_log]
    rw [List.getElem?_set_self (by simp; omega)]; rfl
  · intro m hm
    simp only [lead, rp_mtch, rp_log] at hm ⊢
    rcases List.mem_or_eq_of_mem_set hm with hm | hm
    · have := List.eq_of_mem_replicate hm; omega
    · omega

/-- A candidate in a new term. -/
def cand (n : Int) (r : Rep O) : Rep O := rp r.id (r.term + 1) r.id 1 r.log r.commit ((List.replicate n.toNat false).set r.id.toNat true) []

theorem chk_cand {n : Int} {r : Rep O} (h : Chk n r) (ht : r.term ≠ 1048576) : Chk n (cand n r) := by
  have := h.n1; have := h.i0; have := h.i1; have := h.t0; have := h.t1
  refine ⟨h.n1, h.n5, h.i0, h.i1, by simp [cand]; omega, by simp [cand]; omega, by simp [cand]; omega, by simp [cand]; omega, by simpa [cand] using srt_top h.so (by omega), h.ll, h.c0, h.c1, (role1_iff (by simp [cand])).2 ?_⟩
  refine ⟨by simp [cand]; omega, ?_, by simp [cand]⟩
  simp only [cand, rp_votes, rp_id]
  rw [List.getElem?_set_self (by simp; omega)]

theorem chk_stand {n : Int} {r : Rep O} (h : Chk n r) (ht : r.term ≠ 1048576) : Chk n (standR n r) := by
  unfold standR
  simp only
  split
  · exact chk_lead (chk_cand h ht) (by simp [cand])
  · exact chk_cand h ht

theorem toOK_iff {n : Int} {r : Rep O} {m : Msg O} {k : Int} : toOK n r m k = true ↔ Chk n r ∧ m.kind = k ∧ m.to = r.id ∧ 0 ≤ m.frm ∧ m.frm < n ∧ m.frm ≠ r.id ∧ 1 ≤ m.term ∧ m.term ≤ 1048576 := by
  simp only [toOK, inn, Bool.and_eq_true, decide_eq_true_eq, chk_iff, and_assoc]
  constructor
  · rintro ⟨h1, h2, h3, h4, h5, h6, h7, h8⟩; exact ⟨h1, h2, h3, h4, by omega, h6, h7, h8⟩
  · rintro ⟨h1, h2, h3, h4, h5, h6, h7, h8⟩; exact ⟨h1, h2, h3, h4, by omega, h6, h7, h8⟩

theorem chk_vote {n : Int} {r : Rep O} (h : Chk n r) {c : Int} (h0 : 0 ≤ c) (h1 : c < n) : Chk n (vote r c) :=
  ⟨h.n1, h.n5, h.i0, h.i1, h.t0, h.t1, by simp [vote]; omega, by simpa [vote] using h1, h.so, h.ll, h.c0, h.c1, h.ro⟩

theorem chk_hearR {n : Int} {r : Rep O} {m : Msg O} (h : toOK n r m 1 = true) : Chk n (hearR r m) := by
  obtain ⟨h1, _, _, h4, h5, _, _, h8⟩ := toOK_iff.1 h
  unfold hearR
  simp only
  split
  · exact chk_vote (chk_follow h1 h8) h4 h5
  · exact chk_follow h1 h8

theorem chk_voted {n : Int} {r : Rep O} {m : Msg O} (h : Chk n r) : Chk n (voted n r m) := by
  unfold voted
  split
  · rename_i ho
    obtain ⟨h1, _, _, h4, h5, h6, _, h8⟩ := toOK_iff.1 ho
    split
    · exact chk_follow h1 h8
    · split
      · rename_i hr
        obtain ⟨v1, v2, v3⟩ := (role1_iff hr.1).1 h.ro
        have hc : Chk n (rp r.id r.term r.voted r.role r.log r.commit (r.votes.set m.frm.toNat true) r.mtch) := by
          refine ⟨h.n1, h.n5, h.i0, h.i1, h.t0, h.t1, h.v0, h.v1, h.so, h.ll, h.c0, h.c1, (role1_iff (by simpa using hr.1)).2 ⟨by simpa using v1, ?_, by simpa using v3⟩⟩
          simp only [rp_votes, rp_id]
          rw [List.getElem?_set]
          have := h.i0
          split
          · have : r.id.toNat < r.votes.length := (List.getElem?_eq_some_iff.1 v2).1
            rename_i e; rw [if_pos (by omega)]
          · exact v2
        unfold votedR
        simp only
        split
        · exact chk_lead hc (by simpa using hr.1)
        · exact hc
      · exact h
  · exact h

theorem chk_propose {n : Int} {r : Rep O} {o : O} (h : Chk n r) (h2 : r.role = 2) (h3 : r.log.length < 256) (ht : 1 ≤ r.term) : Chk n (proposeR n r o) := by
  obtain ⟨v1, v2, v3, v4, v5⟩ := (role2_iff h2).1 h.ro
  have := h.i0; have := h.i1; have := h.c0; have := h.c1
  refine ⟨h.n1, h.n5, h.i0, h.i1, h.t0, h.t1, h.v0, h.v1, ?_, by simp [proposeR]; omega, ?_, ?_, (role2_iff (by simpa [proposeR] using h2)).2 ?_⟩
  · exact srt_snoc (e := (r.term, o, ())) h.so ht (Int.le_refl _)
  · simp only [proposeR, rp_commit]; split <;> (try simp) <;> omega
  · simp only [proposeR, rp_commit, rp_log]; split <;> (try simp) <;> omega
  · refine ⟨by simpa [proposeR] using v1, by simpa [proposeR] using v2, by simpa [proposeR] using v3, ?_, ?_⟩
    · simp only [proposeR, rp_mtch, rp_id, rp_log]
      rw [List.getElem?_set_self (by omega)]; rfl
    · intro m hm
      simp only [proposeR, rp_mtch, rp_log] at hm ⊢
      rcases List.mem_or_eq_of_mem_set hm with hm | hm
      · have := v5 m hm; simp; omega
      · simp at hm ⊢; omega

theorem chk_back {n : Int} {r : Rep O} {t : Int} (h : Chk n r) (ht : t ≤ 1048576) : Chk n (back r t) := by
  have hf := chk_follow (t := t) h ht
  unfold back
  simp only
  split
  · rename_i hr
    obtain ⟨v1, v2, v3⟩ := (role1_iff hr.1).1 hf.ro
    exact ⟨hf.n1, hf.n5, hf.i0, hf.i1, hf.t0, hf.t1, hf.v0, hf.v1, hf.so, hf.ll, hf.c0, hf.c1, (role0_iff rfl).2 ⟨rfl, by simpa using v3⟩⟩
  · exact hf

theorem agree_le : ∀ (l e : Log O), agree l e ≤ l.length ∧ agree l e ≤ e.length := by
  intro l e
  induction l generalizing e with
  | nil => simp [agree]
  | cons x l ih =>
    cases e with
    | nil => simp [agree]
    | cons y e =>
      simp only [agree]
      split
      · have := ih e; simp only [List.length_cons]; omega
      · simp

theorem joined_le {l : Log O} {p : Nat} {e : Log O} (hp : p ≤ l.length) : (joined l p e).2 ≤ (joined l p e).1.length := by
  have := agree_le (l.drop p) e
  simp only [List.length_drop] at this
  unfold joined
  simp only
  split
  · exact Nat.le_refl _
  · simp; omega

theorem joined_end {l : Log O} {p : Nat} {e : Log O} (hp : p ≤ l.length) : p + e.length ≤ (joined l p e).1.length := by
  have := agree_le (l.drop p) e
  simp only [List.length_drop] at this
  unfold joined
  simp only
  split
  · simp only; omega
  · simp; omega

theorem back_role {r : Rep O} {t : Int} (ht : (back r t).term = t) : (back r t).role ≠ 1 := by
  unfold back at ht ⊢
  simp only at ht ⊢
  split
  · simp
  · rename_i h
    intro h1
    rw [if_neg h] at ht
    exact h ⟨h1, ht⟩

theorem chk_accept {n : Int} {r : Rep O} {m : Msg O} (h : Chk n r) : Chk n (accept n r m).1 := by
  unfold accept
  split
  · rename_i ha
    simp only [acceptable, Bool.and_eq_true, decide_eq_true_eq] at ha
    obtain ⟨⟨⟨ha, hp⟩, _⟩, hcm⟩ := ha
    obtain ⟨_, _, _, _, _, _, ht1, ht2⟩ := toOK_iff.1 ha
    have hb := chk_back (t := m.term) h ht2
    simp only
    split
    · rename_i hf
      split
      · rename_i hj
        simp only [fits, Bool.and_eq_true, decide_eq_true_eq] at hf
        obtain ⟨⟨⟨hf1, hf2⟩, hf3⟩, _⟩ := hf
        simp only [logFits, Bool.and_eq_true, decide_eq_true_eq] at hj
        have hle : m.prev.toNat ≤ (back r m.term).log.length := by omega
        have h1 := joined_le (e := m.ents) hle
        have h2 := joined_end (e := m.ents) hle
        have := hb.c0
        refine ⟨hb.n1, hb.n5, hb.i0, hb.i1, hb.t0, hb.t1, hb.v0, hb.v1, ?_, hj.1.2, ?_, ?_, ?_⟩
        · have := hj.1.1; simp only [rp_term, rp_log]; rw [← hf1]; exact this
        · simp only [rp_commit]; omega
        · simp only [rp_commit, rp_log]; omega
        · have hr : (back r m.term).role = 0 := by
            rcases role_cases hb.ro with h0 | h0 | h0
            · exact h0
            · exact absurd h0 (back_role hf1.symm)
            · exact absurd h0 hf2
          exact (role0_iff (by simpa using hr)).2 ((role0_iff hr).1 hb.ro)
      · exact h
    · exact hb
  · exact h

theorem newCommit_le {n : Int} {r : Rep O} {v : List Int} : ∀ (i : Nat), r.commit ≤ newCommit n r v i ∧ (newCommit n r v i = r.commit ∨ newCommit n r v i ≤ i) := by
  intro i
  induction i with
  | zero => simp [newCommit]
  | succ i ih =>
    unfold newCommit
    split
    · split
      · constructor
        · omega
        · right; omega
      · exact ⟨ih.1, ih.2.imp id (by omega)⟩
    · simp

theorem chk_appended {n : Int} {r : Rep O} {m : Msg O} (h : Chk n r) : Chk n (appended n r m) := by
  unfold appended
  split
  · rename_i ho
    obtain ⟨h1, _, _, h4, h5, h6, _, h8⟩ := toOK_iff.1 ho
    split
    · exact chk_follow h1 h8
    · split
      · rename_i hr
        obtain ⟨v1, v2, v3, v4, v5⟩ := (role2_iff hr.1).1 h.ro
        have hn := newCommit_le (n := n) (r := r) (v := r.mtch.set m.frm.toNat (max (r.mtch[m.frm.toNat]?.getD 0) m.prev)) r.log.length
        have := h.c0; have := h.c1; have := h.i0; have := h.i1
        refine ⟨h.n1, h.n5, h.i0, h.i1, h.t0, h.t1, h.v0, h.v1, h.so, h.ll, ?_, ?_, (role2_iff (by simpa [appendedR] using hr.1)).2 ?_⟩
        · simp only [appendedR, rp_commit]; omega
        · simp only [appendedR, rp_commit, rp_log]; omega
        · refine ⟨by simpa [appendedR] using v1, by simpa [appendedR] using v2, by simpa [appendedR] using v3, ?_, ?_⟩
          · simp only [appendedR, rp_mtch, rp_id, rp_log]
            rw [List.getElem?_set, if_neg (by omega)]; exact v4
          · intro x hx
            simp only [appendedR, rp_mtch, rp_log] at hx ⊢
            rcases List.mem_or_eq_of_mem_set hx with hx | hx
            · exact v5 x hx
            · have : 0 ≤ r.mtch[m.frm.toNat]?.getD 0 ∧ r.mtch[m.frm.toNat]?.getD 0 ≤ (r.log.length : Int) := by
                cases hg : r.mtch[m.frm.toNat]? with
                | none => simp
                | some y => exact v5 y (List.mem_of_getElem? hg)
              omega
      · exact h
  · exact h

theorem chk_restart {n : Int} {r : Rep O} (h : Chk n r) : Chk n (restartR r) :=
  ⟨h.n1, h.n5, h.i0, h.i1, h.t0, h.t1, h.v0, h.v1, h.so, h.ll, h.c0, h.c1, (role0_iff rfl).2 ⟨rfl, rfl⟩⟩

theorem chk_hear {n : Int} {r : Rep O} {m : Msg O} (h : Chk n r) : Chk n (hear n r m).1 := by
  unfold hear
  split
  · rename_i ho; exact chk_hearR ho
  · exact h

end Go.Raft

namespace Go.Raft
variable {O : Type}
abbrev Gh (O : Type) : Type := List O

structure NodOK (n i : Nat) (r : Rep O) : Prop where
  id : r.id = (i : Int)
  chk : Chk (n : Int) r
  pos : r.role ≠ 0 → 1 ≤ r.term

structure MsgOK (n : Nat) (g : Gh O) (m : Msg O) : Prop where
  ok : True

structure Inv (n : Nat) (reps : List (Rep O)) (g : Gh O) : Prop where
  len : reps.length = n
  nod : ∀ i r, reps[i]? = some r → NodOK n i r

theorem set_same {α : Type} {l : List α} {i : Nat} {x : α} (h : l[i]? = some x) : l.set i x = l := by
  apply List.ext_getElem?
  intro j
  rw [List.getElem?_set]
  split
  · rename_i e; subst e
    rw [if_pos (List.getElem?_eq_some_iff.1 h).1, h]
  · rfl

def Step (n : Nat) (g : Gh O) (reps' : List (Rep O)) (new : List (Msg O)) : Prop :=
  ∃ g', Inv n reps' g' ∧ (∀ x, MsgOK n g x → MsgOK n g' x) ∧ ∀ x ∈ new, MsgOK n g' x

theorem Inv.refl {n : Nat} {reps : List (Rep O)} {g : Gh O} (h : Inv n reps g) : Step n g reps [] := ⟨g, h, fun _ h => h, fun _ h => by cases h⟩

theorem fol_pos {r : Rep O} (hp : r.role ≠ 0 → 1 ≤ r.term) (t : Int) : (fol r t).role ≠ 0 → 1 ≤ (fol r t).term := by
  unfold fol
  split
  · intro e; exact absurd rfl e
  · exact hp

theorem fol_same (r : Rep O) (t : Int) : (fol r t).id = r.id := by unfold fol; split <;> rfl

section
variable {n : Nat} {reps : List (Rep O)} {g : Gh O} (h : Inv n reps g) {i : Nat} {r : Rep O} (hi : reps[i]? = some r)
include h hi
theorem Inv.put {r' : Rep O} (hid : r'.id = r.id) (hC : Chk (n : Int) r') (hp : r'.role ≠ 0 → 1 ≤ r'.term) : Inv n (reps.set i r') g := by
  refine ⟨by rw [List.length_set]; exact h.len, fun j x hj => ?_⟩
  by_cases hij : i = j
  · subst hij
    rw [List.getElem?_set_self (List.getElem?_eq_some_iff.1 hi).1] at hj
    cases hj
    exact ⟨by rw [hid]; exact (h.nod i r hi).id, hC, hp⟩
  · rw [List.getElem?_set_ne hij] at hj
    exact h.nod j x hj

theorem Inv.step {r' : Rep O} {new : List (Msg O)} (hid : r'.id = r.id) (hC : Chk (n : Int) r') (hp : r'.role ≠ 0 → 1 ≤ r'.term) : Step n g (reps.set i r') new :=
  ⟨g, h.put hi hid hC hp, fun _ h => h, fun _ _ => ⟨trivial⟩⟩

theorem Inv.stay : Step n g (reps.set i r) [] := by rw [set_same hi]; exact h.refl

theorem Inv.standS (ht : r.term ≠ 1048576) : Step n g (reps.set i (standR n r)) (asks n r) := by
  have hn := h.nod i r hi
  have h0 := hn.chk.t0
  refine h.step hi ?_ (chk_stand hn.chk ht) ?_
  · unfold standR lead; dsimp only; split <;> rfl
  · intro _
    unfold standR lead; dsimp only; split
    · show 1 ≤ r.term + 1; omega
    · show 1 ≤ r.term + 1; omega

theorem Inv.hearS {m : Msg O} (_ : MsgOK n g m) : Step n g (reps.set i (Raft.hear n r m).1) (if (Raft.hear n r m).2.2 then [(Raft.hear n r m).2.1] else []) := by
  have hn := h.nod i r hi
  refine h.step hi ?_ (chk_hear hn.chk) ?_
  · unfold Raft.hear
    split
    · unfold hearR vote; dsimp only; split
      · exact fol_same r _
      · exact fol_same r _
    · rfl
  · unfold Raft.hear
    split
    · unfold hearR vote; dsimp only; split
      · exact fol_pos hn.pos _
      · exact fol_pos hn.pos _
    · exact hn.pos

theorem Inv.votedS {m : Msg O} (_ : MsgOK n g m) : Step n g (reps.set i (voted n r m)) [] := by
  have hn := h.nod i r hi
  refine h.step hi ?_ (chk_voted hn.chk) ?_
  · unfold Raft.voted
    split
    · split
      · exact fol_same r _
      · split
        · unfold votedR lead; dsimp only; split <;> rfl
        · rfl
    · rfl
  · unfold Raft.voted
    split
    · split
      · exact fol_pos hn.pos _
      · split
        · rename_i hr
          intro _
          have := hn.pos (by omega)
          unfold votedR lead; dsimp only; split
          · exact this
          · exact this
        · exact hn.pos
    · exact hn.pos

theorem Inv.proposeS (hr : r.role = 2) (hl : r.log.length < 256) (o : O) : Step n g (reps.set i (proposeR n r o)) [] := by
  have hn := h.nod i r hi
  have hp := hn.pos (by omega)
  exact h.step hi rfl (chk_propose hn.chk hr hl hp) fun _ => hp

theorem Inv.acceptS {m : Msg O} (_ : MsgOK n g m) : Step n g (reps.set i (accept n r m).1) (if (accept n r m).2.2 then [(accept n r m).2.1] else []) := by
  have hn := h.nod i r hi
  have hid : (back r m.term).id = r.id := by
    unfold back; dsimp only; split
    · exact fol_same r _
    · exact fol_same r _
  have hp : (back r m.term).role ≠ 0 → 1 ≤ (back r m.term).term := by
    unfold back; dsimp only; split
    · intro e; exact absurd rfl e
    · exact fol_pos hn.pos _
  refine h.step hi ?_ (chk_accept hn.chk) ?_
  · unfold Raft.accept
    split
    · dsimp only; split
      · split
        · exact hid
        · rfl
      · exact hid
    · rfl
  · unfold Raft.accept
    split
    · dsimp only; split
      · split
        · exact hp
        · exact hn.pos
      · exact hp
    · exact hn.pos

theorem Inv.appendedS {m : Msg O} (_ : MsgOK n g m) : Step n g (reps.set i (Raft.appended n r m)) [] := by
  have hn := h.nod i r hi
  refine h.step hi ?_ (chk_appended hn.chk) ?_
  · unfold Raft.appended
    split
    · split
      · exact fol_same r _
      · split <;> rfl
    · rfl
  · unfold Raft.appended
    split
    · split
      · exact fol_pos hn.pos _
      · split
        · exact hn.pos
        · exact hn.pos
    · exact hn.pos

theorem Inv.restart : Inv n (reps.set i (restartR r)) g :=
  h.put hi rfl (chk_restart (h.nod i r hi).chk) fun e => absurd rfl e

theorem Inv.appends (_ : r.role = 2) : ∀ x ∈ appends n r, MsgOK n g x := fun _ _ => ⟨(fun _ => trivial) (h.nod i r hi)⟩

end
def rep0 (i : Nat) : Rep O := rp (i : Int) 0 (-1) 0 [] 0 [] []

theorem chk_rep0 {n i : Nat} (h5 : n ≤ 5) (hi : i < n) : Chk (n : Int) (rep0 i : Rep O) :=
  ⟨by omega, by omega, by simp [rep0], by simp [rep0]; omega, by simp [rep0], by simp [rep0], by simp [rep0], by simp [rep0]; omega, rfl, by simp [rep0], by simp [rep0], by simp [rep0], (role0_iff rfl).2 ⟨rfl, rfl⟩⟩

theorem inv0 {n : Nat} (h5 : n ≤ 5) : Inv n ((List.range n).map rep0) ([] : Gh O) := by
  refine ⟨by simp, fun i r hi => ?_⟩
  simp only [List.getElem?_map, Option.map_eq_some_iff] at hi
  obtain ⟨j, hj, rfl⟩ := hi
  obtain ⟨hj1, hj2⟩ := List.getElem?_eq_some_iff.1 hj
  simp at hj1 hj2
  subst hj2
  exact ⟨rfl, chk_rep0 h5 hj1, fun e => absurd rfl e⟩

end Go.Raft

namespace Go.Proofs.YtfbikpbejkgegaaGreat
open Go Go.Abs Go.RowKit
set_option maxHeartbeats 1000000 in
theorem quiet_calls (g : FuncId) (w : World) : Calls Tryz.prog 113 #[.func (.func g) #[] #[]] w fun e w' => e = .returned (.func (.func 114) #[] #[.pointer (some ⟨w.heap.size, 0, none⟩)]) ∧ w' = w.alloc (.cells #[.func (.func g) #[] #[]] 97) := by
  go_enter Tryz.func113, Tryz.ntmps113
  go_wp2
  go_ret
  exact ⟨rfl, rfl⟩

/-- The block of a map with one more entry. -/
def ins1 (w : World) (r : Nat) (es : Array MapEntry) (clock : Nat) (k : Int) (v : Value) : World :=
  { w with heap := w.heap.setIfInBounds r (.map (es.push { key := .int .i64 k, val := v, born := clock }) (clock + 1)) }

theorem run_ins1 {P : Program} {t kt et : TypeId} (ht : P.underlying t = some (.map kt et)) (hk : P.underlying kt = some (.int .i64)) (w : World) (r : Nat) (es : Array MapEntry) (clock : Nat) (k : Int) (v : Value)
    (hb : w.heap[r]? = some (.map es clock)) (hf : Instr.findNow (.int .i64) (.int .i64 k) es.toList 0 = some none) :
    (Instr.mapUpdate t (.map (some r)) (.int .i64 k) v).run P w = .ok () (ins1 w r es clock k v) := by
  have hg : (getObj r).run P w = .ok (.map es clock) w := by simp [getObj, Sem.run, hb]
  have hck : (Instr.checkKey false 10000 kt (.int .i64 k)).run P w = .ok () w := by
    rw [show (10000 : Nat) = 9999 + 1 from rfl]
    unfold Instr.checkKey
    simp only [Sem.run_bind, run_underlying hk, Result.andThen_ok]
    rfl
  have hfk : (Instr.findKey kt (.int .i64 k) es.toList).run P w = .ok none w := by
    simp [Instr.findKey, run_underlying hk, hf]
  have hset : (setObj r (.map (es.push { key := .int .i64 k, val := v, born := clock }) (clock + 1))).run P w = .ok () (ins1 w r es clock k v) := by
    simp [setObj, Sem.run, hb, ins1]
  simp [Instr.mapUpdate, run_underlying ht, hg, hck, hfk, hset]

theorem wpList_ins {P : Program} (w : World) {ops : Array Oper} {rest : List Oper} {o : Oper} {a : Act} {Q : Exit → Act → World → Prop} (hg : o.guard = none) (m x v : Operand) (t : TypeId) (hop : o.op = Op.insert t m x v)
    (kt et : TypeId) (ht : P.underlying t = some (.map kt et)) (hk : P.underlying kt = some (.int .i64)) (r : Nat) (es : Array MapEntry) (clock : Nat) (k : Int) (vv : Value) (hm : a.eval m = .map (some r)) (hx : a.eval x = .int .i64 k) (hv : a.eval v = vv)
    (hb : w.heap[r]? = some (.map es clock)) (hf : Instr.findNow (.int .i64) (.int .i64 k) es.toList 0 = some none)
    (hK : wpList P ops Q rest (a.put o.dst undef) (ins1 w r es clock k vv)) : wpList P ops Q (o :: rest) a w := by
  refine wpList_plain hg fun K' hK' => ?_
  unfold Oper.wp
  simp [execOp, hop, hm, hx, hv, run_ins1 ht hk w r es clock k vv hb hf, Result.andThen]
  exact hK' _ _ hK

theorem at_new (w : World) (o : Obj) : (w.alloc o).heap[w.heap.size]? = some o := heap_alloc_new w o

theorem at_alloc {w : World} {r : Nat} {x : Obj} (o : Obj) (h : w.heap[r]? = some x) : (w.alloc o).heap[r]? = some x :=
  (heap_alloc_old w o (Array.getElem?_eq_some_iff.1 h).1).trans h

theorem at_ins {w : World} {r : Nat} {es : Array MapEntry} {c : Nat} (k : Int) (v : Value) (h : w.heap[r]? = some (.map es c)) : (ins1 w r es c k v).heap[r]? = some (.map (es.push { key := .int .i64 k, val := v, born := c }) (c + 1)) := by
  have := (Array.getElem?_eq_some_iff.1 h).1
  simp [ins1, this]

theorem size_alloc (w : World) (o : Obj) : (w.alloc o).heap.size = w.heap.size + 1 := by simp

theorem size_ins (w : World) (r : Nat) (es : Array MapEntry) (c : Nat) (k : Int) (v : Value) : (ins1 w r es c k v).heap.size = w.heap.size := by simp [ins1]

theorem off_alloc {w : World} {i : Nat} (o : Obj) (h : i < w.heap.size) : (w.alloc o).heap[i]? = w.heap[i]? := heap_alloc_old w o h

theorem off_ins {w : World} {r i : Nat} {es : Array MapEntry} {c : Nat} (k : Int) (v : Value) (h : i ≠ r) : (ins1 w r es c k v).heap[i]? = w.heap[i]? := by
  simp only [ins1]
  rw [Array.getElem?_setIfInBounds_ne (by omega)]

def hearL : List (Int × FuncId × List FuncId) := [(1, 115, []), (2, 114, [116]), (3, 117, []), (4, 114, [118])]

abbrev en (k : Int) (v : Value) (b : Nat) : MapEntry := { key := .int .i64 k, val := v, born := b }

abbrev fv (f : FuncId) : Value := .func (.func f) #[] #[]

abbrev qv (b : Nat) : Value := .func (.func 114) #[] #[.pointer (some ⟨b, 0, none⟩)]

/-- What is the same of two worlds. -/
def SameW (w w' : World) : Prop := (∀ i, i < w.heap.size → w'.heap[i]? = w.heap[i]?) ∧ w'.os = w.os ∧ w'.tape = w.tape ∧ w'.output = w.output

theorem SameW.alloc {w W : World} (h : SameW w W) (o : Obj) (hs : w.heap.size ≤ W.heap.size) : SameW w (W.alloc o) :=
  ⟨fun i hi => (off_alloc o (by omega)).trans (h.1 i hi), h.2⟩

theorem SameW.ins {w W : World} (h : SameW w W) (es : Array MapEntry) (c : Nat) (k : Int) (v : Value) : SameW w (ins1 W w.heap.size es c k v) :=
  ⟨fun i hi => (off_ins k v (by omega)).trans (h.1 i hi), h.2⟩

set_option maxHeartbeats 4000000 in
set_option maxRecDepth 1000000 in
theorem hear_calls (w : World) : Calls Tryz.prog 96 #[] w (MakesFm hearL w) := by
  have hk3 : Tryz.prog.underlying 3 = some (.int .i64) := by kernel_rfl
  go_enter Tryz.func96, Tryz.ntmps96
  go_wp2_with fail
  rename_i K1 h1 K2 h2
  rw [run_makeMap]
  simp only [Result.andThen, Oper.upon]
  apply h2
  have f1 := at_new w (.map #[] 0)
  have s1 := size_alloc w (.map #[] 0)
  have o1 : SameW w (w.alloc (.map #[] 0)) := SameW.alloc ⟨fun _ _ => rfl, rfl, rfl, rfl⟩ _ (Nat.le_refl _)
  generalize w.alloc (.map #[] 0) = W1 at f1 s1 o1
  refine wpList_ins _ rfl _ _ _ _ rfl _ _ Tryz.underlying109 hk3 w.heap.size #[] 0 1 (fv 115) rfl rfl rfl f1 rfl ?_
  have f2 : (ins1 W1 w.heap.size #[] 0 1 (fv 115)).heap[w.heap.size]? = some (.map #[en 1 (fv 115) 0] 1) := at_ins 1 (fv 115) f1
  have s2 := size_ins W1 w.heap.size #[] 0 1 (fv 115)
  have o2 := o1.ins #[] 0 1 (fv 115)
  generalize ins1 W1 w.heap.size #[] 0 1 (fv 115) = W2 at f2 s2 o2
  go_wp2_with fail
  refine (quiet_calls 116 _).mono ?_
  rintro e w' ⟨rfl, rfl⟩
  rename_i K3 h3
  apply h3
  have g1 := at_new W2 (.cells #[fv 116] 97)
  have f3 := at_alloc (.cells #[fv 116] 97) f2
  have s3 := size_alloc W2 (.cells #[fv 116] 97)
  have o3 := o2.alloc (.cells #[fv 116] 97) (by omega)
  generalize hb1 : W2.heap.size = b1 at g1 s3
  generalize W2.alloc (.cells #[fv 116] 97) = W3 at g1 f3 s3 o3
  have hb1' : b1 = w.heap.size + 1 := by omega
  refine wpList_ins _ rfl _ _ _ _ rfl _ _ Tryz.underlying109 hk3 w.heap.size #[en 1 (fv 115) 0] 1 2 (qv b1) rfl rfl rfl f3 rfl ?_
  have f4 : (ins1 W3 w.heap.size #[en 1 (fv 115) 0] 1 2 (qv b1)).heap[w.heap.size]? = some (.map #[en 1 (fv 115) 0, en 2 (qv b1) 1] 2) := at_ins 2 (qv b1) f3
  have s4 := size_ins W3 w.heap.size #[en 1 (fv 115) 0] 1 2 (qv b1)
  have o4 := o3.ins #[en 1 (fv 115) 0] 1 2 (qv b1)
  have g2 : (ins1 W3 w.heap.size #[en 1 (fv 115) 0] 1 2 (qv b1)).heap[b1]? = _ := (off_ins _ _ (by omega)).trans g1
  generalize ins1 W3 w.heap.size #[en 1 (fv 115) 0] 1 2 (qv b1) = W4 at f4 s4 o4 g2
  refine wpList_ins _ rfl _ _ _ _ rfl _ _ Tryz.underlying109 hk3 w.heap.size #[en 1 (fv 115) 0, en 2 (qv b1) 1] 2 3 (fv 117) rfl rfl rfl f4 rfl ?_
  have f5 : (ins1 W4 w.heap.size #[en 1 (fv 115) 0, en 2 (qv b1) 1] 2 3 (fv 117)).heap[w.heap.size]? = some (.map #[en 1 (fv 115) 0, en 2 (qv b1) 1, en 3 (fv 117) 2] 3) := at_ins 3 (fv 117) f4
  have s5 := size_ins W4 w.heap.size #[en 1 (fv 115) 0, en 2 (qv b1) 1] 2 3 (fv 117)
  have o5 := o4.ins #[en 1 (fv 115) 0, en 2 (qv b1) 1] 2 3 (fv 117)
  have g3 : (ins1 W4 w.heap.size #[en 1 (fv 115) 0, en 2 (qv b1) 1] 2 3 (fv 117)).heap[b1]? = _ := (off_ins _ _ (by omega)).trans g2
  generalize ins1 W4 w.heap.size #[en 1 (fv 115) 0, en 2 (qv b1) 1] 2 3 (fv 117) = W5 at f5 s5 o5 g3
  go_wp2_with fail
  refine (quiet_calls 118 _).mono ?_
  rintro e w' ⟨rfl, rfl⟩
  rename_i K4 h4
  apply h4
  have g4 := at_new W5 (.cells #[fv 118] 97)
  have g5 := at_alloc (.cells #[fv 118] 97) g3
  have f6 := at_alloc (.cells #[fv 118] 97) f5
  have s6 := size_alloc W5 (.cells #[fv 118] 97)
  have o6 := o5.alloc (.cells #[fv 118] 97) (by omega)
  generalize hb2 : W5.heap.size = b2 at g4 s6
  generalize W5.alloc (.cells #[fv 118] 97) = W6 at g4 g5 f6 s6 o6
  have hb2' : b2 = w.heap.size + 2 := by omega
  refine wpList_ins _ rfl _ _ _ _ rfl _ _ Tryz.underlying109 hk3 w.heap.size #[en 1 (fv 115) 0, en 2 (qv b1) 1, en 3 (fv 117) 2] 3 4 (qv b2) rfl rfl rfl f6 rfl ?_
  have f7 : (ins1 W6 w.heap.size #[en 1 (fv 115) 0, en 2 (qv b1) 1, en 3 (fv 117) 2] 3 4 (qv b2)).heap[w.heap.size]? = some (.map #[en 1 (fv 115) 0, en 2 (qv b1) 1, en 3 (fv 117) 2, en 4 (qv b2) 3] 4) := at_ins 4 (qv b2) f6
  have s7 := size_ins W6 w.heap.size #[en 1 (fv 115) 0, en 2 (qv b1) 1, en 3 (fv 117) 2] 3 4 (qv b2)
  have o7 := o6.ins #[en 1 (fv 115) 0, en 2 (qv b1) 1, en 3 (fv 117) 2] 3 4 (qv b2)
  have g6 : (ins1 W6 w.heap.size #[en 1 (fv 115) 0, en 2 (qv b1) 1, en 3 (fv 117) 2] 3 4 (qv b2)).heap[b1]? = _ := (off_ins _ _ (by omega)).trans g5
  have g7 : (ins1 W6 w.heap.size #[en 1 (fv 115) 0, en 2 (qv b1) 1, en 3 (fv 117) 2] 3 4 (qv b2)).heap[b2]? = _ := (off_ins _ _ (by omega)).trans g4
  generalize ins1 W6 w.heap.size #[en 1 (fv 115) 0, en 2 (qv b1) 1, en 3 (fv 117) 2] 3 4 (qv b2) = W7 at f7 s7 o7 g6 g7
  go_wp2_with fail
  go_ret
  refine ⟨w.heap.size, _, _, rfl, Nat.le_refl _, f7, rfl, ?_, o7.2.1, o7.2.2.1, o7.2.2.2, by omega, o7.1⟩
  intro i k f gs hi
  match i, hi with
  | 0, hi => cases hi; exact ⟨_, #[], rfl, rfl, rfl, rfl, fun j g hj => by simp at hj⟩
  | 1, hi =>
    cases hi
    refine ⟨_, #[.pointer (some ⟨b1, 0, none⟩)], rfl, rfl, rfl, rfl, fun j g hj => ?_⟩
    match j, hj with
    | 0, hj => cases hj; exact ⟨b1, rfl, by omega, by simp [World.cell?, g6]⟩
  | 2, hi => cases hi; exact ⟨_, #[], rfl, rfl, rfl, rfl, fun j g hj => by simp at hj⟩
  | 3, hi =>
    cases hi
    refine ⟨_, #[.pointer (some ⟨b2, 0, none⟩)], rfl, rfl, rfl, rfl, fun j g hj => ?_⟩
    match j, hj with
    | 0, hj => cases hj; exact ⟨b2, rfl, by omega, by simp [World.cell?, g7]⟩

theorem hand96 : CallOK Tryz.prog 96 (fmS hearL) := fm_ok (entered Tryz.func96 rfl (by decide)) hear_calls

/-! ### slices.Delete -/

theorem run_clear_cells {P : Program} (w : World) (t e ty : TypeId) (z : Value) (ht : P.underlying t = some (.slice e)) (hv : ∀ w, (zeroValue e).run P w = .ok z w) (b o n c : Nat) (hn : 0 < n) (vs : List Value) (hvs : (Builtin.zeroCells z.cells n).toList = vs)
    (h1 : ∀ v ∈ vs, v.oneCell' = true) (hc : ∀ j, j < vs.length → (w.cell? ⟨b, o + j, none⟩).isSome = true) (hf : ∀ j, j < vs.length → w.frozen? ⟨b, o + j, none⟩ = false) :
    (Builtin.clear_ #[t] ty #[.slice (some ⟨b, o, none⟩) n c]).run P w = .ok (.tuple #[]) (w.setCells b o vs) := by
  have hst := run_storeCells_cells (P := P) b o vs 0 w (by simpa using hc) (by simpa using hf) h1
  simp only [Nat.add_zero] at hst
  obtain ⟨m, rfl⟩ : ∃ m, n = m + 1 := ⟨n - 1, by omega⟩
  simp [Builtin.clear_, run_underlying ht, hv, hvs, hst]

theorem setCells_frame (b : Nat) : ∀ (vs : List Value) (o : Nat) (w : World), (w.setCells b o vs).os = w.os ∧ (w.setCells b o vs).tape = w.tape ∧ (w.setCells b o vs).output = w.output ∧ (w.setCells b o vs).heap.size = w.heap.size ∧ ∀ k, k ≠ b → (w.setCells b o vs).heap[k]? = w.heap[k]?
  | [], _, _ => ⟨rfl, rfl, rfl, rfl, fun _ _ => rfl⟩
  | v :: r, o, w => by
    obtain ⟨h1, h2, h3, h4, h5⟩ := setCells_frame b r (o + 1) (w.setCell ⟨b, o, none⟩ v)
    rw [World.setCells]
    refine ⟨h1, h2, h3, h4.trans (by simp [World.setCell]), fun k hk => (h5 k hk).trans ?_⟩
    simp only [World.setCell]
    rw [Array.getElem?_modify, if_neg (fun e => hk e.symm)]

theorem cell_row {w : World} {b : Nat} {cs : Array Value} {T : TypeId} (h : w.heap[b]? = some (.cells cs T (0, 0))) {o : Nat} (ho : o < cs.size) : w.cell? ⟨b, o, none⟩ = some (cs.getD o undef) ∧ w.frozen? ⟨b, o, none⟩ = false := by
  constructor
  · simp [World.cell?, h, Array.getD, ho]
  · simp [World.frozen?, h]

theorem row_of {w : World} {b : Nat} {cs : Array Value} {T : TypeId} (h : w.heap[b]? = some (.cells cs T (0, 0))) : w.rowIs b T cs.size (fun k => cs.getD k undef) :=
  ⟨cs, h, rfl, fun i hi => by simp [Array.getD, hi]⟩

set_option maxHeartbeats 4000000 in
set_option maxRecDepth 1000000 in
theorem del_calls (w : World) (b n cap i j : Nat) (cs : Array Value) (T : TypeId) (hh : w.heap[b]? = some (.cells cs T (0, 0))) (hk : cap * 9 ≤ cs.size) (hone : ∀ k, k < n * 9 → (cs.getD k undef).oneCell' = true) (hij : i < j) (hj : j ≤ n) (hn : n ≤ cap) (hm : n ≤ 4294967296) :
    Calls Tryz.prog 64 #[.slice (some ⟨b, 0, none⟩) n cap, .int .i64 i, .int .i64 j] w (MakesDel 9 b n cap i j w cs T) := by
  have hic : i ≤ cap := by omega
  have hjc : j ≤ cap := by omega
  obtain ⟨i0, hi0, hz0, hz1, _⟩ := info_parts (P := Tryz.prog) (e := 47) (z := .agg #[.int .i64 0, .int .i64 0, .int .i64 0, .int .i64 0, .int .i64 0, .int .i64 0, .int .i64 0, .slice none 0 0, .bool false]) (size := 9) (bytes := 88) (by kernel_rfl)
  have hv44 : ∀ w, (zeroValue 47).run Tryz.prog w = .ok (.agg #[.int .i64 0, .int .i64 0, .int .i64 0, .int .i64 0, .int .i64 0, .int .i64 0, .int .i64 0, .slice none 0 0, .bool false]) w := fun w => by simp [zeroValue, typeInfo, hi0, hz0]
  -- the cells that are moved
  obtain ⟨news, hnews⟩ : ∃ news : List Value, news = (List.range ((n - j) * 9)).map (fun k => cs.getD (j * 9 + k) undef) := ⟨_, rfl⟩
  have hlen : news.length = (n - j) * 9 := by rw [hnews]; simp
  have hget : ∀ k, k < (n - j) * 9 → news[k]? = some (cs.getD (j * 9 + k) undef) := by intro k hk'; rw [hnews]; simp [hk']
  have hin : ∀ k, k < cap * 9 → k < cs.size := fun k hk' => by omega
  have hdrew : w.drew.heap[b]? = some (.cells cs T (0, 0)) := hh
  obtain ⟨A, hA, hsrc⟩ : ∃ A : Addr, (if cap = j then (some (⟨b, 0, none⟩ : Addr)) else some ⟨b, j * 9, none⟩) = some A ∧ Hid (∀ k u, news[k]? = some u → w.drew.cell? (A.add k) = some u) := by
    by_cases h : cap = j
    · refine ⟨⟨b, 0, none⟩, by simp [h], fun k u hu => ?_⟩
      have h0 : news.length = 0 := by rw [hlen]; omega
      rw [List.length_eq_zero_iff.1 h0] at hu
      simp at hu
    · refine ⟨⟨b, j * 9, none⟩, by simp [h], fun k u hu => ?_⟩
      have hk' := (List.getElem?_eq_some_iff.1 hu).1
      rw [hlen] at hk'
      rw [hget k hk'] at hu
      rw [addr_add]
      rw [← hu]
      exact (cell_row hdrew (hin _ (by omega))).1
  have s2 : Hid (∀ u ∈ news, u.oneCell' = true) := by
    intro u hu
    rw [hnews] at hu
    simp only [List.mem_map, List.mem_range] at hu
    obtain ⟨k, hk', rfl⟩ := hu
    exact hone _ (by omega)
  have s3 : Hid (∀ k, k < news.length → (w.drew.cell? ⟨b, 0 + i * 9 + k, none⟩).isSome = true ∧ w.drew.frozen? ⟨b, 0 + i * 9 + k, none⟩ = false) := by
    intro k hk'
    rw [hlen] at hk'
    rw [Nat.zero_add]
    obtain ⟨c1, c2⟩ := cell_row hdrew (o := i * 9 + k) (hin _ (by omega))
    exact ⟨by rw [c1]; rfl, c2⟩
  have s1 : Hid (news.length = (n - j) * 9) := hlen
  obtain ⟨W1, hW1⟩ : ∃ W1, W1 = w.drew.setCells b (0 + i * 9) news := ⟨_, rfl⟩
  have hW : Hid (W1 = w.drew.setCells b (0 + i * 9) news) := hW1
  have hrow1 : W1.rowIs b T cs.size (fun k => if 0 + i * 9 ≤ k ∧ k < 0 + i * 9 + news.length then news[k - (0 + i * 9)]?.getD default else cs.getD k undef) := by
    rw [hW1]; exact rowIs_setCells news (0 + i * 9) w.drew _ (row_of hdrew)
  have hfrm1 := setCells_frame b news (0 + i * 9) w.drew
  rw [← hW1] at hfrm1
  -- what is cleared
  obtain ⟨zs, hzs⟩ : ∃ zs, zs = (Builtin.zeroCells (Value.agg #[.int .i64 0, .int .i64 0, .int .i64 0, .int .i64 0, .int .i64 0, .int .i64 0, .int .i64 0, .slice none 0 0, .bool false]).cells (n - (i + (n - j)))).toList := ⟨_, rfl⟩
  have hzl : zs.length = (n - (i + (n - j))) * 9 := by rw [hzs]; simp [Builtin.zeroCells, Value.cells]
  have hz1' : ∀ v ∈ zs, v.oneCell' = true := by
    intro v hv
    rw [hzs] at hv
    simp only [Builtin.zeroCells, Value.cells, Array.toList_map, List.mem_map] at hv
    obtain ⟨k, _, rfl⟩ := hv
    have hk9 : k % 9 < 9 := Nat.mod_lt _ (by omega)
    simp only [List.size_toArray, List.length_cons, List.length_nil]
    generalize k % 9 = q at hk9
    match q, hk9 with
    | 0, _ => rfl
    | 1, _ => rfl
    | 2, _ => rfl
    | 3, _ => rfl
    | 4, _ => rfl
    | 5, _ => rfl
    | 6, _ => rfl
    | 7, _ => rfl
    | 8, _ => rfl
  obtain ⟨c1, hc1, hc1s, hc1g⟩ := hrow1
  have hcl : ∀ ty, (Builtin.clear_ #[28] ty #[.slice (some ⟨b, (i + (n - j)) * 9, none⟩) (n - (i + (n - j))) (cap - (i + (n - j)))]).run Tryz.prog W1 = .ok (.tuple #[]) (W1.setCells b ((i + (n - j)) * 9) zs) :=
    fun ty => run_clear_cells W1 28 47 ty _ Tryz.underlying28 hv44 b _ _ _ (by omega) zs hzs.symm hz1' (fun q hq => by rw [(cell_row hc1 (by omega)).1]; rfl) (fun q hq => (cell_row hc1 (by omega)).2)
  have hrow2 := rowIs_setCells zs ((i + (n - j)) * 9) W1 _ ⟨c1, hc1, hc1s, hc1g⟩
  have hfrm2 := setCells_frame b zs ((i + (n - j)) * 9) W1
  obtain ⟨c2, hc2, hc2s, hc2g⟩ := hrow2
  have fin : Aside (MakesDel 9 b n cap i j w cs T (.returned (.slice (some ⟨b, 0, none⟩) (i + (n - j)) cap)) (W1.setCells b ((i + (n - j)) * 9) zs)) := by
    refine ⟨c2, by rw [show n - (j - i) = i + (n - j) by omega], hc2, hc2s, fun k hk' => ?_, fun k hk' hk2 => ?_, hfrm2.1.trans hfrm1.1, hfrm2.2.1.trans hfrm1.2.1, hfrm2.2.2.1.trans hfrm1.2.2.1, hfrm2.2.2.2.1.trans hfrm1.2.2.2.1, fun k hk' => (hfrm2.2.2.2.2 k hk').trans (hfrm1.2.2.2.2 k hk')⟩
    · have := hc2g k (by omega)
      simp only at this
      rw [if_neg (by omega), if_neg (by omega)] at this
      rw [Array.getD_eq_getD_getElem?, this]
      rfl
    · have := hc2g k (by omega)
      simp only at this
      rw [if_neg (by omega), if_pos (by omega), hget _ (by omega)] at this
      rw [Array.getD_eq_getD_getElem?, this]
      simp only [Option.getD_some]
      congr 1
      omega
  have mixed : Tryz.prog.follows .mixedOrders = true := by kernel_rfl
  clear hh hk hone hnews hget hlen hin hdrew hfrm1 hfrm2 hc1 hc1s hc1g hc2 hc2s hc2g hzs hzl hz1' hW1
  go_enter Tryz.func64, Tryz.ntmps64
  go_wp2_with fail
  go_region_law_o (refine step_append_room rfl (.tmp 22) (.tmp 25) 28 rfl 47 i0 9 Tryz.underlying28 hi0 hz1 b 0 i cap (by simp [Act.eval, Act.put]) A (n - j) (cap - j) news (by simp [Act.eval, Act.put, hA]) s1.out hsrc.out s2.out (by omega) s3.out ?_; rw [← hW.out])
  go_wp2
  go_ret
  exact fin.out

theorem hand64 (t : Ty) (ht : t.size = 9) : CallOK Tryz.prog 64 (delS t) :=
  del_ok (entered Tryz.func64 rfl (by decide)) (fun w b n cap i j cs T h1 h2 h3 h4 h5 h6 h7 => by
    rw [ht] at h2 h3 ⊢
    exact del_calls w b n cap i j cs T h1 h2 h3 h4 h5 h6 h7)

end Go.Proofs.YtfbikpbejkgegaaGreat
