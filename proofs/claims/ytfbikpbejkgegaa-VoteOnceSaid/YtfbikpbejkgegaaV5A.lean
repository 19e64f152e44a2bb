/- Lemmas for the statement of the last text of this claim. -/
import Derived.Test.YtfbikpbejkgegaaChecked
import Derived.Test.YtfbikpbejkgegaaPxM
import Derived.ProofKit
import Derived.Test.YtfbikpbejkgegaaPxK
set_option linter.unusedSimpArgs false
set_option linter.unusedVariables false
namespace Go.Raft
abbrev Ent (O : Type) := Int × O × Unit

abbrev Log (O : Type) := List (Ent O)

abbrev Rep (O : Type) := Int × Int × Int × Int × Log O × Int × List Bool × List Int × Unit

abbrev Msg (O : Type) := Int × Int × Int × Int × Int × Int × Int × Log O × Bool × Unit

variable {O : Type}
/-! ### Fields -/
abbrev rp (id term voted role : Int) (log : Log O) (commit : Int) (votes : List Bool) (mtch : List Int) : Rep O := (id, term, voted, role, log, commit, votes, mtch, ())

abbrev Rep.id (r : Rep O) : Int := r.1

abbrev Rep.term (r : Rep O) : Int := r.2.1

abbrev Rep.voted (r : Rep O) : Int := r.2.2.1

abbrev Rep.role (r : Rep O) : Int := r.2.2.2.1

abbrev Rep.log (r : Rep O) : Log O := r.2.2.2.2.1

abbrev Rep.commit (r : Rep O) : Int := r.2.2.2.2.2.1

abbrev Rep.votes (r : Rep O) : List Bool := r.2.2.2.2.2.2.1

abbrev Rep.mtch (r : Rep O) : List Int := r.2.2.2.2.2.2.2.1

section
variable (a b c d : Int) (l : Log O) (e : Int) (v : List Bool) (m : List Int)
@[simp] theorem rp_id : Rep.id (rp a b c d l e v m) = a := rfl

@[simp] theorem rp_term : Rep.term (rp a b c d l e v m) = b := rfl

@[simp] theorem rp_voted : Rep.voted (rp a b c d l e v m) = c := rfl

@[simp] theorem rp_role : Rep.role (rp a b c d l e v m) = d := rfl

@[simp] theorem rp_log : Rep.log (rp a b c d l e v m) = l := rfl

@[simp] theorem rp_commit : Rep.commit (rp a b c d l e v m) = e := rfl

@[simp] theorem rp_votes : Rep.votes (rp a b c d l e v m) = v := rfl

@[simp] theorem rp_mtch : Rep.mtch (rp a b c d l e v m) = m := rfl

end
abbrev mg (kind frm to term prev pterm commit : Int) (ents : Log O) (ok : Bool) : Msg O := (kind, frm, to, term, prev, pterm, commit, ents, ok, ())

abbrev Msg.kind (r : Msg O) : Int := r.1

abbrev Msg.frm (r : Msg O) : Int := r.2.1

abbrev Msg.to (r : Msg O) : Int := r.2.2.1

abbrev Msg.term (r : Msg O) : Int := r.2.2.2.1

abbrev Msg.prev (r : Msg O) : Int := r.2.2.2.2.1

abbrev Msg.pterm (r : Msg O) : Int := r.2.2.2.2.2.1

abbrev Msg.commit (r : Msg O) : Int := r.2.2.2.2.2.2.1

abbrev Msg.ents (r : Msg O) : Log O := r.2.2.2.2.2.2.2.1

abbrev Msg.ok (r : Msg O) : Bool := r.2.2.2.2.2.2.2.2.1

section
variable (a b c d e f g : Int) (l : Log O) (v : Bool)
@[simp] theorem mg_kind : Msg.kind (mg a b c d e f g l v) = a := rfl

@[simp] theorem mg_frm : Msg.frm (mg a b c d e f g l v) = b := rfl

@[simp] theorem mg_to : Msg.to (mg a b c d e f g l v) = c := rfl

@[simp] theorem mg_term : Msg.term (mg a b c d e f g l v) = d := rfl

@[simp] theorem mg_prev : Msg.prev (mg a b c d e f g l v) = e := rfl

@[simp] theorem mg_pterm : Msg.pterm (mg a b c d e f g l v) = f := rfl

@[simp] theorem mg_commit : Msg.commit (mg a b c d e f g l v) = g := rfl

@[simp] theorem mg_ents : Msg.ents (mg a b c d e f g l v) = l := rfl

@[simp] theorem mg_ok : Msg.ok (mg a b c d e f g l v) = v := rfl

end
/-! ### Chapter 32 -/
def quorum (n : Int) : Int := if 1 ≤ n ∧ n ≤ 5 then n / 2 + 1 else 0

def srt (top : Int) : Int → Log O → Bool
  | _, [] => true
  | lo, e :: l => decide (lo ≤ e.1) && decide (e.1 ≤ top) && srt top e.1 l

def logFits (l : Log O) (term : Int) : Bool := srt term 1 l && decide (l.length ≤ 256)

def inn (x a b : Int) : Bool := decide (a ≤ x) && decide (x ≤ b)

def roleOK (n : Int) (r : Rep O) : Bool :=
  if r.role = 0 then decide (r.votes.length = 0) && decide (r.mtch.length = 0)
  else if r.role = 1 then decide ((r.votes.length : Int) = n) && r.votes[r.id.toNat]?.getD false && decide (r.mtch.length = 0)
  else if r.role = 2 then decide ((r.votes.length : Int) = n) && r.votes[r.id.toNat]?.getD false && decide ((r.mtch.length : Int) = n) && decide (r.mtch[r.id.toNat]?.getD 0 = (r.log.length : Int)) && r.mtch.all (fun m => inn m 0 r.log.length)
  else false

def chk (n : Int) (r : Rep O) : Bool :=
  inn n 1 5 && inn r.id 0 (n - 1) && inn r.term 0 1048576 && inn r.voted (-1) (n - 1) && logFits r.log r.term && inn r.commit 0 r.log.length && roleOK n r

def lastT (l : Log O) : Int := match l.getLast? with
  | some e => e.1
  | none => 0

def fresh (l : Log O) (last term : Int) : Bool := decide (term > lastT l) || (decide (term = lastT l) && decide (last ≥ (l.length : Int)))

def fol (r : Rep O) (t : Int) : Rep O := if t > r.term then rp r.id t (-1) 0 r.log r.commit [] [] else r

def lead (n : Int) (r : Rep O) : Rep O := rp r.id r.term r.voted 2 r.log r.commit r.votes ((List.replicate n.toNat (0 : Int)).set r.id.toNat r.log.length)

def yes (v : List Bool) : Int := v.countP (· == true)

def asks (n : Int) (r : Rep O) : List (Msg O) :=
  ((List.range n.toNat).filter (fun (i : Nat) => (i : Int) ≠ r.id)).map fun (i : Nat) => mg 1 r.id (i : Int) (r.term + 1) r.log.length (lastT r.log) 0 [] false

def standR (n : Int) (r : Rep O) : Rep O :=
  let x := rp r.id (r.term + 1) r.id 1 r.log r.commit ((List.replicate n.toNat false).set r.id.toNat true) []
  if quorum n = 1 then lead n x else x

/-- Whether a message of a kind is one to a valid replica from another region. -/
def toOK (n : Int) (r : Rep O) (m : Msg O) (kind : Int) : Bool :=
  chk n r && decide (m.kind = kind) && decide (m.to = r.id) && inn m.frm 0 (n - 1) && decide (m.frm ≠ r.id) && inn m.term 1 1048576

def hearYes (r : Rep O) (m : Msg O) : Bool :=
  decide (r.term = m.term) && (decide (r.voted = -1) || decide (r.voted = m.frm)) && decide (r.role = 0) && fresh r.log m.prev m.pterm

def vote (r : Rep O) (c : Int) : Rep O := rp r.id r.term c r.role r.log r.commit r.votes r.mtch

def hearR (r : Rep O) (m : Msg O) : Rep O :=
  let x := fol r m.term
  if hearYes x m then vote x m.frm else x

def hearM (r : Rep O) (m : Msg O) : Msg O :=
  let x := fol r m.term
  mg 2 r.id m.frm x.term 0 0 0 [] (hearYes x m)

def zeroM : Msg O := mg 0 0 0 0 0 0 0 [] false

def hear (n : Int) (r : Rep O) (m : Msg O) : Rep O × Msg O × Bool :=
  if toOK n r m 1 then (hearR r m, hearM r m, true) else (r, zeroM, false)

def votedR (n : Int) (r : Rep O) (m : Msg O) : Rep O :=
  let x := rp r.id r.term r.voted r.role r.log r.commit (r.votes.set m.frm.toNat true) r.mtch
  if yes x.votes ≥ quorum n then lead n x else x

def voted (n : Int) (r : Rep O) (m : Msg O) : Rep O :=
  if toOK n r m 2 then
    if m.term > r.term then fol r m.term
    else if r.role = 1 ∧ m.term = r.term ∧ m.ok = true then votedR n r m else r
  else r

/-- The term of the entry ahead of a place. -/
def ptermAt (l : Log O) (p : Int) : Int := if p > 0 then ((l[(p - 1).toNat]?).map (·.1)).getD 0 else 0

/-- The number of entries at the beginning of a list that have the terms of those of a log. -/
def agree : Log O → Log O → Nat
  | e :: l, x :: y => if e.1 = x.1 then agree l y + 1 else 0
  | _, _ => 0

def joined (l : Log O) (prev : Nat) (ents : Log O) : Log O × Nat :=
  let s := agree (l.drop prev) ents
  if s = ents.length then (l, l.length) else (l.take (prev + s) ++ ents.drop s, prev + s)

def fits (r : Rep O) (m : Msg O) : Bool :=
  decide (m.term = r.term) && decide (r.role ≠ 2) && decide (m.prev ≤ r.log.length) && (decide (m.prev = 0) || decide (ptermAt r.log m.prev = m.pterm))

/-- What a replica is that hears the leader of its term. -/
def back (r : Rep O) (t : Int) : Rep O :=
  let x := fol r t
  if x.role = 1 ∧ x.term = t then rp x.id x.term x.voted 0 x.log x.commit [] x.mtch else x

end Go.Raft

namespace Go.Raft
variable {O : Type}
theorem srt_iff {top : Int} : ∀ {lo : Int} {l : Log O}, srt top lo l = true ↔ (∀ e ∈ l, lo ≤ e.1 ∧ e.1 ≤ top) ∧ l.Pairwise (fun a b => a.1 ≤ b.1) := by
  intro lo l
  induction l generalizing lo with
  | nil => simp [srt]
  | cons e l ih =>
    simp only [srt, Bool.and_eq_true, decide_eq_true_eq, ih, List.mem_cons, forall_eq_or_imp, List.pairwise_cons]
    constructor
    · rintro ⟨⟨h1, h2⟩, h3, h4⟩
      exact ⟨⟨⟨h1, h2⟩, fun a ha => ⟨by have := (h3 a ha).1; omega, (h3 a ha).2⟩⟩, fun a ha => (h3 a ha).1, h4⟩
    · rintro ⟨⟨⟨h1, h2⟩, h3⟩, h4, h5⟩
      exact ⟨⟨h1, h2⟩, fun a ha => ⟨h4 a ha, (h3 a ha).2⟩, h5⟩

theorem srt_top {a b lo : Int} {l : Log O} (h : srt a lo l = true) (hab : a ≤ b) : srt b lo l = true := by
  rw [srt_iff] at h ⊢
  exact ⟨fun e he => ⟨(h.1 e he).1, by have := (h.1 e he).2; omega⟩, h.2⟩

theorem lastT_nil : lastT ([] : Log O) = 0 := rfl

theorem lastT_get {l : Log O} {k : Nat} {e : Ent O} (h : l[k]? = some e) (hk : k + 1 = l.length) : lastT l = e.1 := by
  unfold lastT
  rw [List.getLast?_eq_getElem?, show l.length - 1 = k by omega, h]

theorem le_lastT {top : Int} {l : Log O} (h : srt top 1 l = true) {k : Nat} {e : Ent O} (hk : l[k]? = some e) : e.1 ≤ lastT l := by
  rw [srt_iff] at h
  obtain ⟨hk1, hk2⟩ := List.getElem?_eq_some_iff.1 hk
  have hl : l[l.length - 1]? = some (l[l.length - 1]'(by omega)) := List.getElem?_eq_getElem _
  rw [lastT_get hl (by omega)]
  rcases Nat.lt_or_ge k (l.length - 1) with hlt | hge
  · have := (List.pairwise_iff_getElem.1 h.2) k (l.length - 1) hk1 (by omega) hlt
    rw [← hk2]; exact this
  · have : k = l.length - 1 := by omega
    subst this
    rw [← hk2]; exact Int.le_refl _

structure Chk (n : Int) (r : Rep O) : Prop where
  n1 : 1 ≤ n
  n5 : n ≤ 5
  i0 : 0 ≤ r.id
  i1 : r.id < n
  t0 : 0 ≤ r.term
  t1 : r.term ≤ 1048576
  v0 : -1 ≤ r.voted
  v1 : r.voted < n
  so : srt r.term 1 r.log = true
  ll : r.log.length ≤ 256
  c0 : 0 ≤ r.commit
  c1 : r.commit ≤ r.log.length
  ro : roleOK n r = true

theorem chk_iff {n : Int} {r : Rep O} : chk n r = true ↔ Chk n r := by
  simp only [chk, inn, logFits, Bool.and_eq_true, decide_eq_true_eq]
  constructor
  · rintro ⟨⟨⟨⟨⟨⟨h1, h2⟩, h3⟩, h4⟩, h5⟩, h6⟩, h7⟩
    exact ⟨by omega, by omega, by omega, by omega, by omega, by omega, by omega, by omega, h5.1, h5.2, by omega, by omega, h7⟩
  · rintro ⟨h1, h2, h3, h4, h5, h6, h7, h8, h9, h10, h11, h12, h13⟩
    exact ⟨⟨⟨⟨⟨⟨by omega, by omega⟩, by omega⟩, by omega⟩, h9, h10⟩, by omega⟩, h13⟩

theorem quorum_eq {n : Int} (h1 : 1 ≤ n) (h5 : n ≤ 5) : quorum n = n / 2 + 1 := by rw [quorum, if_pos ⟨h1, h5⟩]

theorem role_cases {n : Int} {r : Rep O} (h : roleOK n r = true) : r.role = 0 ∨ r.role = 1 ∨ r.role = 2 := by
  unfold roleOK at h
  by_cases h0 : r.role = 0
  · exact .inl h0
  by_cases h1 : r.role = 1
  · exact .inr (.inl h1)
  by_cases h2 : r.role = 2
  · exact .inr (.inr h2)
  rw [if_neg h0, if_neg h1, if_neg h2] at h
  cases h

theorem role0_iff {n : Int} {r : Rep O} (h : r.role = 0) : roleOK n r = true ↔ r.votes = [] ∧ r.mtch = [] := by
  unfold roleOK
  rw [if_pos h]
  simp

theorem role1_iff {n : Int} {r : Rep O} (h : r.role = 1) : roleOK n r = true ↔ (r.votes.length : Int) = n ∧ r.votes[r.id.toNat]? = some true ∧ r.mtch = [] := by
  unfold roleOK
  rw [if_neg (by omega), if_pos h]
  simp only [Bool.and_eq_true, decide_eq_true_eq, and_assoc, List.length_eq_zero_iff]
  cases hg : r.votes[r.id.toNat]? <;> simp

theorem role2_iff {n : Int} {r : Rep O} (h : r.role = 2) : roleOK n r = true ↔ (r.votes.length : Int) = n ∧ r.votes[r.id.toNat]? = some true ∧ (r.mtch.length : Int) = n ∧ r.mtch[r.id.toNat]?.getD 0 = (r.log.length : Int) ∧ ∀ m ∈ r.mtch, 0 ≤ m ∧ m ≤ (r.log.length : Int) := by
  unfold roleOK
  rw [if_neg (by omega), if_neg (by omega), if_pos h]
  simp only [Bool.and_eq_true, decide_eq_true_eq, and_assoc, List.all_eq_true, inn]
  cases hg : r.votes[r.id.toNat]? <;> simp

theorem chk_follow {n : Int} {r : Rep O} {t : Int} (h : Chk n r) (ht : t ≤ 1048576) : Chk n (fol r t) := by
  unfold fol
  split
  · rename_i hgt
    have := h.n1; have := h.t0
    exact ⟨h.n1, h.n5, h.i0, h.i1, by simp; omega, by simpa using ht, by simp, by simp; omega, by simpa using srt_top h.so (by omega), h.ll, h.c0, h.c1, (role0_iff rfl).2 ⟨rfl, rfl⟩⟩
  · exact h

theorem chk_lead {n : Int} {r : Rep O} (h : Chk n r) (h1 : r.role = 1) : Chk n (lead n r) := by
  obtain ⟨v1, v2, _⟩ := (role1_iff h1).1 h.ro
  have := h.n1; have := h.i0; have := h.i1
  refine ⟨h.n1, h.n5, h.i0, h.i1, h.t0, h.t1, h.v0, h.v1, h.so, h.ll, h.c0, h.c1, (role2_iff (by simp [lead])).2 ?_⟩
  refine ⟨by simpa [lead] using v1, by simpa [lead] using v2, by simp [lead]; omega, ?_, ?_⟩
  · simp only [lead, rp_mtch, rp_id, rp_log]
    rw [List.getElem?_set_self (by simp; omega)]; rfl
  · intro m hm
    simp only [lead, rp_mtch, rp_log] at hm ⊢
    rcases List.mem_or_eq_of_mem_set hm with hm | hm
    · have := List.eq_of_mem_replicate hm; omega
    · omega

/-- A candidate in a new term. -/
def cand (n : Int) (r : Rep O) : Rep O := rp r.id (r.term + 1) r.id 1 r.log r.commit ((List.replicate n.toNat false).set r.id.toNat true) []

theorem chk_cand {n : Int} {r : Rep O} (h : Chk n r) (ht : r.term ≠ 1048576) : Chk n (cand n r) := by
  have := h.n1; have := h.i0; have := h.i1; have := h.t0; have := h.t1
  refine ⟨h.n1, h.n5, h.i0, h.i1, by simp [cand]; omega, by simp [cand]; omega, by simp [cand]; omega, by simp [cand]; omega, by simpa [cand] using srt_top h.so (by omega), h.ll, h.c0, h.c1, (role1_iff (by simp [cand])).2 ?_⟩
  refine ⟨by simp [cand]; omega, ?_, by simp [cand]⟩
  simp only [cand, rp_votes, rp_id]
  rw [List.getElem?_set_self (by simp; omega)]

theorem toOK_iff {n : Int} {r : Rep O} {m : Msg O} {k : Int} : toOK n r m k = true ↔ Chk n r ∧ m.kind = k ∧ m.to = r.id ∧ 0 ≤ m.frm ∧ m.frm < n ∧ m.frm ≠ r.id ∧ 1 ≤ m.term ∧ m.term ≤ 1048576 := by
  simp only [toOK, inn, Bool.and_eq_true, decide_eq_true_eq, chk_iff, and_assoc]
  constructor
  · rintro ⟨h1, h2, h3, h4, h5, h6, h7, h8⟩; exact ⟨h1, h2, h3, h4, by omega, h6, h7, h8⟩
  · rintro ⟨h1, h2, h3, h4, h5, h6, h7, h8⟩; exact ⟨h1, h2, h3, h4, by omega, h6, h7, h8⟩

theorem chk_vote {n : Int} {r : Rep O} (h : Chk n r) {c : Int} (h0 : 0 ≤ c) (h1 : c < n) : Chk n (vote r c) :=
  ⟨h.n1, h.n5, h.i0, h.i1, h.t0, h.t1, by simp [vote]; omega, by simpa [vote] using h1, h.so, h.ll, h.c0, h.c1, h.ro⟩

theorem chk_hearR {n : Int} {r : Rep O} {m : Msg O} (h : toOK n r m 1 = true) : Chk n (hearR r m) := by
  obtain ⟨h1, _, _, h4, h5, _, _, h8⟩ := toOK_iff.1 h
  unfold hearR
  simp only
  split
  · exact chk_vote (chk_follow h1 h8) h4 h5
  · exact chk_follow h1 h8

theorem chk_voted {n : Int} {r : Rep O} {m : Msg O} (h : Chk n r) : Chk n (voted n r m) := by
  unfold voted
  split
  · rename_i ho
    obtain ⟨h1, _, _, h4, h5, h6, _, h8⟩ := toOK_iff.1 ho
    split
    · exact chk_follow h1 h8
    · split
      · rename_i hr
        obtain ⟨v1, v2, v3⟩ := (role1_iff hr.1).1 h.ro
        have hc : Chk n (rp r.id r.term r.voted r.role r.log r.commit (r.votes.set m.frm.toNat true) r.mtch) := by
          refine ⟨h.n1, h.n5, h.i0, h.i1, h.t0, h.t1, h.v0, h.v1, h.so, h.ll, h.c0, h.c1, (role1_iff (by simpa using hr.1)).2 ⟨by simpa using v1, ?_, by simpa using v3⟩⟩
          simp only [rp_votes, rp_id]
          rw [List.getElem?_set]
          have := h.i0
          split
          · have : r.id.toNat < r.votes.length := (List.getElem?_eq_some_iff.1 v2).1
            rename_i e; rw [if_pos (by omega)]
          · exact v2
        unfold votedR
        simp only
        split
        · exact chk_lead hc (by simpa using hr.1)
        · exact hc
      · exact h
  · exact h

theorem chk_back {n : Int} {r : Rep O} {t : Int} (h : Chk n r) (ht : t ≤ 1048576) : Chk n (back r t) := by
  have hf := chk_follow (t := t) h ht
  unfold back
  simp only
  split
  · rename_i hr
    obtain ⟨v1, v2, v3⟩ := (role1_iff hr.1).1 hf.ro
    exact ⟨hf.n1, hf.n5, hf.i0, hf.i1, hf.t0, hf.t1, hf.v0, hf.v1, hf.so, hf.ll, hf.c0, hf.c1, (role0_iff rfl).2 ⟨rfl, by simpa using v3⟩⟩
  · exact hf

theorem agree_le : ∀ (l e : Log O), agree l e ≤ l.length ∧ agree l e ≤ e.length := by
  intro l e
  induction l generalizing e with
  | nil => simp [agree]
  | cons x l ih =>
    cases e with
    | nil => simp [agree]
    | cons y e =>
      simp only [agree]
      split
      · have := ih e; simp only [List.length_cons]; omega
      · simp

end Go.Raft

namespace Go.Raft
variable {O : Type}
/-! ### Majorities -/
def Maj (n : Nat) (p : Nat → Prop) : Prop := ∃ q : Nat → Bool, (∀ j, j < n → q j = true → p j) ∧ n < 2 * (List.range n).countP q

theorem countP_both (p q : Nat → Bool) (l : List Nat) : l.countP p + l.countP q ≤ l.length + l.countP (fun j => p j && q j) := by
  induction l with
  | nil => simp
  | cons a l ih =>
    simp only [List.countP_cons, List.length_cons]
    cases p a <;> cases q a <;> simp <;> omega

theorem Maj.both {n : Nat} {p q : Nat → Prop} (h1 : Maj n p) (h2 : Maj n q) : ∃ j, j < n ∧ p j ∧ q j := by
  obtain ⟨a, ha, ca⟩ := h1
  obtain ⟨b, hb, cb⟩ := h2
  have h := countP_both a b (List.range n)
  rw [List.length_range] at h
  have h0 : 0 < (List.range n).countP (fun j => a j && b j) := by omega
  obtain ⟨j, hj, hab⟩ := List.countP_pos_iff.1 h0
  rw [Bool.and_eq_true] at hab
  exact ⟨j, List.mem_range.1 hj, ha j (List.mem_range.1 hj) hab.1, hb j (List.mem_range.1 hj) hab.2⟩

theorem Maj.mono {n : Nat} {p q : Nat → Prop} (h : Maj n p) (f : ∀ j, j < n → p j → q j) : Maj n q := by
  obtain ⟨a, ha, ca⟩ := h
  exact ⟨a, fun j hj hq => f j hj (ha j hj hq), ca⟩

/-! ### The book of what has happened -/
structure LR (O : Type) where
  who : Nat
  el : Log O
  cur : Log O

structure Gh (O : Type) where
  rc : Int → Option (LR O)
  vt : Int → Nat → Option (Nat × Log O)
  ack : Int → Nat → Nat

def Own (g : Gh O) (T : Int) (k : Nat) : Prop := ∃ R e, g.rc T = some R ∧ R.cur[k]? = some e ∧ e.1 = T

def Has (g : Gh O) (T : Int) (k : Nat) (L : Log O) : Prop := ∃ R, g.rc T = some R ∧ k < R.cur.length ∧ L.take (k + 1) = R.cur.take (k + 1)

def Dead (n : Nat) (tm : Nat → Int) (g : Gh O) (T : Int) (k : Nat) : Prop := Maj n (fun j => T < tm j ∧ g.ack T j ≤ k)

def logP (g : Gh O) (L : Log O) : Prop := ∀ k e, L[k]? = some e → Has g e.1 k L

def Comm (n : Nat) (g : Gh O) (T : Int) (k : Nat) : Prop := Own g T k ∧ Maj n (fun j => k < g.ack T j)

def Cov (n : Nat) (g : Gh O) (T : Int) (L : Log O) (c : Nat) : Prop := c = 0 ∨ ∃ T' k R, T' ≤ T ∧ Comm n g T' k ∧ c ≤ k + 1 ∧ g.rc T' = some R ∧ L.take c = R.cur.take c

def upto (a b : Log O) : Prop := lastT b < lastT a ∨ (lastT b = lastT a ∧ b.length ≤ a.length)

structure VotOK (n : Nat) (tm : Nat → Int) (g : Gh O) (U : Int) (i c : Nat) (vl : Log O) : Prop where
  hi : i < n
  hc : c < n
  hU : 1 ≤ U
  ht : U ≤ tm i
  fr : ∃ cl, g.vt U c = some (c, cl) ∧ upto cl vl
  lp : logP g vl
  so : ∃ top, srt top 1 vl = true
  own : i = c → ∀ e ∈ vl, e.1 < U
  ak : ∀ T k, T < U → Own g T k → k < g.ack T i → Has g T k vl ∨ Dead n tm g T k

structure RecOK (n : Nat) (tm : Nat → Int) (g : Gh O) (U : Int) (R : LR O) : Prop where
  hw : R.who < n
  hU : 1 ≤ U
  ht : U ≤ tm R.who
  pre : R.el <+: R.cur
  vt : g.vt U R.who = some (R.who, R.el)
  mj : Maj n (fun j => ∃ vl, g.vt U j = some (R.who, vl))
  tms : ∀ k e, R.cur[k]? = some e → if k < R.el.length then e.1 < U else e.1 = U
  lp : logP g R.cur
  sf : ∀ T k, T < U → Own g T k → Has g T k R.el ∨ Dead n tm g T k

def AckOK (tm : Nat → Int) (g : Gh O) : Prop := ∀ T j, 0 < g.ack T j → T ≤ tm j ∧ ∃ R, g.rc T = some R ∧ g.ack T j ≤ R.cur.length

structure NodOK (n : Nat) (tm : Nat → Int) (g : Gh O) (i : Nat) (r : Rep O) : Prop where
  id : r.id = (i : Int)
  chk : Chk (n : Int) r
  tme : tm i = r.term
  lp : logP g r.log
  ak : ∀ T k, Own g T k → k < g.ack T i → Has g T k r.log ∨ Dead n tm g T k
  v0 : g.vt r.term i = none → r.voted = -1
  v1 : ∀ c vl, g.vt r.term i = some (c, vl) → r.voted = (c : Int)
  cv : Cov n g r.term r.log r.commit.toNat
  cd : r.role = 1 → g.vt r.term i = some (i, r.log) ∧ (∀ R, g.rc r.term = some R → R.who ≠ i) ∧ ∀ j, r.votes[j]? = some true → ∃ vl, g.vt r.term j = some (i, vl)
  ld : r.role = 2 → ∃ R, g.rc r.term = some R ∧ R.who = i ∧ R.cur = r.log ∧ ∀ j p, r.mtch[j]? = some p → p.toNat ≤ g.ack r.term j

structure MsgOK (n : Nat) (g : Gh O) (m : Msg O) : Prop where
  k1 : m.kind = 1 → ∃ (c : Nat) (cl : Log O), m.frm = (c : Int) ∧ g.vt m.term c = some (c, cl) ∧ m.prev = (cl.length : Int) ∧ m.pterm = lastT cl
  k2 : m.kind = 2 → m.ok = true → ∃ (i c : Nat) (vl : Log O), m.frm = (i : Int) ∧ m.to = (c : Int) ∧ g.vt m.term i = some (c, vl)
  k3 : m.kind = 3 → ∃ R, g.rc m.term = some R ∧ 0 ≤ m.prev ∧ m.prev.toNat + m.ents.length ≤ R.cur.length ∧ (R.cur.drop m.prev.toNat).take m.ents.length = m.ents ∧ m.pterm = ptermAt R.cur m.prev ∧ Cov n g m.term R.cur m.commit.toNat
  k4 : m.kind = 4 → m.ok = true → ∃ (i : Nat), m.frm = (i : Int) ∧ m.prev.toNat ≤ g.ack m.term i

def tmOf (reps : List (Rep O)) (j : Nat) : Int := ((reps[j]?).map Rep.term).getD 0

structure Inv (n : Nat) (reps : List (Rep O)) (g : Gh O) : Prop where
  len : reps.length = n
  nod : ∀ i r, reps[i]? = some r → NodOK n (tmOf reps) g i r
  vot : ∀ U i c vl, g.vt U i = some (c, vl) → VotOK n (tmOf reps) g U i c vl
  rcd : ∀ U R, g.rc U = some R → RecOK n (tmOf reps) g U R
  ack : AckOK (tmOf reps) g

structure Ext (tm : Nat → Int) (g : Gh O) (tm' : Nat → Int) (g' : Gh O) : Prop where
  tml : ∀ j, tm j ≤ tm' j
  rc : ∀ T R, g.rc T = some R → ∃ R', g'.rc T = some R' ∧ R'.who = R.who ∧ R'.el = R.el ∧ R.cur <+: R'.cur
  nw : ∀ T R', g'.rc T = some R' → (∃ R, g.rc T = some R) ∨ ∀ (k : Nat) e, R'.cur[k]? = some e → e.1 ≠ T
  vt : ∀ T j x, g.vt T j = some x → g'.vt T j = some x
  ak : ∀ T j, g.ack T j ≤ g'.ack T j
  fz : ∀ T j, T < tm j → g'.ack T j = g.ack T j

/-! ### Beginnings of lists -/
theorem pre_get {α : Type} {a b : List α} (h : a <+: b) {k : Nat} (hk : k < a.length) : b[k]? = a[k]? := by
  obtain ⟨t, rfl⟩ := h
  rw [List.getElem?_append_left hk]

theorem pre_take {α : Type} {a b : List α} (h : a <+: b) {k : Nat} (hk : k ≤ a.length) : b.take k = a.take k := by
  obtain ⟨t, rfl⟩ := h
  rw [List.take_append_of_le_length hk]

theorem take_lt {α : Type} {a b : List α} {k : Nat} (h : a.take k = b.take k) (hb : k ≤ b.length) : k ≤ a.length := by
  have := congrArg List.length h
  simp only [List.length_take] at this
  omega

theorem take_le {α : Type} {a b : List α} {k m : Nat} (h : a.take k = b.take k) (hm : m ≤ k) : a.take m = b.take m := by
  have := congrArg (List.take m) h
  rwa [List.take_take, List.take_take, Nat.min_eq_left hm] at this

theorem take_get {α : Type} {a b : List α} {k m : Nat} (h : a.take k = b.take k) (hm : m < k) : a[m]? = b[m]? := by
  have := congrArg (fun l => l[m]?) h
  simpa only [List.getElem?_take_of_lt hm] using this

theorem Has.lt {g : Gh O} {T : Int} {k : Nat} {L : Log O} (h : Has g T k L) : k < L.length := by
  obtain ⟨R, _, hk, e⟩ := h
  have := take_lt e (by omega)
  omega

theorem Cov.le {n : Nat} {g : Gh O} {T : Int} {L : Log O} {c : Nat} (h : Cov n g T L c) : c ≤ L.length := by
  rcases h with rfl | ⟨T', k, R, _, ⟨⟨R1, e, h1, h2, _⟩, _⟩, hc, hr, he⟩
  · omega
  · rw [h1] at hr; cases hr
    have := (List.getElem?_eq_some_iff.1 h2).1
    exact take_lt he (by omega)

theorem Cov.down {n : Nat} {g : Gh O} {T : Int} {L : Log O} {c d : Nat} (h : Cov n g T L c) (hd : d ≤ c) : Cov n g T L d := by
  rcases h with rfl | ⟨T', k, R, h1, h2, h3, h4, h5⟩
  · exact .inl (by omega)
  · exact .inr ⟨T', k, R, h1, h2, by omega, h4, take_le h5 hd⟩

theorem Cov.term {n : Nat} {g : Gh O} {T U : Int} {L : Log O} {c : Nat} (h : Cov n g T L c) (hd : T ≤ U) : Cov n g U L c := by
  rcases h with rfl | ⟨T', k, R, h1, h2, h3, h4, h5⟩
  · exact .inl rfl
  · exact .inr ⟨T', k, R, by omega, h2, h3, h4, h5⟩

theorem Cov.log {n : Nat} {g : Gh O} {T : Int} {L M : Log O} {c : Nat} (h : Cov n g T L c) (hd : M.take c = L.take c) : Cov n g T M c := by
  rcases h with rfl | ⟨T', k, R, h1, h2, h3, h4, h5⟩
  · exact .inl rfl
  · exact .inr ⟨T', k, R, h1, h2, h3, h4, by rw [hd, h5]⟩

/-! ### What stays -/

section
variable {n : Nat} {tm tm' : Nat → Int} {g g' : Gh O} (X : Ext tm g tm' g')
include X
theorem Own.mono {T : Int} {k : Nat} (h : Own g T k) : Own g' T k := by
  obtain ⟨R, e, h1, h2, h3⟩ := h
  obtain ⟨R', h4, _, _, h5⟩ := X.rc T R h1
  exact ⟨R', e, h4, by rw [pre_get h5 (List.getElem?_eq_some_iff.1 h2).1, h2], h3⟩

theorem Own.back {T : Int} {k : Nat} (ha : AckOK tm g) (h : Own g' T k) : Own g T k ∨ ∀ j, g.ack T j ≤ k := by
  obtain ⟨R', e, h1, h2, h3⟩ := h
  rcases X.nw T R' h1 with ⟨R, hR⟩ | h4
  · obtain ⟨R'', h5, _, _, h6⟩ := X.rc T R hR
    rw [h1] at h5; cases h5
    rcases Nat.lt_or_ge k R.cur.length with hlt | hge
    · exact .inl ⟨R, e, hR, by rw [← pre_get h6 hlt, h2], h3⟩
    · right
      intro j
      rcases Nat.eq_zero_or_pos (g.ack T j) with h0 | h0
      · omega
      · obtain ⟨_, R2, h7, h8⟩ := ha T j h0
        rw [hR] at h7; cases h7
        omega
  · exact absurd h3 (h4 k e h2)

theorem Has.mono {T : Int} {k : Nat} {L : Log O} (h : Has g T k L) : Has g' T k L := by
  obtain ⟨R, h1, h2, h3⟩ := h
  obtain ⟨R', h4, _, _, h5⟩ := X.rc T R h1
  exact ⟨R', h4, by have := h5.length_le; omega, by rw [pre_take h5 (by omega), h3]⟩

theorem Dead.mono {T : Int} {k : Nat} (h : Dead n tm g T k) : Dead n tm' g' T k :=
  Maj.mono h fun j _ ⟨h1, h2⟩ => ⟨by have := X.tml j; omega, by rw [X.fz T j h1]; exact h2⟩

theorem logP.mono {L : Log O} (h : logP g L) : logP g' L := fun k e hk => (h k e hk).mono X

theorem Comm.mono {T : Int} {k : Nat} (h : Comm n g T k) : Comm n g' T k :=
  ⟨h.1.mono X, Maj.mono h.2 fun j _ h1 => by have := X.ak T j; omega⟩

theorem Cov.mono {T : Int} {L : Log O} {c : Nat} (h : Cov n g T L c) : Cov n g' T L c := by
  rcases h with rfl | ⟨T', k, R, h1, h2, h3, h4, h5⟩
  · exact .inl rfl
  · obtain ⟨R', h6, _, _, h7⟩ := X.rc T' R h4
    obtain ⟨R1, e, h8, h9, _⟩ := h2.1
    rw [h4] at h8; cases h8
    have := (List.getElem?_eq_some_iff.1 h9).1
    exact .inr ⟨T', k, R', h1, h2.mono X, h3, h6, by rw [pre_take h7 (by omega), h5]⟩

theorem VotOK.mono (ha : AckOK tm g) {U : Int} {i c : Nat} {vl : Log O} (h : VotOK n tm g U i c vl) : VotOK n tm' g' U i c vl where
  hi := h.hi
  hc := h.hc
  hU := h.hU
  ht := by have := h.ht; have := X.tml i; omega
  fr := by obtain ⟨cl, h1, h2⟩ := h.fr; exact ⟨cl, X.vt _ _ _ h1, h2⟩
  lp := h.lp.mono X
  so := h.so
  own := h.own
  ak := by
    intro T k hT ho hk
    rw [X.fz T i (by have := h.ht; omega)] at hk
    rcases ho.back X ha with ho | ho
    · exact (h.ak T k hT ho hk).imp (fun a => a.mono X) (fun a => a.mono X)
    · have := ho i; omega

theorem RecOK.sf_mono (ha : AckOK tm g) (hv : ∀ U i c vl, g.vt U i = some (c, vl) → VotOK n tm g U i c vl) {U : Int} {R : LR O} (h : RecOK n tm g U R) :
    ∀ T k, T < U → Own g' T k → Has g' T k R.el ∨ Dead n tm' g' T k := by
  intro T k hT ho
  rcases ho.back X ha with ho | ho
  · exact (h.sf T k hT ho).imp (fun a => a.mono X) (fun a => a.mono X)
  · right
    refine Maj.mono h.mj fun j _ ⟨vl, hj⟩ => ?_
    have h1 := (hv _ _ _ _ hj).ht
    exact ⟨by have := X.tml j; omega, by rw [X.fz T j (by omega)]; exact ho j⟩

theorem RecOK.mono (ha : AckOK tm g) (hv : ∀ U i c vl, g.vt U i = some (c, vl) → VotOK n tm g U i c vl) {U : Int} {R : LR O} (h : RecOK n tm g U R) : RecOK n tm' g' U R where
  hw := h.hw
  hU := h.hU
  ht := by have := h.ht; have := X.tml R.who; omega
  pre := h.pre
  vt := X.vt _ _ _ h.vt
  mj := Maj.mono h.mj fun j _ ⟨vl, hj⟩ => ⟨vl, X.vt _ _ _ hj⟩
  tms := h.tms
  lp := h.lp.mono X
  sf := h.sf_mono X ha hv

theorem MsgOK.mono {m : Msg O} (h : MsgOK n g m) : MsgOK n g' m where
  k1 hk := by obtain ⟨c, cl, h1, h2, h3⟩ := h.k1 hk; exact ⟨c, cl, h1, X.vt _ _ _ h2, h3⟩
  k2 hk ho := by obtain ⟨i, c, vl, h1, h2, h3⟩ := h.k2 hk ho; exact ⟨i, c, vl, h1, h2, X.vt _ _ _ h3⟩
  k3 hk := by
    obtain ⟨R, h1, h2, h3, h4, h5, h6⟩ := h.k3 hk
    obtain ⟨R', h7, _, _, h8⟩ := X.rc _ R h1
    have hl := h8.length_le
    refine ⟨R', h7, h2, by omega, ?_, ?_, ?_⟩
    · obtain ⟨t, ht⟩ := h8
      rw [← ht, List.drop_append_of_le_length (by omega), List.take_append_of_le_length (by simp; omega), h4]
    · rw [h5]
      unfold ptermAt
      split
      · rw [pre_get h8 (by omega)]
      · rfl
    · exact (h6.mono X).log (pre_take h8 h6.le)
  k4 hk ho := by obtain ⟨i, h1, h2⟩ := h.k4 hk ho; exact ⟨i, h1, by have := X.ak m.term i; omega⟩

end
theorem Ext.same {tm tm' : Nat → Int} {g : Gh O} (h : ∀ j, tm j ≤ tm' j) : Ext tm g tm' g :=
  ⟨h, fun _ R hR => ⟨R, hR, rfl, rfl, List.prefix_refl _⟩, fun _ R hR => .inl ⟨R, hR⟩, fun _ _ _ h => h, fun _ _ => Nat.le_refl _, fun _ _ _ => rfl⟩

theorem tmOf_set {reps : List (Rep O)} {i : Nat} {r r' : Rep O} (hi : reps[i]? = some r) (j : Nat) : tmOf (reps.set i r') j = if j = i then r'.term else tmOf reps j := by
  unfold tmOf
  rw [List.getElem?_set]
  have hlt := (List.getElem?_eq_some_iff.1 hi).1
  by_cases h : i = j
  · subst h; rw [if_pos rfl, if_pos rfl, if_pos hlt]; rfl
  · rw [if_neg h, if_neg (by omega)]

theorem tmOf_eq {reps : List (Rep O)} {i : Nat} {r : Rep O} (hi : reps[i]? = some r) : tmOf reps i = r.term := by
  unfold tmOf; rw [hi]; rfl

theorem tmOf_le {reps : List (Rep O)} {i : Nat} {r r' : Rep O} (hi : reps[i]? = some r) (h : r.term ≤ r'.term) (j : Nat) : tmOf reps j ≤ tmOf (reps.set i r') j := by
  rw [tmOf_set hi]
  split
  · rename_i e; subst e; rw [tmOf_eq hi]; exact h
  · exact Int.le_refl _

/-- One replica becomes another one, and the book goes on. -/
theorem Inv.step {n : Nat} {reps : List (Rep O)} {g : Gh O} (h : Inv n reps g) {i : Nat} {r r' : Rep O} {g' : Gh O} (hi : reps[i]? = some r)
    (X : Ext (tmOf reps) g (tmOf (reps.set i r')) g')
    (hn : NodOK n (tmOf (reps.set i r')) g' i r')
    (ovt : ∀ j, j ≠ i → ∀ T, g'.vt T j = g.vt T j)
    (oak : ∀ j, j ≠ i → ∀ T, g'.ack T j = g.ack T j)
    (orc : ∀ U R, g.rc U = some R → R.who ≠ i → g'.rc U = some R)
    (nrc : ∀ U R, g'.rc U = some R → g.rc U = some R ∨ (R.who = i ∧ RecOK n (tmOf (reps.set i r')) g' U R))
    (nvt : ∀ U c vl, g'.vt U i = some (c, vl) → g.vt U i = some (c, vl) ∨ VotOK n (tmOf (reps.set i r')) g' U i c vl)
    (ak : AckOK (tmOf (reps.set i r')) g') : Inv n (reps.set i r') g' where
  len := by rw [List.length_set, h.len]
  nod := by
    intro j x hj
    rw [List.getElem?_set] at hj
    have hlt := (List.getElem?_eq_some_iff.1 hi).1
    by_cases hij : i = j
    · subst hij
      rw [if_pos rfl, if_pos hlt] at hj
      cases hj
      exact hn
    · rw [if_neg hij] at hj
      have hji : j ≠ i := fun e => hij e.symm
      have hx := h.nod j x hj
      refine ⟨hx.id, hx.chk, ?_, hx.lp.mono X, ?_, ?_, ?_, hx.cv.mono X, ?_, ?_⟩
      · rw [tmOf_set hi, if_neg hji]; exact hx.tme
      · intro T k ho hk
        rw [oak j hji] at hk
        rcases ho.back X h.ack with ho | ho
        · exact (hx.ak T k ho hk).imp (fun a => a.mono X) (fun a => a.mono X)
        · have := ho j; omega
      · rw [ovt j hji]; exact hx.v0
      · rw [ovt j hji]; exact hx.v1
      · intro hr
        obtain ⟨h1, h2, h3⟩ := hx.cd hr
        refine ⟨X.vt _ _ _ h1, ?_, ?_⟩
        · intro R hR
          rcases nrc _ R hR with hR | ⟨hR, _⟩
          · exact h2 R hR
          · omega
        · intro k hk
          obtain ⟨vl, hv⟩ := h3 k hk
          exact ⟨vl, X.vt _ _ _ hv⟩
      · intro hr
        obtain ⟨R, h1, h2, h3, h4⟩ := hx.ld hr
        refine ⟨R, orc _ R h1 (by omega), h2, h3, fun k p hk => ?_⟩
        have := h4 k p hk
        have := X.ak x.term k
        omega
  vot := by
    intro U j c vl hv
    by_cases hji : j = i
    · subst hji
      rcases nvt U c vl hv with hv | hv
      · exact (h.vot U j c vl hv).mono X h.ack
      · exact hv
    · rw [ovt j hji] at hv
      exact (h.vot U j c vl hv).mono X h.ack
  rcd := by
    intro U R hR
    rcases nrc U R hR with hR | ⟨_, hR⟩
    · exact (h.rcd U R hR).mono X h.ack h.vot
    · exact hR
  ack := ak

/-- A step that writes nothing into the book. -/
theorem Inv.step0 {n : Nat} {reps : List (Rep O)} {g : Gh O} (h : Inv n reps g) {i : Nat} {r r' : Rep O} (hi : reps[i]? = some r) (ht : r.term ≤ r'.term)
    (hn : NodOK n (tmOf (reps.set i r')) g i r') : Inv n (reps.set i r') g := by
  have X : Ext (tmOf reps) g (tmOf (reps.set i r')) g := Ext.same (tmOf_le hi ht)
  refine h.step hi X hn (fun _ _ _ => rfl) (fun _ _ _ => rfl) (fun _ _ h _ => h) (fun _ _ h => .inl h) (fun _ _ _ h => .inl h) ?_
  intro T j hj
  obtain ⟨h1, h2⟩ := h.ack T j hj
  exact ⟨by have := tmOf_le hi ht j; omega, h2⟩

end Go.Raft

namespace Go.Raft
variable {O : Type}
theorem set_same {α : Type} {l : List α} {i : Nat} {x : α} (h : l[i]? = some x) : l.set i x = l := by
  apply List.ext_getElem?
  intro j
  rw [List.getElem?_set]
  split
  · rename_i e; subst e
    rw [if_pos (List.getElem?_eq_some_iff.1 h).1, h]
  · rfl

/-- A step: the new book, what was right stays right, and the new messages are right. -/
def Step (n : Nat) (g : Gh O) (reps' : List (Rep O)) (new : List (Msg O)) : Prop :=
  ∃ g', Inv n reps' g' ∧ (∀ x, MsgOK n g x → MsgOK n g' x) ∧ ∀ x ∈ new, MsgOK n g' x

theorem Inv.refl {n : Nat} {reps : List (Rep O)} {g : Gh O} (h : Inv n reps g) : Step n g reps [] := ⟨g, h, fun _ h => h, fun _ h => by cases h⟩

section
variable {n : Nat} {reps : List (Rep O)} {g : Gh O} (h : Inv n reps g) {i : Nat} {r : Rep O} (hi : reps[i]? = some r)
include h hi
theorem Inv.lt : i < n := by rw [← h.len]; exact (List.getElem?_eq_some_iff.1 hi).1

theorem Inv.fol {t : Int} (ht : t ≤ 1048576) : Inv n (reps.set i (fol r t)) g := by
  have hn := h.nod i r hi
  have hc := chk_follow hn.chk ht
  unfold Raft.fol at hc ⊢
  split
  · rename_i hgt
    rw [if_pos hgt] at hc
    refine h.step0 hi (by simp; omega) ⟨hn.id, hc, ?_, hn.lp, ?_, fun _ => rfl, ?_, hn.cv.term (by simp; omega), fun hr => by simp at hr, fun hr => by simp at hr⟩
    · rw [tmOf_set hi, if_pos rfl]
    · intro T k ho hk
      exact (hn.ak T k ho hk).imp id (fun a => a.mono (Ext.same (tmOf_le hi (by simp; omega))))
    · intro c vl hv
      have := (h.vot _ _ _ _ hv).ht
      rw [hn.tme] at this
      simp at this; omega
  · rw [set_same hi]; exact h

theorem Inv.back {t : Int} (ht : t ≤ 1048576) : Inv n (reps.set i (back r t)) g := by
  have hb := chk_back (h.nod i r hi).chk ht
  have h1 := h.fol hi ht
  have hi1 : (reps.set i (Raft.fol r t))[i]? = some (Raft.fol r t) := List.getElem?_set_self (List.getElem?_eq_some_iff.1 hi).1
  have hn := h1.nod i _ hi1
  have h2 : ∀ y : Rep O, y = Raft.back r t → Inv n ((reps.set i (Raft.fol r t)).set i y) g := by
    intro y hy
    have hc : Chk n y := hy ▸ hb
    unfold Raft.back at hy
    simp only at hy
    split at hy
    · subst hy
      refine h1.step0 hi1 (by simp) ⟨hn.id, hc, ?_, hn.lp, ?_, hn.v0, hn.v1, hn.cv, fun hr => by simp at hr, fun hr => by simp at hr⟩
      · rw [tmOf_set hi1, if_pos rfl]
      · intro T k ho hk
        exact (hn.ak T k ho hk).imp id (fun a => a.mono (Ext.same (tmOf_le hi1 (by simp))))
    · subst hy
      rw [set_same hi1]; exact h1
  have := h2 _ rfl
  rwa [List.set_set] at this

end
/-! ### Votes -/
def Gh.cast (g : Gh O) (U : Int) (i c : Nat) (L : Log O) : Gh O := ⟨g.rc, fun V j => if V = U ∧ j = i then some (c, L) else g.vt V j, g.ack⟩

theorem cast_vt {g : Gh O} {U : Int} {i c : Nat} {L : Log O} : (g.cast U i c L).vt U i = some (c, L) := if_pos ⟨rfl, rfl⟩

theorem Ext.cast {tm tm' : Nat → Int} {g : Gh O} {U : Int} {i c : Nat} {L : Log O} (ht : ∀ j, tm j ≤ tm' j) (hv : g.vt U i = none) : Ext tm g tm' (g.cast U i c L) where
  tml := ht
  rc _ R hR := ⟨R, hR, rfl, rfl, List.prefix_refl _⟩
  nw _ R hR := .inl ⟨R, hR⟩
  vt T j x hx := by
    unfold Gh.cast
    simp only
    split
    · rename_i e; rw [e.1, e.2, hv] at hx; cases hx
    · exact hx
  ak _ _ := Nat.le_refl _
  fz _ _ _ := rfl

theorem upto_refl (a : Log O) : upto a a := .inr ⟨rfl, Nat.le_refl _⟩

section
variable {n : Nat} {reps : List (Rep O)} {g : Gh O} (h : Inv n reps g) {i : Nat} {r : Rep O} (hi : reps[i]? = some r)
include h hi
theorem Inv.ackmono {r' : Rep O} (ht : r.term ≤ r'.term) {U : Int} {c : Nat} {L : Log O} : AckOK (tmOf (reps.set i r')) (g.cast U i c L) := by
  intro T j hj
  obtain ⟨h1, h2⟩ := h.ack T j hj
  exact ⟨by have := tmOf_le hi ht j; omega, h2⟩

/-- A replica becomes a candidate. -/
theorem Inv.cand (ht : r.term ≠ 1048576) : Step n g (reps.set i (cand n r)) (asks n r) := by
  have hn := h.nod i r hi
  have hcand := chk_cand hn.chk ht
  have hnone : g.vt (r.term + 1) i = none := by
    cases hv : g.vt (r.term + 1) i with
    | none => rfl
    | some x => have := (h.vot _ _ _ _ hv).ht; rw [hn.tme] at this; omega
  have hle : r.term ≤ (Raft.cand (n : Int) r).term := by simp [Raft.cand]; omega
  have X : Ext (tmOf reps) g (tmOf (reps.set i (Raft.cand n r))) (g.cast (r.term + 1) i i r.log) := Ext.cast (tmOf_le hi hle) hnone
  have htm : tmOf (reps.set i (Raft.cand (n : Int) r)) i = r.term + 1 := by rw [tmOf_set hi, if_pos rfl]; rfl
  refine ⟨g.cast (r.term + 1) i i r.log, ?_, fun x hx => hx.mono X, ?_⟩
  · refine h.step hi X ⟨hn.id, hcand, ?_, hn.lp.mono X, ?_, ?_, ?_, (hn.cv.term hle).mono X, ?_, ?_⟩ ?_ (fun _ _ _ => rfl) (fun _ _ h _ => h) (fun _ _ h => .inl h) ?_ (h.ackmono hi hle)
    · rw [htm]; rfl
    · intro T k ho hk
      have ho : Own g T k := ho
      exact (hn.ak T k ho hk).imp (fun a => a.mono X) (fun a => a.mono X)
    · intro hv
      rw [show (Raft.cand (n : Int) r).term = r.term + 1 from rfl, cast_vt] at hv
      cases hv
    · intro c vl hv
      rw [show (Raft.cand (n : Int) r).term = r.term + 1 from rfl, cast_vt] at hv
      cases hv
      exact hn.id
    · intro _
      refine ⟨cast_vt, ?_, ?_⟩
      · intro R hR hw
        have hR : g.rc (r.term + 1) = some R := hR
        have := (h.rcd _ R hR).ht
        rw [hw, hn.tme] at this
        omega
      · intro j hj
        simp only [Raft.cand, rp_votes, hn.id] at hj
        rw [List.getElem?_set] at hj
        by_cases e : (i : Int).toNat = j
        · have : j = i := by omega
          subst this
          exact ⟨_, cast_vt⟩
        · rw [if_neg e] at hj
          have := List.mem_of_getElem? hj
          have := List.eq_of_mem_replicate this
          cases this
    · intro hr; simp [Raft.cand] at hr
    · intro j hj T
      unfold Gh.cast
      simp only
      rw [if_neg (fun e => hj e.2)]
    · intro U c vl hv
      by_cases hU : U = r.term + 1
      · subst hU
        rw [cast_vt] at hv
        cases hv
        right
        refine ⟨h.lt hi, h.lt hi, by have := hn.chk.t0; omega, by rw [htm]; exact Int.le_refl _, ⟨r.log, cast_vt, upto_refl _⟩, hn.lp.mono X, ⟨_, hn.chk.so⟩, ?_, ?_⟩
        · intro _ e he
          have := ((srt_iff.1 hn.chk.so).1 e he).2
          omega
        · intro T k _ ho hk
          have ho : Own g T k := ho
          exact (hn.ak T k ho hk).imp (fun a => a.mono X) (fun a => a.mono X)
      · left
        unfold Gh.cast at hv
        simp only at hv
        rwa [if_neg (fun e => hU e.1)] at hv
  · intro x hx
    simp only [asks, List.mem_map, List.mem_filter] at hx
    obtain ⟨j, _, rfl⟩ := hx
    exact ⟨fun _ => ⟨i, r.log, hn.id, cast_vt, rfl, rfl⟩, fun hk => by simp at hk, fun hk => by simp at hk, fun hk => by simp at hk⟩

/-- A replica votes. -/
theorem Inv.vote {m : Msg O} (hm : MsgOK n g m) (hk : m.kind = 1) (ht : r.term = m.term) (h1 : 1 ≤ m.term) (hv : r.voted = -1) (hr : r.role = 0) (hf : fresh r.log m.prev m.pterm = true) :
    ∃ (c : Nat) (vl : Log O), m.frm = (c : Int) ∧ ∃ g', Inv n (reps.set i (vote r m.frm)) g' ∧ (∀ x, MsgOK n g x → MsgOK n g' x) ∧ g'.vt m.term i = some (c, vl) := by
  have hn := h.nod i r hi
  obtain ⟨c, cl, hc, hcl, hp, hpt⟩ := hm.k1 hk
  have hcv := h.vot _ _ _ _ hcl
  have hnone : g.vt r.term i = none := by
    cases hq : g.vt r.term i with
    | none => rfl
    | some x => have := hn.v1 _ _ hq; omega
  have hle : r.term ≤ (Raft.vote r m.frm).term := by simp [Raft.vote]
  have X : Ext (tmOf reps) g (tmOf (reps.set i (Raft.vote r m.frm))) (g.cast r.term i c r.log) := Ext.cast (tmOf_le hi hle) hnone
  have htm : tmOf (reps.set i (Raft.vote r m.frm)) i = r.term := by rw [tmOf_set hi, if_pos rfl]; rfl
  have hup : upto cl r.log := by
    simp only [fresh, Bool.or_eq_true, Bool.and_eq_true, decide_eq_true_eq, hp, hpt] at hf
    rcases hf with hf | ⟨hf1, hf2⟩
    · exact .inl hf
    · exact .inr ⟨hf1.symm, by omega⟩
  have hic : i ≠ c := by
    intro e; subst e
    rw [← ht, hnone] at hcl; cases hcl
  refine ⟨c, r.log, hc, g.cast r.term i c r.log, ?_, fun x hx => hx.mono X, by rw [← ht]; exact cast_vt⟩
  have hcc : Chk n (Raft.vote r m.frm) := chk_vote hn.chk (by omega) (by have := hcv.hc; omega)
  refine h.step hi X ⟨hn.id, hcc, htm, hn.lp.mono X, ?_, ?_, ?_, hn.cv.mono X, ?_, ?_⟩ ?_ (fun _ _ _ => rfl) (fun _ _ h _ => h) (fun _ _ h => .inl h) ?_ (h.ackmono hi hle)
  · intro T k ho hk
    have ho : Own g T k := ho
    exact (hn.ak T k ho hk).imp (fun a => a.mono X) (fun a => a.mono X)
  · intro hv
    rw [show (Raft.vote r m.frm).term = r.term from rfl, cast_vt] at hv
    cases hv
  · intro c' vl hv
    rw [show (Raft.vote r m.frm).term = r.term from rfl, cast_vt] at hv
    cases hv
    exact hc
  · intro hr'; simp [Raft.vote] at hr'; omega
  · intro hr'; simp [Raft.vote] at hr'; omega
  · intro j hj T
    unfold Gh.cast
    simp only
    rw [if_neg (fun e => hj e.2)]
  · intro U c' vl hv
    by_cases hU : U = r.term
    · subst hU
      rw [cast_vt] at hv
      cases hv
      right
      refine ⟨h.lt hi, hcv.hc, by omega, by rw [htm]; exact Int.le_refl _, ⟨cl, X.vt _ _ _ (ht ▸ hcl), hup⟩, hn.lp.mono X, ⟨_, hn.chk.so⟩, fun e => absurd e hic, ?_⟩
      intro T k _ ho hk
      have ho : Own g T k := ho
      exact (hn.ak T k ho hk).imp (fun a => a.mono X) (fun a => a.mono X)
    · left
      unfold Gh.cast at hv
      simp only at hv
      rwa [if_neg (fun e => hU e.1)] at hv

end
section
variable {n : Nat} {reps : List (Rep O)} {g : Gh O} (h : Inv n reps g) {i : Nat} {r : Rep O} (hi : reps[i]? = some r)
include h hi
/-- What a replica makes of a candidate's message. -/
theorem Inv.hear {m : Msg O} (hm : MsgOK n g m) (ho : toOK n r m 1 = true) : Step n g (reps.set i (hearR r m)) [hearM r m] := by
  obtain ⟨_, hk, hto, _, _, _, ht1, ht2⟩ := toOK_iff.1 ho
  have h1 := h.fol hi ht2
  have hi1 : (reps.set i (Raft.fol r m.term))[i]? = some (Raft.fol r m.term) := List.getElem?_set_self (List.getElem?_eq_some_iff.1 hi).1
  have hn := h1.nod i _ hi1
  have hid : r.id = (i : Int) := (h.nod i r hi).id
  by_cases hy : hearYes (Raft.fol r m.term) m = true
  · have e : hearR r m = Raft.vote (Raft.fol r m.term) m.frm := by unfold hearR; simp only; rw [if_pos hy]
    have e2 : hearM r m = mg 2 r.id m.frm (Raft.fol r m.term).term 0 0 0 [] true := by unfold hearM; simp only; rw [hy]
    rw [e, e2]
    simp only [hearYes, Bool.and_eq_true, Bool.or_eq_true, decide_eq_true_eq] at hy
    obtain ⟨⟨⟨hy1, hy2⟩, hy3⟩, hy4⟩ := hy
    rw [show reps.set i (Raft.vote (Raft.fol r m.term) m.frm) = (reps.set i (Raft.fol r m.term)).set i (Raft.vote (Raft.fol r m.term) m.frm) by rw [List.set_set]]
    have fin : ∀ {g' : Gh O} {c : Nat} {vl : Log O}, m.frm = (c : Int) → g'.vt m.term i = some (c, vl) → ∀ x ∈ [mg 2 r.id m.frm (Raft.fol r m.term).term 0 0 0 ([] : Log O) true], MsgOK n g' x := by
      intro g' c vl hc hv x hx
      simp at hx
      subst hx
      refine ⟨fun hk => by simp at hk, fun _ _ => ⟨i, c, vl, hid, hc, ?_⟩, fun hk => by simp at hk, fun hk => by simp at hk⟩
      simp only [mg_term]; rw [hy1]; exact hv
    by_cases hv : (Raft.fol r m.term).voted = -1
    · obtain ⟨c, vl, hc, g', a, b, d⟩ := h1.vote hi1 hm hk hy1 ht1 hv hy3 hy4
      exact ⟨g', a, b, fin hc d⟩
    · have hvf : (Raft.fol r m.term).voted = m.frm := hy2.resolve_left hv
      have e3 : Raft.vote (Raft.fol r m.term) m.frm = Raft.fol r m.term := by rw [← hvf]; rfl
      rw [e3, set_same hi1]
      cases hq : g.vt (Raft.fol r m.term).term i with
      | none => exact absurd (hn.v0 hq) hv
      | some x =>
        obtain ⟨c, vl⟩ := x
        have hc := hn.v1 c vl hq
        exact ⟨g, h1, fun _ h => h, fin (by rw [← hvf]; exact hc) (by rw [← hy1]; exact hq)⟩
  · have hy : hearYes (Raft.fol r m.term) m = false := by simpa using hy
    have e : hearR r m = Raft.fol r m.term := by unfold hearR; simp only; rw [if_neg (by rw [hy]; simp)]
    have e2 : hearM r m = mg 2 r.id m.frm (Raft.fol r m.term).term 0 0 0 [] false := by unfold hearM; simp only; rw [hy]
    rw [e, e2]
    refine ⟨g, h1, fun _ h => h, fun x hx => ?_⟩
    simp at hx
    subst hx
    exact ⟨fun hk => by simp at hk, fun _ ho => by simp at ho, fun hk => by simp at hk, fun hk => by simp at hk⟩

end
/-! ### Elections -/
def Gh.lead (g : Gh O) (U : Int) (i : Nat) (R : LR O) : Gh O := ⟨fun T => if T = U then some R else g.rc T, g.vt, fun T j => if T = U ∧ j = i then R.cur.length else g.ack T j⟩

theorem countP_range {α : Type} (p : α → Bool) : ∀ l : List α, (List.range l.length).countP (fun j => (l[j]?).any p) = l.countP p := by
  intro l
  induction l with
  | nil => rfl
  | cons a l ih =>
    rw [List.length_cons, List.range_succ_eq_map, List.countP_cons, List.countP_map, List.countP_cons, ← ih]
    congr 1

theorem maj_of {n : Nat} {α : Type} {l : List α} (hl : l.length = n) (p : α → Bool) (P : Nat → Prop) (hp : ∀ j a, l[j]? = some a → p a = true → P j) (hc : ((l.countP p : Nat) : Int) ≥ (n : Int) / 2 + 1) : Maj n P := by
  refine ⟨fun j => (l[j]?).any p, fun j _ hj => ?_, ?_⟩
  · have hj : (l[j]?).any p = true := hj
    cases hq : l[j]? with
    | none => rw [hq] at hj; cases hj
    | some a => rw [hq] at hj; exact hp j a hq hj
  · rw [← hl, countP_range p l, hl]; omega

theorem sf_elect {n : Nat} {reps : List (Rep O)} {g : Gh O} (h : Inv n reps g) {U : Int} {i : Nat} {L : Log O} (hvi : g.vt U i = some (i, L)) (hmj : Maj n (fun j => ∃ vl, g.vt U j = some (i, vl))) :
    ∀ T k, T < U → Own g T k → Has g T k L ∨ Dead n (tmOf reps) g T k := by
  intro T k hT ho
  by_cases hd : Dead n (tmOf reps) g T k
  · exact .inr hd
  left
  have hex : ∃ j vl, g.vt U j = some (i, vl) ∧ k < g.ack T j := by
    apply Classical.byContradiction
    intro hno
    apply hd
    refine Maj.mono hmj fun j _ ⟨vl, hj⟩ => ⟨by have := (h.vot _ _ _ _ hj).ht; omega, ?_⟩
    rcases Nat.lt_or_ge k (g.ack T j) with hlt | hge
    · exact absurd ⟨j, vl, hj, hlt⟩ hno
    · exact hge
  obtain ⟨j, vl, hj, hk⟩ := hex
  have hv := h.vot _ _ _ _ hj
  have hhas := (hv.ak T k hT ho hk).resolve_right hd
  obtain ⟨cl, hcl, hup⟩ := hv.fr
  rw [hvi] at hcl; cases hcl
  obtain ⟨top, hso⟩ := hv.so
  obtain ⟨R, hR, hkR, htk⟩ := hhas
  obtain ⟨R1, e, hR1, hek, heT⟩ := ho
  rw [hR] at hR1; cases hR1
  have hvk : vl[k]? = some e := by rw [take_get htk (by omega), hek]
  have hTl : T ≤ lastT vl := by rw [← heT]; exact le_lastT hso hvk
  have hT1 := (h.rcd T R hR).hU
  have hvown := (h.vot _ _ _ _ hvi)
  have hne : L ≠ [] := by
    intro e0; subst e0
    rcases hup with hup | ⟨hup, _⟩ <;> rw [lastT_nil] at hup <;> omega
  have hlen : 0 < L.length := List.length_pos_iff.2 hne
  have hx : L[L.length - 1]? = some (L[L.length - 1]'(by omega)) := List.getElem?_eq_getElem _
  generalize L[L.length - 1]'(by omega) = x at hx
  have hW : lastT L = x.1 := lastT_get hx (by omega)
  have hxU : x.1 < U := hvown.own rfl x (List.mem_of_getElem? hx)
  obtain ⟨RW, hRW, hRWl, hRWt⟩ := hvown.lp _ _ hx
  rw [show L.length - 1 + 1 = L.length by omega] at hRWt
  have hle : lastT vl ≤ lastT L := by rcases hup with hup | ⟨hup, _⟩ <;> omega
  rcases Int.lt_or_le T x.1 with hlt | hge
  · obtain ⟨R2, hR2, hk2, ht2⟩ := ((h.rcd _ RW hRW).sf T k hlt ⟨R, e, hR, hek, heT⟩).resolve_right hd
    rw [hR] at hR2; cases hR2
    have hkel := take_lt ht2 (by omega)
    have hcx : RW.cur[L.length - 1]? = some x := by rw [← take_get hRWt (by omega), hx]
    have htms := (h.rcd _ RW hRW).tms _ _ hcx
    have hge : RW.el.length ≤ L.length - 1 := by
      rcases Nat.lt_or_ge (L.length - 1) RW.el.length with hq | hq
      · rw [if_pos hq] at htms; omega
      · exact hq
    refine ⟨R, hR, hk2, ?_⟩
    rw [take_le hRWt (show k + 1 ≤ L.length by omega), pre_take (h.rcd _ RW hRW).pre hkel, ht2]
  · have hxT : x.1 = T := by omega
    have hlv : lastT vl = lastT L := by omega
    have hll : vl.length ≤ L.length := by rcases hup with hup | ⟨_, hup⟩; · omega
                                          · exact hup
    have hkv := (List.getElem?_eq_some_iff.1 hvk).1
    rw [hxT, hR] at hRW; cases hRW
    exact ⟨R, hR, hkR, take_le hRWt (by omega)⟩

section
variable {n : Nat} {reps : List (Rep O)} {g : Gh O} (h : Inv n reps g) {i : Nat} {r : Rep O} (hi : reps[i]? = some r)
include h hi
theorem Inv.lead (hr : r.role = 1) (hy : yes r.votes ≥ quorum n) : Step n g (reps.set i (lead n r)) [] := by
  have hn := h.nod i r hi
  obtain ⟨hvi, hno, hvotes⟩ := hn.cd hr
  have hvl : r.votes.length = n := by have := ((role1_iff hr).1 hn.chk.ro).1; omega
  have hmj : Maj n (fun j => ∃ vl, g.vt r.term j = some (i, vl)) := by
    refine maj_of hvl (· == true) _ (fun j a hj ha => hvotes j ?_) ?_
    · rw [hj]; simp at ha; rw [ha]
    · rw [quorum_eq hn.chk.n1 hn.chk.n5] at hy; exact hy
  have hnone : g.rc r.term = none := by
    cases hR : g.rc r.term with
    | none => rfl
    | some R =>
      obtain ⟨j, _, ⟨vl, h1⟩, ⟨vl', h2⟩⟩ := (h.rcd _ R hR).mj.both hmj
      rw [h1] at h2
      have := hno R hR
      simp at h2; omega
  have hack0 : ∀ j, g.ack r.term j = 0 := by
    intro j
    rcases Nat.eq_zero_or_pos (g.ack r.term j) with h0 | h0
    · exact h0
    · obtain ⟨_, R, hR, _⟩ := h.ack _ _ h0
      rw [hnone] at hR; cases hR
  have hvv := h.vot _ _ _ _ hvi
  have hown := hvv.own rfl
  have hterm : (Raft.lead (n : Int) r).term = r.term := rfl
  have hle : r.term ≤ (Raft.lead (n : Int) r).term := Int.le_refl _
  have htm : tmOf (reps.set i (Raft.lead (n : Int) r)) i = r.term := by rw [tmOf_set hi, if_pos rfl]; rfl
  have hrc' : (g.lead r.term i ⟨i, r.log, r.log⟩).rc r.term = some ⟨i, r.log, r.log⟩ := if_pos rfl
  have hrcn : ∀ {T : Int}, T ≠ r.term → (g.lead r.term i ⟨i, r.log, r.log⟩).rc T = g.rc T := fun hT => if_neg hT
  have hackn : ∀ {T : Int} {j : Nat}, ¬ (T = r.term ∧ j = i) → (g.lead r.term i ⟨i, r.log, r.log⟩).ack T j = g.ack T j := fun hT => if_neg hT
  have hacki : (g.lead r.term i ⟨i, r.log, r.log⟩).ack r.term i = r.log.length := if_pos ⟨rfl, rfl⟩
  have hnown : ∀ k, ¬ Own (g.lead r.term i ⟨i, r.log, r.log⟩) r.term k := by
    rintro k ⟨R, e, h1, h2, h3⟩
    rw [hrc'] at h1; cases h1
    have := hown e (List.mem_of_getElem? h2)
    omega
  have hown' : ∀ {T : Int} {k : Nat}, Own (g.lead r.term i ⟨i, r.log, r.log⟩) T k → T ≠ r.term ∧ Own g T k := by
    intro T k ho
    have hT : T ≠ r.term := fun e => hnown k (e ▸ ho)
    obtain ⟨R, e, h1, h2, h3⟩ := ho
    rw [hrcn hT] at h1
    exact ⟨hT, R, e, h1, h2, h3⟩
  have X : Ext (tmOf reps) g (tmOf (reps.set i (Raft.lead n r))) (g.lead r.term i ⟨i, r.log, r.log⟩) := by
    refine ⟨tmOf_le hi hle, ?_, ?_, fun _ _ _ h => h, ?_, ?_⟩
    · intro T R hR
      have hT : T ≠ r.term := fun e => by rw [e, hnone] at hR; cases hR
      exact ⟨R, by rw [hrcn hT]; exact hR, rfl, rfl, List.prefix_refl _⟩
    · intro T R' hR
      by_cases hT : T = r.term
      · subst hT
        right
        intro k e he
        rw [hrc'] at hR; cases hR
        have := hown e (List.mem_of_getElem? he)
        omega
      · rw [hrcn hT] at hR; exact .inl ⟨R', hR⟩
    · intro T j
      by_cases hT : T = r.term ∧ j = i
      · rw [hT.1, hack0]; exact Nat.zero_le _
      · rw [hackn hT]; exact Nat.le_refl _
    · intro T j hlt
      refine hackn fun e => ?_
      rw [e.1, e.2, hn.tme] at hlt; omega
  refine ⟨g.lead r.term i ⟨i, r.log, r.log⟩, ?_, fun x hx => hx.mono X, fun x hx => by cases hx⟩
  refine h.step hi X ⟨hn.id, chk_lead hn.chk hr, htm, hn.lp.mono X, ?_, hn.v0, hn.v1, hn.cv.mono X, fun h2 => by simp [Raft.lead] at h2, ?_⟩ (fun _ _ _ => rfl) ?_ ?_ ?_ (fun _ _ _ h => .inl h) ?_
  · intro T k ho hk
    obtain ⟨hT, ho⟩ := hown' ho
    rw [hackn (fun e => hT e.1)] at hk
    exact (hn.ak T k ho hk).imp (fun a => a.mono X) (fun a => a.mono X)
  · intro _
    refine ⟨_, hrc', rfl, rfl, ?_⟩
    intro j p hp
    simp only [Raft.lead, rp_mtch, hn.id] at hp
    rw [List.getElem?_set] at hp
    by_cases e : (i : Int).toNat = j
    · have : j = i := by omega
      subst this
      rw [if_pos e] at hp
      split at hp
      · cases hp
        rw [hterm, hacki]; simp
      · cases hp
    · rw [if_neg e] at hp
      have := List.eq_of_mem_replicate (List.mem_of_getElem? hp)
      subst this
      simp
  · intro j hj T
    exact hackn fun e => hj e.2
  · intro U R hR _
    have hT : U ≠ r.term := fun e => by rw [e, hnone] at hR; cases hR
    rw [hrcn hT]; exact hR
  · intro U R hR
    by_cases hT : U = r.term
    · subst hT
      rw [hrc'] at hR; cases hR
      right
      refine ⟨rfl, h.lt hi, hvv.hU, by rw [htm]; exact Int.le_refl _, List.prefix_refl _, hvi, hmj, ?_, hn.lp.mono X, ?_⟩
      · intro k e he
        rw [if_pos (List.getElem?_eq_some_iff.1 he).1]
        exact hown e (List.mem_of_getElem? he)
      · intro T k hT ho
        obtain ⟨_, ho⟩ := hown' ho
        exact (sf_elect h hvi hmj T k hT ho).imp (fun a => a.mono X) (fun a => a.mono X)
    · left; rw [hrcn hT] at hR; exact hR
  · intro T j hj
    by_cases hT : T = r.term ∧ j = i
    · rw [hT.1, hT.2, htm, hacki]
      exact ⟨Int.le_refl _, _, hrc', Nat.le_refl _⟩
    · rw [hackn hT] at hj ⊢
      obtain ⟨h1, R, h2, h3⟩ := h.ack T j hj
      refine ⟨by have := tmOf_le hi hle j; omega, R, ?_, h3⟩
      have hT' : T ≠ r.term := fun e => by rw [e, hnone] at h2; cases h2
      rw [hrcn hT']; exact h2

end
end Go.Raft

namespace Go.Raft
variable {O : Type}
def Gh.grow (g : Gh O) (U : Int) (i : Nat) (R : LR O) (k : Nat) : Gh O := ⟨fun T => if T = U then some R else g.rc T, g.vt, fun T j => if T = U ∧ j = i then max (g.ack T j) k else g.ack T j⟩

/-- A book in which a leader's log has grown, and a replica holds more of it. -/
theorem Ext.grow {n : Nat} {reps : List (Rep O)} {g : Gh O} (h : Inv n reps g) {i : Nat} {r r' : Rep O} (hi : reps[i]? = some r) (ht : r'.term = r.term) {R R' : LR O} (hR : g.rc r.term = some R) (hw : R'.who = R.who) (he : R'.el = R.el) (hp : R.cur <+: R'.cur) (k : Nat) :
    Ext (tmOf reps) g (tmOf (reps.set i r')) (g.grow r.term i R' k) := by
  refine ⟨tmOf_le hi (by omega), ?_, ?_, fun _ _ _ h => h, ?_, ?_⟩
  · intro T R1 h1
    by_cases hT : T = r.term
    · subst hT
      rw [hR] at h1; cases h1
      exact ⟨R', if_pos rfl, hw, he, hp⟩
    · exact ⟨R1, by rw [← h1]; exact if_neg hT, rfl, rfl, List.prefix_refl _⟩
  · intro T R1 h1
    by_cases hT : T = r.term
    · exact .inl ⟨R, hT ▸ hR⟩
    · exact .inl ⟨R1, by rw [← h1]; exact (if_neg hT).symm⟩
  · intro T j
    show g.ack T j ≤ if T = r.term ∧ j = i then max (g.ack T j) k else g.ack T j
    split <;> omega
  · intro T j hlt
    refine if_neg fun e => ?_
    rw [e.1, e.2, tmOf_eq hi] at hlt; omega

section
variable {n : Nat} {reps : List (Rep O)} {g : Gh O} (h : Inv n reps g) {i : Nat} {r : Rep O} (hi : reps[i]? = some r)
include h hi
end
/-! ### Joined logs -/
theorem agree_spec : ∀ (a b : Log O) (m : Nat), m < agree a b → ∃ x y, a[m]? = some x ∧ b[m]? = some y ∧ x.1 = y.1 := by
  intro a b
  induction a generalizing b with
  | nil => intro m h; simp [agree] at h
  | cons x a ih =>
    cases b with
    | nil => intro m h; simp [agree] at h
    | cons y b =>
      intro m h
      simp only [agree] at h
      split at h
      · rename_i e
        cases m with
        | zero => exact ⟨x, y, rfl, rfl, e⟩
        | succ m => simpa using ih b m (by omega)
      · omega

theorem agree_stop : ∀ (a b : Log O), agree a b < b.length → a[agree a b]? = none ∨ ∃ x y, a[agree a b]? = some x ∧ b[agree a b]? = some y ∧ x.1 ≠ y.1 := by
  intro a b
  induction a generalizing b with
  | nil => intro h; left; rfl
  | cons x a ih =>
    cases b with
    | nil => intro h; simp at h
    | cons y b =>
      intro h
      simp only [agree] at h ⊢
      split
      · rename_i e
        rw [if_pos e] at h
        simpa using ih b (by simpa using h)
      · rename_i e
        exact .inr ⟨x, y, rfl, rfl, e⟩

theorem logP.take {g : Gh O} {L : Log O} (h : logP g L) (c : Nat) : logP g (L.take c) := by
  intro k e hk
  have hkl := (List.getElem?_eq_some_iff.1 hk).1
  simp at hkl
  rw [List.getElem?_take_of_lt (by omega)] at hk
  obtain ⟨R, h1, h2, h3⟩ := h k e hk
  exact ⟨R, h1, h2, by rw [List.take_take, Nat.min_eq_left (by omega), h3]⟩

/-- Logs with an entry of the same term at the same place are the same up to there. -/
theorem logP.same {g : Gh O} {L M : Log O} (hL : logP g L) (hM : logP g M) {k : Nat} {x y : Ent O} (hx : L[k]? = some x) (hy : M[k]? = some y) (e : x.1 = y.1) : L.take (k + 1) = M.take (k + 1) := by
  obtain ⟨R, h1, _, h3⟩ := hL k x hx
  obtain ⟨R', h4, _, h6⟩ := hM k y hy
  rw [← e, h1] at h4; cases h4
  rw [h3, h6]

theorem joined_spec {g : Gh O} {L cur ents : Log O} {p : Nat} (hL : logP g L) (hC : logP g cur) (hp : L.take p = cur.take p) (hpl : p ≤ L.length) (hE : p + ents.length ≤ cur.length) (he : (cur.drop p).take ents.length = ents) :
    (joined L p ents).1.take (p + ents.length) = cur.take (p + ents.length) ∧ logP g (joined L p ents).1 ∧ ∀ c, L.take c = cur.take c → c ≤ cur.length → (joined L p ents).1.take c = cur.take c := by
  have hs := agree_le (L.drop p) ents
  have hent : ∀ k, k < ents.length → ents[k]? = cur[p + k]? := by
    intro k hk
    conv => lhs; rw [← he]
    rw [List.getElem?_take_of_lt hk, List.getElem?_drop]
  have htk : L.take (p + agree (L.drop p) ents) = cur.take (p + agree (L.drop p) ents) := by
    rcases Nat.eq_zero_or_pos (agree (L.drop p) ents) with h0 | h0
    · rw [h0]; exact hp
    · obtain ⟨x, y, h1, h2, h3⟩ := agree_spec (L.drop p) ents (agree (L.drop p) ents - 1) (by omega)
      rw [List.getElem?_drop] at h1
      rw [hent _ (by omega)] at h2
      have := hL.same hC h1 h2 h3
      rwa [show p + (agree (L.drop p) ents - 1) + 1 = p + agree (L.drop p) ents by omega] at this
  by_cases hall : agree (L.drop p) ents = ents.length
  · have hj : (joined L p ents).1 = L := by unfold joined; simp only; rw [if_pos hall]
    rw [hj]
    rw [hall] at htk
    exact ⟨htk, hL, fun c h _ => h⟩
  · have hj : (joined L p ents).1 = cur.take (p + ents.length) := by
      unfold joined
      simp only
      rw [if_neg hall, htk]
      conv => lhs; rw [← he]
      rw [List.drop_take, List.drop_drop]
      have e2 : p + ents.length = (p + agree (L.drop p) ents) + (ents.length - agree (L.drop p) ents) := by omega
      conv => rhs; rw [e2, List.take_add]
      congr 2
      rw [he]
    rw [hj]
    refine ⟨by rw [List.take_take, Nat.min_self], hC.take _, fun c hc hcl => ?_⟩
    have hle : c ≤ p + agree (L.drop p) ents := by
      rcases Nat.lt_or_ge (p + agree (L.drop p) ents) c with hlt | hge
      · have hLl := take_lt hc hcl
        have hg := take_get hc hlt
        have hx : L[p + agree (L.drop p) ents]? = some (L[p + agree (L.drop p) ents]'(by omega)) := List.getElem?_eq_getElem _
        rcases agree_stop (L.drop p) ents (by omega) with h1 | ⟨x, y, h1, h2, h3⟩
        · rw [List.getElem?_drop, hx] at h1; cases h1
        · rw [List.getElem?_drop] at h1
          rw [hent _ (by omega)] at h2
          rw [h1, h2] at hg
          exact absurd (congrArg Prod.fst (Option.some.inj hg)) h3
      · exact hge
    rw [List.take_take, Nat.min_eq_left (by omega)]

/-- What is committed at a term is in the log of its leader, and of each later one. -/
theorem Inv.cur {n : Nat} {reps : List (Rep O)} {g : Gh O} (h : Inv n reps g) {T : Int} {k : Nat} {W : Int} {R RT : LR O} (hc : Comm n g T k) (hT : T ≤ W) (hR : g.rc W = some R) (hRT : g.rc T = some RT) : R.cur.take (k + 1) = RT.cur.take (k + 1) ∧ k < R.cur.length := by
  obtain ⟨RT', e, h1, h2, h3⟩ := hc.1
  rw [hRT] at h1; cases h1
  have hkl := (List.getElem?_eq_some_iff.1 h2).1
  by_cases hTW : T = W
  · subst hTW
    rw [hRT] at hR; cases hR
    exact ⟨rfl, hkl⟩
  · have hlt : T < W := by omega
    have hnd : ¬ Dead n (tmOf reps) g T k := by
      intro hd
      obtain ⟨j, _, ⟨_, a⟩, b⟩ := hd.both hc.2
      omega
    obtain ⟨R1, h4, h5, h6⟩ := ((h.rcd W R hR).sf T k hlt hc.1).resolve_right hnd
    rw [hRT] at h4; cases h4
    have hle := take_lt h6 (by omega)
    have := (h.rcd W R hR).pre
    exact ⟨by rw [pre_take this hle, h6], by have := this.length_le; omega⟩

theorem Cov.inCur {n : Nat} {reps : List (Rep O)} {g : Gh O} (h : Inv n reps g) {T W : Int} {L : Log O} {c : Nat} (hc : Cov n g T L c) (hT : T ≤ W) {R : LR O} (hR : g.rc W = some R) : L.take c = R.cur.take c ∧ c ≤ R.cur.length := by
  rcases hc with rfl | ⟨T', k, RT, h1, h2, h3, h4, h5⟩
  · simp
  · obtain ⟨h6, h7⟩ := h.cur h2 (by omega) hR h4
    exact ⟨by rw [h5, ← take_le h6 h3], by omega⟩

section
variable {n : Nat} {reps : List (Rep O)} {g : Gh O} (h : Inv n reps g) {i : Nat} {x : Rep O} (hi : reps[i]? = some x)
include h hi
/-- A replica takes a leader's entries. -/
theorem Inv.take {m : Msg O} (hm : MsgOK n g m) (hk : m.kind = 3) (hf : fits x m = true) (h0 : x.role = 0) {r' : Rep O}
    (hr' : r' = rp x.id x.term x.voted x.role (joined x.log m.prev.toNat m.ents).1 (max x.commit (min m.commit (m.prev + m.ents.length))) x.votes x.mtch) (hc : Chk n r') (hcm : 0 ≤ m.commit) :
    Step n g (reps.set i r') [mg 4 x.id m.frm x.term (m.prev + m.ents.length) 0 0 [] true] := by
  have hn := h.nod i x hi
  obtain ⟨R, hR, hp0, hE, he, hpt, hcv⟩ := hm.k3 hk
  simp only [fits, Bool.and_eq_true, Bool.or_eq_true, decide_eq_true_eq] at hf
  obtain ⟨⟨⟨hf1, hf2⟩, hf3⟩, hf4⟩ := hf
  have hRx : g.rc x.term = some R := by rw [← hf1]; exact hR
  have hrec := h.rcd _ R hRx
  have hp : x.log.take m.prev.toNat = R.cur.take m.prev.toNat := by
    rcases Nat.eq_zero_or_pos m.prev.toNat with hz | hz
    · rw [hz]; rfl
    · have hf4 := hf4.resolve_left (by omega)
      unfold ptermAt at hf4 hpt
      rw [if_pos (by omega)] at hf4 hpt
      have ha : x.log[(m.prev - 1).toNat]? = some (x.log[(m.prev - 1).toNat]'(by omega)) := List.getElem?_eq_getElem _
      have hb : R.cur[(m.prev - 1).toNat]? = some (R.cur[(m.prev - 1).toNat]'(by omega)) := List.getElem?_eq_getElem _
      generalize x.log[(m.prev - 1).toNat]'(by omega) = a at ha
      generalize R.cur[(m.prev - 1).toNat]'(by omega) = b at hb
      rw [ha] at hf4
      rw [hb] at hpt
      have := hn.lp.same hrec.lp ha hb (by simp at hf4 hpt; omega)
      rwa [show (m.prev - 1).toNat + 1 = m.prev.toNat by omega] at this
  obtain ⟨j1, j2, j3⟩ := joined_spec hn.lp hrec.lp hp (by omega) hE he
  have hlog : r'.log = (joined x.log m.prev.toNat m.ents).1 := by rw [hr']
  have hterm : r'.term = x.term := by rw [hr']
  have hvoted : r'.voted = x.voted := by rw [hr']
  have hrole : r'.role = 0 := by rw [hr']; simpa using h0
  have hid : r'.id = x.id := by rw [hr']
  have hcom : r'.commit = max x.commit (min m.commit (m.prev + m.ents.length)) := by rw [hr']
  have htm : tmOf (reps.set i r') i = x.term := by rw [tmOf_set hi, if_pos rfl, hterm]
  have X : Ext (tmOf reps) g (tmOf (reps.set i r')) (g.grow x.term i R (m.prev.toNat + m.ents.length)) := Ext.grow h hi hterm hRx rfl rfl (List.prefix_refl _) _
  have hrc : ∀ T, (g.grow x.term i R (m.prev.toNat + m.ents.length)).rc T = g.rc T := by
    intro T
    show (if T = x.term then some R else g.rc T) = g.rc T
    split
    · rename_i e; rw [e, hRx]
    · rfl
  have hackn : ∀ {T : Int} {j : Nat}, ¬ (T = x.term ∧ j = i) → (g.grow x.term i R (m.prev.toNat + m.ents.length)).ack T j = g.ack T j := fun hT => if_neg hT
  have hacki : (g.grow x.term i R (m.prev.toNat + m.ents.length)).ack x.term i = max (g.ack x.term i) (m.prev.toNat + m.ents.length) := if_pos ⟨rfl, rfl⟩
  have hownb : ∀ {T k}, Own (g.grow x.term i R (m.prev.toNat + m.ents.length)) T k → Own g T k := by
    rintro T k ⟨R1, e, h1, h2⟩
    rw [hrc] at h1
    exact ⟨R1, e, h1, h2⟩
  have hhas : ∀ {k}, k < R.cur.length → (joined x.log m.prev.toNat m.ents).1.take (k + 1) = R.cur.take (k + 1) → Has g x.term k (joined x.log m.prev.toNat m.ents).1 := fun hk h => ⟨R, hRx, hk, h⟩
  refine ⟨_, ?_, fun y hy => hy.mono X, ?_⟩
  · refine h.step hi X ⟨by rw [hid]; exact hn.id, hc, by rw [htm, hterm], by rw [hlog]; exact j2.mono X, ?_, ?_, ?_, ?_, fun h1 => by omega, fun h1 => by omega⟩ (fun _ _ _ => rfl) ?_ ?_ ?_ (fun _ _ _ h => .inl h) ?_
    · intro T k ho hk
      have ho := hownb ho
      rw [hlog]
      by_cases hT : T = x.term
      · subst hT
        rw [hacki] at hk
        by_cases hold : k < g.ack x.term i
        · rcases hn.ak _ k ho hold with a | a
          · obtain ⟨R1, h1, h2, h3⟩ := a
            rw [hRx] at h1; cases h1
            exact .inl ((hhas h2 (j3 _ h3 (by omega))).mono X)
          · exact .inr (a.mono X)
        · exact .inl ((hhas (by omega) (take_le j1 (by omega))).mono X)
      · rw [hackn (fun e => hT e.1)] at hk
        rcases hn.ak T k ho hk with a | a
        · have hTle := (h.ack T i (by omega)).1
          rw [hn.tme] at hTle
          rcases hrec.sf T k (by omega) ho with b | b
          · left
            obtain ⟨R1, h1, h2, h3⟩ := a
            obtain ⟨R2, h4, h5, h6⟩ := b
            rw [h1] at h4; cases h4
            have hel := take_lt h6 (by omega)
            have hcl := hrec.pre.length_le
            have e1 : R.cur.take (k + 1) = R1.cur.take (k + 1) := by rw [pre_take hrec.pre hel, h6]
            exact Has.mono X ⟨R1, h1, h2, by rw [j3 (k + 1) (by rw [h3, e1]) (by omega), e1]⟩
          · exact .inr (b.mono X)
        · exact .inr (a.mono X)
    · intro hv; rw [hterm] at hv; rw [hvoted]; exact hn.v0 hv
    · intro c vl hv; rw [hterm] at hv; rw [hvoted]; exact hn.v1 c vl hv
    · rw [hlog, hterm, hcom]
      have hmax : (max x.commit (min m.commit (m.prev + m.ents.length))).toNat = x.commit.toNat ∨ (max x.commit (min m.commit (m.prev + m.ents.length))).toNat = (min m.commit (m.prev + m.ents.length)).toNat := by omega
      rcases hmax with e | e
      · rw [e]
        obtain ⟨e1, e2⟩ := hn.cv.inCur h (Int.le_refl _) hRx
        exact (hn.cv.mono X).log (by rw [j3 _ e1 e2, e1])
      · rw [e]
        have hd : (min m.commit (m.prev + m.ents.length)).toNat ≤ m.commit.toNat := by omega
        refine (((hcv.down hd).mono X).log (M := (joined x.log m.prev.toNat m.ents).1) (take_le j1 (by omega))).term (by omega)
    · intro j hj T
      exact hackn fun e => hj e.2
    · intro U R1 h1 _; rw [hrc]; exact h1
    · intro U R1 h1; left; rw [hrc] at h1; exact h1
    · intro T j hj
      by_cases hT : T = x.term ∧ j = i
      · obtain ⟨rfl, rfl⟩ := hT
        refine ⟨by rw [htm]; exact Int.le_refl _, R, by rw [hrc]; exact hRx, ?_⟩
        rw [hacki]
        rcases Nat.eq_zero_or_pos (g.ack x.term j) with hz | hz
        · omega
        · obtain ⟨_, R1, h2, h3⟩ := h.ack _ _ hz
          rw [hRx] at h2; cases h2
          omega
      · rw [hackn hT] at hj ⊢
        obtain ⟨h1, R1, h2, h3⟩ := h.ack T j hj
        exact ⟨by have := tmOf_le hi (r' := r') (by omega) j; omega, R1, by rw [hrc]; exact h2, h3⟩
  · intro y hy
    simp at hy
    subst hy
    refine ⟨fun hk => by simp at hk, fun hk => by simp at hk, fun hk => by simp at hk, fun _ _ => ⟨i, hn.id, ?_⟩⟩
    simp only [mg_prev, mg_term]
    rw [hacki]
    omega

end
end Go.Raft

namespace Go.Raft
variable {O : Type}
section
variable {n : Nat} {reps : List (Rep O)} {g : Gh O} (h : Inv n reps g) {i : Nat} {r : Rep O} (hi : reps[i]? = some r)
include h hi
/-! ### What follows -/

theorem Inv.one {j : Nat} {b : Rep O} (hj : reps[j]? = some b) (ha : r.role = 2) (hb : b.role = 2) (ht : r.term = b.term) : i = j := by
  obtain ⟨R, h1, h2, _⟩ := (h.nod i r hi).ld ha
  obtain ⟨R', h3, h4, _⟩ := (h.nod j b hj).ld hb
  rw [← ht, h1] at h3; cases h3
  omega

theorem Inv.same {j : Nat} {b : Rep O} (hj : reps[j]? = some b) {k : Nat} {x y : Ent O} (hx : r.log[k]? = some x) (hy : b.log[k]? = some y) (e : x.1 = y.1) : r.log.take (k + 1) = b.log.take (k + 1) :=
  (h.nod i r hi).lp.same (h.nod j b hj).lp hx hy e

end
/-! ### The beginning -/
def rep0 (i : Nat) : Rep O := rp (i : Int) 0 (-1) 0 [] 0 [] []

theorem chk_rep0 {n i : Nat} (h5 : n ≤ 5) (hi : i < n) : Chk (n : Int) (rep0 i : Rep O) :=
  ⟨by omega, by omega, by simp [rep0], by simp [rep0]; omega, by simp [rep0], by simp [rep0], by simp [rep0], by simp [rep0]; omega, rfl, by simp [rep0], by simp [rep0], by simp [rep0], (role0_iff rfl).2 ⟨rfl, rfl⟩⟩

/-! ### What is committed stays -/
def Keeps (r r' : Rep O) : Prop := r.term ≤ r'.term ∧ r.commit ≤ r'.commit ∧ r'.log.take r.commit.toNat = r.log.take r.commit.toNat

theorem Keeps.refl (r : Rep O) : Keeps r r := ⟨Int.le_refl _, Int.le_refl _, rfl⟩

theorem keeps_follow (r : Rep O) (t : Int) : Keeps r (fol r t) := by
  unfold fol; split
  · exact ⟨by simp; omega, Int.le_refl _, rfl⟩
  · exact Keeps.refl r

theorem keeps_voted (n : Int) (r : Rep O) (m : Msg O) : Keeps r (voted n r m) := by
  unfold voted; split
  · split
    · exact keeps_follow r m.term
    · split
      · unfold votedR; simp only; split <;> exact ⟨Int.le_refl _, Int.le_refl _, rfl⟩
      · exact Keeps.refl r
  · exact Keeps.refl r

end Go.Raft

namespace Go.Proofs.Ytfbikpbejkgegaa
open Go Go.Abs
noncomputable section
abbrev Y9 : Type := ((Int × Int × Int × Int × Int × Unit) × Unit)

abbrev Z10 : Abs.Ty := (.cons (.row (.int .i64)) (.cons (.int .i64) .unit))

abbrev Y11 : Type := (((List Int) × Int × Unit) × Unit)

abbrev Y13 : Type := ((Bool × Unit) × (Unit))

abbrev Y14 : Type := (Int × Int × Int × Int × Int × Int × Int × Int × Int × (Int × Int × Int × Int × Int × Int × Unit) × (Int × Int × Int × Int × Int × Unit) × Unit)

abbrev Y2 : Type := (List (Int × Y14 × Unit))

abbrev Y5 : Type := (Int × Int × Int × Int × Y2 × Int × (List Bool) × (List Int) × Unit)

abbrev Y6 : Type := (Int × Int × Int × Int × Int × Int × Int × Y2 × Bool × Unit)

abbrev Y15 : Type := ((Int × Int × Int × Int × Int × Int × Int × Bool × Unit) × Unit)

abbrev Z16 : Abs.Ty := (.cons (.int .i64) (.cons (.int .i64) .unit))

abbrev Z12 : Abs.Ty := (.cons (.int .i64) (.cons (.int .i64) (.cons (.int .i64) (.cons (.int .i64) (.cons (.int .i64) (.cons (.int .i64) (.cons (.int .i64) (.cons (.int .i64) (.cons (.int .i64) (.cons (.cons (.int .i64) (.cons (.int .i64) (.cons (.int .i64) (.cons (.int .i64) Z16)))) (.cons (.cons (.int .i64) (.cons (.int .i64) (.cons (.int .i64) Z16))) .unit)))))))))))

abbrev Z1 : Abs.Ty := (.cons (.int .i64) (.cons Z12 .unit))

abbrev Z3 : Abs.Ty := (.cons (.int .i64) (.cons (.int .i64) (.cons (.int .i64) (.cons (.int .i64) (.cons (.row Z1) (.cons (.int .i64) (.cons (.row .bool) (.cons (.row (.int .i64)) .unit))))))))

abbrev Z4 : Abs.Ty := (.cons (.int .i64) (.cons (.int .i64) (.cons (.int .i64) (.cons (.int .i64) (.cons (.int .i64) (.cons (.int .i64) (.cons (.int .i64) (.cons (.row Z1) (.cons .bool .unit)))))))))

def note : FuncId → Abs.Note
  | 2 => ⟨true, [], false, fun _ => []⟩
  | 3 => ⟨true, [0, 2, 3, 4, 5, 6, 7, 8, 9, 10, 11, 13, 14, 16, 17, 18, 19, 22, 32, 103, 104, 105, 106, 107, 113, 157], false, fun | 10 => [(1, 10), (4, 10), (6, 10), (9, 10), (1, 11), (4, 11), (6, 11), (9, 11), (10, 11), (6, 12), (9, 12)] | 11 => [(0, 5), (2, 5), (5, 7), (6, 7), (5, 9), (6, 9), (5, 11), (6, 11), (7, 12), (9, 12)] | 13 => [(3, 8), (5, 8)] | _ => []⟩
  | 4 => ⟨true, [0, 1, 2, 3, 5, 8, 9, 10, 11, 12, 14, 16, 17, 18, 19, 20, 21, 22, 24, 25, 26, 27, 28, 29, 30, 31, 32, 33, 34, 43, 63, 64, 65, 66, 73, 74, 75, 76, 92, 121, 131, 132, 133, 134, 194, 216], false, fun | 6 => [(1, 4), (1, 7), (4, 7), (6, 7)] | 7 => [(0, 3)] | 13 => [(2, 4)] | 19 => [(3, 5), (3, 8), (7, 8)] | 24 => [(19, 21), (19, 22), (33, 34), (33, 36), (33, 38)] | _ => []⟩
  | 5 => ⟨true, [0, 2, 3, 4, 5, 6, 7, 8, 9, 11, 13, 14, 15, 16, 17, 18, 19, 20, 23, 32, 35, 40, 41, 50, 59, 63, 82, 103, 109, 128], false, fun _ => []⟩
  | 6 => ⟨true, [0, 2, 3, 4, 5, 6, 7, 8, 9, 10, 11, 12, 13, 14, 15, 16, 17, 18, 19, 20, 21, 22, 23, 26, 35, 45, 52, 65, 77, 95, 113, 116, 132, 153, 166], false, fun | 23 => [(2, 5)] | 32 => [(4, 11), (5, 11), (6, 11), (4, 12), (5, 12), (6, 12), (11, 12)] | _ => []⟩
  | 7 => ⟨true, [0, 2, 3, 4, 5, 6, 7, 8, 9, 10, 11, 12, 13, 16, 35, 43, 102, 107, 110, 120, 139], false, fun | 13 => [(5, 11), (5, 14), (11, 17), (11, 19), (5, 22), (11, 22), (14, 22), (17, 22), (19, 22)] | _ => []⟩
  | 8 => ⟨true, [0, 2, 3, 4, 5, 6, 7, 8, 9, 11, 12, 13, 14, 15, 16, 20, 39, 53, 54, 55, 56, 57, 91, 111, 147], false, fun | 18 => [(2, 13), (4, 13), (6, 13), (7, 13), (8, 13), (2, 14), (4, 14), (6, 14), (7, 14), (8, 14), (13, 14)] | 21 => [(4, 6)] | _ => []⟩
  | 9 => ⟨true, [0, 2, 3, 4, 5, 6, 7, 8, 9, 10, 13, 14, 17, 34, 69, 100, 137], false, fun | 6 => [(1, 4), (1, 7), (4, 7), (6, 7)] | 10 => [(1, 11), (6, 11), (8, 11), (11, 15), (1, 18), (6, 18), (8, 18), (11, 20), (18, 20), (1, 21), (6, 21), (8, 21), (11, 23), (18, 23), (21, 23), (1, 24), (6, 24), (8, 24), (1, 25), (6, 25), (8, 25), (1, 27), (6, 27), (8, 27), (1, 29), (6, 29), (8, 29), (11, 29), (15, 29), (18, 29), (20, 29), (21, 29), (23, 29), (24, 29), (25, 29), (27, 29)] | 14 => [(1, 8), (1, 9), (1, 11), (1, 15)] | 18 => [(1, 2)] | _ => []⟩
  | 10 => ⟨true, [0, 2, 3, 4, 5, 6, 7, 8, 10, 11, 12, 13, 16, 23, 24, 25, 26, 38, 56, 59, 60, 61, 62, 81], false, fun | 22 => [(1, 12), (4, 12), (7, 12), (8, 12)] | 23 => [(11, 13), (11, 16)] | _ => []⟩
  | 11 => ⟨true, [0, 1, 2, 3, 5, 6, 8, 9, 10, 11, 12, 13, 14, 15, 16, 18, 20, 22, 23, 24, 25, 26, 27, 28, 30, 32, 33, 34, 35, 36, 37, 38, 39, 40, 41, 50, 67, 114, 142, 143, 144, 145, 152, 161, 162, 163, 164, 169, 170, 171, 172, 217, 222, 223, 224, 225, 233, 234, 235, 236, 261, 293], false, fun | 6 => [(1, 4), (1, 7), (4, 7), (6, 7)] | 11 => [(1, 7), (2, 7), (5, 7), (1, 10), (2, 10), (5, 10), (1, 12), (2, 12), (5, 12), (1, 15), (2, 15), (5, 15), (1, 17), (2, 17), (5, 17), (7, 17), (7, 18), (1, 21), (2, 21), (5, 21), (17, 21), (18, 21), (1, 24), (2, 24), (5, 24), (17, 24), (18, 24), (1, 27), (2, 27), (5, 27), (7, 27), (10, 27), (12, 27), (15, 27), (17, 27), (18, 27), (7, 28), (1, 30), (2, 30), (5, 30), (17, 30), (18, 30), (27, 30), (28, 30), (7, 31), (7, 32), (7, 33), (7, 35), (7, 38), (1, 41), (2, 41), (5, 41), (7, 41), (10, 41), (12, 41), (15, 41), (17, 41), (18, 41), (21, 41), (24, 41), (27, 41), (28, 41), (30, 41), (31, 41), (32, 41), (33, 41), (35, 41), (38, 41)] | 15 => [(1, 10), (1, 11), (1, 13), (1, 17)] | 31 => [(19, 21), (19, 22)] | 38 => [(0, 2)] | 48 => [(12, 14)] | 51 => [(1, 4), (1, 7), (4, 7), (6, 7)] | 52 => [(4, 6), (4, 8), (13, 14)] | _ => []⟩
  | 12 => ⟨true, [0, 2, 3, 4, 5, 6, 7, 8, 9, 10, 11, 12, 13, 14, 15, 16, 17, 20, 38, 42, 95, 102, 128, 147], false, fun _ => []⟩
  | 13 => ⟨true, [0, 2, 3, 4, 5, 6, 7, 8, 9, 11, 12, 15, 38, 40, 48, 64, 67, 68, 69, 70, 88], false, fun | 5 => [(0, 2)] | _ => []⟩
  | 14 => ⟨true, [0, 2, 3, 4, 5, 6, 7, 8, 9, 10, 11, 12, 15, 27, 29, 37, 40, 41, 42, 46, 47, 48, 79, 91, 106, 115], false, fun | 19 => [(1, 10), (4, 10), (6, 10), (9, 10), (1, 11), (4, 11), (6, 11), (9, 11), (10, 11), (6, 12), (9, 12)] | _ => []⟩
  | 15 => ⟨true, [0, 2, 3, 4, 5, 6, 7, 8, 9, 11, 12, 13, 16, 37, 39, 47, 51, 52, 53, 54, 69, 83], false, fun _ => []⟩
  | 16 => ⟨true, [0, 2], false, fun _ => []⟩
  | 17 => ⟨true, [0, 1, 2, 3, 4, 5, 6, 7, 8, 37], false, fun | 6 => [(0, 9), (3, 9), (4, 9)] | _ => []⟩
  | 18 => ⟨true, [0, 2], false, fun _ => []⟩
  | 19 => ⟨true, [0, 1, 4, 5, 7, 17, 33], false, fun | 3 => [(0, 5)] | _ => []⟩
  | 20 => ⟨true, [0, 1, 4, 5, 19, 40], false, fun _ => []⟩
  | 21 => ⟨true, [0, 1, 2, 3, 6], false, fun _ => []⟩
  | 22 => ⟨true, [0, 1, 2, 6], false, fun _ => []⟩
  | 23 => ⟨true, [0, 1, 3, 4, 5, 6, 7, 8, 12, 16, 37, 38, 39, 44], false, fun | 7 => [(1, 3), (3, 5), (3, 7)] | 14 => [(2, 10), (5, 10), (7, 10)] | _ => []⟩
  | 24 => ⟨true, [0, 1, 2, 4, 5, 6, 7, 8, 9, 16, 53], false, fun | 8 => [(2, 9), (4, 9), (6, 9)] | _ => []⟩
  | 25 => ⟨true, [0, 1, 3, 4, 5, 9, 10, 16, 22, 28, 34, 50, 63, 70, 77, 82], false, fun | 12 => [(1, 8), (1, 9), (1, 11)] | 21 => [(1, 6), (1, 8)] | _ => []⟩
  | 26 => ⟨true, [0, 1, 3, 4, 34, 36, 37, 49, 60], false, fun _ => []⟩
  | 27 => ⟨true, [0, 1, 3, 4, 5, 47, 49, 50, 62, 83, 117, 120, 132], false, fun _ => []⟩
  | 28 => ⟨true, [0, 2, 5], false, fun _ => []⟩
  | 29 => ⟨true, [0, 2, 5], false, fun _ => []⟩
  | 30 => ⟨true, [0, 1, 3, 4, 5, 6, 7, 8, 9, 13, 17, 40, 46, 52], false, fun | 6 => [(4, 6), (4, 8)] | 16 => [(2, 10), (5, 10), (7, 10)] | _ => []⟩
  | 31 => ⟨true, [0, 1, 2, 3, 4, 5, 12, 17, 30], false, fun _ => []⟩
  | 32 => ⟨true, [0, 1, 4, 5, 10, 14, 26], false, fun _ => []⟩
  | 33 => ⟨true, [0, 1, 2, 4, 6], false, fun | 1 => [(2, 14), (3, 14), (4, 14), (8, 14), (10, 14), (2, 16), (3, 16), (4, 16), (8, 16), (10, 16), (2, 17), (3, 17), (4, 17), (8, 17), (10, 17), (2, 21), (3, 21), (4, 21), (8, 21), (10, 21), (17, 21), (18, 21), (2, 23), (3, 23), (4, 23), (8, 23), (10, 23), (17, 23), (18, 23), (2, 25), (3, 25), (4, 25), (8, 25), (10, 25), (17, 25), (18, 25), (2, 28), (3, 28), (4, 28), (8, 28), (10, 28), (17, 28), (18, 28), (2, 30), (3, 30), (4, 30), (8, 30), (10, 30), (14, 30), (16, 30), (17, 30), (18, 30), (2, 34), (3, 34), (4, 34), (8, 34), (10, 34), (17, 34), (18, 34), (30, 34), (31, 34), (2, 37), (3, 37), (4, 37), (8, 37), (10, 37), (17, 37), (18, 37), (30, 37), (31, 37), (2, 40), (3, 40), (4, 40), (8, 40), (10, 40), (14, 40), (16, 40), (17, 40), (18, 40), (21, 40), (23, 40), (25, 40), (28, 40), (30, 40), (31, 40), (2, 43), (3, 43), (4, 43), (8, 43), (10, 43), (17, 43), (18, 43), (30, 43), (31, 43), (40, 43), (41, 43), (2, 46), (3, 46), (4, 46), (8, 46), (10, 46), (17, 46), (18, 46), (30, 46), (31, 46), (40, 46), (41, 46), (44, 46)] | _ => []⟩
  | 34 => ⟨true, [0, 1, 2, 4, 5, 6, 7, 8, 9, 10, 15, 54], false, fun | 3 => [(1, 3), (0, 5), (1, 5), (3, 5), (4, 5)] | 7 => [(2, 9), (4, 9), (6, 9)] | _ => []⟩
  | 35 => ⟨true, [0, 1, 2, 3, 4], false, fun _ => []⟩
  | 36 => ⟨true, [0, 1, 2, 4, 5, 6, 13, 19, 38], false, fun _ => []⟩
  | 37 => ⟨true, [0, 1, 2, 4, 5, 6, 7, 8, 9, 16, 22, 41, 50, 57, 63], false, fun _ => []⟩
  | 38 => ⟨true, [0, 1, 2, 3, 6], false, fun _ => []⟩
  | 39 => ⟨true, [0, 1, 4, 5, 15], false, fun _ => []⟩
  | 40 => ⟨true, [0, 1, 4, 5, 15], false, fun _ => []⟩
  | 41 => ⟨true, [0, 1, 4], false, fun _ => []⟩
  | 42 => ⟨true, [0, 1, 3, 4, 5, 6, 7, 8, 31], false, fun | 6 => [(1, 12), (3, 12), (6, 12), (7, 12), (1, 13), (3, 13), (6, 13), (7, 13), (12, 13)] | _ => []⟩
  | 43 => ⟨true, [0, 1, 2, 3, 4, 5, 6, 7, 16, 49], false, fun _ => []⟩
  | 44 => ⟨true, [0, 1, 2, 4, 5, 6, 7, 8, 10, 17, 23, 55, 77, 81, 82, 83, 84, 89, 108], false, fun _ => []⟩
  | 45 => ⟨true, [0, 1, 2, 6], false, fun _ => []⟩
  | 46 => ⟨true, [0, 1, 3, 4, 5, 6, 7, 8, 17, 19, 20, 21, 22, 29, 45], false, fun | 8 => [(1, 12), (4, 12), (7, 12), (1, 14), (4, 14), (7, 14), (9, 14), (12, 14)] | _ => []⟩
  | 47 => ⟨true, [0, 1, 2, 4, 5, 6, 7, 8, 9, 10, 11, 12, 34, 51, 64, 74], false, fun | 4 => [(1, 3)] | 9 => [(1, 2)] | 14 => [(4, 10), (6, 10)] | 15 => [(1, 2)] | _ => []⟩
  | 48 => ⟨true, [0, 1, 4, 5, 26], false, fun _ => []⟩
  | 49 => ⟨true, [0, 1, 3, 4, 5, 9], false, fun _ => []⟩
  | 50 => ⟨true, [0, 1, 2, 3, 5, 15, 16, 17, 18], false, fun _ => []⟩
  | 51 => ⟨true, [0, 1, 4, 5, 10, 14, 25], false, fun _ => []⟩
  | 52 => ⟨true, [0, 1, 2, 4, 5, 6, 7, 8, 9, 10, 11, 12, 13, 14, 34, 52, 99, 122], false, fun | 3 => [(1, 3), (0, 5), (1, 5), (3, 5), (4, 5)] | 9 => [(1, 2)] | 17 => [(1, 2)] | _ => []⟩
  | 53 => ⟨true, [0, 1, 2, 4, 5, 6, 7, 8, 9, 10, 17, 23, 51, 73, 78, 87, 105], false, fun _ => []⟩
  | 54 => ⟨true, [0, 1, 2, 4, 5, 6, 7, 8, 14, 19, 25, 52], false, fun _ => []⟩
  | 55 => ⟨true, [0, 1, 2, 4, 5, 6, 7, 8, 9, 13, 17, 23, 35, 40, 63], false, fun _ => []⟩
  | 56 => ⟨true, [0, 1, 3, 4, 5, 6, 10], false, fun _ => []⟩
  | 57 => ⟨true, [0, 1, 3, 4, 5, 6, 7, 8, 17, 20, 26, 47], false, fun | 9 => [(1, 12), (4, 12), (7, 12), (1, 14), (4, 14), (7, 14), (9, 14), (12, 14)] | _ => []⟩
  | 58 => ⟨true, [0, 1, 4, 5, 26], false, fun _ => []⟩
  | 59 => ⟨true, [0, 1, 2, 3, 4, 15], false, fun _ => []⟩
  | 60 => ⟨true, [0, 1, 2, 3, 4, 5, 6, 7, 8, 36], false, fun _ => []⟩
  | 61 => ⟨true, [0, 2, 3, 4, 5, 6, 10, 15, 16, 17], false, fun _ => []⟩
  | 62 => ⟨true, [0, 1, 2, 4, 5, 6, 7, 12, 25, 30, 31, 38], false, fun _ => []⟩
  | 63 => ⟨true, [0, 1, 2, 3, 5, 6, 7, 8, 9, 10, 15, 34], false, fun | 5 => [(1, 13), (4, 13), (7, 13), (8, 13), (9, 13)] | _ => []⟩
  | 64 => ⟨true, [0, 1, 2, 4, 5, 6, 11, 20], false, fun | 7 => [(0, 9)] | _ => []⟩
  | 65 => ⟨true, [0, 1, 2, 3, 4, 8, 15], false, fun _ => []⟩
  | 66 => ⟨true, [0, 1, 2, 3, 5, 6, 9, 11, 12, 13, 14, 23], false, fun _ => []⟩
  | 67 => ⟨true, [0, 1, 2, 3, 6, 7, 8, 9, 19, 29, 37, 42], false, fun _ => []⟩
  | 68 => ⟨true, [0, 1, 2, 5], false, fun _ => []⟩
  | 69 => ⟨true, [0, 1, 4, 5, 10, 14, 25], false, fun _ => []⟩
  | 70 => ⟨true, [0, 1, 3, 4, 5, 6, 7, 8, 9, 10, 26, 35, 36, 45, 58, 67, 80, 88, 96, 105, 112, 126, 130], false, fun | 13 => [(0, 3)] | 33 => [(0, 6)] | _ => []⟩
  | 71 => ⟨true, [0, 1, 2, 3, 4, 5, 6, 7, 8, 27, 30, 50, 55, 83, 88, 122], false, fun _ => []⟩
  | 72 => ⟨true, [0, 2, 3, 4, 5, 6, 10, 17], false, fun _ => []⟩
  | 73 => ⟨true, [0, 1, 2, 4, 5, 6, 7, 8, 13, 26, 41], false, fun _ => []⟩
  | 74 => ⟨true, [0, 1, 3, 4, 5, 6, 7, 8, 9, 10, 26, 35, 38, 39, 47, 60, 69, 82, 90, 98, 106, 118, 124, 137], false, fun | 14 => [(0, 3)] | 32 => [(0, 5)] | 36 => [(0, 6)] | _ => []⟩
  | 75 => ⟨true, [0, 1, 2, 6], false, fun _ => []⟩
  | 76 => ⟨true, [0, 1, 2], false, fun | 1 => [(2, 4), (2, 7), (5, 7)] | _ => []⟩
  | 77 => ⟨true, [0, 1, 3, 4, 5, 7, 9, 10, 11, 12, 15, 22], false, fun | 9 => [(1, 3)] | _ => []⟩
  | 78 => ⟨true, [0, 1, 2, 3, 5, 6, 8], false, fun _ => []⟩
  | 79 => ⟨true, [0, 1, 2, 4, 9], false, fun _ => []⟩
  | 80 => ⟨true, [0, 1, 2], false, fun | 1 => [(2, 4), (2, 7), (5, 7)] | _ => []⟩
  | 81 => ⟨true, [0, 1, 2, 6], false, fun _ => []⟩
  | 82 => ⟨true, [0, 1, 2, 3, 5, 7, 8, 9, 10, 19], false, fun _ => []⟩
  | 83 => ⟨true, [0, 1, 3, 4], false, fun _ => []⟩
  | 84 => ⟨true, [0, 1, 3, 4], false, fun _ => []⟩
  | 85 => ⟨true, [0, 1, 4, 5, 6, 10, 28], false, fun _ => []⟩
  | 86 => ⟨true, [0, 1, 3, 4], false, fun | 1 => [(1, 3)] | _ => []⟩
  | 87 => ⟨true, [0, 1, 4, 5, 10, 14, 25], false, fun _ => []⟩
  | 88 => ⟨true, [0, 1, 2, 3, 5, 6, 8], false, fun _ => []⟩
  | 89 => ⟨true, [0, 1, 2, 4, 8], false, fun _ => []⟩
  | 90 => ⟨true, [0, 2, 3], false, fun _ => []⟩
  | 91 => ⟨true, [0, 2, 4], false, fun _ => []⟩
  | 92 => ⟨true, [0, 1, 2, 3, 4], false, fun _ => []⟩
  | 93 => ⟨true, [0, 1, 2, 3, 4, 5, 6, 7, 8, 9, 11, 44, 51, 68, 69, 70, 71, 84], false, fun | 7 => [(4, 6)] | _ => []⟩
  | 94 => ⟨true, [0, 1, 2, 6, 7, 8, 9, 13, 35], false, fun _ => []⟩
  | 95 => ⟨true, [0, 1, 4], false, fun _ => []⟩
  | 96 => ⟨true, [0, 1, 2, 3], true, fun _ => []⟩
  | 97 => ⟨true, [0, 1, 2, 4, 5, 6, 14], false, fun _ => []⟩
  | 98 => ⟨true, [0, 1, 2, 3, 4, 5, 6, 7, 10, 12, 13, 14, 15, 44], false, fun _ => []⟩
  | 99 => ⟨true, [0, 1, 2, 6], false, fun _ => []⟩
  | 100 => ⟨true, [0, 1, 2, 4, 5, 13, 19], false, fun _ => []⟩
  | 101 => ⟨true, [0, 1, 2, 3, 4, 23, 24, 25, 40, 41, 42], false, fun | 1 => [(2, 4), (2, 7), (5, 7), (2, 10), (5, 10), (8, 10)] | 5 => [(1, 8)] | 10 => [(1, 9)] | _ => []⟩
  | 102 => ⟨true, [0, 1, 2, 4, 5, 6, 7, 8, 9, 14, 33], false, fun | 5 => [(1, 13), (4, 13), (7, 13), (8, 13)] | _ => []⟩
  | 103 => ⟨true, [0, 1, 2, 6], true, fun _ => []⟩
  | 104 => ⟨true, [0, 1, 2, 4, 5, 12], true, fun _ => []⟩
  | 105 => ⟨true, [0, 1, 2, 4, 5, 6, 7, 8, 9, 10, 11, 12, 20, 43, 55, 56, 66, 72, 82, 94], false, fun | 7 => [(1, 9), (4, 9), (6, 9), (8, 9)] | _ => []⟩
  | 106 => ⟨true, [0, 1, 2, 3, 4, 5, 7, 8, 9, 28, 30, 31, 32, 33, 46, 49, 50, 51, 52, 75, 78, 79, 80, 81, 109], false, fun _ => []⟩
  | 107 => ⟨true, [0, 1, 2, 3, 6, 9, 14], false, fun _ => []⟩
  | 108 => ⟨true, [0, 1, 3, 4], false, fun _ => []⟩
  | 109 => ⟨true, [0, 1, 2, 4, 5, 6, 14], false, fun _ => []⟩
  | 110 => ⟨true, [0, 1, 2, 4, 5, 6, 7, 15], false, fun _ => []⟩
  | 111 => ⟨true, [0, 1, 2, 4, 5, 6, 14, 21], false, fun _ => []⟩
  | 112 => ⟨true, [0, 1, 2, 4, 5, 6, 14, 22], false, fun | 8 => [(1, 11)] | _ => []⟩
  | 113 => ⟨true, [0, 1, 2, 6, 7, 11, 25], false, fun _ => []⟩
  | 114 => ⟨true, [0, 1, 2, 4, 5, 9], false, fun _ => []⟩
  | 115 => ⟨true, [0, 1, 2, 3, 4, 5, 6, 11, 29], false, fun | 5 => [(1, 7), (1, 8)] | 12 => [(2, 4)] | _ => []⟩
  | 116 => ⟨true, [0, 1, 2, 4, 5, 6, 7, 8, 9, 10, 15, 22, 40, 49], false, fun | 7 => [(1, 13), (4, 13), (7, 13), (8, 13)] | 12 => [(1, 7), (3, 7)] | _ => []⟩
  | 117 => ⟨true, [0, 1, 2, 4, 5, 6, 7, 8, 13, 20, 28, 47], false, fun _ => []⟩
  | 118 => ⟨true, [0, 1, 2, 3, 5, 6, 7, 8, 9, 10, 11, 16, 23, 41], false, fun | 7 => [(1, 13), (4, 13), (7, 13), (8, 13), (9, 13)] | _ => []⟩
  | 119 => ⟨true, [0, 1, 2, 4, 5, 6, 7, 12], false, fun | 5 => [(4, 6)] | _ => []⟩
  | 120 => ⟨true, [0, 1, 2, 4, 5, 6, 7, 12, 18], false, fun | 7 => [(1, 3), (1, 8)] | _ => []⟩
  | 121 => ⟨true, [0, 1, 2, 4, 5, 6, 7, 12, 19], false, fun _ => []⟩
  | 122 => ⟨true, [0, 1, 2, 4, 5, 6, 7, 12, 20], false, fun | 8 => [(1, 11)] | _ => []⟩
  | 123 => ⟨true, [0, 1, 2, 3, 6], false, fun _ => []⟩
  | 124 => ⟨true, [0, 1, 2, 3, 6, 7, 8, 9, 14, 17, 26, 31], false, fun _ => []⟩
  | 125 => ⟨true, [0, 2, 4], false, fun _ => []⟩
  | 126 => ⟨true, [0, 2, 4], false, fun _ => []⟩
  | 127 => ⟨true, [0, 1, 4], false, fun _ => []⟩
  | 128 => ⟨true, [0, 1, 3], true, fun _ => []⟩
  | 129 => ⟨true, [0, 1, 4, 5, 7, 8, 9, 16], false, fun _ => []⟩
  | 130 => ⟨true, [0, 1, 2, 4, 5, 6, 7, 8, 9, 10, 55, 79], true, fun | 3 => [(0, 2)] | 6 => [(2, 16), (5, 16), (7, 16), (9, 16), (10, 16), (11, 16), (2, 17), (5, 17), (7, 17), (9, 17), (10, 17), (11, 17), (16, 17)] | _ => []⟩
  | 131 => ⟨true, [0, 2, 4], false, fun _ => []⟩
  | 132 => ⟨true, [0, 2, 4], false, fun _ => []⟩
  | 133 => ⟨true, [0, 2, 4], false, fun _ => []⟩
  | 134 => ⟨true, [0, 1, 3, 4, 5, 7, 8, 9, 16], false, fun _ => []⟩
  | 135 => ⟨true, [0, 1, 2, 6, 7, 16], true, fun _ => []⟩
  | 136 => ⟨true, [0, 1, 2, 4, 5, 9], false, fun _ => []⟩
  | 137 => ⟨true, [0, 1, 4, 5, 7, 8, 9, 16], false, fun _ => []⟩
  | 138 => ⟨true, [0, 1], false, fun _ => []⟩
  | 139 => ⟨true, [0, 1, 2], true, fun _ => []⟩
  | 140 => ⟨true, [0, 1, 2, 3, 5, 6, 7, 8, 9], true, fun _ => []⟩
  | _ => ⟨false, [], false, fun _ => []⟩

theorem good : Abs.Good Try.prog note := Abs.good_of (by kernel_rfl)

theorem foll : (Try.prog).follows .mixedOrders = true := by kernel_rfl

/- pagewatch/pagewatchmade.Light -/
def i16 : Abs.Sg := ⟨[0], (.dat (.row (.int .i64)) .nil), .nil⟩

def o16 : Abs.Sg := ⟨[2], (.dat .bool .nil), .nil⟩

def m16 (v : (((List Int) × Unit) × (Unit))) : Option Y13 :=
some (((decide (((v.1.1.length : Int) : Int) ≤ 500)), ()), ())

def sp16 : Abs.Spec := ⟨0, i16, o16, m16⟩

def an16 : Nat → Abs.FAn
  | _ => {}

theorem ok16 : Abs.SpecOK Try.prog 16 sp16 :=
  Abs.specOK_of (n := 12) (an := an16) (T := Abs.tabOf []) good foll (Abs.tabOf_ok _ (fun _ h => by cases h)) rfl (by intro v; kernel_rfl)

/- pagewatch/vote.in -/
def i81 : Abs.Sg := ⟨[0, 1, 2], (.dat (.int .i64) (.dat (.int .i64) (.dat (.int .i64) .nil))), .nil⟩

def o81 : Abs.Sg := ⟨[6], (.dat .bool .nil), .nil⟩

def m81 (v : ((Int × Int × Int × Unit) × (Unit))) : Option Y13 :=
((bif (decide ((v.1.1 : Int) ≥ v.1.2.1)) then (some (((decide ((v.1.1 : Int) ≤ v.1.2.2.1)), ()), ()))
else (some ((false, ()), ()))) : Option Y13).bind fun v1 =>
some ((v1.1.1, ()), ())

def sp81 : Abs.Spec := ⟨0, i81, o81, m81⟩

def an81 : Nat → Abs.FAn
  | 0 => Abs.FAn.mk (fun
    | 1 => some ⟨[6], (.dat .bool .nil), .nil⟩
    | _ => none) (fun _ => none) (fun _ => none) (fun _ _ => 0)
  | _ => {}

theorem ok81 : Abs.SpecOK Try.prog 81 sp81 :=
  Abs.specOK_of (n := 12) (an := an81) (T := Abs.tabOf []) good foll (Abs.tabOf_ok _ (fun _ h => by cases h)) rfl (by intro v; kernel_rfl)

/- pagewatch/vote.New -/
def i39 : Abs.Sg := ⟨[0, 1], (.dat (.int .i64) (.dat (.int .i64) .nil)), .nil⟩

def o39 : Abs.Sg := ⟨[4, 5], (.st (.ptr (0, 0) 8 0 0) (.dat (.int .i64) .nil)), (.box 8 (.agg (.dat (.int .i64) (.dat (.int .i64) (.dat (.int .i64) (.dat (.int .i64) (.st .nil (.dat (.int .i64) (.st .nil (.st .nil .nil)))))))) .nil) .nil)⟩

def m39 (v : ((Int × Int × Unit) × (Unit))) : Option ((Int × Unit) × (Y9 × Unit)) :=
(((m81 ((v.1.2.1, (1, (5, ()))), ())).bind fun u11 =>
bif (!u11.1.1) then (some ((true, (v.1.1, ())), (((0, (0, (0, (0, (0, ()))))), ()), ())))
else ((m81 ((v.1.1, (0, ((w64 (v.1.2.1 - 1)), ()))), ())).bind fun u12 =>
some (((!u12.1.1), (v.1.1, ())), (((0, (0, (0, (0, (0, ()))))), ()), ())))) : Option ((Bool × Int × Unit) × (Y9 × Unit))).bind fun v13 =>
bif v13.1.1 then (some ((1, ()), (((0, (0, (0, (0, (0, ()))))), ()), ())))
else (some ((0, ()), (((v13.1.2.1, (0, ((-1), (0, (0, ()))))), ()), ())))

def sp39 : Abs.Spec := ⟨0, i39, o39, m39⟩

def an39 : Nat → Abs.FAn
  | 0 => Abs.FAn.mk (fun
    | 1 => some ⟨[15, 4, 0], (.dat .bool (.st (.ptr (0, 0) 8 0 0) (.dat (.int .i64) .nil))), (.box 8 (.agg (.dat (.int .i64) (.dat (.int .i64) (.dat (.int .i64) (.dat (.int .i64) (.st .nil (.dat (.int .i64) (.st .nil (.st .nil .nil)))))))) .nil) .nil)⟩
    | _ => none) (fun _ => none) (fun _ => none) (fun _ _ => 0)
  | _ => {}

theorem ok39 : Abs.SpecOK Try.prog 39 sp39 :=
  Abs.specOK_of (n := 12) (an := an39) (T := Abs.tabOf [(81, sp81)]) good foll (Abs.tabOf_ok _ (by simp only [List.forall_mem_cons]; exact ⟨ok81, fun _ h => by cases h⟩)) rfl (by intro v; kernel_rfl)

def l82_0_3 (v : ((Int × Int × Y2 × Int × Unit) × ((Y5 × Unit) × Unit))) : Option (((Int × Int × Y2 × Int × Unit) × ((Y5 × Unit) × Unit)) ⊕ (Y13 ⊕ ((Unit) × ((Y5 × Unit) × Unit)))) :=
bif (decide ((v.1.1 : Int) < v.1.2.2.2.1)) then (Abs.rowAt v.1.2.2.1 v.1.1 fun e25 _ =>
(m81 ((e25.1, (v.1.2.1, (v.2.1.1.2.1, ()))), ())).bind fun u26 =>
bif (!u26.1.1) then (some (.inr (.inl ((false, ()), ()))))
else (some (.inl (((w64 (v.1.1 + 1)), (e25.1, (v.1.2.2.1, (v.1.2.2.2.1, ())))), ((v.2.1.1, ()), ())))))
else (some (.inr (.inr ((), ((v.2.1.1, ()), ())))))

/- pagewatch/vote.logged -/
def i82 : Abs.Sg := ⟨[0], (.dat Z3 .nil), .nil⟩

def o82 : Abs.Sg := ⟨[2], (.dat .bool .nil), .nil⟩

def m82 (v : ((Y5 × Unit) × (Unit))) : Option Y13 :=
(loopT l82_0_3 ((0, (1, (v.1.1.2.2.2.2.1, ((v.1.1.2.2.2.2.1.length : Int), ())))), ((v.1.1, ()), ()))).bind fun d27 =>
sumE d27 (fun d28 => (some ((d28.1.1, ()), ()))) (fun d29 => (((let x30 := (decide (((d29.2.1.1.2.2.2.2.1.length : Int) : Int) ≤ 256))
bif x30 then ((m81 ((d29.2.1.1.2.2.2.2.2.1, (0, ((d29.2.1.1.2.2.2.2.1.length : Int), ()))), ())).bind fun u31 =>
some ((u31.1.1, ()), ()))
else (some ((false, ()), ()))) : Option Y13).bind fun v32 =>
some ((v32.1.1, ()), ())))

def sp82 : Abs.Spec := ⟨0, i82, o82, m82⟩

def an82 : Nat → Abs.FAn
  | 0 => Abs.FAn.mk (fun
    | 9 => some ⟨[2], (.dat .bool .nil), .nil⟩
    | _ => none) (fun _ => none) (fun
    | 3 => some ⟨⟨[9, 1, 3, 7, 8], (.dat (.int .i64) (.st (.ptr (0, 0) 8 0 0) (.dat (.int .i64) (.dat (.row Z1) (.dat (.int .i64) .nil))))), (.box 8 (.dat Z3 .nil) .nil)⟩, (.more .ret ⟨[2], (.dat .bool .nil), .nil⟩ (.one (.exit 0) ⟨[1], (.st (.ptr (0, 0) 8 0 0) .nil), (.box 8 (.dat Z3 .nil) .nil)⟩))⟩
    | _ => none) (fun _ _ => 0)
  | _ => {}

theorem ok82 : Abs.SpecOK Try.prog 82 sp82 :=
  Abs.specOK_of (n := 12) (an := an82) (T := Abs.tabOf [(81, sp81)]) good foll (Abs.tabOf_ok _ (by simp only [List.forall_mem_cons]; exact ⟨ok81, fun _ h => by cases h⟩)) rfl (by intro v; kernel_rfl)

/- pagewatch/vote.votes -/
def i83 : Abs.Sg := ⟨[0, 1], (.dat (.int .i64) (.dat Z3 .nil)), .nil⟩

def o83 : Abs.Sg := ⟨[4], (.dat .bool .nil), .nil⟩

def m83 (v : ((Int × Y5 × Unit) × (Unit))) : Option Y13 :=
((let x5 := (((v.1.2.1.2.2.2.2.2.2.1.length : Int) : Int) == v.1.1)
bif x5 then (Abs.rowAt v.1.2.1.2.2.2.2.2.2.1 v.1.2.1.1 fun e6 _ =>
some ((e6, ()), ()))
else (some ((false, ()), ()))) : Option Y13).bind fun v7 =>
some ((v7.1.1, ()), ())

def sp83 : Abs.Spec := ⟨0, i83, o83, m83⟩

def an83 : Nat → Abs.FAn
  | 0 => Abs.FAn.mk (fun
    | 1 => some ⟨[4], (.dat .bool .nil), .nil⟩
    | _ => none) (fun _ => none) (fun _ => none) (fun _ _ => 0)
  | _ => {}

theorem ok83 : Abs.SpecOK Try.prog 83 sp83 :=
  Abs.specOK_of (n := 12) (an := an83) (T := Abs.tabOf []) good foll (Abs.tabOf_ok _ (fun _ h => by cases h)) rfl (by intro v; kernel_rfl)

/- 128 pagewatch/vote.matches$1: not told by a law: a closure -/

/- 137 slices.IndexFunc[[]int,int]: not told by a law: a parameter -/

/- 127 slices.ContainsFunc[[]int,int]: not told by a law: a parameter -/

def l84_2_2 (v : ((Int × (List Int) × Int × Unit) × ((Y5 × Unit) × Unit))) : Option (((Int × (List Int) × Int × Unit) × ((Y5 × Unit) × Unit)) ⊕ (((Int × Unit) × ((Y5 × Unit) × Unit)) ⊕ ((Unit) × ((Y5 × Unit) × Unit)))) :=
bif (decide ((v.1.1 : Int) < v.1.2.2.1)) then (Abs.rowAt v.1.2.1 v.1.1 fun e41 _ =>
(m81 ((e41, (0, ((v.2.1.1.2.2.2.2.1.length : Int), ()))), ())).bind fun u42 =>
bif (!u42.1.1) then (some (.inr (.inl ((v.1.1, ()), ((v.2.1.1, ()), ())))))
else (some (.inl (((w64 (v.1.1 + 1)), (v.1.2.1, (v.1.2.2.1, ()))), ((v.2.1.1, ()), ())))))
else (some (.inr (.inr ((), ((v.2.1.1, ()), ())))))

/- pagewatch/vote.matches -/
def i84 : Abs.Sg := ⟨[0, 1], (.dat (.int .i64) (.dat Z3 .nil)), .nil⟩

def o84 : Abs.Sg := ⟨[4], (.dat .bool .nil), .nil⟩

def m84 (v : ((Int × Y5 × Unit) × (Unit))) : Option Y13 :=
((let x38 := (((v.1.2.1.2.2.2.2.2.2.2.1.length : Int) : Int) == v.1.1)
bif x38 then (Abs.rowAt v.1.2.1.2.2.2.2.2.2.2.1 v.1.2.1.1 fun e39 _ =>
let x40 := ((e39 : Int) == (v.1.2.1.2.2.2.2.1.length : Int))
bif x40 then ((((loopT l84_2_2 ((0, (v.1.2.1.2.2.2.2.2.2.2.1, ((v.1.2.1.2.2.2.2.2.2.2.1.length : Int), ()))), ((v.1.2.1, ()), ()))).bind fun d43 =>
sumE d43 (fun d44 => (some (((decide ((d44.1.1 : Int) ≥ 0)), ()), ((d44.2.1.1, ()), ())))) (fun d45 => (some ((false, ()), ((d45.2.1.1, ()), ()))))) : Option ((Bool × Unit) × ((Y5 × Unit) × Unit))).bind fun v46 =>
some (((!v46.1.1), ()), ()))
else (some ((false, ()), ())))
else (some ((false, ()), ()))) : Option Y13).bind fun v47 =>
some ((v47.1.1, ()), ())

def sp84 : Abs.Spec := ⟨0, i84, o84, m84⟩

def an84 : Nat → Abs.FAn
  | 0 => Abs.FAn.mk (fun
    | 1 => some ⟨[4], (.dat .bool .nil), .nil⟩
    | _ => none) (fun _ => none) (fun _ => none) (fun
    | 1, 21 => 1
    | _, _ => 0)
  | 1 => Abs.FAn.mk (fun
    | 1 => some ⟨[4], (.dat .bool .nil), (.box 8 (.dat Z3 .nil) .nil)⟩
    | _ => none) (fun _ => none) (fun _ => none) (fun
    | 1, 2 => 2
    | _, _ => 0)
  | 2 => Abs.FAn.mk (fun _ => none) (fun _ => none) (fun
    | 2 => some ⟨⟨[8, 0, 1, 7], (.dat (.int .i64) (.dat (.row (.int .i64)) (.st (.clo 128 [((0, 0), 8, 0, 0)]) (.dat (.int .i64) .nil)))), (.box 8 (.dat Z3 .nil) .nil)⟩, (.more .ret ⟨[4], (.dat (.int .i64) .nil), (.box 8 (.dat Z3 .nil) .nil)⟩ (.one (.exit 0) ⟨[], .nil, (.box 8 (.dat Z3 .nil) .nil)⟩))⟩
    | _ => none) (fun
    | 4, 5 => 3
    | _, _ => 0)
  | _ => {}

theorem ok84 : Abs.SpecOK Try.prog 84 sp84 :=
  Abs.specOK_of (n := 12) (an := an84) (T := Abs.tabOf [(81, sp81)]) good foll (Abs.tabOf_ok _ (by simp only [List.forall_mem_cons]; exact ⟨ok81, fun _ h => by cases h⟩)) rfl (by intro v; kernel_rfl)

/- pagewatch/vote.Check -/
def i26 : Abs.Sg := ⟨[0, 1], (.dat (.int .i64) (.dat Z3 .nil)), .nil⟩

def o26 : Abs.Sg := ⟨[4], (.dat .bool .nil), .nil⟩

def m26 (v : ((Int × Y5 × Unit) × (Unit))) : Option Y13 :=
(((m81 ((v.1.1, (1, (5, ()))), ())).bind fun u47 =>
bif (!u47.1.1) then (some ((true, (v.1.1, ())), ((v.1.2.1, ()), ())))
else ((m81 ((v.1.2.1.1, (0, ((w64 (v.1.1 - 1)), ()))), ())).bind fun u48 =>
bif (!u48.1.1) then (some ((true, (v.1.1, ())), ((v.1.2.1, ()), ())))
else ((m81 ((v.1.2.1.2.1, (0, (1048576, ()))), ())).bind fun u49 =>
bif (!u49.1.1) then (some ((true, (v.1.1, ())), ((v.1.2.1, ()), ())))
else ((m81 ((v.1.2.1.2.2.1, ((-1), ((w64 (v.1.1 - 1)), ()))), ())).bind fun u50 =>
bif (!u50.1.1) then (some ((true, (v.1.1, ())), ((v.1.2.1, ()), ())))
else ((m82 ((v.1.2.1, ()), ())).bind fun u51 =>
some (((!u51.1.1), (v.1.1, ())), ((v.1.2.1, ()), ()))))))) : Option ((Bool × Int × Unit) × ((Y5 × Unit) × Unit))).bind fun v52 =>
bif v52.1.1 then (some ((false, ()), ()))
else (bif ((v52.2.1.1.2.2.2.1 : Int) == 0) then (((let x53 := (((v52.2.1.1.2.2.2.2.2.2.1.length : Int) : Int) == 0)
bif x53 then (let x54 := (((v52.2.1.1.2.2.2.2.2.2.2.1.length : Int) : Int) == 0)
some ((x54, ()), ()))
else (some ((false, ()), ()))) : Option Y13).bind fun v55 =>
some ((v55.1.1, ()), ()))
else (bif ((v52.2.1.1.2.2.2.1 : Int) == 1) then ((((m83 ((v52.1.2.1, (v52.2.1.1, ())), ())).bind fun u56 =>
bif u56.1.1 then (let x57 := (((v52.2.1.1.2.2.2.2.2.2.2.1.length : Int) : Int) == 0)
some ((x57, ()), ()))
else (some ((false, ()), ()))) : Option Y13).bind fun v58 =>
some ((v58.1.1, ()), ()))
else (bif ((v52.2.1.1.2.2.2.1 : Int) == 2) then ((((m83 ((v52.1.2.1, (v52.2.1.1, ())), ())).bind fun u59 =>
bif u59.1.1 then ((m84 ((v52.1.2.1, (v52.2.1.1, ())), ())).bind fun u60 =>
some ((u60.1.1, ()), ()))
else (some ((false, ()), ()))) : Option Y13).bind fun v61 =>
some ((v61.1.1, ()), ()))
else (some ((false, ()), ())))))

def sp26 : Abs.Spec := ⟨0, i26, o26, m26⟩

def an26 : Nat → Abs.FAn
  | 0 => Abs.FAn.mk (fun
    | 9 => some ⟨[4], (.dat .bool .nil), .nil⟩
    | 7 => some ⟨[4], (.dat .bool .nil), .nil⟩
    | 5 => some ⟨[4], (.dat .bool .nil), .nil⟩
    | 1 => some ⟨[34, 3, 0], (.dat .bool (.st (.ptr (0, 0) 8 0 0) (.dat (.int .i64) .nil))), (.box 8 (.dat Z3 .nil) .nil)⟩
    | _ => none) (fun _ => none) (fun _ => none) (fun _ _ => 0)
  | _ => {}

theorem ok26 : Abs.SpecOK Try.prog 26 sp26 :=
  Abs.specOK_of (n := 12) (an := an26) (T := Abs.tabOf [(81, sp81), (82, sp82), (83, sp83), (84, sp84)]) good foll (Abs.tabOf_ok _ (by simp only [List.forall_mem_cons]; exact ⟨ok81, ok82, ok83, ok84, fun _ h => by cases h⟩)) rfl (by intro v; kernel_rfl)

/- slices.Clone[[]pagewatch/api.Entry,pagewatch/api.Entry]: the copy of a row -/
def i91 : Abs.Sg := ⟨[0], (.dat (.row Z1) .nil), .nil⟩

def o91 : Abs.Sg := ⟨[2], (.st (.own Z1 (0, 0)) .nil), (.arr Z1 false .nil)⟩

def m91 (v : ((Y2 × Unit) × (Unit))) : Option ((Unit) × (Y2 × Unit)) :=
bif (decide (v.1.1.length ≤ 4294967296)) then some ((), (v.1.1, ())) else none

def sp91 : Abs.Spec := ⟨0, i91, o91, m91⟩

theorem ok91 : Abs.SpecOK Try.prog 91 sp91 :=
  Abs.clone_ok (N := note) (t := Z1) foll (Abs.specOK_of (n := 12) (an := fun _ => {}) (T := Abs.tabOf []) good foll (Abs.tabOf_ok _ (fun _ h => by cases h)) rfl (by intro v; kernel_rfl)) (by kernel_rfl) (by kernel_rfl)

/- slices.Clone[[]bool,bool]: the copy of a row -/
def i125 : Abs.Sg := ⟨[0], (.dat (.row .bool) .nil), .nil⟩

def o125 : Abs.Sg := ⟨[2], (.st (.own .bool (0, 0)) .nil), (.arr .bool false .nil)⟩

def m125 (v : (((List Bool) × Unit) × (Unit))) : Option ((Unit) × ((List Bool) × Unit)) :=
bif (decide (v.1.1.length ≤ 4294967296)) then some ((), (v.1.1, ())) else none

def sp125 : Abs.Spec := ⟨0, i125, o125, m125⟩

theorem ok125 : Abs.SpecOK Try.prog 125 sp125 :=
  Abs.clone_ok (N := note) (t := .bool) foll (Abs.specOK_of (n := 12) (an := fun _ => {}) (T := Abs.tabOf []) good foll (Abs.tabOf_ok _ (fun _ h => by cases h)) rfl (by intro v; kernel_rfl)) (by kernel_rfl) (by kernel_rfl)

/- slices.Clone[[]int,int]: the copy of a row -/
def i126 : Abs.Sg := ⟨[0], (.dat (.row (.int .i64)) .nil), .nil⟩

def o126 : Abs.Sg := ⟨[2], (.st (.own (.int .i64) (0, 0)) .nil), (.arr (.int .i64) false .nil)⟩

def m126 (v : (((List Int) × Unit) × (Unit))) : Option ((Unit) × ((List Int) × Unit)) :=
bif (decide (v.1.1.length ≤ 4294967296)) then some ((), (v.1.1, ())) else none

def sp126 : Abs.Spec := ⟨0, i126, o126, m126⟩

theorem ok126 : Abs.SpecOK Try.prog 126 sp126 :=
  Abs.clone_ok (N := note) (t := (.int .i64)) foll (Abs.specOK_of (n := 12) (an := fun _ => {}) (T := Abs.tabOf []) good foll (Abs.tabOf_ok _ (fun _ h => by cases h)) rfl (by intro v; kernel_rfl)) (by kernel_rfl) (by kernel_rfl)

/- pagewatch/vote.Copied -/
def i76 : Abs.Sg := ⟨[0], (.dat Z3 .nil), .nil⟩

def o76 : Abs.Sg := ⟨[2], (.st (.ptr (0, 0) 8 0 0) .nil), (.box 8 (.agg (.dat (.int .i64) (.dat (.int .i64) (.dat (.int .i64) (.dat (.int .i64) (.st (.own Z1 (1, 0)) (.dat (.int .i64) (.st (.own .bool (2, 0)) (.st (.own (.int .i64) (3, 0)) .nil)))))))) .nil) (.arr Z1 false (.arr .bool false (.arr (.int .i64) false .nil))))⟩

def m76 (v : ((Y5 × Unit) × (Unit))) : Option ((Unit) × (Y9 × Y2 × (List Bool) × (List Int) × Unit)) :=
(m91 ((v.1.1.2.2.2.2.1, ()), ())).bind fun u9 =>
(m125 ((v.1.1.2.2.2.2.2.2.1, ()), ())).bind fun u10 =>
(m126 ((v.1.1.2.2.2.2.2.2.2.1, ()), ())).bind fun u11 =>
some ((), (((v.1.1.1, (v.1.1.2.1, (v.1.1.2.2.1, (v.1.1.2.2.2.1, (v.1.1.2.2.2.2.2.1, ()))))), ()), (u9.2.1, (u10.2.1, (u11.2.1, ())))))

def sp76 : Abs.Spec := ⟨0, i76, o76, m76⟩

def an76 : Nat → Abs.FAn
  | _ => {}

theorem ok76 : Abs.SpecOK Try.prog 76 sp76 :=
  Abs.specOK_of (n := 12) (an := an76) (T := Abs.tabOf [(91, sp91), (125, sp125), (126, sp126)]) good foll (Abs.tabOf_ok _ (by simp only [List.forall_mem_cons]; exact ⟨ok91, ok125, ok126, fun _ h => by cases h⟩)) rfl (by intro v; kernel_rfl)

/- pagewatch/vote.last -/
def i75 : Abs.Sg := ⟨[0], (.dat Z3 .nil), .nil⟩

def o75 : Abs.Sg := ⟨[2], (.dat (.int .i64) .nil), .nil⟩

def m75 (v : ((Y5 × Unit) × (Unit))) : Option ((Int × Unit) × (Unit)) :=
bif (((v.1.1.2.2.2.2.1.length : Int) : Int) == 0) then (some ((0, ()), ()))
else (Abs.rowAt v.1.1.2.2.2.2.1 (w64 ((v.1.1.2.2.2.2.1.length : Int) - 1)) fun e2 _ =>
some ((e2.1, ()), ()))

def sp75 : Abs.Spec := ⟨0, i75, o75, m75⟩

def an75 : Nat → Abs.FAn
  | _ => {}

theorem ok75 : Abs.SpecOK Try.prog 75 sp75 :=
  Abs.specOK_of (n := 12) (an := an75) (T := Abs.tabOf []) good foll (Abs.tabOf_ok _ (fun _ h => by cases h)) rfl (by intro v; kernel_rfl)

/- pagewatch/vote.Quorum -/
def i28 : Abs.Sg := ⟨[0], (.dat (.int .i64) .nil), .nil⟩

def o28 : Abs.Sg := ⟨[2], (.dat (.int .i64) .nil), .nil⟩

def m28 (v : ((Int × Unit) × (Unit))) : Option ((Int × Unit) × (Unit)) :=
(m81 ((v.1.1, (1, (5, ()))), ())).bind fun u4 =>
bif (!u4.1.1) then (some ((0, ()), ()))
else (some (((w64 ((w64 ((v.1.1 : Int).tdiv 2)) + 1)), ()), ()))

def sp28 : Abs.Spec := ⟨0, i28, o28, m28⟩

def an28 : Nat → Abs.FAn
  | _ => {}

theorem ok28 : Abs.SpecOK Try.prog 28 sp28 :=
  Abs.specOK_of (n := 12) (an := an28) (T := Abs.tabOf [(81, sp81)]) good foll (Abs.tabOf_ok _ (by simp only [List.forall_mem_cons]; exact ⟨ok81, fun _ h => by cases h⟩)) rfl (by intro v; kernel_rfl)

def l77_0_3 (v : ((Int × Int × (List Bool) × Int × Int × Unit) × (Y9 × (Y5 × Unit) × Unit))) : Option (((Int × Int × (List Bool) × Int × Int × Unit) × (Y9 × (Y5 × Unit) × Unit)) ⊕ ((Int × Int × Unit) × (Y9 × (Y5 × Unit) × Unit))) :=
bif (decide ((v.1.1 : Int) < v.1.2.2.2.2.1)) then (((Abs.rowAt v.1.2.2.1 v.1.1 fun e17 _ =>
bif e17 then (some (((w64 (v.1.2.1 + 1)), (v.1.2.2.1, (v.1.2.2.2.1, (v.1.2.2.2.2.1, (v.1.1, ()))))), (((v.2.1.1.1, (v.2.1.1.2.1, (v.2.1.1.2.2.1, (v.2.1.1.2.2.2.1, (v.2.1.1.2.2.2.2.1, ()))))), ()), ((v.2.2.1.1, ()), ()))))
else (some ((v.1.2.1, (v.1.2.2.1, (v.1.2.2.2.1, (v.1.2.2.2.2.1, (v.1.1, ()))))), (((v.2.1.1.1, (v.2.1.1.2.1, (v.2.1.1.2.2.1, (v.2.1.1.2.2.2.1, (v.2.1.1.2.2.2.2.1, ()))))), ()), ((v.2.2.1.1, ()), ()))))) : Option ((Int × (List Bool) × Int × Int × Int × Unit) × (Y9 × (Y5 × Unit) × Unit))).bind fun v18 =>
some (.inl (((w64 (v18.1.2.2.2.2.1 + 1)), (v18.1.1, (v18.1.2.1, (v18.1.2.2.1, (v18.1.2.2.2.1, ()))))), (((v18.2.1.1.1, (v18.2.1.1.2.1, (v18.2.1.1.2.2.1, (v18.2.1.1.2.2.2.1, (v18.2.1.1.2.2.2.2.1, ()))))), ()), ((v18.2.2.1.1, ()), ())))))
else (some (.inr ((v.1.2.2.2.1, (v.1.2.1, ())), (((v.2.1.1.1, (v.2.1.1.2.1, (v.2.1.1.2.2.1, (v.2.1.1.2.2.2.1, (v.2.1.1.2.2.2.2.1, ()))))), ()), ((v.2.2.1.1, ()), ())))))

/- pagewatch/vote.lead -/
def i77 : Abs.Sg := ⟨[0, 1], (.dat (.int .i64) (.dat Z3 .nil)), .nil⟩

def o77 : Abs.Sg := ⟨[4], (.st (.ptr (0, 0) 8 0 0) .nil), (.box 8 (.dat Z3 .nil) .nil)⟩

def m77 (v : ((Int × Y5 × Unit) × (Unit))) : Option ((Unit) × ((Y5 × Unit) × Unit)) :=
(loopT l77_0_3 ((0, (0, (v.1.2.1.2.2.2.2.2.2.1, (v.1.1, ((v.1.2.1.2.2.2.2.2.2.1.length : Int), ()))))), (((0, (0, (0, (0, (0, ()))))), ()), ((v.1.2.1, ()), ())))).bind fun d19 =>
(((m28 ((d19.1.1, ()), ())).bind fun u20 =>
bif (decide ((d19.1.2.1 : Int) ≥ u20.1.1)) then (bif (decide ((0 : Int) ≤ d19.1.1 ∧ (d19.1.1 : Int) ≤ d19.1.1 ∧ (d19.1.1 : Int) ≤ 4294967296)) then
bif (decide ((0 : Int) ≤ d19.2.2.1.1.1 ∧ (d19.2.2.1.1.1 : Int) < (List.replicate d19.1.1.toNat (0 : Int)).length)) then
bif (decide (d19.2.2.1.1.1.toNat < (List.replicate d19.1.1.toNat (0 : Int)).length)) then
some ((), (((d19.2.1.1.1, (d19.2.1.1.2.1, (d19.2.1.1.2.2.1, (d19.2.1.1.2.2.2.1, (d19.2.1.1.2.2.2.2.1, ()))))), ()), (((d19.2.2.1.1.1, (d19.2.2.1.1.2.1, (d19.2.2.1.1.2.2.1, (2, (d19.2.2.1.1.2.2.2.2.1, (d19.2.2.1.1.2.2.2.2.2.1, (d19.2.2.1.1.2.2.2.2.2.2.1, (((List.replicate d19.1.1.toNat (0 : Int)).set d19.2.2.1.1.1.toNat (d19.2.2.1.1.2.2.2.2.1.length : Int)), ())))))))), ()), ())))
else none
else none
else none)
else (some ((), (((d19.2.1.1.1, (d19.2.1.1.2.1, (d19.2.1.1.2.2.1, (d19.2.1.1.2.2.2.1, (d19.2.1.1.2.2.2.2.1, ()))))), ()), ((d19.2.2.1.1, ()), ()))))) : Option ((Unit) × (Y9 × (Y5 × Unit) × Unit))).bind fun v21 =>
some ((), ((v21.2.2.1.1, ()), ()))

def sp77 : Abs.Spec := ⟨0, i77, o77, m77⟩

def an77 : Nat → Abs.FAn
  | 0 => Abs.FAn.mk (fun _ => none) (fun
    | 11 => some (⟨[4, 3], (.st (.ptr (0, 0) 8 0 0) (.st (.ptr (1, 0) 8 0 0) .nil)), (.box 8 (.agg (.dat (.int .i64) (.dat (.int .i64) (.dat (.int .i64) (.dat (.int .i64) (.st .nil (.dat (.int .i64) (.st .nil (.st .nil .nil)))))))) .nil) (.box 8 (.dat Z3 .nil) .nil))⟩, none)
    | 7 => some (⟨[5, 9, 4, 3, 0, 10, 11], (.dat (.int .i64) (.dat (.row .bool) (.st (.ptr (0, 0) 8 0 0) (.st (.ptr (1, 0) 8 0 0) (.dat (.int .i64) (.dat (.int .i64) (.dat (.int .i64) .nil))))))), (.box 8 (.agg (.dat (.int .i64) (.dat (.int .i64) (.dat (.int .i64) (.dat (.int .i64) (.st .nil (.dat (.int .i64) (.st .nil (.st .nil .nil)))))))) .nil) (.box 8 (.dat Z3 .nil) .nil))⟩, none)
    | _ => none) (fun
    | 3 => some ⟨⟨[11, 5, 9, 4, 3, 0, 10], (.dat (.int .i64) (.dat (.int .i64) (.dat (.row .bool) (.st (.ptr (0, 0) 8 0 0) (.st (.ptr (1, 0) 8 0 0) (.dat (.int .i64) (.dat (.int .i64) .nil))))))), (.box 8 (.agg (.dat (.int .i64) (.dat (.int .i64) (.dat (.int .i64) (.dat (.int .i64) (.st .nil (.dat (.int .i64) (.st .nil (.st .nil .nil)))))))) .nil) (.box 8 (.dat Z3 .nil) .nil))⟩, (.one (.exit 0) ⟨[4, 3, 0, 5], (.st (.ptr (0, 0) 8 0 0) (.st (.ptr (1, 0) 8 0 0) (.dat (.int .i64) (.dat (.int .i64) .nil)))), (.box 8 (.agg (.dat (.int .i64) (.dat (.int .i64) (.dat (.int .i64) (.dat (.int .i64) (.st .nil (.dat (.int .i64) (.st .nil (.st .nil .nil)))))))) .nil) (.box 8 (.dat Z3 .nil) .nil))⟩)⟩
    | _ => none) (fun _ _ => 0)
  | _ => {}

theorem ok77 : Abs.SpecOK Try.prog 77 sp77 :=
  Abs.specOK_of (n := 12) (an := an77) (T := Abs.tabOf [(28, sp28)]) good foll (Abs.tabOf_ok _ (by simp only [List.forall_mem_cons]; exact ⟨ok28, fun _ h => by cases h⟩)) rfl (by intro v; kernel_rfl)

def l23_0_11 (v : ((Int × Int × Int × Unit) × (Y9 × (List Y6) × Y9 × Y2 × (List Bool) × Unit))) : Option (((Int × Int × Int × Unit) × (Y9 × (List Y6) × Y9 × Y2 × (List Bool) × Unit)) ⊕ ((Int × Unit) × (Y9 × (List Y6) × Y9 × Y2 × (List Bool) × Unit))) :=
bif (decide ((v.1.1 : Int) < v.1.2.2.1)) then (((bif ((v.1.1 : Int) != v.2.1.1.1) then ((m75 (((v.2.1.1.1, (v.2.1.1.2.1, (v.2.1.1.2.2.1, (v.2.1.1.2.2.2.1, (v.2.2.2.2.1, (v.2.1.1.2.2.2.2.1, (v.2.2.2.2.2.1, ([], ())))))))), ()), ())).bind fun u27 =>
bif (decide (v.2.2.1.length + ([(1, (v.2.1.1.1, (v.1.1, (v.2.1.1.2.1, (((v.2.2.2.2.1.length : Nat) : Int), (u27.1.1, (0, ([], (false, ())))))))))] : List Y6).length ≤ 4294967296)) then
let x28 := (v.2.2.1 ++ ([(1, (v.2.1.1.1, (v.1.1, (v.2.1.1.2.1, (((v.2.2.2.2.1.length : Nat) : Int), (u27.1.1, (0, ([], (false, ())))))))))] : List Y6))
some ((v.1.2.1, (v.1.2.2.1, (v.1.1, ()))), (((v.2.1.1.1, (v.2.1.1.2.1, (v.2.1.1.2.2.1, (v.2.1.1.2.2.2.1, (v.2.1.1.2.2.2.2.1, ()))))), ()), (x28, (((v.2.2.2.1.1.1, (v.2.2.2.1.1.2.1, (v.2.2.2.1.1.2.2.1, (v.2.2.2.1.1.2.2.2.1, (v.2.2.2.1.1.2.2.2.2.1, ()))))), ()), (v.2.2.2.2.1, (v.2.2.2.2.2.1, ()))))))
else none)
else (some ((v.1.2.1, (v.1.2.2.1, (v.1.1, ()))), (((v.2.1.1.1, (v.2.1.1.2.1, (v.2.1.1.2.2.1, (v.2.1.1.2.2.2.1, (v.2.1.1.2.2.2.2.1, ()))))), ()), (v.2.2.1, (((v.2.2.2.1.1.1, (v.2.2.2.1.1.2.1, (v.2.2.2.1.1.2.2.1, (v.2.2.2.1.1.2.2.2.1, (v.2.2.2.1.1.2.2.2.2.1, ()))))), ()), (v.2.2.2.2.1, (v.2.2.2.2.2.1, ())))))))) : Option ((Int × Int × Int × Unit) × (Y9 × (List Y6) × Y9 × Y2 × (List Bool) × Unit))).bind fun v29 =>
some (.inl (((w64 (v29.1.2.2.1 + 1)), (v29.1.1, (v29.1.2.1, ()))), (((v29.2.1.1.1, (v29.2.1.1.2.1, (v29.2.1.1.2.2.1, (v29.2.1.1.2.2.2.1, (v29.2.1.1.2.2.2.2.1, ()))))), ()), (v29.2.2.1, (((v29.2.2.2.1.1.1, (v29.2.2.2.1.1.2.1, (v29.2.2.2.1.1.2.2.1, (v29.2.2.2.1.1.2.2.2.1, (v29.2.2.2.1.1.2.2.2.2.1, ()))))), ()), (v29.2.2.2.2.1, (v29.2.2.2.2.2.1, ()))))))))
else (some (.inr ((v.1.2.1, ()), (((v.2.2.2.1.1.1, (v.2.2.2.1.1.2.1, (v.2.2.2.1.1.2.2.1, (v.2.2.2.1.1.2.2.2.1, (v.2.2.2.1.1.2.2.2.2.1, ()))))), ()), (v.2.2.1, (((v.2.1.1.1, (v.2.1.1.2.1, (v.2.1.1.2.2.1, (v.2.1.1.2.2.2.1, (v.2.1.1.2.2.2.2.1, ()))))), ()), (v.2.2.2.2.1, (v.2.2.2.2.2.1, ()))))))))

/- pagewatch/vote.Stand -/
def i23 : Abs.Sg := ⟨[0, 1], (.dat (.int .i64) (.dat Z3 .nil)), .nil⟩

def o23 : Abs.Sg := ⟨[4, 5, 6], (.st (.ptr (0, 0) 8 0 0) (.st (.own Z4 (1, 0)) (.dat (.int .i64) .nil))), (.box 8 (.dat Z3 .nil) (.arr Z4 false .nil))⟩

def m23 (v : ((Int × Y5 × Unit) × (Unit))) : Option ((Int × Unit) × ((Y5 × Unit) × (List Y6) × Unit)) :=
(m26 ((v.1.1, (v.1.2.1, ())), ())).bind fun u25 =>
bif (!u25.1.1) then (some ((8, ()), (((0, (0, (0, (0, ([], (0, ([], ([], ())))))))), ()), ([], ()))))
else (bif ((v.1.2.1.2.1 : Int) == 1048576) then (some ((5, ()), (((0, (0, (0, (0, ([], (0, ([], ([], ())))))))), ()), ([], ()))))
else ((m76 ((v.1.2.1, ()), ())).bind fun u26 =>
bif (decide ((0 : Int) ≤ v.1.1 ∧ (v.1.1 : Int) ≤ v.1.1 ∧ (v.1.1 : Int) ≤ 4294967296)) then
bif (decide ((0 : Int) ≤ u26.2.1.1.1 ∧ (u26.2.1.1.1 : Int) < (List.replicate v.1.1.toNat (false : Bool)).length)) then
bif (decide (u26.2.1.1.1.toNat < (List.replicate v.1.1.toNat (false : Bool)).length)) then
(loopT l23_0_11 ((0, (v.1.1, (v.1.1, ()))), (((u26.2.1.1.1, ((w64 (u26.2.1.1.2.1 + 1)), (u26.2.1.1.1, (1, (u26.2.1.1.2.2.2.2.1, ()))))), ()), ([], (((0, (0, (0, (0, (0, ()))))), ()), (u26.2.2.1, (((List.replicate v.1.1.toNat (false : Bool)).set u26.2.1.1.1.toNat true), ()))))))).bind fun d30 =>
(m77 ((d30.1.1, ((d30.2.2.2.1.1.1, (d30.2.2.2.1.1.2.1, (d30.2.2.2.1.1.2.2.1, (d30.2.2.2.1.1.2.2.2.1, (d30.2.2.2.2.1, (d30.2.2.2.1.1.2.2.2.2.1, (d30.2.2.2.2.2.1, ([], ())))))))), ())), ())).bind fun u31 =>
some ((0, ()), ((u31.2.1.1, ()), (d30.2.2.1, ())))
else none
else none
else none))

def sp23 : Abs.Spec := ⟨0, i23, o23, m23⟩

def an23 : Nat → Abs.FAn
  | 0 => Abs.FAn.mk (fun _ => none) (fun
    | 15 => some (⟨[3, 7, 4, 0, 37, 38], (.st (.ptr (0, 0) 8 0 0) (.st (.own Z4 (1, 0)) (.st (.ptr (2, 0) 8 0 0) (.dat (.int .i64) (.dat (.int .i64) (.dat (.int .i64) .nil)))))), (.box 8 (.agg (.dat (.int .i64) (.dat (.int .i64) (.dat (.int .i64) (.dat (.int .i64) (.st (.own Z1 (3, 0)) (.dat (.int .i64) (.st (.own .bool (4, 0)) (.st .nil .nil)))))))) .nil) (.arr Z4 false (.box 8 (.agg (.dat (.int .i64) (.dat (.int .i64) (.dat (.int .i64) (.dat (.int .i64) (.st .nil (.dat (.int .i64) (.st .nil (.st .nil .nil)))))))) .nil) (.arr Z1 false (.arr .bool false .nil)))))⟩, none)
    | _ => none) (fun
    | 11 => some ⟨⟨[38, 3, 7, 4, 0, 37], (.dat (.int .i64) (.st (.ptr (0, 0) 8 0 0) (.st (.own Z4 (1, 0)) (.st (.ptr (2, 0) 8 0 0) (.dat (.int .i64) (.dat (.int .i64) .nil)))))), (.box 8 (.agg (.dat (.int .i64) (.dat (.int .i64) (.dat (.int .i64) (.dat (.int .i64) (.st (.own Z1 (3, 0)) (.dat (.int .i64) (.st (.own .bool (4, 0)) (.st .nil .nil)))))))) .nil) (.arr Z4 false (.box 8 (.agg (.dat (.int .i64) (.dat (.int .i64) (.dat (.int .i64) (.dat (.int .i64) (.st .nil (.dat (.int .i64) (.st .nil (.st .nil .nil)))))))) .nil) (.arr Z1 false (.arr .bool false .nil)))))⟩, (.one (.exit 0) ⟨[4, 7, 3, 0], (.st (.ptr (0, 0) 8 0 0) (.st (.own Z4 (1, 0)) (.st (.ptr (2, 0) 8 0 0) (.dat (.int .i64) .nil)))), (.box 8 (.agg (.dat (.int .i64) (.dat (.int .i64) (.dat (.int .i64) (.dat (.int .i64) (.st .nil (.dat (.int .i64) (.st .nil (.st .nil .nil)))))))) .nil) (.arr Z4 false (.box 8 (.agg (.dat (.int .i64) (.dat (.int .i64) (.dat (.int .i64) (.dat (.int .i64) (.st (.own Z1 (3, 0)) (.dat (.int .i64) (.st (.own .bool (4, 0)) (.st .nil .nil)))))))) .nil) (.arr Z1 false (.arr .bool false .nil)))))⟩)⟩
    | _ => none) (fun _ _ => 0)
  | _ => {}

theorem ok23 : Abs.SpecOK Try.prog 23 sp23 :=
  Abs.specOK_of (n := 12) (an := an23) (T := Abs.tabOf [(26, sp26), (76, sp76), (75, sp75), (77, sp77)]) good foll (Abs.tabOf_ok _ (by simp only [List.forall_mem_cons]; exact ⟨ok26, ok76, ok75, ok77, fun _ h => by cases h⟩)) rfl (by intro v; kernel_rfl)

/- pagewatch/vote.Heard -/
def i78 : Abs.Sg := ⟨[0, 1, 2, 3], (.dat (.int .i64) (.dat Z3 (.dat Z4 (.dat (.int .i64) .nil)))), .nil⟩

def o78 : Abs.Sg := ⟨[8], (.dat .bool .nil), .nil⟩

def m78 (v : ((Int × Y5 × Y6 × Int × Unit) × (Unit))) : Option Y13 :=
(((m26 ((v.1.1, (v.1.2.1, ())), ())).bind fun u7 =>
bif u7.1.1 then (bif ((v.1.2.2.1.1 : Int) == v.1.2.2.2.1) then (bif ((v.1.2.2.1.2.2.1 : Int) == v.1.2.1.1) then ((m81 ((v.1.2.2.1.2.1, (0, ((w64 (v.1.1 - 1)), ()))), ())).bind fun u8 =>
bif u8.1.1 then (bif ((v.1.2.2.1.2.1 : Int) != v.1.2.1.1) then ((m81 ((v.1.2.2.1.2.2.2.1, (1, (1048576, ()))), ())).bind fun u9 =>
some ((u9.1.1, ()), ()))
else (some ((false, ()), ())))
else (some ((false, ()), ())))
else (some ((false, ()), ())))
else (some ((false, ()), ())))
else (some ((false, ()), ()))) : Option Y13).bind fun v10 =>
some ((v10.1.1, ()), ())

def sp78 : Abs.Spec := ⟨0, i78, o78, m78⟩

def an78 : Nat → Abs.FAn
  | 0 => Abs.FAn.mk (fun
    | 1 => some ⟨[8], (.dat .bool .nil), .nil⟩
    | _ => none) (fun _ => none) (fun _ => none) (fun _ _ => 0)
  | _ => {}

theorem ok78 : Abs.SpecOK Try.prog 78 sp78 :=
  Abs.specOK_of (n := 12) (an := an78) (T := Abs.tabOf [(26, sp26), (81, sp81)]) good foll (Abs.tabOf_ok _ (by simp only [List.forall_mem_cons]; exact ⟨ok26, ok81, fun _ h => by cases h⟩)) rfl (by intro v; kernel_rfl)

/- pagewatch/vote.Follow -/
def i79 : Abs.Sg := ⟨[0, 1], (.dat Z3 (.dat (.int .i64) .nil)), .nil⟩

def o79 : Abs.Sg := ⟨[4], (.st (.ptr (0, 0) 8 0 0) .nil), (.box 8 (.dat Z3 .nil) .nil)⟩

def m79 (v : ((Y5 × Int × Unit) × (Unit))) : Option ((Unit) × ((Y5 × Unit) × Unit)) :=
(((m81 ((v.1.2.1, ((w64 (v.1.1.2.1 + 1)), (1048576, ()))), ())).bind fun u5 =>
bif u5.1.1 then (some ((), (((0, (0, (0, (0, (0, ()))))), ()), (((v.1.1.1, (v.1.2.1, ((-1), (0, (v.1.1.2.2.2.2.1, (v.1.1.2.2.2.2.2.1, ([], ([], ())))))))), ()), ()))))
else (some ((), (((0, (0, (0, (0, (0, ()))))), ()), ((v.1.1, ()), ()))))) : Option ((Unit) × (Y9 × (Y5 × Unit) × Unit))).bind fun v6 =>
some ((), ((v6.2.2.1.1, ()), ()))

def sp79 : Abs.Spec := ⟨0, i79, o79, m79⟩

def an79 : Nat → Abs.FAn
  | 0 => Abs.FAn.mk (fun _ => none) (fun
    | 3 => some (⟨[4, 2], (.st (.ptr (0, 0) 8 0 0) (.st (.ptr (1, 0) 8 0 0) .nil)), (.box 8 (.agg (.dat (.int .i64) (.dat (.int .i64) (.dat (.int .i64) (.dat (.int .i64) (.st .nil (.dat (.int .i64) (.st .nil (.st .nil .nil)))))))) .nil) (.box 8 (.dat Z3 .nil) .nil))⟩, none)
    | _ => none) (fun _ => none) (fun _ _ => 0)
  | _ => {}

theorem ok79 : Abs.SpecOK Try.prog 79 sp79 :=
  Abs.specOK_of (n := 12) (an := an79) (T := Abs.tabOf [(81, sp81)]) good foll (Abs.tabOf_ok _ (by simp only [List.forall_mem_cons]; exact ⟨ok81, fun _ h => by cases h⟩)) rfl (by intro v; kernel_rfl)

/- pagewatch/vote.Fresh -/
def i21 : Abs.Sg := ⟨[0, 1, 2], (.dat Z3 (.dat (.int .i64) (.dat (.int .i64) .nil))), .nil⟩

def o21 : Abs.Sg := ⟨[6], (.dat .bool .nil), .nil⟩

def m21 (v : ((Y5 × Int × Int × Unit) × (Unit))) : Option Y13 :=
(((m75 ((v.1.1, ()), ())).bind fun u7 =>
bif (decide ((v.1.2.2.1 : Int) > u7.1.1)) then (some ((true, ()), ()))
else ((m75 ((v.1.1, ()), ())).bind fun u8 =>
bif ((v.1.2.2.1 : Int) == u8.1.1) then (let x9 := (decide ((v.1.2.1 : Int) ≥ (v.1.1.2.2.2.2.1.length : Int)))
some ((x9, ()), ()))
else (some ((false, ()), ())))) : Option Y13).bind fun v10 =>
some ((v10.1.1, ()), ())

def sp21 : Abs.Spec := ⟨0, i21, o21, m21⟩

def an21 : Nat → Abs.FAn
  | 0 => Abs.FAn.mk (fun
    | 1 => some ⟨[6], (.dat .bool .nil), .nil⟩
    | _ => none) (fun _ => none) (fun _ => none) (fun _ _ => 0)
  | _ => {}

theorem ok21 : Abs.SpecOK Try.prog 21 sp21 :=
  Abs.specOK_of (n := 12) (an := an21) (T := Abs.tabOf [(75, sp75)]) good foll (Abs.tabOf_ok _ (by simp only [List.forall_mem_cons]; exact ⟨ok75, fun _ h => by cases h⟩)) rfl (by intro v; kernel_rfl)

/- pagewatch/vote.Hear -/
def i24 : Abs.Sg := ⟨[0, 1, 2], (.dat (.int .i64) (.dat Z3 (.dat Z4 .nil))), .nil⟩

def o24 : Abs.Sg := ⟨[6, 7, 8], (.st (.ptr (0, 0) 8 0 0) (.st (.ptr (1, 0) 9 0 0) (.dat .bool .nil))), (.box 8 (.dat Z3 .nil) (.box 9 (.agg (.dat (.int .i64) (.dat (.int .i64) (.dat (.int .i64) (.dat (.int .i64) (.dat (.int .i64) (.dat (.int .i64) (.dat (.int .i64) (.st .nil (.dat .bool .nil))))))))) .nil) .nil))⟩

def m24 (v : ((Int × Y5 × Y6 × Unit) × (Unit))) : Option ((Bool × Unit) × ((Y5 × Unit) × Y15 × Unit)) :=
(m76 ((v.1.2.1, ()), ())).bind fun u19 =>
(m78 ((v.1.1, ((u19.2.1.1.1, (u19.2.1.1.2.1, (u19.2.1.1.2.2.1, (u19.2.1.1.2.2.2.1, (u19.2.2.1, (u19.2.1.1.2.2.2.2.1, (u19.2.2.2.1, (u19.2.2.2.2.1, ())))))))), (v.1.2.2.1, (1, ())))), ())).bind fun u20 =>
bif (!u20.1.1) then (some ((false, ()), (((u19.2.1.1.1, (u19.2.1.1.2.1, (u19.2.1.1.2.2.1, (u19.2.1.1.2.2.2.1, (u19.2.2.1, (u19.2.1.1.2.2.2.2.1, (u19.2.2.2.1, (u19.2.2.2.2.1, ())))))))), ()), (((0, (0, (0, (0, (0, (0, (0, (false, ())))))))), ()), ()))))
else ((m79 (((u19.2.1.1.1, (u19.2.1.1.2.1, (u19.2.1.1.2.2.1, (u19.2.1.1.2.2.2.1, (u19.2.2.1, (u19.2.1.1.2.2.2.2.1, (u19.2.2.2.1, (u19.2.2.2.2.1, ())))))))), (v.1.2.2.1.2.2.2.1, ())), ())).bind fun u21 =>
((bif ((u21.2.1.1.2.1 : Int) == v.1.2.2.1.2.2.2.1) then (bif ((u21.2.1.1.2.2.1 : Int) == (-1)) then (bif ((u21.2.1.1.2.2.2.1 : Int) == 0) then ((m21 ((u21.2.1.1, (v.1.2.2.1.2.2.2.2.1, (v.1.2.2.1.2.2.2.2.2.1, ()))), ())).bind fun u22 =>
some ((u22.1.1, ()), (((0, (0, (0, (0, (0, ()))))), ()), (((0, (0, (0, (0, (0, (0, (0, (false, ())))))))), ()), ((u21.2.1.1, ()), ((v.1.2.2.1, ()), ()))))))
else (some ((false, ()), (((0, (0, (0, (0, (0, ()))))), ()), (((0, (0, (0, (0, (0, (0, (0, (false, ())))))))), ()), ((u21.2.1.1, ()), ((v.1.2.2.1, ()), ())))))))
else (bif ((u21.2.1.1.2.2.1 : Int) == v.1.2.2.1.2.1) then (bif ((u21.2.1.1.2.2.2.1 : Int) == 0) then ((m21 ((u21.2.1.1, (v.1.2.2.1.2.2.2.2.1, (v.1.2.2.1.2.2.2.2.2.1, ()))), ())).bind fun u23 =>
some ((u23.1.1, ()), (((0, (0, (0, (0, (0, ()))))), ()), (((0, (0, (0, (0, (0, (0, (0, (false, ())))))))), ()), ((u21.2.1.1, ()), ((v.1.2.2.1, ()), ()))))))
else (some ((false, ()), (((0, (0, (0, (0, (0, ()))))), ()), (((0, (0, (0, (0, (0, (0, (0, (false, ())))))))), ()), ((u21.2.1.1, ()), ((v.1.2.2.1, ()), ())))))))
else (some ((false, ()), (((0, (0, (0, (0, (0, ()))))), ()), (((0, (0, (0, (0, (0, (0, (0, (false, ())))))))), ()), ((u21.2.1.1, ()), ((v.1.2.2.1, ()), ()))))))))
else (some ((false, ()), (((0, (0, (0, (0, (0, ()))))), ()), (((0, (0, (0, (0, (0, (0, (0, (false, ())))))))), ()), ((u21.2.1.1, ()), ((v.1.2.2.1, ()), ()))))))) : Option ((Bool × Unit) × (Y9 × Y15 × (Y5 × Unit) × (Y6 × Unit) × Unit))).bind fun v24 =>
((bif v24.1.1 then (some ((v24.1.1, ()), (((v24.2.1.1.1, (v24.2.1.1.2.1, (v24.2.1.1.2.2.1, (v24.2.1.1.2.2.2.1, (v24.2.1.1.2.2.2.2.1, ()))))), ()), (((v24.2.2.1.1.1, (v24.2.2.1.1.2.1, (v24.2.2.1.1.2.2.1, (v24.2.2.1.1.2.2.2.1, (v24.2.2.1.1.2.2.2.2.1, (v24.2.2.1.1.2.2.2.2.2.1, (v24.2.2.1.1.2.2.2.2.2.2.1, (v24.2.2.1.1.2.2.2.2.2.2.2.1, ())))))))), ()), (((v24.2.2.2.1.1.1, (v24.2.2.2.1.1.2.1, (v24.2.2.2.2.1.1.2.1, v24.2.2.2.1.1.2.2.2))), ()), ((v24.2.2.2.2.1.1, ()), ()))))))
else (some ((v24.1.1, ()), (((v24.2.1.1.1, (v24.2.1.1.2.1, (v24.2.1.1.2.2.1, (v24.2.1.1.2.2.2.1, (v24.2.1.1.2.2.2.2.1, ()))))), ()), (((v24.2.2.1.1.1, (v24.2.2.1.1.2.1, (v24.2.2.1.1.2.2.1, (v24.2.2.1.1.2.2.2.1, (v24.2.2.1.1.2.2.2.2.1, (v24.2.2.1.1.2.2.2.2.2.1, (v24.2.2.1.1.2.2.2.2.2.2.1, (v24.2.2.1.1.2.2.2.2.2.2.2.1, ())))))))), ()), ((v24.2.2.2.1.1, ()), ((v24.2.2.2.2.1.1, ()), ()))))))) : Option ((Bool × Unit) × (Y9 × Y15 × (Y5 × Unit) × (Y6 × Unit) × Unit))).bind fun v25 =>
some ((true, ()), ((v25.2.2.2.1.1, ()), (((2, (v25.2.2.2.1.1.1, (v25.2.2.2.2.1.1.2.1, (v25.2.2.2.1.1.2.1, (0, (0, (0, (v25.1.1, ())))))))), ()), ()))))

def sp24 : Abs.Spec := ⟨0, i24, o24, m24⟩

def an24 : Nat → Abs.FAn
  | 0 => Abs.FAn.mk (fun
    | 5 => some ⟨[6, 7, 9, 4, 5], (.st (.ptr (0, 0) 8 0 0) (.st (.ptr (1, 0) 9 0 0) (.dat .bool (.st (.ptr (2, 0) 8 0 0) (.st (.ptr (3, 0) 9 0 0) .nil))))), (.box 8 (.agg (.dat (.int .i64) (.dat (.int .i64) (.dat (.int .i64) (.dat (.int .i64) (.st .nil (.dat (.int .i64) (.st .nil (.st .nil .nil)))))))) .nil) (.box 9 (.agg (.dat (.int .i64) (.dat (.int .i64) (.dat (.int .i64) (.dat (.int .i64) (.dat (.int .i64) (.dat (.int .i64) (.dat (.int .i64) (.st .nil (.dat .bool .nil))))))))) .nil) (.box 8 (.dat Z3 .nil) (.box 9 (.dat Z4 .nil) .nil))))⟩
    | _ => none) (fun
    | 8 => some (⟨[6, 7, 9, 4, 5], (.st (.ptr (0, 0) 8 0 0) (.st (.ptr (1, 0) 9 0 0) (.dat .bool (.st (.ptr (2, 0) 8 0 0) (.st (.ptr (3, 0) 9 0 0) .nil))))), (.box 8 (.agg (.dat (.int .i64) (.dat (.int .i64) (.dat (.int .i64) (.dat (.int .i64) (.st .nil (.dat (.int .i64) (.st .nil (.st .nil .nil)))))))) .nil) (.box 9 (.agg (.dat (.int .i64) (.dat (.int .i64) (.dat (.int .i64) (.dat (.int .i64) (.dat (.int .i64) (.dat (.int .i64) (.dat (.int .i64) (.st .nil (.dat .bool .nil))))))))) .nil) (.box 8 (.dat Z3 .nil) (.box 9 (.dat Z4 .nil) .nil))))⟩, none)
    | _ => none) (fun _ => none) (fun _ _ => 0)
  | _ => {}

theorem ok24 : Abs.SpecOK Try.prog 24 sp24 :=
  Abs.specOK_of (n := 12) (an := an24) (T := Abs.tabOf [(76, sp76), (78, sp78), (79, sp79), (21, sp21)]) good foll (Abs.tabOf_ok _ (by simp only [List.forall_mem_cons]; exact ⟨ok76, ok78, ok79, ok21, fun _ h => by cases h⟩)) rfl (by intro v; kernel_rfl)

/- pagewatch/vote.Voted -/
def i36 : Abs.Sg := ⟨[0, 1, 2], (.dat (.int .i64) (.dat Z3 (.dat Z4 .nil))), .nil⟩

def o36 : Abs.Sg := ⟨[6], (.st (.ptr (0, 0) 8 0 0) .nil), (.box 8 (.dat Z3 .nil) .nil)⟩

def m36 (v : ((Int × Y5 × Y6 × Unit) × (Unit))) : Option ((Unit) × ((Y5 × Unit) × Unit)) :=
(m76 ((v.1.2.1, ()), ())).bind fun u19 =>
(m78 ((v.1.1, ((u19.2.1.1.1, (u19.2.1.1.2.1, (u19.2.1.1.2.2.1, (u19.2.1.1.2.2.2.1, (u19.2.2.1, (u19.2.1.1.2.2.2.2.1, (u19.2.2.2.1, (u19.2.2.2.2.1, ())))))))), (v.1.2.2.1, (2, ())))), ())).bind fun u20 =>
bif (!u20.1.1) then (some ((), (((u19.2.1.1.1, (u19.2.1.1.2.1, (u19.2.1.1.2.2.1, (u19.2.1.1.2.2.2.1, (u19.2.2.1, (u19.2.1.1.2.2.2.2.1, (u19.2.2.2.1, (u19.2.2.2.2.1, ())))))))), ()), ())))
else (let x21 := (decide ((v.1.2.2.1.2.2.2.1 : Int) > u19.2.1.1.2.1))
bif x21 then ((m79 (((u19.2.1.1.1, (u19.2.1.1.2.1, (u19.2.1.1.2.2.1, (u19.2.1.1.2.2.2.1, (u19.2.2.1, (u19.2.1.1.2.2.2.2.1, (u19.2.2.2.1, (u19.2.2.2.2.1, ())))))))), (v.1.2.2.1.2.2.2.1, ())), ())).bind fun u22 =>
some ((), ((u22.2.1.1, ()), ())))
else (((bif ((u19.2.1.1.2.2.2.1 : Int) != 1) then (some ((true, (v.1.1, ())), (((0, (0, (0, (0, (0, ()))))), ()), (((u19.2.1.1.1, (u19.2.1.1.2.1, (u19.2.1.1.2.2.1, (u19.2.1.1.2.2.2.1, (u19.2.1.1.2.2.2.2.1, ()))))), ()), ((v.1.2.2.1, ()), (u19.2.2.1, (u19.2.2.2.1, (u19.2.2.2.2.1, ()))))))))
else (bif ((v.1.2.2.1.2.2.2.1 : Int) != u19.2.1.1.2.1) then (some ((true, (v.1.1, ())), (((0, (0, (0, (0, (0, ()))))), ()), (((u19.2.1.1.1, (u19.2.1.1.2.1, (u19.2.1.1.2.2.1, (u19.2.1.1.2.2.2.1, (u19.2.1.1.2.2.2.2.1, ()))))), ()), ((v.1.2.2.1, ()), (u19.2.2.1, (u19.2.2.2.1, (u19.2.2.2.2.1, ()))))))))
else (some (((!v.1.2.2.1.2.2.2.2.2.2.2.2.1), (v.1.1, ())), (((0, (0, (0, (0, (0, ()))))), ()), (((u19.2.1.1.1, (u19.2.1.1.2.1, (u19.2.1.1.2.2.1, (u19.2.1.1.2.2.2.1, (u19.2.1.1.2.2.2.2.1, ()))))), ()), ((v.1.2.2.1, ()), (u19.2.2.1, (u19.2.2.2.1, (u19.2.2.2.2.1, ())))))))))) : Option ((Bool × Int × Unit) × (Y9 × Y9 × (Y6 × Unit) × Y2 × (List Bool) × (List Int) × Unit))).bind fun v23 =>
bif v23.1.1 then (some ((), (((v23.2.2.1.1.1, (v23.2.2.1.1.2.1, (v23.2.2.1.1.2.2.1, (v23.2.2.1.1.2.2.2.1, (v23.2.2.2.2.1, (v23.2.2.1.1.2.2.2.2.1, (v23.2.2.2.2.2.1, (v23.2.2.2.2.2.2.1, ())))))))), ()), ())))
else (bif (decide ((0 : Int) ≤ v23.2.2.2.1.1.2.1 ∧ (v23.2.2.2.1.1.2.1 : Int) < v23.2.2.2.2.2.1.length)) then
bif (decide (v23.2.2.2.1.1.2.1.toNat < v23.2.2.2.2.2.1.length)) then
(m77 ((v23.1.2.1, ((v23.2.2.1.1.1, (v23.2.2.1.1.2.1, (v23.2.2.1.1.2.2.1, (v23.2.2.1.1.2.2.2.1, (v23.2.2.2.2.1, (v23.2.2.1.1.2.2.2.2.1, ((v23.2.2.2.2.2.1.set v23.2.2.2.1.1.2.1.toNat true), (v23.2.2.2.2.2.2.1, ())))))))), ())), ())).bind fun u24 =>
some ((), ((u24.2.1.1, ()), ()))
else none
else none)))

def sp36 : Abs.Spec := ⟨0, i36, o36, m36⟩

def an36 : Nat → Abs.FAn
  | 0 => Abs.FAn.mk (fun
    | 6 => some ⟨[38, 6, 4, 0, 5], (.dat .bool (.st (.ptr (0, 0) 8 0 0) (.st (.ptr (1, 0) 8 0 0) (.dat (.int .i64) (.st (.ptr (2, 0) 9 0 0) .nil))))), (.box 8 (.agg (.dat (.int .i64) (.dat (.int .i64) (.dat (.int .i64) (.dat (.int .i64) (.st .nil (.dat (.int .i64) (.st .nil (.st .nil .nil)))))))) .nil) (.box 8 (.agg (.dat (.int .i64) (.dat (.int .i64) (.dat (.int .i64) (.dat (.int .i64) (.st (.own Z1 (3, 0)) (.dat (.int .i64) (.st (.own .bool (4, 0)) (.st (.own (.int .i64) (5, 0)) .nil)))))))) .nil) (.box 9 (.dat Z4 .nil) (.arr Z1 false (.arr .bool false (.arr (.int .i64) false .nil))))))⟩
    | _ => none) (fun _ => none) (fun _ => none) (fun _ _ => 0)
  | _ => {}

theorem ok36 : Abs.SpecOK Try.prog 36 sp36 :=
  Abs.specOK_of (n := 12) (an := an36) (T := Abs.tabOf [(76, sp76), (78, sp78), (79, sp79), (77, sp77)]) good foll (Abs.tabOf_ok _ (by simp only [List.forall_mem_cons]; exact ⟨ok76, ok78, ok79, ok77, fun _ h => by cases h⟩)) rfl (by intro v; kernel_rfl)

/- pagewatch/pagewatchlaw32.sane -/
def i17 : Abs.Sg := ⟨[], .nil, .nil⟩

def o17 : Abs.Sg := ⟨[0], (.dat .bool .nil), .nil⟩

def m17 (v : ((Unit) × (Unit))) : Option Y13 :=
(m39 ((0, (3, ())), ())).bind fun u24 =>
(m39 ((1, (3, ())), ())).bind fun u25 =>
(m23 ((3, ((u24.2.1.1.1, (u24.2.1.1.2.1, (u24.2.1.1.2.2.1, (u24.2.1.1.2.2.2.1, ([], (u24.2.1.1.2.2.2.2.1, ([], ([], ())))))))), ())), ())).bind fun u26 =>
((bif ((u24.1.1 : Int) != 0) then (some ((true, ()), ((u26.2.1.1, ()), (((u25.2.1.1.1, (u25.2.1.1.2.1, (u25.2.1.1.2.2.1, (u25.2.1.1.2.2.2.1, (u25.2.1.1.2.2.2.2.1, ()))))), ()), (u26.2.2.1, ())))))
else (bif ((u25.1.1 : Int) != 0) then (some ((true, ()), ((u26.2.1.1, ()), (((u25.2.1.1.1, (u25.2.1.1.2.1, (u25.2.1.1.2.2.1, (u25.2.1.1.2.2.2.1, (u25.2.1.1.2.2.2.2.1, ()))))), ()), (u26.2.2.1, ())))))
else (bif ((u26.1.1 : Int) != 0) then (some ((true, ()), ((u26.2.1.1, ()), (((u25.2.1.1.1, (u25.2.1.1.2.1, (u25.2.1.1.2.2.1, (u25.2.1.1.2.2.2.1, (u25.2.1.1.2.2.2.2.1, ()))))), ()), (u26.2.2.1, ())))))
else (some ((((((u26.2.2.1.length : Nat) : Int) : Int) != 2), ()), ((u26.2.1.1, ()), (((u25.2.1.1.1, (u25.2.1.1.2.1, (u25.2.1.1.2.2.1, (u25.2.1.1.2.2.2.1, (u25.2.1.1.2.2.2.2.1, ()))))), ()), (u26.2.2.1, ())))))))) : Option ((Bool × Unit) × ((Y5 × Unit) × Y9 × (List Y6) × Unit))).bind fun v27 =>
bif v27.1.1 then (some ((false, ()), ()))
else (bif (decide ((0 : Int) ≤ 0 ∧ (0 : Int) < v27.2.2.2.1.length)) then
(v27.2.2.2.1[0]?).bind fun e28 =>
(m24 ((3, ((v27.2.2.1.1.1, (v27.2.2.1.1.2.1, (v27.2.2.1.1.2.2.1, (v27.2.2.1.1.2.2.2.1, ([], (v27.2.2.1.1.2.2.2.2.1, ([], ([], ())))))))), (e28, ()))), ())).bind fun u29 =>
(m36 ((3, (v27.2.1.1, ((u29.2.2.1.1.1, (u29.2.2.1.1.2.1, (u29.2.2.1.1.2.2.1, (u29.2.2.1.1.2.2.2.1, (u29.2.2.1.1.2.2.2.2.1, (u29.2.2.1.1.2.2.2.2.2.1, (u29.2.2.1.1.2.2.2.2.2.2.1, ([], (u29.2.2.1.1.2.2.2.2.2.2.2.1, ()))))))))), ()))), ())).bind fun u30 =>
((bif u29.1.1 then (bif u29.2.2.1.1.2.2.2.2.2.2.2.1 then (bif ((u29.2.1.1.2.2.1 : Int) == 0) then (bif ((u30.2.1.1.2.2.2.1 : Int) == 2) then ((m28 ((5, ()), ())).bind fun u31 =>
some ((((u31.1.1 : Int) == 3), ()), ()))
else (some ((false, ()), ())))
else (some ((false, ()), ())))
else (some ((false, ()), ())))
else (some ((false, ()), ()))) : Option Y13).bind fun v32 =>
some ((v32.1.1, ()), ())
else none)

def sp17 : Abs.Spec := ⟨0, i17, o17, m17⟩

def an17 : Nat → Abs.FAn
  | 0 => Abs.FAn.mk (fun
    | 8 => some ⟨[0], (.dat .bool .nil), .nil⟩
    | 4 => some ⟨[37, 1, 3, 5], (.dat .bool (.st (.ptr (0, 0) 8 0 0) (.st (.ptr (1, 0) 8 0 0) (.st (.own Z4 (2, 0)) .nil)))), (.box 8 (.dat Z3 .nil) (.box 8 (.agg (.dat (.int .i64) (.dat (.int .i64) (.dat (.int .i64) (.dat (.int .i64) (.st .nil (.dat (.int .i64) (.st .nil (.st .nil .nil)))))))) .nil) (.arr Z4 false .nil)))⟩
    | _ => none) (fun _ => none) (fun _ => none) (fun _ _ => 0)
  | _ => {}

theorem ok17 : Abs.SpecOK Try.prog 17 sp17 :=
  Abs.specOK_of (n := 12) (an := an17) (T := Abs.tabOf [(39, sp39), (23, sp23), (24, sp24), (36, sp36), (28, sp28)]) good foll (Abs.tabOf_ok _ (by simp only [List.forall_mem_cons]; exact ⟨ok39, ok23, ok24, ok36, ok28, fun _ h => by cases h⟩)) rfl (by intro v; kernel_rfl)

/- pagewatch/pagewatchmade.Roll -/
def i18 : Abs.Sg := ⟨[0], (.dat (.row (.int .i64)) .nil), .nil⟩

def o18 : Abs.Sg := ⟨[2], (.st (.ptr (0, 0) 2 0 0) .nil), (.box 2 (.dat Z10 .nil) .nil)⟩

def m18 (v : (((List Int) × Unit) × (Unit))) : Option ((Unit) × (Y11 × Unit)) :=
some ((), (((v.1.1, (0, ())), ()), ()))

def sp18 : Abs.Spec := ⟨0, i18, o18, m18⟩

def an18 : Nat → Abs.FAn
  | _ => {}

theorem ok18 : Abs.SpecOK Try.prog 18 sp18 :=
  Abs.specOK_of (n := 12) (an := an18) (T := Abs.tabOf []) good foll (Abs.tabOf_ok _ (fun _ h => by cases h)) rfl (by intro v; kernel_rfl)

/- (*pagewatch/pagewatchmade.Dice).Next -/
def i20 : Abs.Sg := ⟨[0, 1], (.st (.ptr (0, 0) 2 0 0) (.dat (.int .i64) .nil)), (.box 2 (.dat Z10 .nil) .nil)⟩

def o20 : Abs.Sg := ⟨[4], (.dat (.int .i64) .nil), (.box 2 (.dat Z10 .nil) .nil)⟩

def m20 (v : ((Int × Unit) × (Y11 × Unit))) : Option ((Int × Unit) × (Y11 × Unit)) :=
((let x15 := (decide ((v.2.1.1.2.1 : Int) ≥ (v.2.1.1.1.length : Int)))
bif x15 then (some ((true, (v.1.1, ())), ((v.2.1.1, ()), ())))
else (some (((decide ((v.1.1 : Int) < 1)), (v.1.1, ())), ((v.2.1.1, ()), ())))) : Option ((Bool × Int × Unit) × (Y11 × Unit))).bind fun v16 =>
bif v16.1.1 then (some ((0, ()), ((v16.2.1.1, ()), ())))
else (Abs.rowAt v16.2.1.1.1 v16.2.1.1.2.1 fun e17 _ =>
bif (decide (v16.1.2.1 ≠ (0 : Int))) then
((let x18 := (decide ((((e17 : Int).tmod v16.1.2.1) : Int) < 0))
bif x18 then (some (((w64 (((e17 : Int).tmod v16.1.2.1) + v16.1.2.1)), ()), (((v16.2.1.1.1, ((w64 (v16.2.1.1.2.1 + 1)), ())), ()), ())))
else (some ((((e17 : Int).tmod v16.1.2.1), ()), (((v16.2.1.1.1, ((w64 (v16.2.1.1.2.1 + 1)), ())), ()), ())))) : Option ((Int × Unit) × (Y11 × Unit))).bind fun v19 =>
some ((v19.1.1, ()), ((v19.2.1.1, ()), ()))
else none)

def sp20 : Abs.Spec := ⟨1, i20, o20, m20⟩

def an20 : Nat → Abs.FAn
  | 0 => Abs.FAn.mk (fun
    | 1 => some ⟨[19, 1, 0], (.dat .bool (.dat (.int .i64) (.st (.ptr (0, 0) 2 0 0) .nil))), (.box 2 (.dat Z10 .nil) .nil)⟩
    | _ => none) (fun
    | 7 => some (⟨[5], (.dat (.int .i64) .nil), (.box 2 (.dat Z10 .nil) .nil)⟩, none)
    | _ => none) (fun _ => none) (fun _ _ => 0)
  | _ => {}

theorem ok20 : Abs.SpecOK Try.prog 20 sp20 :=
  Abs.specOK_of (n := 12) (an := an20) (T := Abs.tabOf []) good foll (Abs.tabOf_ok _ (fun _ h => by cases h)) rfl (by intro v; kernel_rfl)

/- (*pagewatch/pagewatchmade.Dice).One -/
def i41 : Abs.Sg := ⟨[0, 1], (.st (.ptr (0, 0) 2 0 0) (.dat (.row (.int .i64)) .nil)), (.box 2 (.dat Z10 .nil) .nil)⟩

def o41 : Abs.Sg := ⟨[4], (.dat (.int .i64) .nil), (.box 2 (.dat Z10 .nil) .nil)⟩

def m41 (v : (((List Int) × Unit) × (Y11 × Unit))) : Option ((Int × Unit) × (Y11 × Unit)) :=
(m20 (((v.1.1.length : Int), ()), ((v.2.1.1, ()), ()))).bind fun u4 =>
Abs.rowAt v.1.1 u4.1.1 fun e5 _ =>
some ((e5, ()), ((u4.2.1.1, ()), ()))

def sp41 : Abs.Spec := ⟨1, i41, o41, m41⟩

def an41 : Nat → Abs.FAn
  | _ => {}

theorem ok41 : Abs.SpecOK Try.prog 41 sp41 :=
  Abs.specOK_of (n := 12) (an := an41) (T := Abs.tabOf [(20, sp20)]) good foll (Abs.tabOf_ok _ (by simp only [List.forall_mem_cons]; exact ⟨ok20, fun _ h => by cases h⟩)) rfl (by intro v; kernel_rfl)

/- pagewatch/pagewatchref25.In -/
def i45 : Abs.Sg := ⟨[0, 1, 2], (.dat (.int .i64) (.dat (.int .i64) (.dat (.int .i64) .nil))), .nil⟩

def o45 : Abs.Sg := ⟨[6], (.dat .bool .nil), .nil⟩

def m45 (v : ((Int × Int × Int × Unit) × (Unit))) : Option Y13 :=
((bif (decide ((v.1.1 : Int) ≥ v.1.2.1)) then (some (((decide ((v.1.1 : Int) ≤ v.1.2.2.1)), ()), ()))
else (some ((false, ()), ()))) : Option Y13).bind fun v1 =>
some ((v1.1.1, ()), ())

def sp45 : Abs.Spec := ⟨0, i45, o45, m45⟩

def an45 : Nat → Abs.FAn
  | 0 => Abs.FAn.mk (fun
    | 1 => some ⟨[6], (.dat .bool .nil), .nil⟩
    | _ => none) (fun _ => none) (fun _ => none) (fun _ _ => 0)
  | _ => {}

theorem ok45 : Abs.SpecOK Try.prog 45 sp45 :=
  Abs.specOK_of (n := 12) (an := an45) (T := Abs.tabOf []) good foll (Abs.tabOf_ok _ (fun _ h => by cases h)) rfl (by intro v; kernel_rfl)

/- pagewatch/pagewatchref32.Quorum -/
def i29 : Abs.Sg := ⟨[0], (.dat (.int .i64) .nil), .nil⟩

def o29 : Abs.Sg := ⟨[2], (.dat (.int .i64) .nil), .nil⟩

def m29 (v : ((Int × Unit) × (Unit))) : Option ((Int × Unit) × (Unit)) :=
(m45 ((v.1.1, (1, (5, ()))), ())).bind fun u4 =>
bif (!u4.1.1) then (some ((0, ()), ()))
else (some (((w64 ((w64 ((v.1.1 : Int).tdiv 2)) + 1)), ()), ()))

def sp29 : Abs.Spec := ⟨0, i29, o29, m29⟩

def an29 : Nat → Abs.FAn
  | _ => {}

theorem ok29 : Abs.SpecOK Try.prog 29 sp29 :=
  Abs.specOK_of (n := 12) (an := an29) (T := Abs.tabOf [(45, sp45)]) good foll (Abs.tabOf_ok _ (by simp only [List.forall_mem_cons]; exact ⟨ok45, fun _ h => by cases h⟩)) rfl (by intro v; kernel_rfl)

def l85_0_3 (v : ((Int × Y2 × Int × Int × Unit) × (Unit))) : Option (((Int × Y2 × Int × Int × Unit) × (Unit)) ⊕ (Y13 ⊕ ((Y2 × Unit) × (Unit)))) :=
let x37 := (decide ((v.1.1 : Int) < (v.1.2.1.length : Int)))
bif x37 then (((Abs.rowAt v.1.2.1 v.1.1 fun e38 _ =>
bif (decide ((e38.1 : Int) < v.1.2.2.2.1)) then (some ((true, (v.1.2.1, (v.1.2.2.1, (v.1.1, ())))), ()))
else (Abs.rowAt v.1.2.1 v.1.1 fun e39 _ =>
some (((decide ((e39.1 : Int) > v.1.2.2.1)), (v.1.2.1, (v.1.2.2.1, (v.1.1, ())))), ()))) : Option ((Bool × Y2 × Int × Int × Unit) × (Unit))).bind fun v40 =>
bif v40.1.1 then (some (.inr (.inl ((false, ()), ()))))
else (Abs.rowAt v40.1.2.1 v40.1.2.2.2.1 fun e41 _ =>
some (.inl (((w64 (v40.1.2.2.2.1 + 1)), (v40.1.2.1, (v40.1.2.2.1, (e41.1, ())))), ()))))
else (some (.inr (.inr ((v.1.2.1, ()), ()))))

/- pagewatch/pagewatchref32.LogFits -/
def i85 : Abs.Sg := ⟨[0, 1], (.dat (.row Z1) (.dat (.int .i64) .nil)), .nil⟩

def o85 : Abs.Sg := ⟨[4], (.dat .bool .nil), .nil⟩

def m85 (v : ((Y2 × Int × Unit) × (Unit))) : Option Y13 :=
(loopT l85_0_3 ((0, (v.1.1, (v.1.2.1, (1, ())))), ())).bind fun d42 =>
sumE d42 (fun d43 => (some ((d43.1.1, ()), ()))) (fun d44 => (some (((decide (((d44.1.1.length : Int) : Int) ≤ 256)), ()), ())))

def sp85 : Abs.Spec := ⟨0, i85, o85, m85⟩

def an85 : Nat → Abs.FAn
  | 0 => Abs.FAn.mk (fun
    | 5 => some ⟨[28, 0, 1, 6], (.dat .bool (.dat (.row Z1) (.dat (.int .i64) (.dat (.int .i64) .nil)))), .nil⟩
    | _ => none) (fun _ => none) (fun
    | 3 => some ⟨⟨[6, 0, 1, 5], (.dat (.int .i64) (.dat (.row Z1) (.dat (.int .i64) (.dat (.int .i64) .nil)))), .nil⟩, (.more .ret ⟨[4], (.dat .bool .nil), .nil⟩ (.one (.exit 0) ⟨[0], (.dat (.row Z1) .nil), .nil⟩))⟩
    | _ => none) (fun _ _ => 0)
  | _ => {}

theorem ok85 : Abs.SpecOK Try.prog 85 sp85 :=
  Abs.specOK_of (n := 12) (an := an85) (T := Abs.tabOf []) good foll (Abs.tabOf_ok _ (fun _ h => by cases h)) rfl (by intro v; kernel_rfl)

def l27_0_12 (v : ((Int × Int × Unit) × ((Y5 × Unit) × Unit))) : Option (((Int × Int × Unit) × ((Y5 × Unit) × Unit)) ⊕ (Y13 ⊕ ((Unit) × (Unit)))) :=
bif (decide ((v.1.1 : Int) < v.1.2.1)) then (Abs.rowAt v.2.1.1.2.2.2.2.2.2.2.1 v.1.1 fun e119 _ =>
(m45 ((e119, (0, ((v.2.1.1.2.2.2.2.1.length : Int), ()))), ())).bind fun u120 =>
bif (!u120.1.1) then (some (.inr (.inl ((false, ()), ()))))
else (some (.inl (((w64 (v.1.1 + 1)), (v.1.2.1, ())), ((v.2.1.1, ()), ())))))
else (some (.inr (.inr ((), ()))))

/- pagewatch/pagewatchref32.Check -/
def i27 : Abs.Sg := ⟨[0, 1], (.dat (.int .i64) (.dat Z3 .nil)), .nil⟩

def o27 : Abs.Sg := ⟨[4], (.dat .bool .nil), .nil⟩

def m27 (v : ((Int × Y5 × Unit) × (Unit))) : Option Y13 :=
(((m29 ((v.1.1, ()), ())).bind fun u99 =>
bif ((u99.1.1 : Int) == 0) then (some ((true, (v.1.1, ())), ((v.1.2.1, ()), ())))
else ((m45 ((v.1.2.1.1, (0, ((w64 (v.1.1 - 1)), ()))), ())).bind fun u100 =>
bif (!u100.1.1) then (some ((true, (v.1.1, ())), ((v.1.2.1, ()), ())))
else ((m45 ((v.1.2.1.2.1, (0, (1048576, ()))), ())).bind fun u101 =>
bif (!u101.1.1) then (some ((true, (v.1.1, ())), ((v.1.2.1, ()), ())))
else ((m45 ((v.1.2.1.2.2.1, ((-1), ((w64 (v.1.1 - 1)), ()))), ())).bind fun u102 =>
bif (!u102.1.1) then (some ((true, (v.1.1, ())), ((v.1.2.1, ()), ())))
else ((m85 ((v.1.2.1.2.2.2.2.1, (v.1.2.1.2.1, ())), ())).bind fun u103 =>
bif (!u103.1.1) then (some ((true, (v.1.1, ())), ((v.1.2.1, ()), ())))
else ((m45 ((v.1.2.1.2.2.2.2.2.1, (0, ((v.1.2.1.2.2.2.2.1.length : Int), ()))), ())).bind fun u104 =>
some (((!u104.1.1), (v.1.1, ())), ((v.1.2.1, ()), ())))))))) : Option ((Bool × Int × Unit) × ((Y5 × Unit) × Unit))).bind fun v105 =>
bif v105.1.1 then (some ((false, ()), ()))
else (bif ((v105.2.1.1.2.2.2.1 : Int) == 0) then (((let x106 := (((v105.2.1.1.2.2.2.2.2.2.1.length : Int) : Int) == 0)
bif x106 then (let x107 := (((v105.2.1.1.2.2.2.2.2.2.2.1.length : Int) : Int) == 0)
some ((x107, ()), ()))
else (some ((false, ()), ()))) : Option Y13).bind fun v108 =>
some ((v108.1.1, ()), ()))
else (bif ((v105.2.1.1.2.2.2.1 : Int) == 1) then (((let x109 := (((v105.2.1.1.2.2.2.2.2.2.1.length : Int) : Int) == v105.1.2.1)
bif x109 then (Abs.rowAt v105.2.1.1.2.2.2.2.2.2.1 v105.2.1.1.1 fun e110 _ =>
bif e110 then (let x111 := (((v105.2.1.1.2.2.2.2.2.2.2.1.length : Int) : Int) == 0)
some ((x111, ()), ()))
else (some ((false, ()), ())))
else (some ((false, ()), ()))) : Option Y13).bind fun v112 =>
some ((v112.1.1, ()), ()))
else (bif ((v105.2.1.1.2.2.2.1 : Int) == 2) then (((let x113 := (((v105.2.1.1.2.2.2.2.2.2.1.length : Int) : Int) != v105.1.2.1)
bif x113 then (some ((true, (v105.1.2.1, ())), ((v105.2.1.1, ()), ())))
else (Abs.rowAt v105.2.1.1.2.2.2.2.2.2.1 v105.2.1.1.1 fun e114 _ =>
bif (!e114) then (some ((true, (v105.1.2.1, ())), ((v105.2.1.1, ()), ())))
else (let x115 := (((v105.2.1.1.2.2.2.2.2.2.2.1.length : Int) : Int) != v105.1.2.1)
bif x115 then (some ((true, (v105.1.2.1, ())), ((v105.2.1.1, ()), ())))
else (Abs.rowAt v105.2.1.1.2.2.2.2.2.2.2.1 v105.2.1.1.1 fun e116 _ =>
let x117 := ((e116 : Int) != (v105.2.1.1.2.2.2.2.1.length : Int))
some ((x117, (v105.1.2.1, ())), ((v105.2.1.1, ()), ())))))) : Option ((Bool × Int × Unit) × ((Y5 × Unit) × Unit))).bind fun v118 =>
bif v118.1.1 then (some ((false, ()), ()))
else ((loopT l27_0_12 ((0, (v118.1.2.1, ())), ((v118.2.1.1, ()), ()))).bind fun d121 =>
sumE d121 (fun d122 => (some ((d122.1.1, ()), ()))) (fun d123 => (some ((true, ()), ())))))
else (some ((false, ()), ())))))

def sp27 : Abs.Spec := ⟨0, i27, o27, m27⟩

def an27 : Nat → Abs.FAn
  | 0 => Abs.FAn.mk (fun
    | 9 => some ⟨[117, 3, 0], (.dat .bool (.st (.ptr (0, 0) 8 0 0) (.dat (.int .i64) .nil))), (.box 8 (.dat Z3 .nil) .nil)⟩
    | 7 => some ⟨[4], (.dat .bool .nil), .nil⟩
    | 5 => some ⟨[4], (.dat .bool .nil), .nil⟩
    | 1 => some ⟨[47, 3, 0], (.dat .bool (.st (.ptr (0, 0) 8 0 0) (.dat (.int .i64) .nil))), (.box 8 (.dat Z3 .nil) .nil)⟩
    | _ => none) (fun _ => none) (fun
    | 12 => some ⟨⟨[5, 3, 0], (.dat (.int .i64) (.st (.ptr (0, 0) 8 0 0) (.dat (.int .i64) .nil))), (.box 8 (.dat Z3 .nil) .nil)⟩, (.more .ret ⟨[4], (.dat .bool .nil), .nil⟩ (.one (.exit 1) ⟨[], .nil, .nil⟩))⟩
    | _ => none) (fun _ _ => 0)
  | _ => {}

theorem ok27 : Abs.SpecOK Try.prog 27 sp27 :=
  Abs.specOK_of (n := 12) (an := an27) (T := Abs.tabOf [(29, sp29), (45, sp45), (85, sp85)]) good foll (Abs.tabOf_ok _ (by simp only [List.forall_mem_cons]; exact ⟨ok29, ok45, ok85, fun _ h => by cases h⟩)) rfl (by intro v; kernel_rfl)

/- pagewatch/pagewatchref32.Last -/
def i22 : Abs.Sg := ⟨[0], (.dat Z3 .nil), .nil⟩

def o22 : Abs.Sg := ⟨[2], (.dat (.int .i64) .nil), .nil⟩

def m22 (v : ((Y5 × Unit) × (Unit))) : Option ((Int × Unit) × (Unit)) :=
bif (((v.1.1.2.2.2.2.1.length : Int) : Int) == 0) then (some ((0, ()), ()))
else (Abs.rowAt v.1.1.2.2.2.2.1 (w64 ((v.1.1.2.2.2.2.1.length : Int) - 1)) fun e2 _ =>
some ((e2.1, ()), ()))

def sp22 : Abs.Spec := ⟨0, i22, o22, m22⟩

def an22 : Nat → Abs.FAn
  | _ => {}

theorem ok22 : Abs.SpecOK Try.prog 22 sp22 :=
  Abs.specOK_of (n := 12) (an := an22) (T := Abs.tabOf []) good foll (Abs.tabOf_ok _ (fun _ h => by cases h)) rfl (by intro v; kernel_rfl)

/- warnings: indexAddr: size -/

/- pagewatch/pagewatchlaw32.message -/
def i33 : Abs.Sg := ⟨[0, 1, 2], (.st (.ptr (0, 0) 2 0 0) (.dat Z3 (.dat (.int .i64) .nil))), (.box 2 (.dat Z10 .nil) .nil)⟩

def o33 : Abs.Sg := ⟨[6], (.st (.ptr (1, 0) 9 0 0) .nil), (.box 2 (.dat Z10 .nil) (.box 9 (.agg (.dat (.int .i64) (.dat (.int .i64) (.dat (.int .i64) (.dat (.int .i64) (.dat (.int .i64) (.dat (.int .i64) (.dat (.int .i64) (.st .nil (.dat .bool .nil))))))))) .nil) .nil))⟩

def m33 (v : ((Y5 × Int × Unit) × (Y11 × Unit))) : Option ((Unit) × (Y11 × Y15 × Unit)) :=
(m20 ((6, ()), ((v.2.1.1, ()), ()))).bind fun u20 =>
(m41 (([1, 2, u20.1.1], ()), ((u20.2.1.1, ()), ()))).bind fun u21 =>
(m20 (((w64 (v.1.2.1 + 1)), ()), ((u21.2.1.1, ()), ()))).bind fun u22 =>
(m20 ((2, ()), ((u22.2.1.1, ()), ()))).bind fun u23 =>
(m41 (([v.1.1.1, v.1.1.1, 0], ()), ((u23.2.1.1, ()), ()))).bind fun u24 =>
(m41 (([v.1.1.2.1, v.1.1.2.1, (w64 (v.1.1.2.1 + 1)), (w64 (v.1.1.2.1 - 1)), 1, 0, 1048576, 1048577], ()), ((u24.2.1.1, ()), ()))).bind fun u25 =>
(m41 (([(v.1.1.2.2.2.2.1.length : Int), 0, (w64 ((v.1.1.2.2.2.2.1.length : Int) + 1))], ()), ((u25.2.1.1, ()), ()))).bind fun u26 =>
(m22 ((v.1.1, ()), ())).bind fun u27 =>
(m41 (([u27.1.1, 0, v.1.1.2.1], ()), ((u26.2.1.1, ()), ()))).bind fun u28 =>
(m20 ((3, ()), ((u28.2.1.1, ()), ()))).bind fun u29 =>
some ((), ((u29.2.1.1, ()), (((u21.1.1, ((w64 (u22.1.1 - u23.1.1)), (u24.1.1, (u25.1.1, (u26.1.1, (u28.1.1, (0, ((decide ((u29.1.1 : Int) > 0)), ())))))))), ()), ())))

def sp33 : Abs.Spec := ⟨1, i33, o33, m33⟩

def an33 : Nat → Abs.FAn
  | _ => {}

theorem ok33 : Abs.SpecOK Try.prog 33 sp33 :=
  Abs.specOK_of (n := 12) (an := an33) (T := Abs.tabOf [(20, sp20), (41, sp41), (22, sp22)]) good foll (Abs.tabOf_ok _ (by simp only [List.forall_mem_cons]; exact ⟨ok20, ok41, ok22, fun _ h => by cases h⟩)) rfl (by intro v; kernel_rfl)

end
end Go.Proofs.Ytfbikpbejkgegaa

namespace Go.Proofs.Ytfbikpbejkgegaa
open Go Go.Abs
noncomputable section
def l5_0_9 (v : ((Int × Unit) × ((Y5 × Unit) × (List (Int × Int)) × Y11 × Unit))) : Option (((Int × Unit) × ((Y5 × Unit) × (List (Int × Int)) × Y11 × Unit)) ⊕ (Y13 ⊕ ((Unit) × (Unit)))) :=
bif (decide ((v.1.1 : Int) < 20)) then ((((m20 ((3, ()), ((v.2.2.2.1.1, ()), ()))).bind fun u213 =>
bif ((u213.1.1 : Int) == 0) then ((m23 ((5, (v.2.1.1, ())), ())).bind fun u214 =>
bif ((u214.1.1 : Int) == 0) then (bif (mpGet u214.2.1.1.2.1 v.2.2.1).isSome then (some (.inr ((false, ()), ())))
else (some (.inl ((v.1.1, ()), ((v.2.1.1, ()), ((mpSet u214.2.1.1.2.1 0 v.2.2.1), ((u213.2.1.1, ()), ((u214.2.1.1, ()), ()))))))))
else (some (.inl ((v.1.1, ()), ((v.2.1.1, ()), (v.2.2.1, ((u213.2.1.1, ()), ((v.2.1.1, ()), ()))))))))
else (bif ((u213.1.1 : Int) == 1) then ((m33 ((v.2.1.1, (5, ())), ((u213.2.1.1, ()), ()))).bind fun u215 =>
(m24 ((5, (v.2.1.1, ((1, (u215.2.2.1.1.2.1, (0, (u215.2.2.1.1.2.2.2.1, (u215.2.2.1.1.2.2.2.2.1, (u215.2.2.1.1.2.2.2.2.2.1, (u215.2.2.1.1.2.2.2.2.2.2.1, ([], (u215.2.2.1.1.2.2.2.2.2.2.2.1, ()))))))))), ()))), ())).bind fun u216 =>
((bif u216.1.1 then (some ((u216.2.2.1.1.2.2.2.2.2.2.2.1, (v.1.1, ())), ((v.2.1.1, ()), (v.2.2.1, ((u215.2.1.1, ()), ((u216.2.1.1, ()), (((1, (u215.2.2.1.1.2.1, (0, (u215.2.2.1.1.2.2.2.1, (u215.2.2.1.1.2.2.2.2.1, (u215.2.2.1.1.2.2.2.2.2.1, (u215.2.2.1.1.2.2.2.2.2.2.1, (u215.2.2.1.1.2.2.2.2.2.2.2.1, ())))))))), ()), (((u216.2.2.1.1.1, (u216.2.2.1.1.2.1, (u216.2.2.1.1.2.2.1, (u216.2.2.1.1.2.2.2.1, (u216.2.2.1.1.2.2.2.2.1, (u216.2.2.1.1.2.2.2.2.2.1, (u216.2.2.1.1.2.2.2.2.2.2.1, (u216.2.2.1.1.2.2.2.2.2.2.2.1, ())))))))), ()), ()))))))))
else (some ((false, (v.1.1, ())), ((v.2.1.1, ()), (v.2.2.1, ((u215.2.1.1, ()), ((u216.2.1.1, ()), (((1, (u215.2.2.1.1.2.1, (0, (u215.2.2.1.1.2.2.2.1, (u215.2.2.1.1.2.2.2.2.1, (u215.2.2.1.1.2.2.2.2.2.1, (u215.2.2.1.1.2.2.2.2.2.2.1, (u215.2.2.1.1.2.2.2.2.2.2.2.1, ())))))))), ()), (((u216.2.2.1.1.1, (u216.2.2.1.1.2.1, (u216.2.2.1.1.2.2.1, (u216.2.2.1.1.2.2.2.1, (u216.2.2.1.1.2.2.2.2.1, (u216.2.2.1.1.2.2.2.2.2.1, (u216.2.2.1.1.2.2.2.2.2.2.1, (u216.2.2.1.1.2.2.2.2.2.2.2.1, ())))))))), ()), ()))))))))) : Option ((Bool × Int × Unit) × ((Y5 × Unit) × (List (Int × Int)) × Y11 × (Y5 × Unit) × Y15 × Y15 × Unit))).bind fun v217 =>
bif v217.1.1 then (((bif (mpGet v217.2.2.2.2.2.2.1.1.2.2.2.1 v217.2.2.1).isSome then (let x218 := ((((mpGet v217.2.2.2.2.2.2.1.1.2.2.2.1 v217.2.2.1).getD 0) : Int) != v217.2.2.2.2.2.1.1.2.1)
bif x218 then (some ((true, (v217.1.2.1, ())), ((v217.2.1.1, ()), (v217.2.2.1, ((v217.2.2.2.1.1, ()), ((v217.2.2.2.2.1.1, ()), (((v217.2.2.2.2.2.1.1.1, (v217.2.2.2.2.2.1.1.2.1, (v217.2.2.2.2.2.1.1.2.2.1, (v217.2.2.2.2.2.1.1.2.2.2.1, (v217.2.2.2.2.2.1.1.2.2.2.2.1, (v217.2.2.2.2.2.1.1.2.2.2.2.2.1, (v217.2.2.2.2.2.1.1.2.2.2.2.2.2.1, (v217.2.2.2.2.2.1.1.2.2.2.2.2.2.2.1, ())))))))), ()), (((v217.2.2.2.2.2.2.1.1.1, (v217.2.2.2.2.2.2.1.1.2.1, (v217.2.2.2.2.2.2.1.1.2.2.1, (v217.2.2.2.2.2.2.1.1.2.2.2.1, (v217.2.2.2.2.2.2.1.1.2.2.2.2.1, (v217.2.2.2.2.2.2.1.1.2.2.2.2.2.1, (v217.2.2.2.2.2.2.1.1.2.2.2.2.2.2.1, (v217.2.2.2.2.2.2.1.1.2.2.2.2.2.2.2.1, ())))))))), ()), ()))))))))
else (let x219 := ((v217.2.2.2.2.2.2.1.1.2.2.2.1 : Int) != v217.2.2.2.2.2.1.1.2.2.2.1)
some ((x219, (v217.1.2.1, ())), ((v217.2.1.1, ()), (v217.2.2.1, ((v217.2.2.2.1.1, ()), ((v217.2.2.2.2.1.1, ()), (((v217.2.2.2.2.2.1.1.1, (v217.2.2.2.2.2.1.1.2.1, (v217.2.2.2.2.2.1.1.2.2.1, (v217.2.2.2.2.2.1.1.2.2.2.1, (v217.2.2.2.2.2.1.1.2.2.2.2.1, (v217.2.2.2.2.2.1.1.2.2.2.2.2.1, (v217.2.2.2.2.2.1.1.2.2.2.2.2.2.1, (v217.2.2.2.2.2.1.1.2.2.2.2.2.2.2.1, ())))))))), ()), (((v217.2.2.2.2.2.2.1.1.1, (v217.2.2.2.2.2.2.1.1.2.1, (v217.2.2.2.2.2.2.1.1.2.2.1, (v217.2.2.2.2.2.2.1.1.2.2.2.1, (v217.2.2.2.2.2.2.1.1.2.2.2.2.1, (v217.2.2.2.2.2.2.1.1.2.2.2.2.2.1, (v217.2.2.2.2.2.2.1.1.2.2.2.2.2.2.1, (v217.2.2.2.2.2.2.1.1.2.2.2.2.2.2.2.1, ())))))))), ()), ())))))))))
else (let x220 := ((v217.2.2.2.2.2.2.1.1.2.2.2.1 : Int) != v217.2.2.2.2.2.1.1.2.2.2.1)
some ((x220, (v217.1.2.1, ())), ((v217.2.1.1, ()), (v217.2.2.1, ((v217.2.2.2.1.1, ()), ((v217.2.2.2.2.1.1, ()), (((v217.2.2.2.2.2.1.1.1, (v217.2.2.2.2.2.1.1.2.1, (v217.2.2.2.2.2.1.1.2.2.1, (v217.2.2.2.2.2.1.1.2.2.2.1, (v217.2.2.2.2.2.1.1.2.2.2.2.1, (v217.2.2.2.2.2.1.1.2.2.2.2.2.1, (v217.2.2.2.2.2.1.1.2.2.2.2.2.2.1, (v217.2.2.2.2.2.1.1.2.2.2.2.2.2.2.1, ())))))))), ()), (((v217.2.2.2.2.2.2.1.1.1, (v217.2.2.2.2.2.2.1.1.2.1, (v217.2.2.2.2.2.2.1.1.2.2.1, (v217.2.2.2.2.2.2.1.1.2.2.2.1, (v217.2.2.2.2.2.2.1.1.2.2.2.2.1, (v217.2.2.2.2.2.2.1.1.2.2.2.2.2.1, (v217.2.2.2.2.2.2.1.1.2.2.2.2.2.2.1, (v217.2.2.2.2.2.2.1.1.2.2.2.2.2.2.2.1, ())))))))), ()), ()))))))))) : Option ((Bool × Int × Unit) × ((Y5 × Unit) × (List (Int × Int)) × Y11 × (Y5 × Unit) × Y15 × Y15 × Unit))).bind fun v221 =>
bif v221.1.1 then (some (.inr ((false, ()), ())))
else (some (.inl ((v221.1.2.1, ()), ((v221.2.1.1, ()), ((mpSet v221.2.2.2.2.2.2.1.1.2.2.2.1 v221.2.2.2.2.2.1.1.2.1 v221.2.2.1), ((v221.2.2.2.1.1, ()), ((v221.2.2.2.2.1.1, ()), ()))))))))
else (some (.inl ((v217.1.2.1, ()), ((v217.2.1.1, ()), (v217.2.2.1, ((v217.2.2.2.1.1, ()), ((v217.2.2.2.2.1.1, ()), ()))))))))
else (bif ((u213.1.1 : Int) == 2) then ((m33 ((v.2.1.1, (5, ())), ((u213.2.1.1, ()), ()))).bind fun u222 =>
(m36 ((5, (v.2.1.1, ((2, (u222.2.2.1.1.2.1, (0, (u222.2.2.1.1.2.2.2.1, (u222.2.2.1.1.2.2.2.2.1, (u222.2.2.1.1.2.2.2.2.2.1, (u222.2.2.1.1.2.2.2.2.2.2.1, ([], (u222.2.2.1.1.2.2.2.2.2.2.2.1, ()))))))))), ()))), ())).bind fun u223 =>
some (.inl ((v.1.1, ()), ((v.2.1.1, ()), (v.2.2.1, ((u222.2.1.1, ()), ((u223.2.1.1, ()), ())))))))
else (some (.inl ((v.1.1, ()), ((v.2.1.1, ()), (v.2.2.1, ((u213.2.1.1, ()), ((v.2.1.1, ()), ())))))))))) : Option (((Int × Unit) × ((Y5 × Unit) × (List (Int × Int)) × Y11 × (Y5 × Unit) × Unit)) ⊕ Y13)).bind fun r226 =>
sumE r226 (fun v224 => (((let x227 := (decide ((v224.2.2.2.2.1.1.2.1 : Int) < v224.2.1.1.2.1))
bif x227 then (some ((true, (v224.1.1, ())), ((v224.2.1.1, ()), (v224.2.2.1, ((v224.2.2.2.1.1, ()), ((v224.2.2.2.2.1.1, ()), ()))))))
else ((m27 ((5, (v224.2.2.2.2.1.1, ())), ())).bind fun u228 =>
some (((!u228.1.1), (v224.1.1, ())), ((v224.2.1.1, ()), (v224.2.2.1, ((v224.2.2.2.1.1, ()), ((v224.2.2.2.2.1.1, ()), ()))))))) : Option ((Bool × Int × Unit) × ((Y5 × Unit) × (List (Int × Int)) × Y11 × (Y5 × Unit) × Unit))).bind fun v229 =>
bif v229.1.1 then (some (.inr (.inl ((false, ()), ()))))
else (some (.inl (((w64 (v229.1.2.1 + 1)), ()), ((v229.2.2.2.2.1.1, ()), (v229.2.2.1, ((v229.2.2.2.1.1, ()), ())))))))) (fun d225 => (some (.inr (.inl ((d225.1.1, ()), ()))))))
else (some (.inr (.inr ((), ()))))

/- pagewatch/pagewatchlaw32.VoteOnce -/
def i5 : Abs.Sg := ⟨[0], (.dat (.row (.int .i64)) .nil), .nil⟩

def o5 : Abs.Sg := ⟨[2], (.dat .bool .nil), .nil⟩

def m5 (v : (((List Int) × Unit) × (Unit))) : Option Y13 :=
(m16 ((v.1.1, ()), ())).bind fun u209 =>
bif (!u209.1.1) then ((m17 ((), ())).bind fun u210 =>
some ((u210.1.1, ()), ()))
else ((m18 ((v.1.1, ()), ())).bind fun u211 =>
(m39 ((0, (5, ())), ())).bind fun u212 =>
bif ((u212.1.1 : Int) != 0) then (some ((false, ()), ()))
else ((loopT l5_0_9 ((0, ()), (((u212.2.1.1.1, (u212.2.1.1.2.1, (u212.2.1.1.2.2.1, (u212.2.1.1.2.2.2.1, ([], (u212.2.1.1.2.2.2.2.1, ([], ([], ())))))))), ()), ([], ((u211.2.1.1, ()), ()))))).bind fun d230 =>
sumE d230 (fun d231 => (some ((d231.1.1, ()), ()))) (fun d232 => ((m17 ((), ())).bind fun u233 =>
some ((u233.1.1, ()), ())))))

def sp5 : Abs.Spec := ⟨0, i5, o5, m5⟩

def an5 : Nat → Abs.FAn
  | 0 => Abs.FAn.mk (fun
    | 35 => some ⟨[128, 4, 6, 3, 7, 8], (.dat .bool (.st (.ptr (0, 0) 8 0 0) (.st (.ptr (1, 0) 0 0 0) (.st (.ptr (2, 0) 2 0 0) (.dat (.int .i64) (.st (.ptr (3, 0) 8 0 0) .nil)))))), (.box 8 (.dat Z3 .nil) (.mp (.int .i64) (.box 2 (.dat Z10 .nil) (.box 8 (.dat Z3 .nil) .nil))))⟩
    | 28 => some ⟨[103, 4, 6, 3, 7, 8, 14, 16], (.dat .bool (.st (.ptr (0, 0) 8 0 0) (.st (.ptr (1, 0) 0 0 0) (.st (.ptr (2, 0) 2 0 0) (.dat (.int .i64) (.st (.ptr (3, 0) 8 0 0) (.st (.ptr (4, 0) 9 0 0) (.st (.ptr (5, 0) 9 0 0) .nil)))))))), (.box 8 (.dat Z3 .nil) (.mp (.int .i64) (.box 2 (.dat Z10 .nil) (.box 8 (.dat Z3 .nil) (.box 9 (.agg (.dat (.int .i64) (.dat (.int .i64) (.dat (.int .i64) (.dat (.int .i64) (.dat (.int .i64) (.dat (.int .i64) (.dat (.int .i64) (.st .nil (.dat .bool .nil))))))))) .nil) (.box 9 (.agg (.dat (.int .i64) (.dat (.int .i64) (.dat (.int .i64) (.dat (.int .i64) (.dat (.int .i64) (.dat (.int .i64) (.dat (.int .i64) (.st .nil (.dat .bool .nil))))))))) .nil) .nil))))))⟩
    | 26 => some ⟨[82, 4, 6, 3, 7, 8, 14, 16], (.dat .bool (.st (.ptr (0, 0) 8 0 0) (.st (.ptr (1, 0) 0 0 0) (.st (.ptr (2, 0) 2 0 0) (.dat (.int .i64) (.st (.ptr (3, 0) 8 0 0) (.st (.ptr (4, 0) 9 0 0) (.st (.ptr (5, 0) 9 0 0) .nil)))))))), (.box 8 (.dat Z3 .nil) (.mp (.int .i64) (.box 2 (.dat Z10 .nil) (.box 8 (.dat Z3 .nil) (.box 9 (.agg (.dat (.int .i64) (.dat (.int .i64) (.dat (.int .i64) (.dat (.int .i64) (.dat (.int .i64) (.dat (.int .i64) (.dat (.int .i64) (.st .nil (.dat .bool .nil))))))))) .nil) (.box 9 (.agg (.dat (.int .i64) (.dat (.int .i64) (.dat (.int .i64) (.dat (.int .i64) (.dat (.int .i64) (.dat (.int .i64) (.dat (.int .i64) (.st .nil (.dat .bool .nil))))))))) .nil) .nil))))))⟩
    | _ => none) (fun
    | 35 => some (⟨[4, 6, 3, 7, 8], (.st (.ptr (0, 0) 8 0 0) (.st (.ptr (1, 0) 0 0 0) (.st (.ptr (2, 0) 2 0 0) (.dat (.int .i64) (.st (.ptr (3, 0) 8 0 0) .nil))))), (.box 8 (.dat Z3 .nil) (.mp (.int .i64) (.box 2 (.dat Z10 .nil) (.box 8 (.dat Z3 .nil) .nil))))⟩, some (.one .ret ⟨[2], (.dat .bool .nil), .nil⟩))
    | _ => none) (fun
    | 9 => some ⟨⟨[7, 4, 6, 3], (.dat (.int .i64) (.st (.ptr (0, 0) 8 0 0) (.st (.ptr (1, 0) 0 0 0) (.st (.ptr (2, 0) 2 0 0) .nil)))), (.box 8 (.dat Z3 .nil) (.mp (.int .i64) (.box 2 (.dat Z10 .nil) .nil)))⟩, (.more .ret ⟨[2], (.dat .bool .nil), .nil⟩ (.one (.exit 0) ⟨[], .nil, .nil⟩))⟩
    | _ => none) (fun _ _ => 0)
  | _ => {}

theorem ok5 : Abs.SpecOK Try.prog 5 sp5 :=
  Abs.specOK_of (n := 12) (an := an5) (T := Abs.tabOf [(16, sp16), (17, sp17), (18, sp18), (39, sp39), (20, sp20), (23, sp23), (33, sp33), (24, sp24), (36, sp36), (27, sp27)]) good foll (Abs.tabOf_ok _ (by simp only [List.forall_mem_cons]; exact ⟨ok16, ok17, ok18, ok39, ok20, ok23, ok33, ok24, ok36, ok27, fun _ h => by cases h⟩)) rfl (by intro v; kernel_rfl)

end
end Go.Proofs.Ytfbikpbejkgegaa

namespace Go.Proofs.Ytfbikpbejkgegaa
open Go Go.Abs Go.Raft
abbrev OpT : Type := Int × Int × Int × Int × Int × Int × Int × Int × Int × (Int × Int × Int × Int × Int × Int × Unit) × (Int × Int × Int × Int × Int × Unit) × Unit

abbrev RT : Type := Rep OpT

abbrev MT : Type := Msg OpT

/-- What joins and conditions need. -/
theorem sS : (∀ h : Decidable True, @decide True h = true) ∧ (∀ h : Decidable False, @decide False h = false) ∧ (∀ {α : Type} (a b : α), cond true a b = a) ∧ (∀ {α : Type} (a b : α), cond false a b = b) ∧ (∀ {α β : Type} (a : α) (f : α → Option β), (some a).bind f = f a) ∧ (!true) = false ∧ (!false) = true ∧ (∀ b : Bool, (true && b) = b) ∧ (∀ b : Bool, (b && true) = b) ∧ (∀ b : Bool, (false && b) = false) ∧ (∀ b : Bool, (b && false) = false) ∧ (∀ {α : Type} [BEq α] [LawfulBEq α] (a : α), (a == a) = true) ∧ (∀ {α : Type} [BEq α] [LawfulBEq α] (a : α), (a != a) = false) :=
  ⟨fun _ => decide_true _, fun _ => decide_false _, fun _ _ => rfl, fun _ _ => rfl, fun _ _ => rfl, rfl, rfl, Bool.true_and, Bool.and_true, Bool.false_and, Bool.and_false, fun _ => beq_self_eq_true _, fun _ => bne_self_eq_false _⟩

/-- An element of a row, without the proof that it is one. -/
def rowG {A B : Type} (l : List A) (n : Int) (F : A → Option B) : Option B := bif decide (0 ≤ n) then (l[n.toNat]?).bind F else none

theorem rowAt_G {A B : Type} {l : List A} {n : Int} (F : A → Option B) : Abs.rowAt l n (fun e _ => F e) = rowG l n F := by
  unfold Abs.rowAt rowG
  cases l[n.toNat]? <;> rfl

theorem rowG_nat {A B : Type} {l : List A} {i : Nat} {e : A} (h : l[i]? = some e) (F : A → Option B) : rowG l (i : Int) F = F e := by
  unfold rowG
  rw [show decide (0 ≤ (i : Int)) = true from decide_eq_true (by omega), Int.toNat_natCast, h]; rfl

theorem rowG_int {A B : Type} {l : List A} {n : Int} {e : A} (h0 : 0 ≤ n) (h : l[n.toNat]? = some e) (F : A → Option B) : rowG l n F = F e := by
  unfold rowG
  rw [show decide (0 ≤ n) = true from decide_eq_true h0, h]; rfl

theorem w64_nat {i : Nat} (h : i ≤ 4294967296) : w64 ((i : Int) + 1) = ((i + 1 : Nat) : Int) := by rw [w64_id (by omega) (by omega)]; omega

theorem drop_at {A : Type} {l : List A} {i : Nat} (h : i < l.length) : ∃ e, l[i]? = some e ∧ l.drop i = e :: l.drop (i + 1) :=
  ⟨l[i], List.getElem?_eq_getElem h, List.drop_eq_getElem_cons h⟩

/-- The rows of a replica are short. -/
def Shrt (r : RT) : Prop := r.log.length ≤ 4294967295 ∧ r.votes.length ≤ 4294967295 ∧ r.mtch.length ≤ 4294967295

theorem m45_eq (a b c : Int) : m45 ((a, b, c, ()), ()) = some ((inn a b c, ()), ()) := by
  unfold m45 inn
  by_cases h : a ≥ b <;> simp [h]

theorem m81_eq (a b c : Int) : m81 ((a, b, c, ()), ()) = some ((inn a b c, ()), ()) := by
  unfold m81 inn
  by_cases h : a ≥ b <;> simp [h]

theorem inn_quorum (n : Int) : ((quorum n == 0) : Bool) = !inn n 1 5 := by
  unfold quorum inn
  by_cases h : 1 ≤ n ∧ n ≤ 5
  · rw [if_pos h]
    have : n / 2 + 1 ≠ 0 := by omega
    simp [h.1, h.2, this]
  · rw [if_neg h]
    have : (decide (1 ≤ n) && decide (n ≤ 5)) = false := by simpa using h
    rw [this]; rfl

theorem quorum_w (n : Int) (h : inn n 1 5 = true) : w64 (w64 (n.tdiv 2) + 1) = quorum n := by
  simp only [inn, Bool.and_eq_true, decide_eq_true_eq] at h
  rw [quorum_eq h.1 h.2, Int.tdiv_eq_ediv_of_nonneg (by omega), w64_id (x := n / 2) (by omega) (by omega), w64_id (by omega) (by omega)]

theorem m29_eq (n : Int) : m29 ((n, ()), ()) = some ((quorum n, ()), ()) := by
  unfold m29
  simp only [m45_eq, Option.bind_some]
  cases h : inn n 1 5
  · have := inn_quorum n; rw [h] at this; simp at this; simp [this]
  · simp [quorum_w n h]

theorem m28_eq (n : Int) : m28 ((n, ()), ()) = some ((quorum n, ()), ()) := by
  unfold m28
  simp only [m81_eq, Option.bind_some]
  cases h : inn n 1 5
  · have := inn_quorum n; rw [h] at this; simp at this; simp [this]
  · simp [quorum_w n h]

/-! ### Check, the reference -/
theorem loop85 (l : Log OpT) (term : Int) (hl : l.length ≤ 4294967295) : ∀ (k i : Nat) (last : Int), i + k = l.length →
    loopT l85_0_3 (((i : Int), l, term, last, ()), ()) = some (if srt term last (l.drop i) then .inr ((l, ()), ()) else .inl ((false, ()), ())) := by
  intro k
  induction k with
  | zero =>
    intro i last h
    rw [List.drop_eq_nil_of_le (by omega)]
    refine loopT_inr ?_
    have : ¬ (i : Int) < (l.length : Int) := by omega
    simp [l85_0_3, srt, this]
  | succ k ih =>
    intro i last h
    obtain ⟨e, he, hd⟩ := drop_at (l := l) (i := i) (by omega)
    have hlt : (i : Int) < (l.length : Int) := by omega
    rw [hd, srt]
    by_cases h1 : last ≤ e.1
    · by_cases h2 : e.1 ≤ term
      · rw [show loopT l85_0_3 (((i : Int), l, term, last, ()), ()) = loopT l85_0_3 ((((i + 1 : Nat) : Int), l, term, e.1, ()), ()) from loopT_inl (by
          have h1' : ¬ e.1 < last := by omega
          have h2' : ¬ e.1 > term := by omega
          simp only [l85_0_3, rowAt_G, rowG_nat he, hlt, h1', h2', w64_nat (show i ≤ 4294967296 by omega), decide_true, decide_false, cond_true, cond_false, Option.bind_some])]
        rw [ih (i + 1) e.1 (by omega)]
        simp only [h1, h2, decide_true, Bool.true_and]
      · rw [show (decide (last ≤ e.1) && decide (e.1 ≤ term) && srt term e.1 (l.drop (i + 1))) = false by simp [h2]]
        refine loopT_inr ?_
        have h1' : ¬ e.1 < last := by omega
        have h2' : e.1 > term := by omega
        simp only [l85_0_3, rowAt_G, rowG_nat he, hlt, h1', h2', decide_true, decide_false, cond_true, cond_false, Option.bind_some]
        rfl
    · rw [show (decide (last ≤ e.1) && decide (e.1 ≤ term) && srt term e.1 (l.drop (i + 1))) = false by simp [h1]]
      refine loopT_inr ?_
      have h1' : e.1 < last := by omega
      simp only [l85_0_3, rowAt_G, rowG_nat he, hlt, h1', decide_true, cond_true, Option.bind_some]
      rfl

theorem m85_eq (l : Log OpT) (term : Int) (hl : l.length ≤ 4294967295) : m85 ((l, term, ()), ()) = some ((logFits l term, ()), ()) := by
  unfold m85 logFits
  have := loop85 l term hl l.length 0 1 (by omega)
  simp only [List.drop_zero] at this
  rw [show loopT l85_0_3 ((0, (l, (term, (1, ())))), ()) = _ from this]
  cases srt term 1 l
  · rfl
  · simp [sumE]
    omega

end Go.Proofs.Ytfbikpbejkgegaa

namespace Go.Proofs.Ytfbikpbejkgegaa
open Go Go.Abs Go.Raft
theorem inn_iff {x a b : Int} : inn x a b = true ↔ a ≤ x ∧ x ≤ b := by simp [inn]

theorem getD_some {A : Type} {l : List A} {i : Nat} (h : i < l.length) : ∃ e, l[i]? = some e := ⟨_, List.getElem?_eq_getElem h⟩

theorem loop27 (id term voted role : Int) (log : Log OpT) (commit : Int) (votes : List Bool) (mtch : List Int) (hm : mtch.length ≤ 4294967295) : ∀ (k i : Nat), i + k = mtch.length →
    loopT l27_0_12 (((i : Int), (mtch.length : Int), ()), (((id, term, voted, role, log, commit, votes, mtch, ()), ()), ())) = some (if (mtch.drop i).all (fun m => inn m 0 log.length) then .inr ((), ()) else .inl ((false, ()), ())) := by
  intro k
  induction k with
  | zero =>
    intro i h
    rw [List.drop_eq_nil_of_le (by omega)]
    refine loopT_inr ?_
    have : ¬ (i : Int) < (mtch.length : Int) := by omega
    simp only [l27_0_12, this, sumE, sS, List.all_nil, if_true]
  | succ k ih =>
    intro i h
    obtain ⟨e, he, hd⟩ := drop_at (l := mtch) (i := i) (by omega)
    have hlt : (i : Int) < (mtch.length : Int) := by omega
    rw [hd, List.all_cons]
    cases hi : inn e 0 log.length
    · refine loopT_inr ?_
      simp only [l27_0_12, rowAt_G, rowG_nat he, hlt, m45_eq, hi, sumE, sS]
      rfl
    · rw [show loopT l27_0_12 (((i : Int), (mtch.length : Int), ()), (((id, term, voted, role, log, commit, votes, mtch, ()), ()), ())) = loopT l27_0_12 ((((i + 1 : Nat) : Int), (mtch.length : Int), ()), (((id, term, voted, role, log, commit, votes, mtch, ()), ()), ())) from loopT_inl (by
        simp only [l27_0_12, rowAt_G, rowG_nat he, hlt, m45_eq, hi, sumE, sS, w64_nat (show i ≤ 4294967296 by omega)])]
      rw [ih (i + 1) (by omega)]
      simp only [Bool.true_and]

theorem len_beq0 {A : Type} (l : List A) : ((l.length : Int) == 0) = decide (l.length = 0) := by
  by_cases h : l.length = 0
  · rw [h]; rfl
  · rw [decide_eq_false h]
    have : (l.length : Int) ≠ 0 := by omega
    simpa using this

theorem bne_decide (a b : Int) : (a != b) = decide (a ≠ b) := by
  by_cases h : a = b <;> simp [h]

theorem beq_decide (a b : Int) : (a == b) = decide (a = b) := by
  by_cases h : a = b <;> simp [h]

theorem w64_pred {n : Int} (h : inn n 1 5 = true) : w64 (n - 1) = n - 1 := by
  rw [inn_iff] at h; exact w64_id (by omega) (by omega)

theorem m27_eq (n : Int) (r : RT) (hs : Shrt r) : m27 ((n, r, ()), ()) = some ((chk n r, ()), ()) := by
  obtain ⟨id, term, voted, role, log, commit, votes, mtch, ⟨⟩⟩ := r
  obtain ⟨h1, h2, h3⟩ := hs
  simp only [Rep.id, Rep.term, Rep.voted, Rep.role, Rep.log, Rep.commit, Rep.votes, Rep.mtch, rp] at h1 h2 h3
  simp only [chk, Rep.id, Rep.term, Rep.voted, Rep.role, Rep.log, Rep.commit, Rep.votes, Rep.mtch, rp]
  unfold m27
  simp only [m29_eq, m45_eq, m85_eq _ _ h1, Option.bind_some, inn_quorum]
  cases hn : inn n 1 5
  · simp only [sumE, sS]
  simp only [w64_pred hn]
  cases hid : inn id 0 (n - 1)
  · simp only [sumE, sS]
  cases ht : inn term 0 1048576
  · simp only [sumE, sS]
  cases hv : inn voted (-1) (n - 1)
  · simp only [sumE, sS]
  cases hl : logFits log term
  · simp only [sumE, sS]
  cases hc : inn commit 0 log.length
  · simp only [sumE, sS]
  simp only [sumE, sS]
  rw [inn_iff] at hid hn
  unfold roleOK
  simp only [Rep.id, Rep.term, Rep.voted, Rep.role, Rep.log, Rep.commit, Rep.votes, Rep.mtch, rp]
  by_cases r0 : role = 0
  · subst r0
    simp only [len_beq0]
    by_cases hv0 : votes.length = 0 <;> by_cases hm0 : mtch.length = 0 <;> simp only [hv0, hm0, sumE, sS, if_true]
  by_cases r1 : role = 1
  · subst r1
    by_cases hvn : (votes.length : Int) = n
    · obtain ⟨b, hb⟩ := getD_some (l := votes) (i := id.toNat) (by omega)
      simp only [rowAt_G, rowG_int hid.1 hb, hvn, hb, Option.getD_some, sumE, sS, show ((1 : Int) == 0) = false from rfl, if_neg r0, if_true]
      simp only [len_beq0]
      by_cases hm0 : mtch.length = 0 <;> cases b <;> simp only [hm0, sumE, sS]
    · simp only [rowAt_G, show ((votes.length : Int) == n) = false by simpa using hvn, hvn, sumE, sS, show ((1 : Int) == 0) = false from rfl, if_neg r0, if_true]
  by_cases r2 : role = 2
  · subst r2
    simp only [sumE, sS, show ((2 : Int) == 0) = false from rfl, show ((2 : Int) == 1) = false from rfl, if_neg r0, if_neg r1, if_true]
    by_cases hvn : (votes.length : Int) = n
    · obtain ⟨b, hb⟩ := getD_some (l := votes) (i := id.toNat) (by omega)
      simp only [rowAt_G, rowG_int hid.1 hb, show ((votes.length : Int) != n) = false by simpa using hvn, hvn, hb, Option.getD_some, sumE, sS]
      cases b
      · simp only [sumE, sS]
      · by_cases hmn : (mtch.length : Int) = n
        · obtain ⟨p, hp⟩ := getD_some (l := mtch) (i := id.toNat) (by omega)
          simp only [rowG_int hid.1 hp, show ((mtch.length : Int) != n) = false by simpa using hmn, hmn, hp, Option.getD_some, sumE, sS]
          by_cases hpl : p = (log.length : Int)
          · have := loop27 id term voted 2 log commit votes mtch h3 mtch.length 0 (by omega)
            simp only [List.drop_zero, hmn] at this
            simp only [show (p != (log.length : Int)) = false by simpa using hpl, hpl, sumE, sS]
            rw [show loopT l27_0_12 ((0, (n, ())), (((id, (term, (voted, (2, (log, (commit, (votes, (mtch, ())))))))), ()), ())) = _ from this]
            cases mtch.all (fun m => inn m 0 log.length) <;> rfl
          · simp only [show (p != (log.length : Int)) = true by simpa using hpl, hpl, sumE, sS]
        · simp only [show ((mtch.length : Int) != n) = true by simpa using hmn, hmn, sumE, sS]
    · simp only [show ((votes.length : Int) != n) = true by simpa using hvn, hvn, sumE, sS]
  · simp only [show (role == 0) = false by simpa using r0, show (role == 1) = false by simpa using r1, show (role == 2) = false by simpa using r2, r0, r1, r2, if_false, sumE, sS]

/-! ### The program's Check -/
theorem loop82 (id term voted role : Int) (log : Log OpT) (commit : Int) (votes : List Bool) (mtch : List Int) (hm : log.length ≤ 4294967295) : ∀ (k i : Nat) (last : Int), i + k = log.length →
    loopT l82_0_3 (((i : Int), last, log, (log.length : Int), ()), (((id, term, voted, role, log, commit, votes, mtch, ()), ()), ())) = some (if srt term last (log.drop i) then .inr ((), (((id, term, voted, role, log, commit, votes, mtch, ()), ()), ())) else .inl ((false, ()), ())) := by
  intro k
  induction k with
  | zero =>
    intro i last h
    rw [List.drop_eq_nil_of_le (by omega)]
    refine loopT_inr ?_
    have : ¬ (i : Int) < (log.length : Int) := by omega
    simp only [l82_0_3, this, sumE, sS, srt, if_true]
  | succ k ih =>
    intro i last h
    obtain ⟨e, he, hd⟩ := drop_at (l := log) (i := i) (by omega)
    have hlt : (i : Int) < (log.length : Int) := by omega
    rw [hd, srt]
    cases hi : inn e.1 last term
    · refine loopT_inr ?_
      simp only [l82_0_3, rowAt_G, rowG_nat he, hlt, m81_eq, hi, sumE, sS]
      unfold inn at hi
      rw [hi]; rfl
    · rw [show loopT l82_0_3 (((i : Int), last, log, (log.length : Int), ()), (((id, term, voted, role, log, commit, votes, mtch, ()), ()), ())) = loopT l82_0_3 ((((i + 1 : Nat) : Int), e.1, log, (log.length : Int), ()), (((id, term, voted, role, log, commit, votes, mtch, ()), ()), ())) from loopT_inl (by
        simp only [l82_0_3, rowAt_G, rowG_nat he, hlt, m81_eq, hi, sumE, sS, w64_nat (show i ≤ 4294967296 by omega)])]
      rw [ih (i + 1) e.1 (by omega)]
      unfold inn at hi
      rw [hi]; simp only [Bool.true_and]

theorem m82_eq (r : RT) (hs : Shrt r) : m82 ((r, ()), ()) = some ((logFits r.log r.term && inn r.commit 0 r.log.length, ()), ()) := by
  obtain ⟨id, term, voted, role, log, commit, votes, mtch, ⟨⟩⟩ := r
  obtain ⟨h1, h2, h3⟩ := hs
  simp only [Rep.id, Rep.term, Rep.voted, Rep.role, Rep.log, Rep.commit, Rep.votes, Rep.mtch, rp] at h1 h2 h3
  simp only [logFits, Rep.id, Rep.term, Rep.voted, Rep.role, Rep.log, Rep.commit, Rep.votes, Rep.mtch, rp]
  unfold m82
  have := loop82 id term voted role log commit votes mtch h1 log.length 0 1 (by omega)
  simp only [List.drop_zero] at this
  simp only []
  rw [show loopT l82_0_3 ((0, (1, (log, ((log.length : Int), ())))), (((id, term, voted, role, log, commit, votes, mtch, ()), ()), ())) = _ from this]
  cases srt term 1 log
  · rfl
  · simp only [if_true, m81_eq, sumE, sS]
    by_cases hl : log.length ≤ 256
    · have : (log.length : Int) ≤ 256 := by omega
      simp only [hl, this, sumE, sS]
    · have : ¬ (log.length : Int) ≤ 256 := by omega
      simp only [hl, this, sumE, sS]

theorem loop84 (id term voted role : Int) (log : Log OpT) (commit : Int) (votes : List Bool) (mtch : List Int) (hm : mtch.length ≤ 4294967295) : ∀ (k i : Nat), i + k = mtch.length →
    ∃ d, loopT l84_2_2 (((i : Int), mtch, (mtch.length : Int), ()), (((id, term, voted, role, log, commit, votes, mtch, ()), ()), ())) = some d ∧
      (if (mtch.drop i).all (fun m => inn m 0 log.length) then d = .inr ((), (((id, term, voted, role, log, commit, votes, mtch, ()), ()), ())) else ∃ j : Nat, d = .inl (((j : Int), ()), (((id, term, voted, role, log, commit, votes, mtch, ()), ()), ()))) := by
  intro k
  induction k with
  | zero =>
    intro i h
    rw [List.drop_eq_nil_of_le (by omega)]
    refine ⟨.inr ((), (((id, term, voted, role, log, commit, votes, mtch, ()), ()), ())), loopT_inr ?_, by simp only [List.all_nil, if_true]⟩
    have : ¬ (i : Int) < (mtch.length : Int) := by omega
    simp only [l84_2_2, this, sumE, sS]
  | succ k ih =>
    intro i h
    obtain ⟨e, he, hd⟩ := drop_at (l := mtch) (i := i) (by omega)
    have hlt : (i : Int) < (mtch.length : Int) := by omega
    rw [hd, List.all_cons]
    cases hi : inn e 0 log.length
    · refine ⟨.inl (((i : Int), ()), (((id, term, voted, role, log, commit, votes, mtch, ()), ()), ())), loopT_inr ?_, ⟨i, rfl⟩⟩
      simp only [l84_2_2, rowAt_G, rowG_nat he, hlt, m81_eq, hi, sumE, sS]
    · rw [show loopT l84_2_2 (((i : Int), mtch, (mtch.length : Int), ()), (((id, term, voted, role, log, commit, votes, mtch, ()), ()), ())) = loopT l84_2_2 ((((i + 1 : Nat) : Int), mtch, (mtch.length : Int), ()), (((id, term, voted, role, log, commit, votes, mtch, ()), ()), ())) from loopT_inl (by
        simp only [l84_2_2, rowAt_G, rowG_nat he, hlt, m81_eq, hi, sumE, sS, w64_nat (show i ≤ 4294967296 by omega)])]
      obtain ⟨d, h1, h2⟩ := ih (i + 1) (by omega)
      refine ⟨d, h1, ?_⟩
      simpa only [Bool.true_and] using h2

theorem m83_eq (n : Int) (r : RT) (h0 : 0 ≤ r.id) (h1 : r.id < n) : m83 ((n, r, ()), ()) = some ((decide ((r.votes.length : Int) = n) && r.votes[r.id.toNat]?.getD false, ()), ()) := by
  obtain ⟨id, term, voted, role, log, commit, votes, mtch, ⟨⟩⟩ := r
  simp only [Rep.id, Rep.term, Rep.voted, Rep.role, Rep.log, Rep.commit, Rep.votes, Rep.mtch, rp] at h0 h1 ⊢
  unfold m83
  by_cases hvn : (votes.length : Int) = n
  · obtain ⟨b, hb⟩ := getD_some (l := votes) (i := id.toNat) (by omega)
    simp only [rowAt_G, rowG_int h0 hb, show ((votes.length : Int) == n) = true by simpa using hvn, hvn, hb, Option.getD_some, sumE, sS]
  · simp only [rowAt_G, show ((votes.length : Int) == n) = false by simpa using hvn, hvn, sumE, sS]

theorem m84_eq (n : Int) (r : RT) (hs : Shrt r) (h0 : 0 ≤ r.id) (h1 : r.id < n) : m84 ((n, r, ()), ()) = some ((decide ((r.mtch.length : Int) = n) && decide (r.mtch[r.id.toNat]?.getD 0 = (r.log.length : Int)) && r.mtch.all (fun m => inn m 0 r.log.length), ()), ()) := by
  obtain ⟨id, term, voted, role, log, commit, votes, mtch, ⟨⟩⟩ := r
  obtain ⟨_, _, h3⟩ := hs
  simp only [Rep.id, Rep.term, Rep.voted, Rep.role, Rep.log, Rep.commit, Rep.votes, Rep.mtch, rp] at h0 h1 h3 ⊢
  unfold m84
  by_cases hmn : (mtch.length : Int) = n
  · obtain ⟨p, hp⟩ := getD_some (l := mtch) (i := id.toNat) (by omega)
    simp only [rowAt_G, rowG_int h0 hp, show ((mtch.length : Int) == n) = true by simpa using hmn, hp, Option.getD_some, sumE, sS, hmn, eq_self]
    by_cases hpl : p = (log.length : Int)
    · simp only [show (p == (log.length : Int)) = true by simpa using hpl, hpl, sumE, sS, hmn, eq_self]
      obtain ⟨d, e1, e2⟩ := loop84 id term voted role log commit votes mtch h3 mtch.length 0 (by omega)
      simp only [List.drop_zero] at e2
      rw [hmn] at e1
      rw [show loopT l84_2_2 ((0, (mtch, (n, ()))), (((id, term, voted, role, log, commit, votes, mtch, ()), ()), ())) = _ from e1]
      cases ha : mtch.all (fun m => inn m 0 log.length)
      · rw [ha] at e2
        obtain ⟨j, rfl⟩ := e2
        have : (j : Int) ≥ 0 := by omega
        simp only [this, sumE, sS]
      · rw [ha] at e2
        simp only [if_true] at e2
        subst e2
        simp only [sumE, sS]
    · simp only [show (p == (log.length : Int)) = false by simpa using hpl, hpl, sumE, sS]
  · simp only [rowAt_G, show ((mtch.length : Int) == n) = false by simpa using hmn, hmn, sumE, sS]

theorem m26_eq (n : Int) (r : RT) (hs : Shrt r) : m26 ((n, r, ()), ()) = some ((chk n r, ()), ()) := by
  have e82 := m82_eq r hs
  have e83 := m83_eq n r
  have e84 := m84_eq n r hs
  obtain ⟨id, term, voted, role, log, commit, votes, mtch, ⟨⟩⟩ := r
  simp only [Rep.id, Rep.term, Rep.voted, Rep.role, Rep.log, Rep.commit, Rep.votes, Rep.mtch, rp] at e82 e83 e84
  simp only [chk, roleOK, Rep.id, Rep.term, Rep.voted, Rep.role, Rep.log, Rep.commit, Rep.votes, Rep.mtch, rp]
  unfold m26
  simp only [m81_eq, Option.bind_some]
  cases hn : inn n 1 5
  · simp only [sumE, sS]
  simp only [w64_pred hn]
  cases hid : inn id 0 (n - 1)
  · simp only [sumE, sS]
  have hid' := inn_iff.1 hid
  simp only [e82, e83 hid'.1 (by omega), e84 hid'.1 (by omega), Option.bind_some]
  cases ht : inn term 0 1048576
  · simp only [sumE, sS]
  cases hv : inn voted (-1) (n - 1)
  · simp only [sumE, sS]
  cases hl : logFits log term
  · simp only [sumE, sS]
  cases hc : inn commit 0 log.length
  · simp only [sumE, sS]
  simp only [sumE, sS, len_beq0]
  by_cases r0 : role = 0
  · subst r0
    by_cases hv0 : votes.length = 0 <;> simp only [hv0, sumE, sS, if_true]
  by_cases r1 : role = 1
  · subst r1
    simp only [show ((1 : Int) == 0) = false from rfl, if_true, if_neg r0, e83 hid'.1 (by omega), sumE, sS]
    cases (decide ((votes.length : Int) = n) && votes[id.toNat]?.getD false) <;> simp only [sumE, sS]
  by_cases r2 : role = 2
  · subst r2
    simp only [show ((2 : Int) == 0) = false from rfl, show ((2 : Int) == 1) = false from rfl, if_true, if_neg r0, if_neg r1, e83 hid'.1 (by omega), e84 hid'.1 (by omega), sumE, sS]
    cases (decide ((votes.length : Int) = n) && votes[id.toNat]?.getD false)
    · simp only [sumE, sS]
    · simp only [sumE, sS]
  · simp only [show (role == 0) = false by simpa using r0, show (role == 1) = false by simpa using r1, show (role == 2) = false by simpa using r2, r0, r1, r2, if_false, sumE, sS]

end Go.Proofs.Ytfbikpbejkgegaa

namespace Go.Proofs.Ytfbikpbejkgegaa
open Go Go.Abs Go.Raft
/-- A copy as the functions return it. -/
abbrev cpR (r : RT) : Unit × (((Int × Int × Int × Int × Int × Unit) × Unit) × Log OpT × List Bool × List Int × Unit) := ((), (((r.id, r.term, r.voted, r.role, r.commit, ()), ()), (r.log, (r.votes, (r.mtch, ())))))

/-- A message without entries, as the functions return it. -/
abbrev nm (m : MT) : Int × Int × Int × Int × Int × Int × Int × Bool × Unit := (m.kind, m.frm, m.to, m.term, m.prev, m.pterm, m.commit, m.ok, ())

theorem m76_eq (r : RT) (hs : Shrt r) : m76 ((r, ()), ()) = some (cpR r) := by
  obtain ⟨id, term, voted, role, log, commit, votes, mtch, ⟨⟩⟩ := r
  obtain ⟨h1, h2, h3⟩ := hs
  simp only [Rep.id, Rep.term, Rep.voted, Rep.role, Rep.log, Rep.commit, Rep.votes, Rep.mtch, rp] at h1 h2 h3
  have a1 : log.length ≤ 4294967296 := by omega
  have a2 : votes.length ≤ 4294967296 := by omega
  have a3 : mtch.length ≤ 4294967296 := by omega
  unfold m76 m91 m125 m126
  simp only [a1, a2, a3, sumE, sS, cpR]

theorem last_at {l : Log OpT} (h : l.length ≠ 0) : ∃ e, l[l.length - 1]? = some e ∧ lastT l = e.1 := by
  obtain ⟨e, he⟩ := getD_some (l := l) (i := l.length - 1) (by omega)
  exact ⟨e, he, lastT_get he (by omega)⟩

theorem lastT_eq0 {l : Log OpT} (h : l.length = 0) : lastT l = 0 := by
  rw [List.length_eq_zero_iff.1 h]; rfl

theorem m22_eq (r : RT) (hs : Shrt r) : m22 ((r, ()), ()) = some ((lastT r.log, ()), ()) := by
  obtain ⟨id, term, voted, role, log, commit, votes, mtch, ⟨⟩⟩ := r
  obtain ⟨h1, h2, h3⟩ := hs
  simp only [Rep.id, Rep.term, Rep.voted, Rep.role, Rep.log, Rep.commit, Rep.votes, Rep.mtch, rp] at h1 h2 h3
  unfold m22
  simp only [len_beq0, rowAt_G]
  by_cases h : log.length = 0
  · simp only [h, sumE, sS, lastT_eq0 h]
  · obtain ⟨e, he, hl⟩ := last_at h
    have w : w64 ((log.length : Int) - 1) = ((log.length - 1 : Nat) : Int) := by rw [w64_id (by omega) (by omega)]; omega
    simp only [h, sumE, sS, w, rowG_nat he, hl]

theorem m75_eq (r : RT) (hs : Shrt r) : m75 ((r, ()), ()) = some ((lastT r.log, ()), ()) := by
  obtain ⟨id, term, voted, role, log, commit, votes, mtch, ⟨⟩⟩ := r
  obtain ⟨h1, h2, h3⟩ := hs
  simp only [Rep.id, Rep.term, Rep.voted, Rep.role, Rep.log, Rep.commit, Rep.votes, Rep.mtch, rp] at h1 h2 h3
  unfold m75
  simp only [len_beq0, rowAt_G]
  by_cases h : log.length = 0
  · simp only [h, sumE, sS, lastT_eq0 h]
  · obtain ⟨e, he, hl⟩ := last_at h
    have w : w64 ((log.length : Int) - 1) = ((log.length - 1 : Nat) : Int) := by rw [w64_id (by omega) (by omega)]; omega
    simp only [h, sumE, sS, w, rowG_nat he, hl]

theorem m21_eq (r : RT) (a b : Int) (hs : Shrt r) : m21 ((r, a, b, ()), ()) = some ((fresh r.log a b, ()), ()) := by
  unfold m21 fresh
  simp only [m75_eq r hs, Option.bind_some]
  by_cases h1 : b > lastT r.log
  · simp only [h1, sumE, sS, Bool.true_or]
  · by_cases h2 : b = lastT r.log
    · simp only [h1, h2, sumE, sS, Bool.false_or]
      simp
    · simp only [h1, h2, show (b == lastT r.log) = false by simpa using h2, sumE, sS, Bool.or_self]

theorem m79_eq (r : RT) (t : Int) (ht : t ≤ 1048576) (h0 : -1000000000 ≤ r.term) (h1 : r.term ≤ 1000000000) : m79 ((r, t, ()), ()) = some ((), ((fol r t, ()), ())) := by
  obtain ⟨id, term, voted, role, log, commit, votes, mtch, ⟨⟩⟩ := r
  simp only [Rep.id, Rep.term, Rep.voted, Rep.role, Rep.log, Rep.commit, Rep.votes, Rep.mtch, rp] at h0 h1
  unfold m79 fol
  simp only [Rep.id, Rep.term, Rep.voted, Rep.role, Rep.log, Rep.commit, Rep.votes, Rep.mtch, rp, m81_eq, Option.bind_some]
  rw [w64_id (x := term + 1) (by omega) (by omega)]
  by_cases h : t > term
  · have : inn t (term + 1) 1048576 = true := inn_iff.2 ⟨by omega, by omega⟩
    simp only [h, this, sumE, sS, if_true]
  · have : inn t (term + 1) 1048576 = false := by
      cases hh : inn t (term + 1) 1048576 with
      | false => rfl
      | true => have := inn_iff.1 hh; omega
    simp only [h, this, sumE, sS, if_false]

theorem chk_n {n : Int} {r : RT} (h : chk n r = true) : inn n 1 5 = true := by
  have := chk_iff.1 h
  exact inn_iff.2 ⟨this.n1, this.n5⟩

theorem m78_eq (n : Int) (r : RT) (m : MT) (k : Int) (hs : Shrt r) : m78 ((n, r, m, k, ()), ()) = some ((toOK n r m k, ()), ()) := by
  unfold m78 toOK
  simp only [m26_eq n r hs, m81_eq, Option.bind_some]
  cases hc : chk n r
  · simp only [sumE, sS]
  simp only [w64_pred (chk_n hc)]
  obtain ⟨kind, frm, to, term, prev, pterm, commit, ents, ok, ⟨⟩⟩ := m
  simp only [Msg.kind, Msg.frm, Msg.to, Msg.term, Msg.prev, Msg.pterm, Msg.commit, Msg.ents, Msg.ok, mg, beq_decide, bne_decide, Rep.id]
  by_cases h1 : kind = k
  · by_cases h2 : to = r.1
    · simp only [h1, h2, sumE, sS]
      cases h3 : inn frm 0 (n - 1)
      · simp only [sumE, sS]
      · by_cases h4 : frm = r.1 <;> simp [h4]
    · simp only [h1, h2, sumE, sS]
  · simp only [h1, sumE, sS]

theorem shrt_follow {r : RT} (t : Int) (hs : Shrt r) : Shrt (fol r t) := by
  unfold fol
  split
  · exact ⟨hs.1, Nat.zero_le _, Nat.zero_le _⟩
  · exact hs

theorem m24_eq (n : Int) (r : RT) (m : MT) (hs : Shrt r) : m24 ((n, r, m, ()), ()) = some (((hear n r m).2.2, ()), (((hear n r m).1, ()), ((nm (hear n r m).2.1, ()), ()))) := by
  unfold m24
  simp only [m76_eq r hs, Option.bind_some]
  rw [show m78 ((n, (r.id, r.term, r.voted, r.role, r.log, r.commit, r.votes, r.mtch, ()), m, 1, ()), ()) = some ((toOK n r m 1, ()), ()) from m78_eq n r m 1 hs]
  unfold hear
  cases ho : toOK n r m 1
  · simp only [sumE, sS]; rfl
  obtain ⟨hc, _, _, _, _, _, _, ht⟩ := toOK_iff.1 ho
  simp only [sumE, sS, if_true]
  obtain ⟨kind, frm, to, mterm, prev, pterm, mcommit, ents, ok, ⟨⟩⟩ := m
  simp only [hearR, hearM, Msg.kind, Msg.frm, Msg.to, Msg.term, Msg.prev, Msg.pterm, Msg.commit, Msg.ents, Msg.ok, mg] at ht ⊢
  rw [show m79 (((r.id, r.term, r.voted, r.role, r.log, r.commit, r.votes, r.mtch, ()), mterm, ()), ()) = some ((), ((fol r mterm, ()), ())) from m79_eq r mterm ht (by have := hc.t0; omega) (by have := hc.t1; omega)]
  have hx := shrt_follow mterm hs
  have hrid : r.id = (fol r mterm).id := by unfold fol; split <;> rfl
  rw [hrid]
  generalize fol r mterm = x at hx
  have e21 := fun a b => m21_eq x a b hx
  obtain ⟨id, term, voted, role, log, commit, votes, mtch, ⟨⟩⟩ := x
  simp only [Option.bind_some, e21, hearYes, vote, Rep.id, Rep.term, Rep.voted, Rep.role, Rep.log, Rep.commit, Rep.votes, Rep.mtch, rp, Msg.kind, Msg.frm, Msg.to, Msg.term, Msg.prev, Msg.pterm, Msg.commit, Msg.ents, Msg.ok, mg, beq_decide]
  rcases Bool.eq_false_or_eq_true (decide (term = mterm)) with h1 | h1 <;> rcases Bool.eq_false_or_eq_true (decide (voted = -1)) with h2 | h2 <;> rcases Bool.eq_false_or_eq_true (decide (voted = frm)) with h3 | h3 <;> rcases Bool.eq_false_or_eq_true (decide (role = 0)) with h4 | h4 <;> rcases Bool.eq_false_or_eq_true (fresh log prev pterm) with h5 | h5 <;> simp only [h1, h2, h3, h4, h5, sumE, sS, Bool.true_or, Bool.or_true, Bool.or_self, if_true, if_false, Bool.false_eq_true]

end Go.Proofs.Ytfbikpbejkgegaa

namespace Go.Proofs.Ytfbikpbejkgegaa
open Go Go.Abs Go.Raft
abbrev zeroR : RT := rp 0 0 0 0 [] 0 [] []

def stand (n : Int) (r : RT) : Int × RT × List MT :=
  if chk n r = true then (if r.term = 1048576 then (5, zeroR, []) else (0, standR n r, asks n r)) else (8, zeroR, [])

theorem yes_cons (b : Bool) (l : List Bool) : yes (b :: l) = (if b then 1 else 0) + yes l := by
  unfold yes
  rw [List.countP_cons]
  cases b <;> simp <;> omega

theorem loop77 (id term voted role : Int) (log : Log OpT) (commit : Int) (vs : List Bool) (mtch : List Int) (n : Int) (votes : List Bool) (hv : votes.length ≤ 4294967295) : ∀ (k i : Nat) (c : Int), i + k = votes.length → 0 ≤ c → c ≤ i →
    loopT l77_0_3 (((i : Int), c, votes, n, (votes.length : Int), ()), (((0, 0, 0, 0, 0, ()), ()), (((id, term, voted, role, log, commit, vs, mtch, ()), ()), ()))) = some ((n, c + yes (votes.drop i), ()), (((0, 0, 0, 0, 0, ()), ()), (((id, term, voted, role, log, commit, vs, mtch, ()), ()), ()))) := by
  intro k
  induction k with
  | zero =>
    intro i c h _ _
    rw [List.drop_eq_nil_of_le (by omega)]
    refine loopT_inr ?_
    have : ¬ (i : Int) < (votes.length : Int) := by omega
    simp only [l77_0_3, this, sumE, sS]
    simp [yes]
  | succ k ih =>
    intro i c h c0 c1
    obtain ⟨e, he, hd⟩ := drop_at (l := votes) (i := i) (by omega)
    have hlt : (i : Int) < (votes.length : Int) := by omega
    rw [hd, yes_cons]
    have hc : w64 (c + 1) = c + 1 := w64_id (by omega) (by omega)
    cases e
    · rw [show loopT l77_0_3 (((i : Int), c, votes, n, (votes.length : Int), ()), (((0, 0, 0, 0, 0, ()), ()), (((id, term, voted, role, log, commit, vs, mtch, ()), ()), ()))) = loopT l77_0_3 ((((i + 1 : Nat) : Int), c, votes, n, (votes.length : Int), ()), (((0, 0, 0, 0, 0, ()), ()), (((id, term, voted, role, log, commit, vs, mtch, ()), ()), ()))) from loopT_inl (by
        simp only [l77_0_3, rowAt_G, rowG_nat he, hlt, sumE, sS, w64_nat (show i ≤ 4294967296 by omega)])]
      rw [ih (i + 1) c (by omega) (by omega) (by omega)]
      simp
    · rw [show loopT l77_0_3 (((i : Int), c, votes, n, (votes.length : Int), ()), (((0, 0, 0, 0, 0, ()), ()), (((id, term, voted, role, log, commit, vs, mtch, ()), ()), ()))) = loopT l77_0_3 ((((i + 1 : Nat) : Int), c + 1, votes, n, (votes.length : Int), ()), (((0, 0, 0, 0, 0, ()), ()), (((id, term, voted, role, log, commit, vs, mtch, ()), ()), ()))) from loopT_inl (by
        simp only [l77_0_3, rowAt_G, rowG_nat he, hlt, sumE, sS, w64_nat (show i ≤ 4294967296 by omega), hc])]
      rw [ih (i + 1) (c + 1) (by omega) (by omega) (by omega)]
      simp only [if_true]
      rw [show c + 1 + yes (votes.drop (i + 1)) = c + (1 + yes (votes.drop (i + 1))) by omega]

theorem m77_eq (n : Int) (r : RT) (hs : Shrt r) (h1 : 1 ≤ n) (h5 : n ≤ 5) (i0 : 0 ≤ r.id) (i1 : r.id < n) : m77 ((n, r, ()), ()) = some ((), ((if yes r.votes ≥ quorum n then lead n r else r, ()), ())) := by
  obtain ⟨id, term, voted, role, log, commit, votes, mtch, ⟨⟩⟩ := r
  obtain ⟨s1, s2, s3⟩ := hs
  simp only [Rep.id, Rep.term, Rep.voted, Rep.role, Rep.log, Rep.commit, Rep.votes, Rep.mtch, rp] at i0 i1 s1 s2 s3 ⊢
  unfold m77
  have := loop77 id term voted role log commit votes mtch n votes s2 votes.length 0 0 (by omega) (by omega) (by omega)
  simp only [List.drop_zero] at this
  simp only []
  rw [show loopT l77_0_3 ((0, (0, (votes, (n, ((votes.length : Int), ()))))), (((0, (0, (0, (0, (0, ()))))), ()), (((id, term, voted, role, log, commit, votes, mtch, ()), ()), ()))) = _ from this]
  have a1 : (0 : Int) ≤ n ∧ n ≤ n ∧ n ≤ 4294967296 := by omega
  have a2 : (0 : Int) ≤ id ∧ id < ((List.replicate n.toNat (0 : Int)).length : Int) := by simp; omega
  have a3 : id.toNat < (List.replicate n.toNat (0 : Int)).length := by simp; omega
  rw [Int.zero_add]
  by_cases hq : yes votes ≥ quorum n
  · simp only [Option.bind_some, m28_eq, hq, sumE, sS, a1, a2, a3, and_self, if_true, lead, Rep.id, Rep.term, Rep.voted, Rep.role, Rep.log, Rep.commit, Rep.votes, Rep.mtch, rp]
  · simp only [Option.bind_some, m28_eq, hq, sumE, sS, if_false]

theorem yes_one' : ∀ n ≤ 5, ∀ k < n, yes ((List.replicate n false).set k true) = 1 := by decide

theorem range_filter (i k : Nat) (p : Nat → Bool) : (List.range' i (k + 1)).filter p = if p i then i :: (List.range' (i + 1) k).filter p else (List.range' (i + 1) k).filter p := by
  rw [List.range'_succ, List.filter_cons]

theorem loop23 (id term voted role commit : Int) (log : Log OpT) (votes : List Bool) (n : Int) (hl : log.length ≤ 4294967295) (hvv : votes.length ≤ 4294967295) (n5 : n ≤ 4294967295) : ∀ (k i : Nat) (acc : List MT), (i : Int) + k = n → acc.length ≤ i →
    loopT l23_0_11 (((i : Int), n, n, ()), (((id, term, voted, role, commit, ()), ()), (acc, (((0, 0, 0, 0, 0, ()), ()), (log, (votes, ())))))) =
      some ((n, ()), (((0, 0, 0, 0, 0, ()), ()), (acc ++ ((List.range' i k).filter (fun (i : Nat) => decide ((i : Int) ≠ id))).map (fun (j : Nat) => mg 1 id (j : Int) term log.length (lastT log) 0 [] false), (((id, term, voted, role, commit, ()), ()), (log, (votes, ())))))) := by
  intro k
  induction k with
  | zero =>
    intro i acc h _
    refine loopT_inr ?_
    have : ¬ (i : Int) < n := by omega
    simp only [l23_0_11, this, sumE, sS]
    simp
  | succ k ih =>
    intro i acc h ha
    have hlt : (i : Int) < n := by omega
    rw [range_filter]
    by_cases e : (i : Int) = id
    · rw [show loopT l23_0_11 (((i : Int), n, n, ()), (((id, term, voted, role, commit, ()), ()), (acc, (((0, 0, 0, 0, 0, ()), ()), (log, (votes, ())))))) = loopT l23_0_11 ((((i + 1 : Nat) : Int), n, n, ()), (((id, term, voted, role, commit, ()), ()), (acc, (((0, 0, 0, 0, 0, ()), ()), (log, (votes, ())))))) from loopT_inl (by
        simp only [l23_0_11, hlt, show ((i : Int) != id) = false by simpa using e, sumE, sS, w64_nat (show i ≤ 4294967296 by omega)])]
      rw [ih (i + 1) acc (by omega) (by omega)]
      simp only [show decide ((i : Int) ≠ id) = false by simpa using e, Bool.false_eq_true, if_false]
    · have e75 := m75_eq (rp id term voted role log commit votes []) ⟨hl, hvv, by simp⟩
      simp only [Rep.id, Rep.term, Rep.voted, Rep.role, Rep.log, Rep.commit, Rep.votes, Rep.mtch, rp] at e75
      have hlen : ∀ x : MT, acc.length + [x].length ≤ 4294967296 := by intro x; simp; omega
      rw [show loopT l23_0_11 (((i : Int), n, n, ()), (((id, term, voted, role, commit, ()), ()), (acc, (((0, 0, 0, 0, 0, ()), ()), (log, (votes, ())))))) = loopT l23_0_11 ((((i + 1 : Nat) : Int), n, n, ()), (((id, term, voted, role, commit, ()), ()), (acc ++ [mg 1 id (i : Int) term log.length (lastT log) 0 [] false], (((0, 0, 0, 0, 0, ()), ()), (log, (votes, ())))))) from loopT_inl (by
        simp only [l23_0_11, hlt, show ((i : Int) != id) = true by simpa using e, e75, hlen, sumE, sS, w64_nat (show i ≤ 4294967296 by omega)])]
      rw [ih (i + 1) _ (by omega) (by simp; omega)]
      simp only [show decide ((i : Int) ≠ id) = true by simpa using e, if_true, List.map_cons, List.append_assoc, List.singleton_append]

theorem asks_range (n : Int) (r : RT) : asks n r = ((List.range' 0 n.toNat).filter (fun (i : Nat) => decide ((i : Int) ≠ r.id))).map (fun (j : Nat) => mg 1 r.id (j : Int) (r.term + 1) r.log.length (lastT r.log) 0 [] false) := by
  unfold asks; rw [List.range_eq_range']

theorem m23_eq (n : Int) (r : RT) (hs : Shrt r) : m23 ((n, r, ()), ()) = some (((stand n r).1, ()), (((stand n r).2.1, ()), ((stand n r).2.2, ()))) := by
  unfold m23 stand
  simp only [m26_eq n r hs, m76_eq r hs, Option.bind_some]
  cases hc : chk n r
  · simp only [sumE, sS, Bool.false_eq_true, if_false, Rep.id, Rep.term, Rep.voted, Rep.role, Rep.log, Rep.commit, Rep.votes, Rep.mtch, rp]
  have C := chk_iff.1 hc
  have h1 := C.n1; have h5 := C.n5; have i0 := C.i0; have i1 := C.i1; have t0 := C.t0; have t1 := C.t1
  rw [asks_range]
  obtain ⟨id, term, voted, role, log, commit, votes, mtch, ⟨⟩⟩ := r
  obtain ⟨s1, s2, s3⟩ := hs
  simp only [Rep.id, Rep.term, Rep.voted, Rep.role, Rep.log, Rep.commit, Rep.votes, Rep.mtch, rp] at s1 s2 s3 i0 i1 t0 t1
  simp only [sumE, sS, if_true, Rep.id, Rep.term, Rep.voted, Rep.role, Rep.log, Rep.commit, Rep.votes, Rep.mtch, rp, beq_decide]
  by_cases ht : term = 1048576
  · simp only [ht, sumE, sS, if_true]
  have a1 : (0 : Int) ≤ n ∧ n ≤ n ∧ n ≤ 4294967296 := by omega
  have a2 : (0 : Int) ≤ id ∧ id < ((List.replicate n.toNat false).length : Int) := by simp; omega
  have a3 : id.toNat < (List.replicate n.toNat false).length := by simp; omega
  have w : w64 (term + 1) = term + 1 := w64_id (by omega) (by omega)
  simp only [ht, sumE, sS, if_false, a1, a2, a3, and_self, w]
  have hvv : ((List.replicate n.toNat false).set id.toNat true).length ≤ 4294967295 := by simp; omega
  have := loop23 id (term + 1) id 1 commit log ((List.replicate n.toNat false).set id.toNat true) n s1 hvv (by omega) n.toNat 0 [] (by omega) (by simp)
  rw [show loopT l23_0_11 ((0, (n, (n, ()))), (((id, (term + 1, (id, (1, (commit, ()))))), ()), ([], (((0, (0, (0, (0, (0, ()))))), ()), (log, ((List.replicate n.toNat false).set id.toNat true, ())))))) = _ from this]
  have e77 := m77_eq n (rp id (term + 1) id 1 log commit ((List.replicate n.toNat false).set id.toNat true) []) ⟨s1, hvv, by simp⟩ h1 h5 i0 i1
  simp only [Rep.id, Rep.term, Rep.voted, Rep.role, Rep.log, Rep.commit, Rep.votes, Rep.mtch, rp] at e77
  simp only [Option.bind_some, e77, List.nil_append]
  rw [yes_one' n.toNat (by omega) id.toNat (by omega)]
  unfold standR
  simp only [Rep.id, Rep.term, Rep.voted, Rep.role, Rep.log, Rep.commit, Rep.votes, Rep.mtch, rp]
  have hq := quorum_eq h1 h5
  by_cases hq1 : quorum n = 1
  · rw [if_pos (by omega), if_pos hq1]
  · rw [if_neg (by omega), if_neg hq1]

theorem m36_eq (n : Int) (r : RT) (m : MT) (hs : Shrt r) : m36 ((n, r, m, ()), ()) = some ((), ((voted n r m, ()), ())) := by
  unfold m36 voted
  simp only [m76_eq r hs, Option.bind_some]
  rw [show m78 ((n, (r.id, r.term, r.voted, r.role, r.log, r.commit, r.votes, r.mtch, ()), m, 2, ()), ()) = some ((toOK n r m 2, ()), ()) from m78_eq n r m 2 hs]
  cases ho : toOK n r m 2
  · simp only [sumE, sS]; rfl
  obtain ⟨C, _, _, f0, f1, _, _, ht⟩ := toOK_iff.1 ho
  have h1 := C.n1; have h5 := C.n5; have i0 := C.i0; have i1 := C.i1; have t0 := C.t0; have t1 := C.t1
  have ro := @role1_iff _ n r
  have cro := C.ro
  simp only [sumE, sS, if_true]
  obtain ⟨kind, frm, to, mterm, prev, pterm, mcommit, ents, ok, ⟨⟩⟩ := m
  simp only [Msg.kind, Msg.frm, Msg.to, Msg.term, Msg.prev, Msg.pterm, Msg.commit, Msg.ents, Msg.ok, mg] at f0 f1 ht ⊢
  rw [show m79 (((r.id, r.term, r.voted, r.role, r.log, r.commit, r.votes, r.mtch, ()), mterm, ()), ()) = some ((), ((fol r mterm, ()), ())) from m79_eq r mterm ht (by omega) (by omega)]
  obtain ⟨id, term, voted, role, log, commit, votes, mtch, ⟨⟩⟩ := r
  obtain ⟨s1, s2, s3⟩ := hs
  simp only [Rep.id, Rep.term, Rep.voted, Rep.role, Rep.log, Rep.commit, Rep.votes, Rep.mtch, rp] at s1 s2 s3 i0 i1 ro
  simp only [Rep.id, Rep.term, Rep.voted, Rep.role, Rep.log, Rep.commit, Rep.votes, Rep.mtch, rp, bne_decide]
  by_cases hgt : mterm > term
  · simp only [hgt, sumE, sS, if_true]
  simp only [hgt, sumE, sS, if_false]
  by_cases hr : role = 1
  · subst hr
    by_cases hmt : mterm = term
    · cases ok
      · simp only [hmt, ne_eq, sumE, sS, not_true_eq_false, decide_false, Bool.false_eq_true, and_false, if_false]
      · obtain ⟨v1, v2, v3⟩ := (ro rfl).1 cro
        have a2 : (0 : Int) ≤ frm ∧ frm < (votes.length : Int) := by omega
        have a3 : frm.toNat < votes.length := by omega
        simp only [hmt, ne_eq, sumE, sS, not_true_eq_false, decide_false, a2, a3, and_self, if_true]
        have e77 := m77_eq n (rp id term voted 1 log commit (votes.set frm.toNat true) mtch) ⟨s1, by simpa using s2, s3⟩ h1 h5 i0 i1
        simp only [Rep.id, Rep.term, Rep.voted, Rep.role, Rep.log, Rep.commit, Rep.votes, Rep.mtch, rp] at e77
        simp only [e77, Option.bind_some]
        rfl
    · simp only [hmt, ne_eq, sumE, sS, not_false_eq_true, decide_true, false_and, and_false, if_false, not_true_eq_false]
  · simp only [hr, ne_eq, sumE, sS, not_false_eq_true, decide_true, false_and, if_false]

end Go.Proofs.Ytfbikpbejkgegaa

namespace Go.Proofs.Ytfbikpbejkgegaa
open Go Go.Abs Go.Raft
end Go.Proofs.Ytfbikpbejkgegaa

namespace Go.Proofs.Ytfbikpbejkgegaa
open Go Go.Abs Go.Raft
end Go.Proofs.Ytfbikpbejkgegaa

namespace Go.Proofs.Ytfbikpbejkgegaa
open Go Go.Abs Go.Raft
theorem bind_of {A B : Type} {o : Option A} {f : A → Option B} {y : Option B} (x : A) (h : o = some x) (h2 : f x = y) : o.bind f = y := by rw [h]; exact h2

end Go.Proofs.Ytfbikpbejkgegaa

namespace Go.Proofs.Ytfbikpbejkgegaa
open Go Go.Abs Go.Raft
end Go.Proofs.Ytfbikpbejkgegaa

namespace Go.Proofs.Ytfbikpbejkgegaa
open Go Go.Abs Go.Raft
end Go.Proofs.Ytfbikpbejkgegaa

namespace Go.Proofs.Ytfbikpbejkgegaa
open Go Go.Abs Go.Raft
abbrev CutT : Type := Int × Int × Unit

abbrev CT : Type := List RT × List MT × List Bool × List CutT × Unit

abbrev CT.reps (c : CT) : List RT := c.1

abbrev CT.wire (c : CT) : List MT := c.2.1

abbrev CT.down (c : CT) : List Bool := c.2.2.1

abbrev CT.cut (c : CT) : List CutT := c.2.2.2.1

abbrev cl (reps : List RT) (wire : List MT) (down : List Bool) (cut : List CutT) : CT := (reps, wire, down, cut, ())

def isCut (l : List CutT) (a b : Int) : Bool := l.any (fun p => decide (p.1 = min a b) && decide (p.2.1 = max a b))

def cutOK1 (n : Int) (x : CutT) : Bool := decide (0 ≤ x.1) && decide (x.1 < x.2.1) && decide (x.2.1 < n)

def cutsOK (n : Int) : List CutT → List CutT → Bool
  | _, [] => true
  | pre, x :: l => cutOK1 n x && !(isCut pre x.1 x.2.1) && cutsOK n (pre ++ [x]) l

structure ShC (c : CT) : Prop where
  r : ∀ r ∈ c.reps, Shrt r
  rl : c.reps.length ≤ 2147483647
  w : ∀ m ∈ c.wire, m.ents.length ≤ 1000000
  wl : c.wire.length ≤ 2147483647
  dl : c.down.length ≤ 2147483647
  cl : c.cut.length ≤ 2147483647

end Go.Proofs.Ytfbikpbejkgegaa

namespace Go.Proofs.Ytfbikpbejkgegaa
open Go Go.Abs Go.Raft
structure VC (c : CT) : Prop where
  n1 : 1 ≤ c.reps.length
  n5 : c.reps.length ≤ 5
  dn : c.down.length = c.reps.length
  wl : c.wire.length ≤ 256
  rp : ∀ (j : Nat) (r : RT), c.reps[j]? = some r → r.id = (j : Int) ∧ Chk (c.reps.length : Int) r
  wm : ∀ m ∈ c.wire, 0 ≤ m.frm ∧ m.frm < (c.reps.length : Int) ∧ 0 ≤ m.to ∧ m.to < (c.reps.length : Int) ∧ m.frm ≠ m.to
  cs : cutsOK (c.reps.length : Int) [] c.cut = true

theorem shrt_of {n : Int} {r : RT} (h : Chk n r) : Shrt r := by
  have hl := h.ll; have n5 := h.n5
  rcases role_cases h.ro with h0 | h0 | h0
  · obtain ⟨a, b⟩ := (role0_iff h0).1 h.ro
    exact ⟨by omega, by rw [a]; simp, by rw [b]; simp⟩
  · obtain ⟨a, _, b⟩ := (role1_iff h0).1 h.ro
    exact ⟨by omega, by omega, by rw [b]; simp⟩
  · obtain ⟨a, _, b, _⟩ := (role2_iff h0).1 h.ro
    exact ⟨by omega, by omega, by omega⟩

end Go.Proofs.Ytfbikpbejkgegaa

namespace Go.Proofs.Ytfbikpbejkgegaa
open Go Go.Abs Go.Raft
/-! ### Good clusters -/
structure CG (c : CT) : Prop where
  n1 : 1 ≤ c.reps.length
  n5 : c.reps.length ≤ 5
  dn : c.down.length = c.reps.length
  wl : c.wire.length ≤ 256
  wm : ∀ m ∈ c.wire, 0 ≤ m.frm ∧ m.frm < (c.reps.length : Int) ∧ 0 ≤ m.to ∧ m.to < (c.reps.length : Int) ∧ m.frm ≠ m.to
  we : ∀ m ∈ c.wire, m.ents.length ≤ 256
  cs : cutsOK (c.reps.length : Int) [] c.cut = true
  gd : ∃ g, Inv c.reps.length c.reps g ∧ ∀ m ∈ c.wire, MsgOK c.reps.length g m

theorem CG.v {c : CT} (h : CG c) : VC c := by
  obtain ⟨g, hi, _⟩ := h.gd
  exact ⟨h.n1, h.n5, h.dn, h.wl, fun j r hj => ⟨(hi.nod j r hj).id, (hi.nod j r hj).chk⟩, h.wm, h.cs⟩

theorem CG.put {c : CT} (h : CG c) {reps' : List RT} {new : List MT} (hl : reps'.length = c.reps.length)
    (hs : ∀ g, Inv c.reps.length c.reps g → (∀ m ∈ c.wire, MsgOK c.reps.length g m) → Step c.reps.length g reps' new)
    {w' : List MT} (hw : ∀ m ∈ w', m ∈ c.wire ∨ m ∈ new)
    (hn : ∀ m ∈ new, (0 ≤ m.frm ∧ m.frm < (c.reps.length : Int) ∧ 0 ≤ m.to ∧ m.to < (c.reps.length : Int) ∧ m.frm ≠ m.to) ∧ m.ents.length ≤ 256)
    (hwl : w'.length ≤ 256) {down' : List Bool} (hd : down'.length = c.reps.length) {cut' : List CutT} (hc : cutsOK (c.reps.length : Int) [] cut' = true) : CG (cl reps' w' down' cut') := by
  obtain ⟨g, hi, hm⟩ := h.gd
  obtain ⟨g', a, b, d⟩ := hs g hi hm
  have h1 := h.n1
  have h5 := h.n5
  refine ⟨by show 1 ≤ reps'.length; omega, by show reps'.length ≤ 5; omega, by show down'.length = reps'.length; omega, hwl, ?_, ?_, by show cutsOK (reps'.length : Int) [] cut' = true; rw [hl]; exact hc, ?_⟩
  · intro m hm'
    show _ ∧ m.frm < (reps'.length : Int) ∧ _ ∧ m.to < (reps'.length : Int) ∧ _
    rw [hl]
    rcases hw m hm' with hm' | hm'
    · exact h.wm m hm'
    · exact (hn m hm').1
  · intro m hm'
    rcases hw m hm' with hm' | hm'
    · exact h.we m hm'
    · exact (hn m hm').2
  · show ∃ g, Inv reps'.length reps' g ∧ ∀ m ∈ w', MsgOK reps'.length g m
    rw [hl]
    refine ⟨g', a, fun m hm' => ?_⟩
    rcases hw m hm' with hm' | hm'
    · exact b m (hm m hm')
    · exact d m hm'

theorem CG.same {c : CT} (h : CG c) {w' : List MT} (hw : ∀ m ∈ w', m ∈ c.wire) (hwl : w'.length ≤ 256) {down' : List Bool} (hd : down'.length = c.reps.length) {cut' : List CutT} (hc : cutsOK (c.reps.length : Int) [] cut' = true) : CG (cl c.reps w' down' cut') :=
  h.put rfl (fun g hi _ => hi.refl) (new := []) (fun m hm => .inl (hw m hm)) (fun m hm => by cases hm) hwl hd hc

theorem CG.id {c : CT} (h : CG c) {i : Int} {r : RT} (hr : c.reps[i.toNat]? = some r) (i0 : 0 ≤ i) : r.id = i := by
  have := (h.v.rp _ _ hr).1; omega

/-! ### Terms -/
def TB (c : CT) (T : Int) : Prop := (∀ r ∈ c.reps, r.term ≤ T) ∧ ∀ m ∈ c.wire, m.term ≤ T

theorem TB.le {c : CT} {T U : Int} (h : TB c T) (hu : T ≤ U) : TB c U := ⟨fun r hr => by have := h.1 r hr; omega, fun m hm => by have := h.2 m hm; omega⟩

theorem TB.put {c : CT} {T U : Int} (h : TB c T) (hu : T ≤ U) {i : Nat} {r' : RT} (hr : r'.term ≤ U) {w' : List MT} (hw : ∀ m ∈ w', m ∈ c.wire ∨ m.term ≤ U) {d : List Bool} {k : List CutT} : TB (cl (c.reps.set i r') w' d k) U := by
  refine ⟨fun r hr' => ?_, fun m hm => ?_⟩
  · rcases List.mem_or_eq_of_mem_set hr' with hr' | hr'
    · have := h.1 r hr'; omega
    · subst hr'; exact hr
  · rcases hw m hm with hm | hm
    · have := h.2 m hm; omega
    · exact hm

theorem TB.same {c : CT} {T : Int} (h : TB c T) {w' : List MT} (hw : ∀ m ∈ w', m ∈ c.wire ∨ m.term ≤ T) {d : List Bool} {k : List CutT} : TB (cl c.reps w' d k) T := by
  refine ⟨h.1, fun m hm => ?_⟩
  rcases hw m hm with hm | hm
  · exact h.2 m hm
  · exact hm

end Go.Proofs.Ytfbikpbejkgegaa

namespace Go.Proofs.Ytfbikpbejkgegaa
open Go Go.Abs Go.Raft
end Go.Proofs.Ytfbikpbejkgegaa

namespace Go.Proofs.Ytfbikpbejkgegaa
open Go Go.Abs Go.Raft
abbrev Dice := List Int × Int × Unit

def DOK (d : Dice) : Prop := 0 ≤ d.2.1 ∧ d.2.1 ≤ d.1.length ∧ d.1.length ≤ 500

theorem next_spec (n : Int) (d : Dice) (hd : DOK d) (hn : n ≤ 9223372036854775807) :
    ∃ (r : Int) (d' : Dice), m20 ((n, ()), ((d, ()), ())) = some ((r, ()), ((d', ()), ())) ∧ DOK d' ∧ (1 ≤ n → 0 ≤ r ∧ r < n) ∧ (n < 1 → r = 0) := by
  obtain ⟨l, at_, u⟩ := d
  obtain ⟨h1, h2, h3⟩ := hd
  simp only at h1 h2 h3
  unfold m20
  simp only [rowAt_G]
  by_cases c1 : at_ ≥ (l.length : Int)
  · refine ⟨0, (l, at_, ()), ?_, ⟨h1, h2, h3⟩, fun h => ⟨by omega, by omega⟩, fun _ => rfl⟩
    simp only [decide_eq_true c1, sumE, sS]
  · by_cases c2 : n < 1
    · refine ⟨0, (l, at_, ()), ?_, ⟨h1, h2, h3⟩, fun h => ⟨by omega, by omega⟩, fun _ => rfl⟩
      simp only [decide_eq_false c1, decide_eq_true c2, sumE, sS]
    · have hat : w64 (at_ + 1) = at_ + 1 := w64_id (by omega) (by omega)
      have hne : n ≠ 0 := by omega
      obtain ⟨e, he⟩ := getD_some (l := l) (i := at_.toNat) (by omega)
      have hb := Int.tmod_lt_of_pos e (show (0 : Int) < n by omega)
      have hb2 : -n < e.tmod n := by
        have := Int.lt_tmod_of_pos e (show (0 : Int) < n by omega)
        omega
      by_cases c3 : e.tmod n < 0
      · refine ⟨e.tmod n + n, (l, at_ + 1, ()), ?_, ⟨by simp only; omega, by simp only; omega, h3⟩, fun h => ⟨by omega, by omega⟩, fun h => by omega⟩
        simp only [decide_eq_false c1, decide_eq_false c2, sumE, sS, rowG_int h1 he, decide_eq_true hne, decide_eq_true c3, hat, w64_id (x := e.tmod n + n) (by omega) (by omega)]
      · refine ⟨e.tmod n, (l, at_ + 1, ()), ?_, ⟨by simp only; omega, by simp only; omega, h3⟩, fun h => ⟨by omega, by omega⟩, fun h => by omega⟩
        simp only [decide_eq_false c1, decide_eq_false c2, sumE, sS, rowG_int h1 he, decide_eq_true hne, decide_eq_false c3, hat]

theorem one_spec (l : List Int) (d : Dice) (hd : DOK d) (h0 : 0 < l.length) (h1 : l.length ≤ 4294967296) :
    ∃ (r : Int) (d' : Dice), m41 ((l, ()), ((d, ()), ())) = some ((r, ()), ((d', ()), ())) ∧ DOK d' ∧ r ∈ l := by
  obtain ⟨n, d', e1, e2, e3, _⟩ := next_spec l.length d hd (by omega)
  obtain ⟨hn0, hn1⟩ := e3 (by omega)
  obtain ⟨r, hr⟩ := getD_some (l := l) (i := n.toNat) (by omega)
  refine ⟨r, d', ?_, e2, List.mem_of_getElem? hr⟩
  unfold m41
  simp only [e1, Option.bind_some, rowAt_G, rowG_int hn0 hr]

theorem bind_ex {A B : Type} {o : Option A} {f : A → Option B} {P : A → Prop} {Q : B → Prop} (h : ∃ a, o = some a ∧ P a) (h2 : ∀ a, P a → ∃ b, f a = some b ∧ Q b) : ∃ b, o.bind f = some b ∧ Q b := by
  obtain ⟨a, rfl, ha⟩ := h
  exact h2 a ha

end Go.Proofs.Ytfbikpbejkgegaa

namespace Go.Proofs.Ytfbikpbejkgegaa
open Go Go.Abs Go.Raft
theorem sane32 : m17 ((), ()) = some ((true, ()), ()) := by kernel_rfl

theorem CG.voted {c : CT} (h : CG c) {j : Nat} {r : RT} (hj : c.reps[j]? = some r) (hr : r.role = 1 ∨ r.role = 2) : r.voted = (j : Int) := by
  obtain ⟨g, hi, _⟩ := h.gd
  have hn := hi.nod j r hj
  rcases hr with hr | hr
  · exact hn.v1 _ _ (hn.cd hr).1
  · obtain ⟨R, hR, hw, _⟩ := hn.ld hr
    have := (hi.rcd _ R hR).vt
    rw [hw] at this
    exact hn.v1 _ _ this

theorem light (l : List Int) : m16 ((l, ()), ()) = some ((decide (l.length ≤ 500), ()), ()) := by
  unfold m16
  have : decide ((l.length : Int) ≤ 500) = decide (l.length ≤ 500) := by
    by_cases h : l.length ≤ 500
    · rw [decide_eq_true h, decide_eq_true (by omega)]
    · rw [decide_eq_false h, decide_eq_false (by omega)]
  rw [this]

theorem roll (l : List Int) : m18 ((l, ()), ()) = some ((), (((l, (0, ())), ()), ())) := rfl

theorem dok0 {l : List Int} (h : l.length ≤ 500) : DOK (l, 0, ()) := ⟨Int.le_refl _, by simp only; omega, h⟩

end Go.Proofs.Ytfbikpbejkgegaa

namespace Go.Proofs.Ytfbikpbejkgegaa
open Go Go.Abs Go.Raft
def newV (i n : Int) : Int × Int := if inn n 1 5 = true ∧ inn i 0 (n - 1) = true then (0, i) else (1, 0)

abbrev newI (i n : Int) : (Int × Int × Int × Int × Int × Unit) × Unit := if inn n 1 5 = true ∧ inn i 0 (n - 1) = true then ((i, 0, -1, 0, 0, ()), ()) else ((0, 0, 0, 0, 0, ()), ())

theorem m39_eq (i n : Int) : m39 ((i, n, ()), ()) = some (((newV i n).1, ()), (newI i n, ())) := by
  unfold m39
  simp only [m81_eq, Option.bind_some]
  cases h : inn n 1 5
  · simp only [sumE, sS, newV, newI, h, Bool.false_eq_true, false_and, if_false]
  · simp only [sumE, sS, w64_pred h]
    cases h2 : inn i 0 (n - 1)
    · simp only [sumE, sS, newV, newI, h2, Bool.false_eq_true, and_false, if_false]
    · simp only [sumE, sS, newV, newI, h, h2, and_self, if_true]

theorem m33_ok (r : RT) (hs : Shrt r) (k : Int) (k0 : 0 ≤ k) (k5 : k ≤ 5) {d : Dice} (hd : DOK d) :
    ∃ (m8 : Int × Int × Int × Int × Int × Int × Int × Bool × Unit) (d' : Dice), m33 ((r, k, ()), ((d, ()), ())) = some ((), ((d', ()), ((m8, ()), ()))) ∧ DOK d' := by
  unfold m33
  obtain ⟨a1, d1, e1, hd1, _⟩ := next_spec 6 d hd (by omega)
  obtain ⟨a2, d2, e2, hd2, _⟩ := one_spec [1, 2, a1] d1 hd1 (by simp) (by simp)
  obtain ⟨a3, d3, e3, hd3, _⟩ := next_spec (k + 1) d2 hd2 (by omega)
  obtain ⟨a4, d4, e4, hd4, _⟩ := next_spec 2 d3 hd3 (by omega)
  obtain ⟨a5, d5, e5, hd5, _⟩ := one_spec [r.1, r.1, 0] d4 hd4 (by simp) (by simp)
  obtain ⟨a6, d6, e6, hd6, _⟩ := one_spec [r.2.1, r.2.1, w64 (r.2.1 + 1), w64 (r.2.1 - 1), 1, 0, 1048576, 1048577] d5 hd5 (by simp) (by simp)
  obtain ⟨a7, d7, e7, hd7, _⟩ := one_spec [(r.2.2.2.2.1.length : Int), 0, w64 ((r.2.2.2.2.1.length : Int) + 1)] d6 hd6 (by simp) (by simp)
  obtain ⟨a8, d8, e8, hd8, _⟩ := one_spec [lastT r.log, 0, r.2.1] d7 hd7 (by simp) (by simp)
  obtain ⟨a9, d9, e9, hd9, _⟩ := next_spec 3 d8 hd8 (by omega)
  simp only [e1, e2, Option.bind_some, w64_id (x := k + 1) (by omega) (by omega), e3, e4, e5, e6, e7, m22_eq r hs, e8, e9]
  exact ⟨_, _, rfl, hd9⟩

end Go.Proofs.Ytfbikpbejkgegaa

namespace Go.Proofs.Ytfbikpbejkgegaa
open Go Go.Abs Go.Raft
theorem mpGet_set {α : Type} (n k : Int) (x : α) : ∀ l : List (Int × α), mpGet k (mpSet n x l) = if k = n then some x else mpGet k l
  | [] => by
    simp only [mpSet, mpGet]
  | p :: r => by
    simp only [mpSet]
    by_cases h : n = p.1
    · rw [if_pos h]
      simp only [mpGet]
      by_cases hk : k = p.1
      · rw [if_pos hk, if_pos (by omega)]
      · rw [if_neg hk, if_neg (by omega), if_neg hk]
    · rw [if_neg h]
      simp only [mpGet]
      by_cases hk : k = p.1
      · rw [if_pos hk, if_neg (by omega), if_pos hk]
      · rw [if_neg hk, if_neg hk]
        exact mpGet_set n k x r

/-- The votes that are noted are those of the replica. -/
def VInv (r : RT) (votes : List (Int × Int)) : Prop := ∀ T w, mpGet T votes = some w → 0 ≤ w ∧ (T < r.term ∨ (T = r.term ∧ r.voted = w))

theorem VInv.fol {r : RT} {votes : List (Int × Int)} (h : VInv r votes) (t : Int) : VInv (fol r t) votes := by
  intro T w hw
  obtain ⟨h0, h1⟩ := h T w hw
  refine ⟨h0, ?_⟩
  unfold Raft.fol
  split
  · left; show T < t; omega
  · exact h1

theorem VInv.voted {r : RT} {votes : List (Int × Int)} (h : VInv r votes) (n : Int) (m : MT) : VInv (voted n r m) votes := by
  unfold Raft.voted
  split
  · split
    · exact h.fol _
    · split
      · intro T w hw
        obtain ⟨h0, h1⟩ := h T w hw
        refine ⟨h0, ?_⟩
        unfold votedR
        dsimp only
        split <;> exact h1
      · exact h
  · exact h

/-- A replica of which the law goes on. -/
structure ROK (r : RT) (votes : List (Int × Int)) : Prop where
  chk : Chk 5 r
  inv : VInv r votes

theorem once_step (r : RT) (votes : List (Int × Int)) (d : Dice) (i : Int) (h0 : 0 ≤ i) (hi : i < 20) (h : ROK r votes) (hid : r.id = 0) (hd : DOK d) :
    ∃ b, l5_0_9 ((i, ()), ((r, ()), (votes, ((d, ()), ())))) = some b ∧ ∃ (r' : RT) (votes' : List (Int × Int)) (d' : Dice), b = .inl ((i + 1, ()), ((r', ()), (votes', ((d', ()), ())))) ∧ ROK r' votes' ∧ r'.id = 0 ∧ DOK d' := by
  have hs := shrt_of h.chk
  unfold l5_0_9
  simp only [decide_eq_true hi, sumE, sS]
  refine bind_ex (P := fun a => ∃ (x : RT) (votes' : List (Int × Int)) (d' : Dice), a = .inl ((i, ()), ((r, ()), (votes', ((d', ()), ((x, ()), ()))))) ∧ ROK x votes' ∧ x.id = 0 ∧ DOK d' ∧ r.term ≤ x.term) ?_ ?_
  · obtain ⟨a, d1, e1, hd1, _⟩ := next_spec 3 d hd (by omega)
    simp only [e1, sumE, sS, beq_decide]
    by_cases c0 : a = 0
    · simp only [decide_eq_true c0, sumE, sS, m23_eq 5 r hs]
      have hst : stand 5 r = if r.term = 1048576 then ((stand 5 r).1, (stand 5 r).2) else (0, standR 5 r, asks 5 r) := by
        by_cases ht : r.term = 1048576
        · rw [if_pos ht]
        · rw [if_neg ht]; unfold stand; rw [if_pos (chk_iff.2 h.chk), if_neg ht]
      by_cases ht : r.term = 1048576
      · have hne : (stand 5 r).1 ≠ 0 := by unfold stand; rw [if_pos (chk_iff.2 h.chk), if_pos ht]; decide
        simp only [decide_eq_false hne, sumE, sS]
        exact ⟨_, rfl, r, votes, d1, rfl, h, hid, hd1, Int.le_refl _⟩
      · rw [if_neg ht] at hst
        have hq : quorum 5 ≠ 1 := by decide
        have hsr : standR 5 r = cand 5 r := by unfold standR cand; dsimp only; rw [if_neg hq]
        have hno : mpGet (r.term + 1) votes = none := by
          cases hg : mpGet (r.term + 1) votes with
          | none => rfl
          | some w => have := (h.inv _ _ hg).2; omega
        have hct : (cand 5 r).2.1 = r.term + 1 := rfl
        simp only [hst, hsr, sumE, sS, decide_eq_true (show (0 : Int) = 0 from rfl), hct, hno, Option.isSome_none]
        refine ⟨_, rfl, cand 5 r, mpSet (r.term + 1) 0 votes, d1, rfl, ⟨chk_cand h.chk ht, ?_⟩, hid, hd1, by show r.term ≤ r.term + 1; omega⟩
        intro T w hw
        rw [mpGet_set] at hw
        split at hw
        · rename_i hT
          cases hw
          exact ⟨Int.le_refl _, .inr ⟨hT, hid⟩⟩
        · have := h.inv T w hw
          refine ⟨this.1, .inl ?_⟩
          show T < r.term + 1
          omega
    · simp only [decide_eq_false c0, sumE, sS]
      by_cases c1 : a = 1
      · simp only [decide_eq_true c1, sumE, sS]
        obtain ⟨m8, d2, e2, hd2⟩ := m33_ok r hs 5 (by omega) (by omega) hd1
        simp only [e2, sumE, sS]
        obtain ⟨m, hm⟩ : ∃ m : MT, m = (1, m8.2.1, 0, m8.2.2.2.1, m8.2.2.2.2.1, m8.2.2.2.2.2.1, m8.2.2.2.2.2.2.1, [], m8.2.2.2.2.2.2.2.1, ()) := ⟨_, rfl⟩
        rw [← hm]
        simp only [m24_eq 5 r m hs]
        have hm1 : m.2.1 = m8.2.1 := by rw [hm]
        have hm3 : m.2.2.2.1 = m8.2.2.2.1 := by rw [hm]
        by_cases ho : toOK 5 r m 1 = true
        · have hh : hear 5 r m = (hearR r m, hearM r m, true) := by unfold hear; rw [if_pos ho]
          obtain ⟨_, _, hto, f0, f1, ff, t1, t2⟩ := toOK_iff.1 ho
          have hck := chk_hearR ho
          have hid2 : (hearR r m).id = 0 := by
            unfold hearR Raft.fol; dsimp only
            split <;> split <;> exact hid
          have hge : r.term ≤ (fol r m.term).term := by
            unfold Raft.fol; split
            · rename_i hq; show r.term ≤ m.term; omega
            · exact Int.le_refl _
          simp only [hh, sumE, sS, nm, hearM, Msg.kind, Msg.frm, Msg.to, Msg.term, Msg.prev, Msg.pterm, Msg.commit, Msg.ents, Msg.ok, mg]
          cases hy : hearYes (fol r m.term) m
          · simp only [sumE, sS]
            have hx : hearR r m = fol r m.term := by unfold hearR; dsimp only; rw [if_neg (by rw [hy]; simp)]
            refine ⟨_, rfl, hearR r m, votes, d2, rfl, ⟨hck, by rw [hx]; exact h.inv.fol _⟩, hid2, hd2, by rw [hx]; exact hge⟩
          · simp only [sumE, sS]
            have hx : hearR r m = vote (fol r m.term) m.frm := by unfold hearR; dsimp only; rw [if_pos hy]
            have hy' := hy
            simp only [hearYes, Bool.and_eq_true, Bool.or_eq_true, decide_eq_true_eq] at hy'
            obtain ⟨⟨⟨y1, y2⟩, y3⟩, y4⟩ := hy'
            have hterm : (fol r m.term).2.1 = m8.2.2.2.1 := by rw [← hm3]; exact y1
            have hcond : (bif (mpGet (fol r m.term).2.1 votes).isSome then decide (((mpGet (fol r m.term).2.1 votes).getD 0) ≠ m8.2.1) else false) = false := by
              cases hg : mpGet (fol r m.term).2.1 votes with
              | none => rfl
              | some w =>
                have hv := h.inv.fol m.term _ _ hg
                have hv2 : (fol r m.term).voted = w := by
                  rcases hv.2 with hv2 | hv2
                  · have : (fol r m.term).2.1 < (fol r m.term).2.1 := hv2
                    omega
                  · exact hv2.2
                have : w = m8.2.1 := by
                  rw [← hm1]
                  rcases y2 with y2 | y2
                  · have := hv.1; omega
                  · rw [← hv2]; exact y2
                simp only [Option.isSome_some, Option.getD_some, cond_true, this, ne_eq, not_true_eq_false, decide_false]
            refine ⟨.inl ((i, ()), ((r, ()), (mpSet (fol r m.term).2.1 m8.2.1 votes, ((d2, ()), ((hearR r m, ()), ()))))), ?_, hearR r m, _, d2, rfl, ⟨hck, ?_⟩, hid2, hd2, by rw [hx]; exact hge⟩
            · simp only [bne_decide]
              cases hg : (mpGet (fol r m.term).2.1 votes).isSome
              · simp only [sumE, sS, hterm, ne_eq, not_true_eq_false]
              · rw [hg] at hcond
                rw [cond_true] at hcond
                rw [hterm] at hcond
                simp only [sumE, sS, hterm, hcond, ne_eq, not_true_eq_false]
            · rw [hx]
              intro T w hw
              rw [mpGet_set] at hw
              split at hw
              · rename_i hT
                cases hw
                rw [← hm1]
                exact ⟨f0, .inr ⟨hT, rfl⟩⟩
              · rename_i hT
                have := h.inv.fol m.term T w hw
                refine ⟨this.1, .inl ?_⟩
                have h2 : ¬ T = (fol r m.term).term := hT
                have h3 : (vote (fol r m.term) m.frm).term = (fol r m.term).term := rfl
                omega
        · have hh : hear 5 r m = (r, zeroM, false) := by unfold hear; rw [if_neg ho]
          simp only [hh, sumE, sS]
          exact ⟨_, rfl, r, votes, d2, rfl, h, hid, hd2, Int.le_refl _⟩
      · simp only [decide_eq_false c1, sumE, sS]
        by_cases c2 : a = 2
        · simp only [decide_eq_true c2, sumE, sS]
          obtain ⟨m8, d2, e2, hd2⟩ := m33_ok r hs 5 (by omega) (by omega) hd1
          simp only [e2, sumE, sS]
          obtain ⟨m, hm⟩ : ∃ m : MT, m = (2, m8.2.1, 0, m8.2.2.2.1, m8.2.2.2.2.1, m8.2.2.2.2.2.1, m8.2.2.2.2.2.2.1, [], m8.2.2.2.2.2.2.2.1, ()) := ⟨_, rfl⟩
          rw [← hm]
          simp only [m36_eq 5 r m hs]
          refine ⟨_, rfl, voted 5 r m, votes, d2, rfl, ⟨chk_voted h.chk, h.inv.voted _ _⟩, ?_, hd2, (keeps_voted 5 r m).1⟩
          unfold Raft.voted
          split
          · split
            · unfold Raft.fol; split <;> exact hid
            · split
              · unfold votedR; dsimp only; split <;> exact hid
              · exact hid
          · exact hid
        · simp only [decide_eq_false c2, sumE, sS]
          exact ⟨_, rfl, r, votes, d1, rfl, h, hid, hd1, Int.le_refl _⟩
  · rintro _ ⟨x, votes', d', rfl, hx, hxi, hd', hge⟩
    have hlt : ¬ x.2.1 < r.2.1 := by have : r.2.1 ≤ x.2.1 := hge; omega
    simp only [sumE, sS, decide_eq_false hlt, m27_eq 5 x (shrt_of hx.chk), chk_iff.2 hx.chk]
    refine ⟨_, rfl, x, votes', d', ?_, hx, hxi, hd'⟩
    rw [w64_id (by omega) (by omega)]

theorem once_loop : ∀ (k : Nat) (i : Int) (r : RT) (votes : List (Int × Int)) (d : Dice), 0 ≤ i → i + k = 20 → ROK r votes → r.id = 0 → DOK d → loopT l5_0_9 ((i, ()), ((r, ()), (votes, ((d, ()), ())))) = some (.inr ((), ())) := by
  intro k
  induction k with
  | zero =>
    intro i r votes d h0 hi h hid hd
    refine loopT_inr ?_
    have : ¬ i < 20 := by omega
    simp only [l5_0_9, decide_eq_false this, sumE, sS]
  | succ k ih =>
    intro i r votes d h0 hi h hid hd
    obtain ⟨_, e1, r', votes', d', rfl, h', hid', hd'⟩ := once_step r votes d i h0 (by omega) h hid hd
    rw [← ih (i + 1) r' votes' d' (by omega) (by omega) h' hid' hd']
    exact loopT_inl e1

theorem law5c (l : List Int) : m5 ((l, ()), ()) = some ((true, ()), ()) := by
  unfold m5
  simp only [light, Option.bind_some, sane32]
  by_cases hl : l.length ≤ 500
  · simp only [decide_eq_true hl, sumE, sS, roll, m39_eq]
    have e : newV 0 5 = (0, 0) := by decide
    have e2 : newI 0 5 = ((0, 0, -1, 0, 0, ()), ()) := by decide
    simp only [e, e2, sumE, sS]
    have hr : ROK (rep0 0 : RT) [] := ⟨chk_rep0 (n := 5) (by omega) (by omega), fun T w hw => by cases hw⟩
    have := once_loop 20 0 (rep0 0 : RT) [] (l, 0, ()) (by omega) (by omega) hr rfl (dok0 hl)
    refine bind_of _ this ?_
    simp only [sumE, sS]
  · simp only [decide_eq_false hl, sumE, sS]

theorem law5 : ∀ x, Abs.InRs [.row (.int .i64)] x → m5 (x, ()) = some ((true, ()), ()) := fun x _ => law5c x.1

end Go.Proofs.Ytfbikpbejkgegaa
