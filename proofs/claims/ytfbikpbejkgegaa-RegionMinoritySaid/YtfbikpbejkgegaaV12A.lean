/- Lemmas for the statement of the last text of this claim. -/
import Derived.Test.YtfbikpbejkgegaaChecked
import Derived.Test.YtfbikpbejkgegaaPxM
import Derived.WalkKit
import Derived.ProofKit
import Derived.Deep.RegionLaw
import Derived.Deep.LoopGhost
import Derived.Lib.Walk
import Derived.Maps.Own
import Derived.Shelf.RegionOpenPlain
import Derived.Lib.LazyBuf
import Derived.Test.YtfbikpbejkgegaaPxK
set_option linter.unusedSimpArgs false
set_option linter.unusedVariables false
namespace Go.Raft
abbrev Ent (O : Type) := Int × O × Unit

abbrev Log (O : Type) := List (Ent O)

abbrev Rep (O : Type) := Int × Int × Int × Int × Log O × Int × List Bool × List Int × Unit

abbrev Msg (O : Type) := Int × Int × Int × Int × Int × Int × Int × Log O × Bool × Unit

variable {O : Type}
/-! ### Fields -/
abbrev rp (id term voted role : Int) (log : Log O) (commit : Int) (votes : List Bool) (mtch : List Int) : Rep O := (id, term, voted, role, log, commit, votes, mtch, ())

abbrev Rep.id (r : Rep O) : Int := r.1

abbrev Rep.term (r : Rep O) : Int := r.2.1

abbrev Rep.voted (r : Rep O) : Int := r.2.2.1

abbrev Rep.role (r : Rep O) : Int := r.2.2.2.1

abbrev Rep.log (r : Rep O) : Log O := r.2.2.2.2.1

abbrev Rep.commit (r : Rep O) : Int := r.2.2.2.2.2.1

abbrev Rep.votes (r : Rep O) : List Bool := r.2.2.2.2.2.2.1

abbrev Rep.mtch (r : Rep O) : List Int := r.2.2.2.2.2.2.2.1

section
variable (a b c d : Int) (l : Log O) (e : Int) (v : List Bool) (m : List Int)
@[simp] theorem rp_id : Rep.id (rp a b c d l e v m) = a := rfl

@[simp] theorem rp_term : Rep.term (rp a b c d l e v m) = b := rfl

@[simp] theorem rp_voted : Rep.voted (rp a b c d l e v m) = c := rfl

@[simp] theorem rp_role : Rep.role (rp a b c d l e v m) = d := rfl

@[simp] theorem rp_log : Rep.log (rp a b c d l e v m) = l := rfl

@[simp] theorem rp_commit : Rep.commit (rp a b c d l e v m) = e := rfl

@[simp] theorem rp_votes : Rep.votes (rp a b c d l e v m) = v := rfl

@[simp] theorem rp_mtch : Rep.mtch (rp a b c d l e v m) = m := rfl

end
abbrev mg (kind frm to term prev pterm commit : Int) (ents : Log O) (ok : Bool) : Msg O := (kind, frm, to, term, prev, pterm, commit, ents, ok, ())

abbrev Msg.kind (r : Msg O) : Int := r.1

abbrev Msg.frm (r : Msg O) : Int := r.2.1

abbrev Msg.to (r : Msg O) : Int := r.2.2.1

abbrev Msg.term (r : Msg O) : Int := r.2.2.2.1

abbrev Msg.prev (r : Msg O) : Int := r.2.2.2.2.1

abbrev Msg.pterm (r : Msg O) : Int := r.2.2.2.2.2.1

abbrev Msg.commit (r : Msg O) : Int := r.2.2.2.2.2.2.1

abbrev Msg.ents (r : Msg O) : Log O := r.2.2.2.2.2.2.2.1

abbrev Msg.ok (r : Msg O) : Bool := r.2.2.2.2.2.2.2.2.1

section
variable (a b c d e f g : Int) (l : Log O) (v : Bool)
@[simp] theorem mg_kind : Msg.kind (mg a b c d e f g l v) = a := rfl

@[simp] theorem mg_frm : Msg.frm (mg a b c d e f g l v) = b := rfl

@[simp] theorem mg_to : Msg.to (mg a b c d e f g l v) = c := rfl

@[simp] theorem mg_term : Msg.term (mg a b c d e f g l v) = d := rfl

@[simp] theorem mg_prev : Msg.prev (mg a b c d e f g l v) = e := rfl

@[simp] theorem mg_pterm : Msg.pterm (mg a b c d e f g l v) = f := rfl

@[simp] theorem mg_commit : Msg.commit (mg a b c d e f g l v) = g := rfl

@[simp] theorem mg_ents : Msg.ents (mg a b c d e f g l v) = l := rfl

@[simp] theorem mg_ok : Msg.ok (mg a b c d e f g l v) = v := rfl

end
/-! ### Chapter 32 -/
def quorum (n : Int) : Int := if 1 ≤ n ∧ n ≤ 5 then n / 2 + 1 else 0

def srt (top : Int) : Int → Log O → Bool
  | _, [] => true
  | lo, e :: l => decide (lo ≤ e.1) && decide (e.1 ≤ top) && srt top e.1 l

def logFits (l : Log O) (term : Int) : Bool := srt term 1 l && decide (l.length ≤ 256)

def inn (x a b : Int) : Bool := decide (a ≤ x) && decide (x ≤ b)

def roleOK (n : Int) (r : Rep O) : Bool :=
  if r.role = 0 then decide (r.votes.length = 0) && decide (r.mtch.length = 0)
  else if r.role = 1 then decide ((r.votes.length : Int) = n) && r.votes[r.id.toNat]?.getD false && decide (r.mtch.length = 0)
  else if r.role = 2 then decide ((r.votes.length : Int) = n) && r.votes[r.id.toNat]?.getD false && decide ((r.mtch.length : Int) = n) && decide (r.mtch[r.id.toNat]?.getD 0 = (r.log.length : Int)) && r.mtch.all (fun m => inn m 0 r.log.length)
  else false

def chk (n : Int) (r : Rep O) : Bool :=
  inn n 1 5 && inn r.id 0 (n - 1) && inn r.term 0 1048576 && inn r.voted (-1) (n - 1) && logFits r.log r.term && inn r.commit 0 r.log.length && roleOK n r

def lastT (l : Log O) : Int := match l.getLast? with
  | some e => e.1
  | none => 0

def fol (r : Rep O) (t : Int) : Rep O := if t > r.term then rp r.id t (-1) 0 r.log r.commit [] [] else r

def lead (n : Int) (r : Rep O) : Rep O := rp r.id r.term r.voted 2 r.log r.commit r.votes ((List.replicate n.toNat (0 : Int)).set r.id.toNat r.log.length)

def yes (v : List Bool) : Int := v.countP (· == true)

/-- Whether a message of a kind is one to a valid replica from another region. -/
def toOK (n : Int) (r : Rep O) (m : Msg O) (kind : Int) : Bool :=
  chk n r && decide (m.kind = kind) && decide (m.to = r.id) && inn m.frm 0 (n - 1) && decide (m.frm ≠ r.id) && inn m.term 1 1048576

def votedR (n : Int) (r : Rep O) (m : Msg O) : Rep O :=
  let x := rp r.id r.term r.voted r.role r.log r.commit (r.votes.set m.frm.toNat true) r.mtch
  if yes x.votes ≥ quorum n then lead n x else x

def voted (n : Int) (r : Rep O) (m : Msg O) : Rep O :=
  if toOK n r m 2 then
    if m.term > r.term then fol r m.term
    else if r.role = 1 ∧ m.term = r.term ∧ m.ok = true then votedR n r m else r
  else r

/-- The term of the entry ahead of a place. -/
def ptermAt (l : Log O) (p : Int) : Int := if p > 0 then ((l[(p - 1).toNat]?).map (·.1)).getD 0 else 0

/-- The number of entries at the beginning of a list that have the terms of those of a log. -/
def agree : Log O → Log O → Nat
  | e :: l, x :: y => if e.1 = x.1 then agree l y + 1 else 0
  | _, _ => 0

def joined (l : Log O) (prev : Nat) (ents : Log O) : Log O × Nat :=
  let s := agree (l.drop prev) ents
  if s = ents.length then (l, l.length) else (l.take (prev + s) ++ ents.drop s, prev + s)

def fits (r : Rep O) (m : Msg O) : Bool :=
  decide (m.term = r.term) && decide (r.role ≠ 2) && decide (m.prev ≤ r.log.length) && (decide (m.prev = 0) || decide (ptermAt r.log m.prev = m.pterm))

/-- What a replica is that hears the leader of its term. -/
def back (r : Rep O) (t : Int) : Rep O :=
  let x := fol r t
  if x.role = 1 ∧ x.term = t then rp x.id x.term x.voted 0 x.log x.commit [] x.mtch else x

end Go.Raft

namespace Go.Raft
variable {O : Type}
theorem srt_iff {top : Int} : ∀ {lo : Int} {l : Log O}, srt top lo l = true ↔ (∀ e ∈ l, lo ≤ e.1 ∧ e.1 ≤ top) ∧ l.Pairwise (fun a b => a.1 ≤ b.1) := by
  intro lo l
  induction l generalizing lo with
  | nil => simp [srt]
  | cons e l ih =>
    simp only [srt, Bool.and_eq_true, decide_eq_true_eq, ih, List.mem_cons, forall_eq_or_imp, List.pairwise_cons]
    constructor
    · rintro ⟨⟨h1, h2⟩, h3, h4⟩
      exact ⟨⟨⟨h1, h2⟩, fun a ha => ⟨by have := (h3 a ha).1; omega, (h3 a ha).2⟩⟩, fun a ha => (h3 a ha).1, h4⟩
    · rintro ⟨⟨⟨h1, h2⟩, h3⟩, h4, h5⟩
      exact ⟨⟨h1, h2⟩, fun a ha => ⟨h4 a ha, (h3 a ha).2⟩, h5⟩

theorem srt_top {a b lo : Int} {l : Log O} (h : srt a lo l = true) (hab : a ≤ b) : srt b lo l = true := by
  rw [srt_iff] at h ⊢
  exact ⟨fun e he => ⟨(h.1 e he).1, by have := (h.1 e he).2; omega⟩, h.2⟩

theorem lastT_nil : lastT ([] : Log O) = 0 := rfl

theorem lastT_get {l : Log O} {k : Nat} {e : Ent O} (h : l[k]? = some e) (hk : k + 1 = l.length) : lastT l = e.1 := by
  unfold lastT
  rw [List.getLast?_eq_getElem?, show l.length - 1 = k by omega, h]

theorem le_lastT {top : Int} {l : Log O} (h : srt top 1 l = true) {k : Nat} {e : Ent O} (hk : l[k]? = some e) : e.1 ≤ lastT l := by
  rw [srt_iff] at h
  obtain ⟨hk1, hk2⟩ := List.getElem?_eq_some_iff.1 hk
  have hl : l[l.length - 1]? = some (l[l.length - 1]'(by omega)) := List.getElem?_eq_getElem _
  rw [lastT_get hl (by omega)]
  rcases Nat.lt_or_ge k (l.length - 1) with hlt | hge
  · have := (List.pairwise_iff_getElem.1 h.2) k (l.length - 1) hk1 (by omega) hlt
    rw [← hk2]; exact this
  · have : k = l.length - 1 := by omega
    subst this
    rw [← hk2]; exact Int.le_refl _

structure Chk (n : Int) (r : Rep O) : Prop where
  n1 : 1 ≤ n
  n5 : n ≤ 5
  i0 : 0 ≤ r.id
  i1 : r.id < n
  t0 : 0 ≤ r.term
  t1 : r.term ≤ 1048576
  v0 : -1 ≤ r.voted
  v1 : r.voted < n
  so : srt r.term 1 r.log = true
  ll : r.log.length ≤ 256
  c0 : 0 ≤ r.commit
  c1 : r.commit ≤ r.log.length
  ro : roleOK n r = true

theorem quorum_eq {n : Int} (h1 : 1 ≤ n) (h5 : n ≤ 5) : quorum n = n / 2 + 1 := by rw [quorum, if_pos ⟨h1, h5⟩]

theorem role0_iff {n : Int} {r : Rep O} (h : r.role = 0) : roleOK n r = true ↔ r.votes = [] ∧ r.mtch = [] := by
  unfold roleOK
  rw [if_pos h]
  simp

theorem role1_iff {n : Int} {r : Rep O} (h : r.role = 1) : roleOK n r = true ↔ (r.votes.length : Int) = n ∧ r.votes[r.id.toNat]? = some true ∧ r.mtch = [] := by
  unfold roleOK
  rw [if_neg (by omega), if_pos h]
  simp only [Bool.and_eq_true, decide_eq_true_eq, and_assoc, List.length_eq_zero_iff]
  cases hg : r.votes[r.id.toNat]? <;> simp

theorem role2_iff {n : Int} {r : Rep O} (h : r.role = 2) : roleOK n r = true ↔ (r.votes.length : Int) = n ∧ r.votes[r.id.toNat]? = some true ∧ (r.mtch.length : Int) = n ∧ r.mtch[r.id.toNat]?.getD 0 = (r.log.length : Int) ∧ ∀ m ∈ r.mtch, 0 ≤ m ∧ m ≤ (r.log.length : Int) := by
  unfold roleOK
  rw [if_neg (by omega), if_neg (by omega), if_pos h]
  simp only [Bool.and_eq_true, decide_eq_true_eq, and_assoc, List.all_eq_true, inn]
  cases hg : r.votes[r.id.toNat]? <;> simp

theorem chk_follow {n : Int} {r : Rep O} {t : Int} (h : Chk n r) (ht : t ≤ 1048576) : Chk n (fol r t) := by
  unfold fol
  split
  · rename_i hgt
    have := h.n1; have := h.t0
    exact ⟨h.n1, h.n5, h.i0, h.i1, by simp; omega, by simpa using ht, by simp, by simp; omega, by simpa using srt_top h.so (by omega), h.ll, h.c0, h.c1, (role0_iff rfl).2 ⟨rfl, rfl⟩⟩
  · exact h

theorem chk_lead {n : Int} {r : Rep O} (h : Chk n r) (h1 : r.role = 1) : Chk n (lead n r) := by
  obtain ⟨v1, v2, _⟩ := (role1_iff h1).1 h.ro
  have := h.n1; have := h.i0; have := h.i1
  refine ⟨h.n1, h.n5, h.i0, h.i1, h.t0, h.t1, h.v0, h.v1, h.so, h.ll, h.c0, h.c1, (role2_iff (by simp [lead])).2 ?_⟩
  refine ⟨by simpa [lead] using v1, by simpa [lead] using v2, by simp [lead]; omega, ?_, ?_⟩
  · simp only [lead, rp_mtch, rp_id, rp_log]
    rw [List.getElem?_set_self (by simp; omega)]; rfl
  · intro m hm
    simp only [lead, rp_mtch, rp_log] at hm ⊢
    rcases List.mem_or_eq_of_mem_set hm with hm | hm
    · have := List.eq_of_mem_replicate hm; omega
    · omega

theorem chk_back {n : Int} {r : Rep O} {t : Int} (h : Chk n r) (ht : t ≤ 1048576) : Chk n (back r t) := by
  have hf := chk_follow (t := t) h ht
  unfold back
  simp only
  split
  · rename_i hr
    obtain ⟨v1, v2, v3⟩ := (role1_iff hr.1).1 hf.ro
    exact ⟨hf.n1, hf.n5, hf.i0, hf.i1, hf.t0, hf.t1, hf.v0, hf.v1, hf.so, hf.ll, hf.c0, hf.c1, (role0_iff rfl).2 ⟨rfl, by simpa using v3⟩⟩
  · exact hf

theorem agree_le : ∀ (l e : Log O), agree l e ≤ l.length ∧ agree l e ≤ e.length := by
  intro l e
  induction l generalizing e with
  | nil => simp [agree]
  | cons x l ih =>
    cases e with
    | nil => simp [agree]
    | cons y e =>
      simp only [agree]
      split
      · have := ih e; simp only [List.length_cons]; omega
      · simp

end Go.Raft

namespace Go.Raft
variable {O : Type}
/-! ### Majorities -/
def Maj (n : Nat) (p : Nat → Prop) : Prop := ∃ q : Nat → Bool, (∀ j, j < n → q j = true → p j) ∧ n < 2 * (List.range n).countP q

theorem countP_both (p q : Nat → Bool) (l : List Nat) : l.countP p + l.countP q ≤ l.length + l.countP (fun j => p j && q j) := by
  induction l with
  | nil => simp
  | cons a l ih =>
    simp only [List.countP_cons, List.length_cons]
    cases p a <;> cases q a <;> simp <;> omega

theorem Maj.both {n : Nat} {p q : Nat → Prop} (h1 : Maj n p) (h2 : Maj n q) : ∃ j, j < n ∧ p j ∧ q j := by
  obtain ⟨a, ha, ca⟩ := h1
  obtain ⟨b, hb, cb⟩ := h2
  have h := countP_both a b (List.range n)
  rw [List.length_range] at h
  have h0 : 0 < (List.range n).countP (fun j => a j && b j) := by omega
  obtain ⟨j, hj, hab⟩ := List.countP_pos_iff.1 h0
  rw [Bool.and_eq_true] at hab
  exact ⟨j, List.mem_range.1 hj, ha j (List.mem_range.1 hj) hab.1, hb j (List.mem_range.1 hj) hab.2⟩

theorem Maj.mono {n : Nat} {p q : Nat → Prop} (h : Maj n p) (f : ∀ j, j < n → p j → q j) : Maj n q := by
  obtain ⟨a, ha, ca⟩ := h
  exact ⟨a, fun j hj hq => f j hj (ha j hj hq), ca⟩

/-! ### The book of what has happened -/
structure LR (O : Type) where
  who : Nat
  el : Log O
  cur : Log O

structure Gh (O : Type) where
  rc : Int → Option (LR O)
  vt : Int → Nat → Option (Nat × Log O)
  ack : Int → Nat → Nat

def Own (g : Gh O) (T : Int) (k : Nat) : Prop := ∃ R e, g.rc T = some R ∧ R.cur[k]? = some e ∧ e.1 = T

def Has (g : Gh O) (T : Int) (k : Nat) (L : Log O) : Prop := ∃ R, g.rc T = some R ∧ k < R.cur.length ∧ L.take (k + 1) = R.cur.take (k + 1)

def Dead (n : Nat) (tm : Nat → Int) (g : Gh O) (T : Int) (k : Nat) : Prop := Maj n (fun j => T < tm j ∧ g.ack T j ≤ k)

def logP (g : Gh O) (L : Log O) : Prop := ∀ k e, L[k]? = some e → Has g e.1 k L

def Comm (n : Nat) (g : Gh O) (T : Int) (k : Nat) : Prop := Own g T k ∧ Maj n (fun j => k < g.ack T j)

def Cov (n : Nat) (g : Gh O) (T : Int) (L : Log O) (c : Nat) : Prop := c = 0 ∨ ∃ T' k R, T' ≤ T ∧ Comm n g T' k ∧ c ≤ k + 1 ∧ g.rc T' = some R ∧ L.take c = R.cur.take c

def upto (a b : Log O) : Prop := lastT b < lastT a ∨ (lastT b = lastT a ∧ b.length ≤ a.length)

structure VotOK (n : Nat) (tm : Nat → Int) (g : Gh O) (U : Int) (i c : Nat) (vl : Log O) : Prop where
  hi : i < n
  hc : c < n
  hU : 1 ≤ U
  ht : U ≤ tm i
  fr : ∃ cl, g.vt U c = some (c, cl) ∧ upto cl vl
  lp : logP g vl
  so : ∃ top, srt top 1 vl = true
  own : i = c → ∀ e ∈ vl, e.1 < U
  ak : ∀ T k, T < U → Own g T k → k < g.ack T i → Has g T k vl ∨ Dead n tm g T k

structure RecOK (n : Nat) (tm : Nat → Int) (g : Gh O) (U : Int) (R : LR O) : Prop where
  hw : R.who < n
  hU : 1 ≤ U
  ht : U ≤ tm R.who
  pre : R.el <+: R.cur
  vt : g.vt U R.who = some (R.who, R.el)
  mj : Maj n (fun j => ∃ vl, g.vt U j = some (R.who, vl))
  tms : ∀ k e, R.cur[k]? = some e → if k < R.el.length then e.1 < U else e.1 = U
  lp : logP g R.cur
  sf : ∀ T k, T < U → Own g T k → Has g T k R.el ∨ Dead n tm g T k

def AckOK (tm : Nat → Int) (g : Gh O) : Prop := ∀ T j, 0 < g.ack T j → T ≤ tm j ∧ ∃ R, g.rc T = some R ∧ g.ack T j ≤ R.cur.length

structure NodOK (n : Nat) (tm : Nat → Int) (g : Gh O) (i : Nat) (r : Rep O) : Prop where
  id : r.id = (i : Int)
  chk : Chk (n : Int) r
  tme : tm i = r.term
  lp : logP g r.log
  ak : ∀ T k, Own g T k → k < g.ack T i → Has g T k r.log ∨ Dead n tm g T k
  v0 : g.vt r.term i = none → r.voted = -1
  v1 : ∀ c vl, g.vt r.term i = some (c, vl) → r.voted = (c : Int)
  cv : Cov n g r.term r.log r.commit.toNat
  cd : r.role = 1 → g.vt r.term i = some (i, r.log) ∧ (∀ R, g.rc r.term = some R → R.who ≠ i) ∧ ∀ j, r.votes[j]? = some true → ∃ vl, g.vt r.term j = some (i, vl)
  ld : r.role = 2 → ∃ R, g.rc r.term = some R ∧ R.who = i ∧ R.cur = r.log ∧ ∀ j p, r.mtch[j]? = some p → p.toNat ≤ g.ack r.term j

structure MsgOK (n : Nat) (g : Gh O) (m : Msg O) : Prop where
  k1 : m.kind = 1 → ∃ (c : Nat) (cl : Log O), m.frm = (c : Int) ∧ g.vt m.term c = some (c, cl) ∧ m.prev = (cl.length : Int) ∧ m.pterm = lastT cl
  k2 : m.kind = 2 → m.ok = true → ∃ (i c : Nat) (vl : Log O), m.frm = (i : Int) ∧ m.to = (c : Int) ∧ g.vt m.term i = some (c, vl)
  k3 : m.kind = 3 → ∃ R, g.rc m.term = some R ∧ 0 ≤ m.prev ∧ m.prev.toNat + m.ents.length ≤ R.cur.length ∧ (R.cur.drop m.prev.toNat).take m.ents.length = m.ents ∧ m.pterm = ptermAt R.cur m.prev ∧ Cov n g m.term R.cur m.commit.toNat
  k4 : m.kind = 4 → m.ok = true → ∃ (i : Nat), m.frm = (i : Int) ∧ m.prev.toNat ≤ g.ack m.term i

def tmOf (reps : List (Rep O)) (j : Nat) : Int := ((reps[j]?).map Rep.term).getD 0

structure Inv (n : Nat) (reps : List (Rep O)) (g : Gh O) : Prop where
  len : reps.length = n
  nod : ∀ i r, reps[i]? = some r → NodOK n (tmOf reps) g i r
  vot : ∀ U i c vl, g.vt U i = some (c, vl) → VotOK n (tmOf reps) g U i c vl
  rcd : ∀ U R, g.rc U = some R → RecOK n (tmOf reps) g U R
  ack : AckOK (tmOf reps) g

structure Ext (tm : Nat → Int) (g : Gh O) (tm' : Nat → Int) (g' : Gh O) : Prop where
  tml : ∀ j, tm j ≤ tm' j
  rc : ∀ T R, g.rc T = some R → ∃ R', g'.rc T = some R' ∧ R'.who = R.who ∧ R'.el = R.el ∧ R.cur <+: R'.cur
  nw : ∀ T R', g'.rc T = some R' → (∃ R, g.rc T = some R) ∨ ∀ (k : Nat) e, R'.cur[k]? = some e → e.1 ≠ T
  vt : ∀ T j x, g.vt T j = some x → g'.vt T j = some x
  ak : ∀ T j, g.ack T j ≤ g'.ack T j
  fz : ∀ T j, T < tm j → g'.ack T j = g.ack T j

/-! ### Beginnings of lists -/
theorem pre_get {α : Type} {a b : List α} (h : a <+: b) {k : Nat} (hk : k < a.length) : b[k]? = a[k]? := by
  obtain ⟨t, rfl⟩ := h
  rw [List.getElem?_append_left hk]

theorem pre_take {α : Type} {a b : List α} (h : a <+: b) {k : Nat} (hk : k ≤ a.length) : b.take k = a.take k := by
  obtain ⟨t, rfl⟩ := h
  rw [List.take_append_of_le_length hk]

theorem take_lt {α : Type} {a b : List α} {k : Nat} (h : a.take k = b.take k) (hb : k ≤ b.length) : k ≤ a.length := by
  have := congrArg List.length h
  simp only [List.length_take] at this
  omega

theorem take_le {α : Type} {a b : List α} {k m : Nat} (h : a.take k = b.take k) (hm : m ≤ k) : a.take m = b.take m := by
  have := congrArg (List.take m) h
  rwa [List.take_take, List.take_take, Nat.min_eq_left hm] at this

theorem take_get {α : Type} {a b : List α} {k m : Nat} (h : a.take k = b.take k) (hm : m < k) : a[m]? = b[m]? := by
  have := congrArg (fun l => l[m]?) h
  simpa only [List.getElem?_take_of_lt hm] using this

theorem Has.lt {g : Gh O} {T : Int} {k : Nat} {L : Log O} (h : Has g T k L) : k < L.length := by
  obtain ⟨R, _, hk, e⟩ := h
  have := take_lt e (by omega)
  omega

theorem Cov.le {n : Nat} {g : Gh O} {T : Int} {L : Log O} {c : Nat} (h : Cov n g T L c) : c ≤ L.length := by
  rcases h with rfl | ⟨T', k, R, _, ⟨⟨R1, e, h1, h2, _⟩, _⟩, hc, hr, he⟩
  · omega
  · rw [h1] at hr; cases hr
    have := (List.getElem?_eq_some_iff.1 h2).1
    exact take_lt he (by omega)

theorem Cov.down {n : Nat} {g : Gh O} {T : Int} {L : Log O} {c d : Nat} (h : Cov n g T L c) (hd : d ≤ c) : Cov n g T L d := by
  rcases h with rfl | ⟨T', k, R, h1, h2, h3, h4, h5⟩
  · exact .inl (by omega)
  · exact .inr ⟨T', k, R, h1, h2, by omega, h4, take_le h5 hd⟩

theorem Cov.term {n : Nat} {g : Gh O} {T U : Int} {L : Log O} {c : Nat} (h : Cov n g T L c) (hd : T ≤ U) : Cov n g U L c := by
  rcases h with rfl | ⟨T', k, R, h1, h2, h3, h4, h5⟩
  · exact .inl rfl
  · exact .inr ⟨T', k, R, by omega, h2, h3, h4, h5⟩

theorem Cov.log {n : Nat} {g : Gh O} {T : Int} {L M : Log O} {c : Nat} (h : Cov n g T L c) (hd : M.take c = L.take c) : Cov n g T M c := by
  rcases h with rfl | ⟨T', k, R, h1, h2, h3, h4, h5⟩
  · exact .inl rfl
  · exact .inr ⟨T', k, R, h1, h2, h3, h4, by rw [hd, h5]⟩

/-! ### What stays -/

section
variable {n : Nat} {tm tm' : Nat → Int} {g g' : Gh O} (X : Ext tm g tm' g')
include X
theorem Own.mono {T : Int} {k : Nat} (h : Own g T k) : Own g' T k := by
  obtain ⟨R, e, h1, h2, h3⟩ := h
  obtain ⟨R', h4, _, _, h5⟩ := X.rc T R h1
  exact ⟨R', e, h4, by rw [pre_get h5 (List.getElem?_eq_some_iff.1 h2).1, h2], h3⟩

theorem Own.back {T : Int} {k : Nat} (ha : AckOK tm g) (h : Own g' T k) : Own g T k ∨ ∀ j, g.ack T j ≤ k := by
  obtain ⟨R', e, h1, h2, h3⟩ := h
  rcases X.nw T R' h1 with ⟨R, hR⟩ | h4
  · obtain ⟨R'', h5, _, _, h6⟩ := X.rc T R hR
    rw [h1] at h5; cases h5
    rcases Nat.lt_or_ge k R.cur.length with hlt | hge
    · exact .inl ⟨R, e, hR, by rw [← pre_get h6 hlt, h2], h3⟩
    · right
      intro j
      rcases Nat.eq_zero_or_pos (g.ack T j) with h0 | h0
      · omega
      · obtain ⟨_, R2, h7, h8⟩ := ha T j h0
        rw [hR] at h7; cases h7
        omega
  · exact absurd h3 (h4 k e h2)

theorem Has.mono {T : Int} {k : Nat} {L : Log O} (h : Has g T k L) : Has g' T k L := by
  obtain ⟨R, h1, h2, h3⟩ := h
  obtain ⟨R', h4, _, _, h5⟩ := X.rc T R h1
  exact ⟨R', h4, by have := h5.length_le; omega, by rw [pre_take h5 (by omega), h3]⟩

theorem Dead.mono {T : Int} {k : Nat} (h : Dead n tm g T k) : Dead n tm' g' T k :=
  Maj.mono h fun j _ ⟨h1, h2⟩ => ⟨by have := X.tml j; omega, by rw [X.fz T j h1]; exact h2⟩

theorem logP.mono {L : Log O} (h : logP g L) : logP g' L := fun k e hk => (h k e hk).mono X

theorem Comm.mono {T : Int} {k : Nat} (h : Comm n g T k) : Comm n g' T k :=
  ⟨h.1.mono X, Maj.mono h.2 fun j _ h1 => by have := X.ak T j; omega⟩

theorem Cov.mono {T : Int} {L : Log O} {c : Nat} (h : Cov n g T L c) : Cov n g' T L c := by
  rcases h with rfl | ⟨T', k, R, h1, h2, h3, h4, h5⟩
  · exact .inl rfl
  · obtain ⟨R', h6, _, _, h7⟩ := X.rc T' R h4
    obtain ⟨R1, e, h8, h9, _⟩ := h2.1
    rw [h4] at h8; cases h8
    have := (List.getElem?_eq_some_iff.1 h9).1
    exact .inr ⟨T', k, R', h1, h2.mono X, h3, h6, by rw [pre_take h7 (by omega), h5]⟩

theorem VotOK.mono (ha : AckOK tm g) {U : Int} {i c : Nat} {vl : Log O} (h : VotOK n tm g U i c vl) : VotOK n tm' g' U i c vl where
  hi := h.hi
  hc := h.hc
  hU := h.hU
  ht := by have := h.ht; have := X.tml i; omega
  fr := by obtain ⟨cl, h1, h2⟩ := h.fr; exact ⟨cl, X.vt _ _ _ h1, h2⟩
  lp := h.lp.mono X
  so := h.so
  own := h.own
  ak := by
    intro T k hT ho hk
    rw [X.fz T i (by have := h.ht; omega)] at hk
    rcases ho.back X ha with ho | ho
    · exact (h.ak T k hT ho hk).imp (fun a => a.mono X) (fun a => a.mono X)
    · have := ho i; omega

theorem RecOK.sf_mono (ha : AckOK tm g) (hv : ∀ U i c vl, g.vt U i = some (c, vl) → VotOK n tm g U i c vl) {U : Int} {R : LR O} (h : RecOK n tm g U R) :
    ∀ T k, T < U → Own g' T k → Has g' T k R.el ∨ Dead n tm' g' T k := by
  intro T k hT ho
  rcases ho.back X ha with ho | ho
  · exact (h.sf T k hT ho).imp (fun a => a.mono X) (fun a => a.mono X)
  · right
    refine Maj.mono h.mj fun j _ ⟨vl, hj⟩ => ?_
    have h1 := (hv _ _ _ _ hj).ht
    exact ⟨by have := X.tml j; omega, by rw [X.fz T j (by omega)]; exact ho j⟩

theorem RecOK.mono (ha : AckOK tm g) (hv : ∀ U i c vl, g.vt U i = some (c, vl) → VotOK n tm g U i c vl) {U : Int} {R : LR O} (h : RecOK n tm g U R) : RecOK n tm' g' U R where
  hw := h.hw
  hU := h.hU
  ht := by have := h.ht; have := X.tml R.who; omega
  pre := h.pre
  vt := X.vt _ _ _ h.vt
  mj := Maj.mono h.mj fun j _ ⟨vl, hj⟩ => ⟨vl, X.vt _ _ _ hj⟩
  tms := h.tms
  lp := h.lp.mono X
  sf := h.sf_mono X ha hv

theorem MsgOK.mono {m : Msg O} (h : MsgOK n g m) : MsgOK n g' m where
  k1 hk := by obtain ⟨c, cl, h1, h2, h3⟩ := h.k1 hk; exact ⟨c, cl, h1, X.vt _ _ _ h2, h3⟩
  k2 hk ho := by obtain ⟨i, c, vl, h1, h2, h3⟩ := h.k2 hk ho; exact ⟨i, c, vl, h1, h2, X.vt _ _ _ h3⟩
  k3 hk := by
    obtain ⟨R, h1, h2, h3, h4, h5, h6⟩ := h.k3 hk
    obtain ⟨R', h7, _, _, h8⟩ := X.rc _ R h1
    have hl := h8.length_le
    refine ⟨R', h7, h2, by omega, ?_, ?_, ?_⟩
    · obtain ⟨t, ht⟩ := h8
      rw [← ht, List.drop_append_of_le_length (by omega), List.take_append_of_le_length (by simp; omega), h4]
    · rw [h5]
      unfold ptermAt
      split
      · rw [pre_get h8 (by omega)]
      · rfl
    · exact (h6.mono X).log (pre_take h8 h6.le)
  k4 hk ho := by obtain ⟨i, h1, h2⟩ := h.k4 hk ho; exact ⟨i, h1, by have := X.ak m.term i; omega⟩

end
theorem Ext.same {tm tm' : Nat → Int} {g : Gh O} (h : ∀ j, tm j ≤ tm' j) : Ext tm g tm' g :=
  ⟨h, fun _ R hR => ⟨R, hR, rfl, rfl, List.prefix_refl _⟩, fun _ R hR => .inl ⟨R, hR⟩, fun _ _ _ h => h, fun _ _ => Nat.le_refl _, fun _ _ _ => rfl⟩

theorem tmOf_set {reps : List (Rep O)} {i : Nat} {r r' : Rep O} (hi : reps[i]? = some r) (j : Nat) : tmOf (reps.set i r') j = if j = i then r'.term else tmOf reps j := by
  unfold tmOf
  rw [List.getElem?_set]
  have hlt := (List.getElem?_eq_some_iff.1 hi).1
  by_cases h : i = j
  · subst h; rw [if_pos rfl, if_pos rfl, if_pos hlt]; rfl
  · rw [if_neg h, if_neg (by omega)]

theorem tmOf_eq {reps : List (Rep O)} {i : Nat} {r : Rep O} (hi : reps[i]? = some r) : tmOf reps i = r.term := by
  unfold tmOf; rw [hi]; rfl

theorem tmOf_le {reps : List (Rep O)} {i : Nat} {r r' : Rep O} (hi : reps[i]? = some r) (h : r.term ≤ r'.term) (j : Nat) : tmOf reps j ≤ tmOf (reps.set i r') j := by
  rw [tmOf_set hi]
  split
  · rename_i e; subst e; rw [tmOf_eq hi]; exact h
  · exact Int.le_refl _

/-- One replica becomes another one, and the book goes on. -/
theorem Inv.step {n : Nat} {reps : List (Rep O)} {g : Gh O} (h : Inv n reps g) {i : Nat} {r r' : Rep O} {g' : Gh O} (hi : reps[i]? = some r)
    (X : Ext (tmOf reps) g (tmOf (reps.set i r')) g')
    (hn : NodOK n (tmOf (reps.set i r')) g' i r')
    (ovt : ∀ j, j ≠ i → ∀ T, g'.vt T j = g.vt T j)
    (oak : ∀ j, j ≠ i → ∀ T, g'.ack T j = g.ack T j)
    (orc : ∀ U R, g.rc U = some R → R.who ≠ i → g'.rc U = some R)
    (nrc : ∀ U R, g'.rc U = some R → g.rc U = some R ∨ (R.who = i ∧ RecOK n (tmOf (reps.set i r')) g' U R))
    (nvt : ∀ U c vl, g'.vt U i = some (c, vl) → g.vt U i = some (c, vl) ∨ VotOK n (tmOf (reps.set i r')) g' U i c vl)
    (ak : AckOK (tmOf (reps.set i r')) g') : Inv n (reps.set i r') g' where
  len := by rw [List.length_set, h.len]
  nod := by
    intro j x hj
    rw [List.getElem?_set] at hj
    have hlt := (List.getElem?_eq_some_iff.1 hi).1
    by_cases hij : i = j
    · subst hij
      rw [if_pos rfl, if_pos hlt] at hj
      cases hj
      exact hn
    · rw [if_neg hij] at hj
      have hji : j ≠ i := fun e => hij e.symm
      have hx := h.nod j x hj
      refine ⟨hx.id, hx.chk, ?_, hx.lp.mono X, ?_, ?_, ?_, hx.cv.mono X, ?_, ?_⟩
      · rw [tmOf_set hi, if_neg hji]; exact hx.tme
      · intro T k ho hk
        rw [oak j hji] at hk
        rcases ho.back X h.ack with ho | ho
        · exact (hx.ak T k ho hk).imp (fun a => a.mono X) (fun a => a.mono X)
        · have := ho j; omega
      · rw [ovt j hji]; exact hx.v0
      · rw [ovt j hji]; exact hx.v1
      · intro hr
        obtain ⟨h1, h2, h3⟩ := hx.cd hr
        refine ⟨X.vt _ _ _ h1, ?_, ?_⟩
        · intro R hR
          rcases nrc _ R hR with hR | ⟨hR, _⟩
          · exact h2 R hR
          · omega
        · intro k hk
          obtain ⟨vl, hv⟩ := h3 k hk
          exact ⟨vl, X.vt _ _ _ hv⟩
      · intro hr
        obtain ⟨R, h1, h2, h3, h4⟩ := hx.ld hr
        refine ⟨R, orc _ R h1 (by omega), h2, h3, fun k p hk => ?_⟩
        have := h4 k p hk
        have := X.ak x.term k
        omega
  vot := by
    intro U j c vl hv
    by_cases hji : j = i
    · subst hji
      rcases nvt U c vl hv with hv | hv
      · exact (h.vot U j c vl hv).mono X h.ack
      · exact hv
    · rw [ovt j hji] at hv
      exact (h.vot U j c vl hv).mono X h.ack
  rcd := by
    intro U R hR
    rcases nrc U R hR with hR | ⟨_, hR⟩
    · exact (h.rcd U R hR).mono X h.ack h.vot
    · exact hR
  ack := ak

/-- A step that writes nothing into the book. -/
theorem Inv.step0 {n : Nat} {reps : List (Rep O)} {g : Gh O} (h : Inv n reps g) {i : Nat} {r r' : Rep O} (hi : reps[i]? = some r) (ht : r.term ≤ r'.term)
    (hn : NodOK n (tmOf (reps.set i r')) g i r') : Inv n (reps.set i r') g := by
  have X : Ext (tmOf reps) g (tmOf (reps.set i r')) g := Ext.same (tmOf_le hi ht)
  refine h.step hi X hn (fun _ _ _ => rfl) (fun _ _ _ => rfl) (fun _ _ h _ => h) (fun _ _ h => .inl h) (fun _ _ _ h => .inl h) ?_
  intro T j hj
  obtain ⟨h1, h2⟩ := h.ack T j hj
  exact ⟨by have := tmOf_le hi ht j; omega, h2⟩

end Go.Raft

namespace Go.Raft
variable {O : Type}
theorem set_same {α : Type} {l : List α} {i : Nat} {x : α} (h : l[i]? = some x) : l.set i x = l := by
  apply List.ext_getElem?
  intro j
  rw [List.getElem?_set]
  split
  · rename_i e; subst e
    rw [if_pos (List.getElem?_eq_some_iff.1 h).1, h]
  · rfl

/-- A step: the new book, what was right stays right, and the new messages are right. -/
def Step (n : Nat) (g : Gh O) (reps' : List (Rep O)) (new : List (Msg O)) : Prop :=
  ∃ g', Inv n reps' g' ∧ (∀ x, MsgOK n g x → MsgOK n g' x) ∧ ∀ x ∈ new, MsgOK n g' x

theorem Inv.refl {n : Nat} {reps : List (Rep O)} {g : Gh O} (h : Inv n reps g) : Step n g reps [] := ⟨g, h, fun _ h => h, fun _ h => by cases h⟩

section
variable {n : Nat} {reps : List (Rep O)} {g : Gh O} (h : Inv n reps g) {i : Nat} {r : Rep O} (hi : reps[i]? = some r)
include h hi
theorem Inv.lt : i < n := by rw [← h.len]; exact (List.getElem?_eq_some_iff.1 hi).1

theorem Inv.fol {t : Int} (ht : t ≤ 1048576) : Inv n (reps.set i (fol r t)) g := by
  have hn := h.nod i r hi
  have hc := chk_follow hn.chk ht
  unfold Raft.fol at hc ⊢
  split
  · rename_i hgt
    rw [if_pos hgt] at hc
    refine h.step0 hi (by simp; omega) ⟨hn.id, hc, ?_, hn.lp, ?_, fun _ => rfl, ?_, hn.cv.term (by simp; omega), fun hr => by simp at hr, fun hr => by simp at hr⟩
    · rw [tmOf_set hi, if_pos rfl]
    · intro T k ho hk
      exact (hn.ak T k ho hk).imp id (fun a => a.mono (Ext.same (tmOf_le hi (by simp; omega))))
    · intro c vl hv
      have := (h.vot _ _ _ _ hv).ht
      rw [hn.tme] at this
      simp at this; omega
  · rw [set_same hi]; exact h

theorem Inv.back {t : Int} (ht : t ≤ 1048576) : Inv n (reps.set i (back r t)) g := by
  have hb := chk_back (h.nod i r hi).chk ht
  have h1 := h.fol hi ht
  have hi1 : (reps.set i (Raft.fol r t))[i]? = some (Raft.fol r t) := List.getElem?_set_self (List.getElem?_eq_some_iff.1 hi).1
  have hn := h1.nod i _ hi1
  have h2 : ∀ y : Rep O, y = Raft.back r t → Inv n ((reps.set i (Raft.fol r t)).set i y) g := by
    intro y hy
    have hc : Chk n y := hy ▸ hb
    unfold Raft.back at hy
    simp only at hy
    split at hy
    · subst hy
      refine h1.step0 hi1 (by simp) ⟨hn.id, hc, ?_, hn.lp, ?_, hn.v0, hn.v1, hn.cv, fun hr => by simp at hr, fun hr => by simp at hr⟩
      · rw [tmOf_set hi1, if_pos rfl]
      · intro T k ho hk
        exact (hn.ak T k ho hk).imp id (fun a => a.mono (Ext.same (tmOf_le hi1 (by simp))))
    · subst hy
      rw [set_same hi1]; exact h1
  have := h2 _ rfl
  rwa [List.set_set] at this

end
section
variable {n : Nat} {reps : List (Rep O)} {g : Gh O} (h : Inv n reps g) {i : Nat} {r : Rep O} (hi : reps[i]? = some r)
include h hi
end
theorem Step.trans {n : Nat} {g : Gh O} {g1 : Gh O} {reps2 : List (Rep O)} {new : List (Msg O)} (h1 : ∀ x, MsgOK n g x → MsgOK n g1 x) (h2 : Step n g1 reps2 new) : Step n g reps2 new := by
  obtain ⟨g2, a, b, c⟩ := h2
  exact ⟨g2, a, fun x hx => b x (h1 x hx), c⟩

section
variable {n : Nat} {reps : List (Rep O)} {g : Gh O} (h : Inv n reps g) {i : Nat} {r : Rep O} (hi : reps[i]? = some r)
include h hi
end
/-! ### Elections -/
def Gh.lead (g : Gh O) (U : Int) (i : Nat) (R : LR O) : Gh O := ⟨fun T => if T = U then some R else g.rc T, g.vt, fun T j => if T = U ∧ j = i then R.cur.length else g.ack T j⟩

theorem countP_range {α : Type} (p : α → Bool) : ∀ l : List α, (List.range l.length).countP (fun j => (l[j]?).any p) = l.countP p := by
  intro l
  induction l with
  | nil => rfl
  | cons a l ih =>
    rw [List.length_cons, List.range_succ_eq_map, List.countP_cons, List.countP_map, List.countP_cons, ← ih]
    congr 1

theorem maj_of {n : Nat} {α : Type} {l : List α} (hl : l.length = n) (p : α → Bool) (P : Nat → Prop) (hp : ∀ j a, l[j]? = some a → p a = true → P j) (hc : ((l.countP p : Nat) : Int) ≥ (n : Int) / 2 + 1) : Maj n P := by
  refine ⟨fun j => (l[j]?).any p, fun j _ hj => ?_, ?_⟩
  · have hj : (l[j]?).any p = true := hj
    cases hq : l[j]? with
    | none => rw [hq] at hj; cases hj
    | some a => rw [hq] at hj; exact hp j a hq hj
  · rw [← hl, countP_range p l, hl]; omega

theorem sf_elect {n : Nat} {reps : List (Rep O)} {g : Gh O} (h : Inv n reps g) {U : Int} {i : Nat} {L : Log O} (hvi : g.vt U i = some (i, L)) (hmj : Maj n (fun j => ∃ vl, g.vt U j = some (i, vl))) :
    ∀ T k, T < U → Own g T k → Has g T k L ∨ Dead n (tmOf reps) g T k := by
  intro T k hT ho
  by_cases hd : Dead n (tmOf reps) g T k
  · exact .inr hd
  left
  have hex : ∃ j vl, g.vt U j = some (i, vl) ∧ k < g.ack T j := by
    apply Classical.byContradiction
    intro hno
    apply hd
    refine Maj.mono hmj fun j _ ⟨vl, hj⟩ => ⟨by have := (h.vot _ _ _ _ hj).ht; omega, ?_⟩
    rcases Nat.lt_or_ge k (g.ack T j) with hlt | hge
    · exact absurd ⟨j, vl, hj, hlt⟩ hno
    · exact hge
  obtain ⟨j, vl, hj, hk⟩ := hex
  have hv := h.vot _ _ _ _ hj
  have hhas := (hv.ak T k hT ho hk).resolve_right hd
  obtain ⟨cl, hcl, hup⟩ := hv.fr
  rw [hvi] at hcl; cases hcl
  obtain ⟨top, hso⟩ := hv.so
  obtain ⟨R, hR, hkR, htk⟩ := hhas
  obtain ⟨R1, e, hR1, hek, heT⟩ := ho
  rw [hR] at hR1; cases hR1
  have hvk : vl[k]? = some e := by rw [take_get htk (by omega), hek]
  have hTl : T ≤ lastT vl := by rw [← heT]; exact le_lastT hso hvk
  have hT1 := (h.rcd T R hR).hU
  have hvown := (h.vot _ _ _ _ hvi)
  have hne : L ≠ [] := by
    intro e0; subst e0
    rcases hup with hup | ⟨hup, _⟩ <;> rw [lastT_nil] at hup <;> omega
  have hlen : 0 < L.length := List.length_pos_iff.2 hne
  have hx : L[L.length - 1]? = some (L[L.length - 1]'(by omega)) := List.getElem?_eq_getElem _
  generalize L[L.length - 1]'(by omega) = x at hx
  have hW : lastT L = x.1 := lastT_get hx (by omega)
  have hxU : x.1 < U := hvown.own rfl x (List.mem_of_getElem? hx)
  obtain ⟨RW, hRW, hRWl, hRWt⟩ := hvown.lp _ _ hx
  rw [show L.length - 1 + 1 = L.length by omega] at hRWt
  have hle : lastT vl ≤ lastT L := by rcases hup with hup | ⟨hup, _⟩ <;> omega
  rcases Int.lt_or_le T x.1 with hlt | hge
  · obtain ⟨R2, hR2, hk2, ht2⟩ := ((h.rcd _ RW hRW).sf T k hlt ⟨R, e, hR, hek, heT⟩).resolve_right hd
    rw [hR] at hR2; cases hR2
    have hkel := take_lt ht2 (by omega)
    have hcx : RW.cur[L.length - 1]? = some x := by rw [← take_get hRWt (by omega), hx]
    have htms := (h.rcd _ RW hRW).tms _ _ hcx
    have hge : RW.el.length ≤ L.length - 1 := by
      rcases Nat.lt_or_ge (L.length - 1) RW.el.length with hq | hq
      · rw [if_pos hq] at htms; omega
      · exact hq
    refine ⟨R, hR, hk2, ?_⟩
    rw [take_le hRWt (show k + 1 ≤ L.length by omega), pre_take (h.rcd _ RW hRW).pre hkel, ht2]
  · have hxT : x.1 = T := by omega
    have hlv : lastT vl = lastT L := by omega
    have hll : vl.length ≤ L.length := by rcases hup with hup | ⟨_, hup⟩; · omega
                                          · exact hup
    have hkv := (List.getElem?_eq_some_iff.1 hvk).1
    rw [hxT, hR] at hRW; cases hRW
    exact ⟨R, hR, hkR, take_le hRWt (by omega)⟩

section
variable {n : Nat} {reps : List (Rep O)} {g : Gh O} (h : Inv n reps g) {i : Nat} {r : Rep O} (hi : reps[i]? = some r)
include h hi
theorem Inv.lead (hr : r.role = 1) (hy : yes r.votes ≥ quorum n) : Step n g (reps.set i (lead n r)) [] := by
  have hn := h.nod i r hi
  obtain ⟨hvi, hno, hvotes⟩ := hn.cd hr
  have hvl : r.votes.length = n := by have := ((role1_iff hr).1 hn.chk.ro).1; omega
  have hmj : Maj n (fun j => ∃ vl, g.vt r.term j = some (i, vl)) := by
    refine maj_of hvl (· == true) _ (fun j a hj ha => hvotes j ?_) ?_
    · rw [hj]; simp at ha; rw [ha]
    · rw [quorum_eq hn.chk.n1 hn.chk.n5] at hy; exact hy
  have hnone : g.rc r.term = none := by
    cases hR : g.rc r.term with
    | none => rfl
    | some R =>
      obtain ⟨j, _, ⟨vl, h1⟩, ⟨vl', h2⟩⟩ := (h.rcd _ R hR).mj.both hmj
      rw [h1] at h2
      have := hno R hR
      simp at h2; omega
  have hack0 : ∀ j, g.ack r.term j = 0 := by
    intro j
    rcases Nat.eq_zero_or_pos (g.ack r.term j) with h0 | h0
    · exact h0
    · obtain ⟨_, R, hR, _⟩ := h.ack _ _ h0
      rw [hnone] at hR; cases hR
  have hvv := h.vot _ _ _ _ hvi
  have hown := hvv.own rfl
  have hterm : (Raft.lead (n : Int) r).term = r.term := rfl
  have hle : r.term ≤ (Raft.lead (n : Int) r).term := Int.le_refl _
  have htm : tmOf (reps.set i (Raft.lead (n : Int) r)) i = r.term := by rw [tmOf_set hi, if_pos rfl]; rfl
  have hrc' : (g.lead r.term i ⟨i, r.log, r.log⟩).rc r.term = some ⟨i, r.log, r.log⟩ := if_pos rfl
  have hrcn : ∀ {T : Int}, T ≠ r.term → (g.lead r.term i ⟨i, r.log, r.log⟩).rc T = g.rc T := fun hT => if_neg hT
  have hackn : ∀ {T : Int} {j : Nat}, ¬ (T = r.term ∧ j = i) → (g.lead r.term i ⟨i, r.log, r.log⟩).ack T j = g.ack T j := fun hT => if_neg hT
  have hacki : (g.lead r.term i ⟨i, r.log, r.log⟩).ack r.term i = r.log.length := if_pos ⟨rfl, rfl⟩
  have hnown : ∀ k, ¬ Own (g.lead r.term i ⟨i, r.log, r.log⟩) r.term k := by
    rintro k ⟨R, e, h1, h2, h3⟩
    rw [hrc'] at h1; cases h1
    have := hown e (List.mem_of_getElem? h2)
    omega
  have hown' : ∀ {T : Int} {k : Nat}, Own (g.lead r.term i ⟨i, r.log, r.log⟩) T k → T ≠ r.term ∧ Own g T k := by
    intro T k ho
    have hT : T ≠ r.term := fun e => hnown k (e ▸ ho)
    obtain ⟨R, e, h1, h2, h3⟩ := ho
    rw [hrcn hT] at h1
    exact ⟨hT, R, e, h1, h2, h3⟩
  have X : Ext (tmOf reps) g (tmOf (reps.set i (Raft.lead n r))) (g.lead r.term i ⟨i, r.log, r.log⟩) := by
    refine ⟨tmOf_le hi hle, ?_, ?_, fun _ _ _ h => h, ?_, ?_⟩
    · intro T R hR
      have hT : T ≠ r.term := fun e => by rw [e, hnone] at hR; cases hR
      exact ⟨R, by rw [hrcn hT]; exact hR, rfl, rfl, List.prefix_refl _⟩
    · intro T R' hR
      by_cases hT : T = r.term
      · subst hT
        right
        intro k e he
        rw [hrc'] at hR; cases hR
        have := hown e (List.mem_of_getElem? he)
        omega
      · rw [hrcn hT] at hR; exact .inl ⟨R', hR⟩
    · intro T j
      by_cases hT : T = r.term ∧ j = i
      · rw [hT.1, hack0]; exact Nat.zero_le _
      · rw [hackn hT]; exact Nat.le_refl _
    · intro T j hlt
      refine hackn fun e => ?_
      rw [e.1, e.2, hn.tme] at hlt; omega
  refine ⟨g.lead r.term i ⟨i, r.log, r.log⟩, ?_, fun x hx => hx.mono X, fun x hx => by cases hx⟩
  refine h.step hi X ⟨hn.id, chk_lead hn.chk hr, htm, hn.lp.mono X, ?_, hn.v0, hn.v1, hn.cv.mono X, fun h2 => by simp [Raft.lead] at h2, ?_⟩ (fun _ _ _ => rfl) ?_ ?_ ?_ (fun _ _ _ h => .inl h) ?_
  · intro T k ho hk
    obtain ⟨hT, ho⟩ := hown' ho
    rw [hackn (fun e => hT e.1)] at hk
    exact (hn.ak T k ho hk).imp (fun a => a.mono X) (fun a => a.mono X)
  · intro _
    refine ⟨_, hrc', rfl, rfl, ?_⟩
    intro j p hp
    simp only [Raft.lead, rp_mtch, hn.id] at hp
    rw [List.getElem?_set] at hp
    by_cases e : (i : Int).toNat = j
    · have : j = i := by omega
      subst this
      rw [if_pos e] at hp
      split at hp
      · cases hp
        rw [hterm, hacki]; simp
      · cases hp
    · rw [if_neg e] at hp
      have := List.eq_of_mem_replicate (List.mem_of_getElem? hp)
      subst this
      simp
  · intro j hj T
    exact hackn fun e => hj e.2
  · intro U R hR _
    have hT : U ≠ r.term := fun e => by rw [e, hnone] at hR; cases hR
    rw [hrcn hT]; exact hR
  · intro U R hR
    by_cases hT : U = r.term
    · subst hT
      rw [hrc'] at hR; cases hR
      right
      refine ⟨rfl, h.lt hi, hvv.hU, by rw [htm]; exact Int.le_refl _, List.prefix_refl _, hvi, hmj, ?_, hn.lp.mono X, ?_⟩
      · intro k e he
        rw [if_pos (List.getElem?_eq_some_iff.1 he).1]
        exact hown e (List.mem_of_getElem? he)
      · intro T k hT ho
        obtain ⟨_, ho⟩ := hown' ho
        exact (sf_elect h hvi hmj T k hT ho).imp (fun a => a.mono X) (fun a => a.mono X)
    · left; rw [hrcn hT] at hR; exact hR
  · intro T j hj
    by_cases hT : T = r.term ∧ j = i
    · rw [hT.1, hT.2, htm, hacki]
      exact ⟨Int.le_refl _, _, hrc', Nat.le_refl _⟩
    · rw [hackn hT] at hj ⊢
      obtain ⟨h1, R, h2, h3⟩ := h.ack T j hj
      refine ⟨by have := tmOf_le hi hle j; omega, R, ?_, h3⟩
      have hT' : T ≠ r.term := fun e => by rw [e, hnone] at h2; cases h2
      rw [hrcn hT']; exact h2

end
end Go.Raft

namespace Go.Raft
variable {O : Type}
def Gh.grow (g : Gh O) (U : Int) (i : Nat) (R : LR O) (k : Nat) : Gh O := ⟨fun T => if T = U then some R else g.rc T, g.vt, fun T j => if T = U ∧ j = i then max (g.ack T j) k else g.ack T j⟩

/-- A book in which a leader's log has grown, and a replica holds more of it. -/
theorem Ext.grow {n : Nat} {reps : List (Rep O)} {g : Gh O} (h : Inv n reps g) {i : Nat} {r r' : Rep O} (hi : reps[i]? = some r) (ht : r'.term = r.term) {R R' : LR O} (hR : g.rc r.term = some R) (hw : R'.who = R.who) (he : R'.el = R.el) (hp : R.cur <+: R'.cur) (k : Nat) :
    Ext (tmOf reps) g (tmOf (reps.set i r')) (g.grow r.term i R' k) := by
  refine ⟨tmOf_le hi (by omega), ?_, ?_, fun _ _ _ h => h, ?_, ?_⟩
  · intro T R1 h1
    by_cases hT : T = r.term
    · subst hT
      rw [hR] at h1; cases h1
      exact ⟨R', if_pos rfl, hw, he, hp⟩
    · exact ⟨R1, by rw [← h1]; exact if_neg hT, rfl, rfl, List.prefix_refl _⟩
  · intro T R1 h1
    by_cases hT : T = r.term
    · exact .inl ⟨R, hT ▸ hR⟩
    · exact .inl ⟨R1, by rw [← h1]; exact (if_neg hT).symm⟩
  · intro T j
    show g.ack T j ≤ if T = r.term ∧ j = i then max (g.ack T j) k else g.ack T j
    split <;> omega
  · intro T j hlt
    refine if_neg fun e => ?_
    rw [e.1, e.2, tmOf_eq hi] at hlt; omega

section
variable {n : Nat} {reps : List (Rep O)} {g : Gh O} (h : Inv n reps g) {i : Nat} {r : Rep O} (hi : reps[i]? = some r)
include h hi
end
/-! ### Joined logs -/
theorem agree_spec : ∀ (a b : Log O) (m : Nat), m < agree a b → ∃ x y, a[m]? = some x ∧ b[m]? = some y ∧ x.1 = y.1 := by
  intro a b
  induction a generalizing b with
  | nil => intro m h; simp [agree] at h
  | cons x a ih =>
    cases b with
    | nil => intro m h; simp [agree] at h
    | cons y b =>
      intro m h
      simp only [agree] at h
      split at h
      · rename_i e
        cases m with
        | zero => exact ⟨x, y, rfl, rfl, e⟩
        | succ m => simpa using ih b m (by omega)
      · omega

theorem agree_stop : ∀ (a b : Log O), agree a b < b.length → a[agree a b]? = none ∨ ∃ x y, a[agree a b]? = some x ∧ b[agree a b]? = some y ∧ x.1 ≠ y.1 := by
  intro a b
  induction a generalizing b with
  | nil => intro h; left; rfl
  | cons x a ih =>
    cases b with
    | nil => intro h; simp at h
    | cons y b =>
      intro h
      simp only [agree] at h ⊢
      split
      · rename_i e
        rw [if_pos e] at h
        simpa using ih b (by simpa using h)
      · rename_i e
        exact .inr ⟨x, y, rfl, rfl, e⟩

theorem logP.take {g : Gh O} {L : Log O} (h : logP g L) (c : Nat) : logP g (L.take c) := by
  intro k e hk
  have hkl := (List.getElem?_eq_some_iff.1 hk).1
  simp at hkl
  rw [List.getElem?_take_of_lt (by omega)] at hk
  obtain ⟨R, h1, h2, h3⟩ := h k e hk
  exact ⟨R, h1, h2, by rw [List.take_take, Nat.min_eq_left (by omega), h3]⟩

/-- Logs with an entry of the same term at the same place are the same up to there. -/
theorem logP.same {g : Gh O} {L M : Log O} (hL : logP g L) (hM : logP g M) {k : Nat} {x y : Ent O} (hx : L[k]? = some x) (hy : M[k]? = some y) (e : x.1 = y.1) : L.take (k + 1) = M.take (k + 1) := by
  obtain ⟨R, h1, _, h3⟩ := hL k x hx
  obtain ⟨R', h4, _, h6⟩ := hM k y hy
  rw [← e, h1] at h4; cases h4
  rw [h3, h6]

theorem joined_spec {g : Gh O} {L cur ents : Log O} {p : Nat} (hL : logP g L) (hC : logP g cur) (hp : L.take p = cur.take p) (hpl : p ≤ L.length) (hE : p + ents.length ≤ cur.length) (he : (cur.drop p).take ents.length = ents) :
    (joined L p ents).1.take (p + ents.length) = cur.take (p + ents.length) ∧ logP g (joined L p ents).1 ∧ ∀ c, L.take c = cur.take c → c ≤ cur.length → (joined L p ents).1.take c = cur.take c := by
  have hs := agree_le (L.drop p) ents
  have hent : ∀ k, k < ents.length → ents[k]? = cur[p + k]? := by
    intro k hk
    conv => lhs; rw [← he]
    rw [List.getElem?_take_of_lt hk, List.getElem?_drop]
  have htk : L.take (p + agree (L.drop p) ents) = cur.take (p + agree (L.drop p) ents) := by
    rcases Nat.eq_zero_or_pos (agree (L.drop p) ents) with h0 | h0
    · rw [h0]; exact hp
    · obtain ⟨x, y, h1, h2, h3⟩ := agree_spec (L.drop p) ents (agree (L.drop p) ents - 1) (by omega)
      rw [List.getElem?_drop] at h1
      rw [hent _ (by omega)] at h2
      have := hL.same hC h1 h2 h3
      rwa [show p + (agree (L.drop p) ents - 1) + 1 = p + agree (L.drop p) ents by omega] at this
  by_cases hall : agree (L.drop p) ents = ents.length
  · have hj : (joined L p ents).1 = L := by unfold joined; simp only; rw [if_pos hall]
    rw [hj]
    rw [hall] at htk
    exact ⟨htk, hL, fun c h _ => h⟩
  · have hj : (joined L p ents).1 = cur.take (p + ents.length) := by
      unfold joined
      simp only
      rw [if_neg hall, htk]
      conv => lhs; rw [← he]
      rw [List.drop_take, List.drop_drop]
      have e2 : p + ents.length = (p + agree (L.drop p) ents) + (ents.length - agree (L.drop p) ents) := by omega
      conv => rhs; rw [e2, List.take_add]
      congr 2
      rw [he]
    rw [hj]
    refine ⟨by rw [List.take_take, Nat.min_self], hC.take _, fun c hc hcl => ?_⟩
    have hle : c ≤ p + agree (L.drop p) ents := by
      rcases Nat.lt_or_ge (p + agree (L.drop p) ents) c with hlt | hge
      · have hLl := take_lt hc hcl
        have hg := take_get hc hlt
        have hx : L[p + agree (L.drop p) ents]? = some (L[p + agree (L.drop p) ents]'(by omega)) := List.getElem?_eq_getElem _
        rcases agree_stop (L.drop p) ents (by omega) with h1 | ⟨x, y, h1, h2, h3⟩
        · rw [List.getElem?_drop, hx] at h1; cases h1
        · rw [List.getElem?_drop] at h1
          rw [hent _ (by omega)] at h2
          rw [h1, h2] at hg
          exact absurd (congrArg Prod.fst (Option.some.inj hg)) h3
      · exact hge
    rw [List.take_take, Nat.min_eq_left (by omega)]

/-- What is committed at a term is in the log of its leader, and of each later one. -/
theorem Inv.cur {n : Nat} {reps : List (Rep O)} {g : Gh O} (h : Inv n reps g) {T : Int} {k : Nat} {W : Int} {R RT : LR O} (hc : Comm n g T k) (hT : T ≤ W) (hR : g.rc W = some R) (hRT : g.rc T = some RT) : R.cur.take (k + 1) = RT.cur.take (k + 1) ∧ k < R.cur.length := by
  obtain ⟨RT', e, h1, h2, h3⟩ := hc.1
  rw [hRT] at h1; cases h1
  have hkl := (List.getElem?_eq_some_iff.1 h2).1
  by_cases hTW : T = W
  · subst hTW
    rw [hRT] at hR; cases hR
    exact ⟨rfl, hkl⟩
  · have hlt : T < W := by omega
    have hnd : ¬ Dead n (tmOf reps) g T k := by
      intro hd
      obtain ⟨j, _, ⟨_, a⟩, b⟩ := hd.both hc.2
      omega
    obtain ⟨R1, h4, h5, h6⟩ := ((h.rcd W R hR).sf T k hlt hc.1).resolve_right hnd
    rw [hRT] at h4; cases h4
    have hle := take_lt h6 (by omega)
    have := (h.rcd W R hR).pre
    exact ⟨by rw [pre_take this hle, h6], by have := this.length_le; omega⟩

theorem Cov.inCur {n : Nat} {reps : List (Rep O)} {g : Gh O} (h : Inv n reps g) {T W : Int} {L : Log O} {c : Nat} (hc : Cov n g T L c) (hT : T ≤ W) {R : LR O} (hR : g.rc W = some R) : L.take c = R.cur.take c ∧ c ≤ R.cur.length := by
  rcases hc with rfl | ⟨T', k, RT, h1, h2, h3, h4, h5⟩
  · simp
  · obtain ⟨h6, h7⟩ := h.cur h2 (by omega) hR h4
    exact ⟨by rw [h5, ← take_le h6 h3], by omega⟩

section
variable {n : Nat} {reps : List (Rep O)} {g : Gh O} (h : Inv n reps g) {i : Nat} {x : Rep O} (hi : reps[i]? = some x)
include h hi
/-- A replica takes a leader's entries. -/
theorem Inv.take {m : Msg O} (hm : MsgOK n g m) (hk : m.kind = 3) (hf : fits x m = true) (h0 : x.role = 0) {r' : Rep O}
    (hr' : r' = rp x.id x.term x.voted x.role (joined x.log m.prev.toNat m.ents).1 (max x.commit (min m.commit (m.prev + m.ents.length))) x.votes x.mtch) (hc : Chk n r') (hcm : 0 ≤ m.commit) :
    Step n g (reps.set i r') [mg 4 x.id m.frm x.term (m.prev + m.ents.length) 0 0 [] true] := by
  have hn := h.nod i x hi
  obtain ⟨R, hR, hp0, hE, he, hpt, hcv⟩ := hm.k3 hk
  simp only [fits, Bool.and_eq_true, Bool.or_eq_true, decide_eq_true_eq] at hf
  obtain ⟨⟨⟨hf1, hf2⟩, hf3⟩, hf4⟩ := hf
  have hRx : g.rc x.term = some R := by rw [← hf1]; exact hR
  have hrec := h.rcd _ R hRx
  have hp : x.log.take m.prev.toNat = R.cur.take m.prev.toNat := by
    rcases Nat.eq_zero_or_pos m.prev.toNat with hz | hz
    · rw [hz]; rfl
    · have hf4 := hf4.resolve_left (by omega)
      unfold ptermAt at hf4 hpt
      rw [if_pos (by omega)] at hf4 hpt
      have ha : x.log[(m.prev - 1).toNat]? = some (x.log[(m.prev - 1).toNat]'(by omega)) := List.getElem?_eq_getElem _
      have hb : R.cur[(m.prev - 1).toNat]? = some (R.cur[(m.prev - 1).toNat]'(by omega)) := List.getElem?_eq_getElem _
      generalize x.log[(m.prev - 1).toNat]'(by omega) = a at ha
      generalize R.cur[(m.prev - 1).toNat]'(by omega) = b at hb
      rw [ha] at hf4
      rw [hb] at hpt
      have := hn.lp.same hrec.lp ha hb (by simp at hf4 hpt; omega)
      rwa [show (m.prev - 1).toNat + 1 = m.prev.toNat by omega] at this
  obtain ⟨j1, j2, j3⟩ := joined_spec hn.lp hrec.lp hp (by omega) hE he
  have hlog : r'.log = (joined x.log m.prev.toNat m.ents).1 := by rw [hr']
  have hterm : r'.term = x.term := by rw [hr']
  have hvoted : r'.voted = x.voted := by rw [hr']
  have hrole : r'.role = 0 := by rw [hr']; simpa using h0
  have hid : r'.id = x.id := by rw [hr']
  have hcom : r'.commit = max x.commit (min m.commit (m.prev + m.ents.length)) := by rw [hr']
  have htm : tmOf (reps.set i r') i = x.term := by rw [tmOf_set hi, if_pos rfl, hterm]
  have X : Ext (tmOf reps) g (tmOf (reps.set i r')) (g.grow x.term i R (m.prev.toNat + m.ents.length)) := Ext.grow h hi hterm hRx rfl rfl (List.prefix_refl _) _
  have hrc : ∀ T, (g.grow x.term i R (m.prev.toNat + m.ents.length)).rc T = g.rc T := by
    intro T
    show (if T = x.term then some R else g.rc T) = g.rc T
    split
    · rename_i e; rw [e, hRx]
    · rfl
  have hackn : ∀ {T : Int} {j : Nat}, ¬ (T = x.term ∧ j = i) → (g.grow x.term i R (m.prev.toNat + m.ents.length)).ack T j = g.ack T j := fun hT => if_neg hT
  have hacki : (g.grow x.term i R (m.prev.toNat + m.ents.length)).ack x.term i = max (g.ack x.term i) (m.prev.toNat + m.ents.length) := if_pos ⟨rfl, rfl⟩
  have hownb : ∀ {T k}, Own (g.grow x.term i R (m.prev.toNat + m.ents.length)) T k → Own g T k := by
    rintro T k ⟨R1, e, h1, h2⟩
    rw [hrc] at h1
    exact ⟨R1, e, h1, h2⟩
  have hhas : ∀ {k}, k < R.cur.length → (joined x.log m.prev.toNat m.ents).1.take (k + 1) = R.cur.take (k + 1) → Has g x.term k (joined x.log m.prev.toNat m.ents).1 := fun hk h => ⟨R, hRx, hk, h⟩
  refine ⟨_, ?_, fun y hy => hy.mono X, ?_⟩
  · refine h.step hi X ⟨by rw [hid]; exact hn.id, hc, by rw [htm, hterm], by rw [hlog]; exact j2.mono X, ?_, ?_, ?_, ?_, fun h1 => by omega, fun h1 => by omega⟩ (fun _ _ _ => rfl) ?_ ?_ ?_ (fun _ _ _ h => .inl h) ?_
    · intro T k ho hk
      have ho := hownb ho
      rw [hlog]
      by_cases hT : T = x.term
      · subst hT
        rw [hacki] at hk
        by_cases hold : k < g.ack x.term i
        · rcases hn.ak _ k ho hold with a | a
          · obtain ⟨R1, h1, h2, h3⟩ := a
            rw [hRx] at h1; cases h1
            exact .inl ((hhas h2 (j3 _ h3 (by omega))).mono X)
          · exact .inr (a.mono X)
        · exact .inl ((hhas (by omega) (take_le j1 (by omega))).mono X)
      · rw [hackn (fun e => hT e.1)] at hk
        rcases hn.ak T k ho hk with a | a
        · have hTle := (h.ack T i (by omega)).1
          rw [hn.tme] at hTle
          rcases hrec.sf T k (by omega) ho with b | b
          · left
            obtain ⟨R1, h1, h2, h3⟩ := a
            obtain ⟨R2, h4, h5, h6⟩ := b
            rw [h1] at h4; cases h4
            have hel := take_lt h6 (by omega)
            have hcl := hrec.pre.length_le
            have e1 : R.cur.take (k + 1) = R1.cur.take (k + 1) := by rw [pre_take hrec.pre hel, h6]
            exact Has.mono X ⟨R1, h1, h2, by rw [j3 (k + 1) (by rw [h3, e1]) (by omega), e1]⟩
          · exact .inr (b.mono X)
        · exact .inr (a.mono X)
    · intro hv; rw [hterm] at hv; rw [hvoted]; exact hn.v0 hv
    · intro c vl hv; rw [hterm] at hv; rw [hvoted]; exact hn.v1 c vl hv
    · rw [hlog, hterm, hcom]
      have hmax : (max x.commit (min m.commit (m.prev + m.ents.length))).toNat = x.commit.toNat ∨ (max x.commit (min m.commit (m.prev + m.ents.length))).toNat = (min m.commit (m.prev + m.ents.length)).toNat := by omega
      rcases hmax with e | e
      · rw [e]
        obtain ⟨e1, e2⟩ := hn.cv.inCur h (Int.le_refl _) hRx
        exact (hn.cv.mono X).log (by rw [j3 _ e1 e2, e1])
      · rw [e]
        have hd : (min m.commit (m.prev + m.ents.length)).toNat ≤ m.commit.toNat := by omega
        refine (((hcv.down hd).mono X).log (M := (joined x.log m.prev.toNat m.ents).1) (take_le j1 (by omega))).term (by omega)
    · intro j hj T
      exact hackn fun e => hj e.2
    · intro U R1 h1 _; rw [hrc]; exact h1
    · intro U R1 h1; left; rw [hrc] at h1; exact h1
    · intro T j hj
      by_cases hT : T = x.term ∧ j = i
      · obtain ⟨rfl, rfl⟩ := hT
        refine ⟨by rw [htm]; exact Int.le_refl _, R, by rw [hrc]; exact hRx, ?_⟩
        rw [hacki]
        rcases Nat.eq_zero_or_pos (g.ack x.term j) with hz | hz
        · omega
        · obtain ⟨_, R1, h2, h3⟩ := h.ack _ _ hz
          rw [hRx] at h2; cases h2
          omega
      · rw [hackn hT] at hj ⊢
        obtain ⟨h1, R1, h2, h3⟩ := h.ack T j hj
        exact ⟨by have := tmOf_le hi (r' := r') (by omega) j; omega, R1, by rw [hrc]; exact h2, h3⟩
  · intro y hy
    simp at hy
    subst hy
    refine ⟨fun hk => by simp at hk, fun hk => by simp at hk, fun hk => by simp at hk, fun _ _ => ⟨i, hn.id, ?_⟩⟩
    simp only [mg_prev, mg_term]
    rw [hacki]
    omega

end
end Go.Raft

namespace Go.Raft
variable {O : Type}
section
variable {n : Nat} {reps : List (Rep O)} {g : Gh O} (h : Inv n reps g) {i : Nat} {r : Rep O} (hi : reps[i]? = some r)
include h hi
/-! ### What follows -/

theorem Inv.one {j : Nat} {b : Rep O} (hj : reps[j]? = some b) (ha : r.role = 2) (hb : b.role = 2) (ht : r.term = b.term) : i = j := by
  obtain ⟨R, h1, h2, _⟩ := (h.nod i r hi).ld ha
  obtain ⟨R', h3, h4, _⟩ := (h.nod j b hj).ld hb
  rw [← ht, h1] at h3; cases h3
  omega

theorem Inv.same {j : Nat} {b : Rep O} (hj : reps[j]? = some b) {k : Nat} {x y : Ent O} (hx : r.log[k]? = some x) (hy : b.log[k]? = some y) (e : x.1 = y.1) : r.log.take (k + 1) = b.log.take (k + 1) :=
  (h.nod i r hi).lp.same (h.nod j b hj).lp hx hy e

end
/-! ### The beginning -/
def rep0 (i : Nat) : Rep O := rp (i : Int) 0 (-1) 0 [] 0 [] []

/-! ### What is committed stays -/
def Keeps (r r' : Rep O) : Prop := r.term ≤ r'.term ∧ r.commit ≤ r'.commit ∧ r'.log.take r.commit.toNat = r.log.take r.commit.toNat

theorem Keeps.refl (r : Rep O) : Keeps r r := ⟨Int.le_refl _, Int.le_refl _, rfl⟩

end Go.Raft

namespace Go.Proofs.Ytfbikpbejkgegaa
open Go Go.Abs Go.RowKit
set_option maxHeartbeats 1000000 in
theorem quiet_calls (g : FuncId) (w : World) : Calls Try.prog 139 #[.func (.func g) #[] #[]] w fun e w' => e = .returned (.func (.func 140) #[] #[.pointer (some ⟨w.heap.size, 0, none⟩)]) ∧ w' = w.alloc (.cells #[.func (.func g) #[] #[]] 53) := by
  go_enter Try.func139, Try.ntmps139
  go_wp2
  go_ret
  exact ⟨rfl, rfl⟩

/-- The block of a map with one more entry. -/
def ins1 (w : World) (r : Nat) (es : Array MapEntry) (clock : Nat) (k : Int) (v : Value) : World :=
  { w with heap := w.heap.setIfInBounds r (.map (es.push { key := .int .i64 k, val := v, born := clock }) (clock + 1)) }

theorem run_ins1 {P : Program} {t kt et : TypeId} (ht : P.underlying t = some (.map kt et)) (hk : P.underlying kt = some (.int .i64)) (w : World) (r : Nat) (es : Array MapEntry) (clock : Nat) (k : Int) (v : Value)
    (hb : w.heap[r]? = some (.map es clock)) (hf : Instr.findNow (.int .i64) (.int .i64 k) es.toList 0 = some none) :
    (Instr.mapUpdate t (.map (some r)) (.int .i64 k) v).run P w = .ok () (ins1 w r es clock k v) := by
  have hg : (getObj r).run P w = .ok (.map es clock) w := by simp [getObj, Sem.run, hb]
  have hck : (Instr.checkKey false 10000 kt (.int .i64 k)).run P w = .ok () w := by
    rw [show (10000 : Nat) = 9999 + 1 from rfl]
    unfold Instr.checkKey
    simp only [Sem.run_bind, run_underlying hk, Result.andThen_ok]
    rfl
  have hfk : (Instr.findKey kt (.int .i64 k) es.toList).run P w = .ok none w := by
    simp [Instr.findKey, run_underlying hk, hf]
  have hset : (setObj r (.map (es.push { key := .int .i64 k, val := v, born := clock }) (clock + 1))).run P w = .ok () (ins1 w r es clock k v) := by
    simp [setObj, Sem.run, hb, ins1]
  simp [Instr.mapUpdate, run_underlying ht, hg, hck, hfk, hset]

theorem wpList_ins {P : Program} (w : World) {ops : Array Oper} {rest : List Oper} {o : Oper} {a : Act} {Q : Exit → Act → World → Prop} (hg : o.guard = none) (m x v : Operand) (t : TypeId) (hop : o.op = Op.insert t m x v)
    (kt et : TypeId) (ht : P.underlying t = some (.map kt et)) (hk : P.underlying kt = some (.int .i64)) (r : Nat) (es : Array MapEntry) (clock : Nat) (k : Int) (vv : Value) (hm : a.eval m = .map (some r)) (hx : a.eval x = .int .i64 k) (hv : a.eval v = vv)
    (hb : w.heap[r]? = some (.map es clock)) (hf : Instr.findNow (.int .i64) (.int .i64 k) es.toList 0 = some none)
    (hK : wpList P ops Q rest (a.put o.dst undef) (ins1 w r es clock k vv)) : wpList P ops Q (o :: rest) a w := by
  refine wpList_plain hg fun K' hK' => ?_
  unfold Oper.wp
  simp [execOp, hop, hm, hx, hv, run_ins1 ht hk w r es clock k vv hb hf, Result.andThen]
  exact hK' _ _ hK

theorem at_new (w : World) (o : Obj) : (w.alloc o).heap[w.heap.size]? = some o := heap_alloc_new w o

theorem at_alloc {w : World} {r : Nat} {x : Obj} (o : Obj) (h : w.heap[r]? = some x) : (w.alloc o).heap[r]? = some x :=
  (heap_alloc_old w o (Array.getElem?_eq_some_iff.1 h).1).trans h

theorem at_ins {w : World} {r : Nat} {es : Array MapEntry} {c : Nat} (k : Int) (v : Value) (h : w.heap[r]? = some (.map es c)) : (ins1 w r es c k v).heap[r]? = some (.map (es.push { key := .int .i64 k, val := v, born := c }) (c + 1)) := by
  have := (Array.getElem?_eq_some_iff.1 h).1
  simp [ins1, this]

theorem size_alloc (w : World) (o : Obj) : (w.alloc o).heap.size = w.heap.size + 1 := by simp

theorem size_ins (w : World) (r : Nat) (es : Array MapEntry) (c : Nat) (k : Int) (v : Value) : (ins1 w r es c k v).heap.size = w.heap.size := by simp [ins1]

theorem off_alloc {w : World} {i : Nat} (o : Obj) (h : i < w.heap.size) : (w.alloc o).heap[i]? = w.heap[i]? := heap_alloc_old w o h

theorem off_ins {w : World} {r i : Nat} {es : Array MapEntry} {c : Nat} (k : Int) (v : Value) (h : i ≠ r) : (ins1 w r es c k v).heap[i]? = w.heap[i]? := by
  simp only [ins1]
  rw [Array.getElem?_setIfInBounds_ne (by omega)]

def hearL : List (Int × FuncId × List FuncId) := [(1, 24, []), (2, 140, [36]), (3, 47, []), (4, 140, [44])]

abbrev en (k : Int) (v : Value) (b : Nat) : MapEntry := { key := .int .i64 k, val := v, born := b }

abbrev fv (f : FuncId) : Value := .func (.func f) #[] #[]

abbrev qv (b : Nat) : Value := .func (.func 140) #[] #[.pointer (some ⟨b, 0, none⟩)]

/-- What is the same of two worlds. -/
def SameW (w w' : World) : Prop := (∀ i, i < w.heap.size → w'.heap[i]? = w.heap[i]?) ∧ w'.os = w.os ∧ w'.tape = w.tape ∧ w'.output = w.output

theorem SameW.alloc {w W : World} (h : SameW w W) (o : Obj) (hs : w.heap.size ≤ W.heap.size) : SameW w (W.alloc o) :=
  ⟨fun i hi => (off_alloc o (by omega)).trans (h.1 i hi), h.2⟩

theorem SameW.ins {w W : World} (h : SameW w W) (es : Array MapEntry) (c : Nat) (k : Int) (v : Value) : SameW w (ins1 W w.heap.size es c k v) :=
  ⟨fun i hi => (off_ins k v (by omega)).trans (h.1 i hi), h.2⟩

set_option maxHeartbeats 4000000 in
set_option maxRecDepth 1000000 in
theorem hear_calls (w : World) : Calls Try.prog 138 #[] w (MakesFm hearL w) := by
  have hk3 : Try.prog.underlying 3 = some (.int .i64) := by kernel_rfl
  go_enter Try.func138, Try.ntmps138
  go_wp2_with fail
  rename_i K1 h1 K2 h2
  rw [run_makeMap]
  simp only [Result.andThen, Oper.upon]
  apply h2
  have f1 := at_new w (.map #[] 0)
  have s1 := size_alloc w (.map #[] 0)
  have o1 : SameW w (w.alloc (.map #[] 0)) := SameW.alloc ⟨fun _ _ => rfl, rfl, rfl, rfl⟩ _ (Nat.le_refl _)
  generalize w.alloc (.map #[] 0) = W1 at f1 s1 o1
  refine wpList_ins _ rfl _ _ _ _ rfl _ _ Try.underlying124 hk3 w.heap.size #[] 0 1 (fv 24) rfl rfl rfl f1 rfl ?_
  have f2 : (ins1 W1 w.heap.size #[] 0 1 (fv 24)).heap[w.heap.size]? = some (.map #[en 1 (fv 24) 0] 1) := at_ins 1 (fv 24) f1
  have s2 := size_ins W1 w.heap.size #[] 0 1 (fv 24)
  have o2 := o1.ins #[] 0 1 (fv 24)
  generalize ins1 W1 w.heap.size #[] 0 1 (fv 24) = W2 at f2 s2 o2
  go_wp2_with fail
  refine (quiet_calls 36 _).mono ?_
  rintro e w' ⟨rfl, rfl⟩
  rename_i K3 h3
  apply h3
  have g1 := at_new W2 (.cells #[fv 36] 53)
  have f3 := at_alloc (.cells #[fv 36] 53) f2
  have s3 := size_alloc W2 (.cells #[fv 36] 53)
  have o3 := o2.alloc (.cells #[fv 36] 53) (by omega)
  generalize hb1 : W2.heap.size = b1 at g1 s3
  generalize W2.alloc (.cells #[fv 36] 53) = W3 at g1 f3 s3 o3
  have hb1' : b1 = w.heap.size + 1 := by omega
  refine wpList_ins _ rfl _ _ _ _ rfl _ _ Try.underlying124 hk3 w.heap.size #[en 1 (fv 24) 0] 1 2 (qv b1) rfl rfl rfl f3 rfl ?_
  have f4 : (ins1 W3 w.heap.size #[en 1 (fv 24) 0] 1 2 (qv b1)).heap[w.heap.size]? = some (.map #[en 1 (fv 24) 0, en 2 (qv b1) 1] 2) := at_ins 2 (qv b1) f3
  have s4 := size_ins W3 w.heap.size #[en 1 (fv 24) 0] 1 2 (qv b1)
  have o4 := o3.ins #[en 1 (fv 24) 0] 1 2 (qv b1)
  have g2 : (ins1 W3 w.heap.size #[en 1 (fv 24) 0] 1 2 (qv b1)).heap[b1]? = _ := (off_ins _ _ (by omega)).trans g1
  generalize ins1 W3 w.heap.size #[en 1 (fv 24) 0] 1 2 (qv b1) = W4 at f4 s4 o4 g2
  refine wpList_ins _ rfl _ _ _ _ rfl _ _ Try.underlying124 hk3 w.heap.size #[en 1 (fv 24) 0, en 2 (qv b1) 1] 2 3 (fv 47) rfl rfl rfl f4 rfl ?_
  have f5 : (ins1 W4 w.heap.size #[en 1 (fv 24) 0, en 2 (qv b1) 1] 2 3 (fv 47)).heap[w.heap.size]? = some (.map #[en 1 (fv 24) 0, en 2 (qv b1) 1, en 3 (fv 47) 2] 3) := at_ins 3 (fv 47) f4
  have s5 := size_ins W4 w.heap.size #[en 1 (fv 24) 0, en 2 (qv b1) 1] 2 3 (fv 47)
  have o5 := o4.ins #[en 1 (fv 24) 0, en 2 (qv b1) 1] 2 3 (fv 47)
  have g3 : (ins1 W4 w.heap.size #[en 1 (fv 24) 0, en 2 (qv b1) 1] 2 3 (fv 47)).heap[b1]? = _ := (off_ins _ _ (by omega)).trans g2
  generalize ins1 W4 w.heap.size #[en 1 (fv 24) 0, en 2 (qv b1) 1] 2 3 (fv 47) = W5 at f5 s5 o5 g3
  go_wp2_with fail
  refine (quiet_calls 44 _).mono ?_
  rintro e w' ⟨rfl, rfl⟩
  rename_i K4 h4
  apply h4
  have g4 := at_new W5 (.cells #[fv 44] 53)
  have g5 := at_alloc (.cells #[fv 44] 53) g3
  have f6 := at_alloc (.cells #[fv 44] 53) f5
  have s6 := size_alloc W5 (.cells #[fv 44] 53)
  have o6 := o5.alloc (.cells #[fv 44] 53) (by omega)
  generalize hb2 : W5.heap.size = b2 at g4 s6
  generalize W5.alloc (.cells #[fv 44] 53) = W6 at g4 g5 f6 s6 o6
  have hb2' : b2 = w.heap.size + 2 := by omega
  refine wpList_ins _ rfl _ _ _ _ rfl _ _ Try.underlying124 hk3 w.heap.size #[en 1 (fv 24) 0, en 2 (qv b1) 1, en 3 (fv 47) 2] 3 4 (qv b2) rfl rfl rfl f6 rfl ?_
  have f7 : (ins1 W6 w.heap.size #[en 1 (fv 24) 0, en 2 (qv b1) 1, en 3 (fv 47) 2] 3 4 (qv b2)).heap[w.heap.size]? = some (.map #[en 1 (fv 24) 0, en 2 (qv b1) 1, en 3 (fv 47) 2, en 4 (qv b2) 3] 4) := at_ins 4 (qv b2) f6
  have s7 := size_ins W6 w.heap.size #[en 1 (fv 24) 0, en 2 (qv b1) 1, en 3 (fv 47) 2] 3 4 (qv b2)
  have o7 := o6.ins #[en 1 (fv 24) 0, en 2 (qv b1) 1, en 3 (fv 47) 2] 3 4 (qv b2)
  have g6 : (ins1 W6 w.heap.size #[en 1 (fv 24) 0, en 2 (qv b1) 1, en 3 (fv 47) 2] 3 4 (qv b2)).heap[b1]? = _ := (off_ins _ _ (by omega)).trans g5
  have g7 : (ins1 W6 w.heap.size #[en 1 (fv 24) 0, en 2 (qv b1) 1, en 3 (fv 47) 2] 3 4 (qv b2)).heap[b2]? = _ := (off_ins _ _ (by omega)).trans g4
  generalize ins1 W6 w.heap.size #[en 1 (fv 24) 0, en 2 (qv b1) 1, en 3 (fv 47) 2] 3 4 (qv b2) = W7 at f7 s7 o7 g6 g7
  go_wp2_with fail
  go_ret
  refine ⟨w.heap.size, _, _, rfl, Nat.le_refl _, f7, rfl, ?_, o7.2.1, o7.2.2.1, o7.2.2.2, by omega, o7.1⟩
  intro i k f gs hi
  match i, hi with
  | 0, hi => cases hi; exact ⟨_, #[], rfl, rfl, rfl, rfl, fun j g hj => by simp at hj⟩
  | 1, hi =>
    cases hi
    refine ⟨_, #[.pointer (some ⟨b1, 0, none⟩)], rfl, rfl, rfl, rfl, fun j g hj => ?_⟩
    match j, hj with
    | 0, hj => cases hj; exact ⟨b1, rfl, by omega, by simp [World.cell?, g6]⟩
  | 2, hi => cases hi; exact ⟨_, #[], rfl, rfl, rfl, rfl, fun j g hj => by simp at hj⟩
  | 3, hi =>
    cases hi
    refine ⟨_, #[.pointer (some ⟨b2, 0, none⟩)], rfl, rfl, rfl, rfl, fun j g hj => ?_⟩
    match j, hj with
    | 0, hj => cases hj; exact ⟨b2, rfl, by omega, by simp [World.cell?, g7]⟩

theorem hand138 : CallOK Try.prog 138 (fmS hearL) := fm_ok (entered Try.func138 rfl (by decide)) hear_calls

/-! ### slices.Delete -/

theorem run_clear_cells {P : Program} (w : World) (t e ty : TypeId) (z : Value) (ht : P.underlying t = some (.slice e)) (hv : ∀ w, (zeroValue e).run P w = .ok z w) (b o n c : Nat) (hn : 0 < n) (vs : List Value) (hvs : (Builtin.zeroCells z.cells n).toList = vs)
    (h1 : ∀ v ∈ vs, v.oneCell' = true) (hc : ∀ j, j < vs.length → (w.cell? ⟨b, o + j, none⟩).isSome = true) (hf : ∀ j, j < vs.length → w.frozen? ⟨b, o + j, none⟩ = false) :
    (Builtin.clear_ #[t] ty #[.slice (some ⟨b, o, none⟩) n c]).run P w = .ok (.tuple #[]) (w.setCells b o vs) := by
  have hst := run_storeCells_cells (P := P) b o vs 0 w (by simpa using hc) (by simpa using hf) h1
  simp only [Nat.add_zero] at hst
  obtain ⟨m, rfl⟩ : ∃ m, n = m + 1 := ⟨n - 1, by omega⟩
  simp [Builtin.clear_, run_underlying ht, hv, hvs, hst]

theorem setCells_frame (b : Nat) : ∀ (vs : List Value) (o : Nat) (w : World), (w.setCells b o vs).os = w.os ∧ (w.setCells b o vs).tape = w.tape ∧ (w.setCells b o vs).output = w.output ∧ (w.setCells b o vs).heap.size = w.heap.size ∧ ∀ k, k ≠ b → (w.setCells b o vs).heap[k]? = w.heap[k]?
  | [], _, _ => ⟨rfl, rfl, rfl, rfl, fun _ _ => rfl⟩
  | v :: r, o, w => by
    obtain ⟨h1, h2, h3, h4, h5⟩ := setCells_frame b r (o + 1) (w.setCell ⟨b, o, none⟩ v)
    rw [World.setCells]
    refine ⟨h1, h2, h3, h4.trans (by simp [World.setCell]), fun k hk => (h5 k hk).trans ?_⟩
    simp only [World.setCell]
    rw [Array.getElem?_modify, if_neg (fun e => hk e.symm)]

theorem cell_row {w : World} {b : Nat} {cs : Array Value} {T : TypeId} (h : w.heap[b]? = some (.cells cs T (0, 0))) {o : Nat} (ho : o < cs.size) : w.cell? ⟨b, o, none⟩ = some (cs.getD o undef) ∧ w.frozen? ⟨b, o, none⟩ = false := by
  constructor
  · simp [World.cell?, h, Array.getD, ho]
  · simp [World.frozen?, h]

theorem row_of {w : World} {b : Nat} {cs : Array Value} {T : TypeId} (h : w.heap[b]? = some (.cells cs T (0, 0))) : w.rowIs b T cs.size (fun k => cs.getD k undef) :=
  ⟨cs, h, rfl, fun i hi => by simp [Array.getD, hi]⟩

set_option maxHeartbeats 4000000 in
set_option maxRecDepth 1000000 in
theorem del_calls (w : World) (b n cap i j : Nat) (cs : Array Value) (T : TypeId) (hh : w.heap[b]? = some (.cells cs T (0, 0))) (hk : cap * 9 ≤ cs.size) (hone : ∀ k, k < n * 9 → (cs.getD k undef).oneCell' = true) (hij : i < j) (hj : j ≤ n) (hn : n ≤ cap) (hm : n ≤ 4294967296) :
    Calls Try.prog 135 #[.slice (some ⟨b, 0, none⟩) n cap, .int .i64 i, .int .i64 j] w (MakesDel 9 b n cap i j w cs T) := by
  have hic : i ≤ cap := by omega
  have hjc : j ≤ cap := by omega
  obtain ⟨i0, hi0, hz0, hz1, _⟩ := info_parts (P := Try.prog) (e := 44) (z := .agg #[.int .i64 0, .int .i64 0, .int .i64 0, .int .i64 0, .int .i64 0, .int .i64 0, .int .i64 0, .slice none 0 0, .bool false]) (size := 9) (bytes := 88) (by kernel_rfl)
  have hv44 : ∀ w, (zeroValue 44).run Try.prog w = .ok (.agg #[.int .i64 0, .int .i64 0, .int .i64 0, .int .i64 0, .int .i64 0, .int .i64 0, .int .i64 0, .slice none 0 0, .bool false]) w := fun w => by simp [zeroValue, typeInfo, hi0, hz0]
  -- the cells that are moved
  obtain ⟨news, hnews⟩ : ∃ news : List Value, news = (List.range ((n - j) * 9)).map (fun k => cs.getD (j * 9 + k) undef) := ⟨_, rfl⟩
  have hlen : news.length = (n - j) * 9 := by rw [hnews]; simp
  have hget : ∀ k, k < (n - j) * 9 → news[k]? = some (cs.getD (j * 9 + k) undef) := by intro k hk'; rw [hnews]; simp [hk']
  have hin : ∀ k, k < cap * 9 → k < cs.size := fun k hk' => by omega
  have hdrew : w.drew.heap[b]? = some (.cells cs T (0, 0)) := hh
  obtain ⟨A, hA, hsrc⟩ : ∃ A : Addr, (if cap = j then (some (⟨b, 0, none⟩ : Addr)) else some ⟨b, j * 9, none⟩) = some A ∧ Hid (∀ k u, news[k]? = some u → w.drew.cell? (A.add k) = some u) := by
    by_cases h : cap = j
    · refine ⟨⟨b, 0, none⟩, by simp [h], fun k u hu => ?_⟩
      have h0 : news.length = 0 := by rw [hlen]; omega
      rw [List.length_eq_zero_iff.1 h0] at hu
      simp at hu
    · refine ⟨⟨b, j * 9, none⟩, by simp [h], fun k u hu => ?_⟩
      have hk' := (List.getElem?_eq_some_iff.1 hu).1
      rw [hlen] at hk'
      rw [hget k hk'] at hu
      rw [addr_add]
      rw [← hu]
      exact (cell_row hdrew (hin _ (by omega))).1
  have s2 : Hid (∀ u ∈ news, u.oneCell' = true) := by
    intro u hu
    rw [hnews] at hu
    simp only [List.mem_map, List.mem_range] at hu
    obtain ⟨k, hk', rfl⟩ := hu
    exact hone _ (by omega)
  have s3 : Hid (∀ k, k < news.length → (w.drew.cell? ⟨b, 0 + i * 9 + k, none⟩).isSome = true ∧ w.drew.frozen? ⟨b, 0 + i * 9 + k, none⟩ = false) := by
    intro k hk'
    rw [hlen] at hk'
    rw [Nat.zero_add]
    obtain ⟨c1, c2⟩ := cell_row hdrew (o := i * 9 + k) (hin _ (by omega))
    exact ⟨by rw [c1]; rfl, c2⟩
  have s1 : Hid (news.length = (n - j) * 9) := hlen
  obtain ⟨W1, hW1⟩ : ∃ W1, W1 = w.drew.setCells b (0 + i * 9) news := ⟨_, rfl⟩
  have hW : Hid (W1 = w.drew.setCells b (0 + i * 9) news) := hW1
  have hrow1 : W1.rowIs b T cs.size (fun k => if 0 + i * 9 ≤ k ∧ k < 0 + i * 9 + news.length then news[k - (0 + i * 9)]?.getD default else cs.getD k undef) := by
    rw [hW1]; exact rowIs_setCells news (0 + i * 9) w.drew _ (row_of hdrew)
  have hfrm1 := setCells_frame b news (0 + i * 9) w.drew
  rw [← hW1] at hfrm1
  -- what is cleared
  obtain ⟨zs, hzs⟩ : ∃ zs, zs = (Builtin.zeroCells (Value.agg #[.int .i64 0, .int .i64 0, .int .i64 0, .int .i64 0, .int .i64 0, .int .i64 0, .int .i64 0, .slice none 0 0, .bool false]).cells (n - (i + (n - j)))).toList := ⟨_, rfl⟩
  have hzl : zs.length = (n - (i + (n - j))) * 9 := by rw [hzs]; simp [Builtin.zeroCells, Value.cells]
  have hz1' : ∀ v ∈ zs, v.oneCell' = true := by
    intro v hv
    rw [hzs] at hv
    simp only [Builtin.zeroCells, Value.cells, Array.toList_map, List.mem_map] at hv
    obtain ⟨k, _, rfl⟩ := hv
    have hk9 : k % 9 < 9 := Nat.mod_lt _ (by omega)
    simp only [List.size_toArray, List.length_cons, List.length_nil]
    generalize k % 9 = q at hk9
    match q, hk9 with
    | 0, _ => rfl
    | 1, _ => rfl
    | 2, _ => rfl
    | 3, _ => rfl
    | 4, _ => rfl
    | 5, _ => rfl
    | 6, _ => rfl
    | 7, _ => rfl
    | 8, _ => rfl
  obtain ⟨c1, hc1, hc1s, hc1g⟩ := hrow1
  have hcl : ∀ ty, (Builtin.clear_ #[28] ty #[.slice (some ⟨b, (i + (n - j)) * 9, none⟩) (n - (i + (n - j))) (cap - (i + (n - j)))]).run Try.prog W1 = .ok (.tuple #[]) (W1.setCells b ((i + (n - j)) * 9) zs) :=
    fun ty => run_clear_cells W1 28 44 ty _ Try.underlying28 hv44 b _ _ _ (by omega) zs hzs.symm hz1' (fun q hq => by rw [(cell_row hc1 (by omega)).1]; rfl) (fun q hq => (cell_row hc1 (by omega)).2)
  have hrow2 := rowIs_setCells zs ((i + (n - j)) * 9) W1 _ ⟨c1, hc1, hc1s, hc1g⟩
  have hfrm2 := setCells_frame b zs ((i + (n - j)) * 9) W1
  obtain ⟨c2, hc2, hc2s, hc2g⟩ := hrow2
  have fin : Aside (MakesDel 9 b n cap i j w cs T (.returned (.slice (some ⟨b, 0, none⟩) (i + (n - j)) cap)) (W1.setCells b ((i + (n - j)) * 9) zs)) := by
    refine ⟨c2, by rw [show n - (j - i) = i + (n - j) by omega], hc2, hc2s, fun k hk' => ?_, fun k hk' hk2 => ?_, hfrm2.1.trans hfrm1.1, hfrm2.2.1.trans hfrm1.2.1, hfrm2.2.2.1.trans hfrm1.2.2.1, hfrm2.2.2.2.1.trans hfrm1.2.2.2.1, fun k hk' => (hfrm2.2.2.2.2 k hk').trans (hfrm1.2.2.2.2 k hk')⟩
    · have := hc2g k (by omega)
      simp only at this
      rw [if_neg (by omega), if_neg (by omega)] at this
      rw [Array.getD_eq_getD_getElem?, this]
      rfl
    · have := hc2g k (by omega)
      simp only at this
      rw [if_neg (by omega), if_pos (by omega), hget _ (by omega)] at this
      rw [Array.getD_eq_getD_getElem?, this]
      simp only [Option.getD_some]
      congr 1
      omega
  have mixed : Try.prog.follows .mixedOrders = true := by kernel_rfl
  clear hh hk hone hnews hget hlen hin hdrew hfrm1 hfrm2 hc1 hc1s hc1g hc2 hc2s hc2g hzs hzl hz1' hW1
  go_enter Try.func135, Try.ntmps135
  go_wp2_with fail
  go_region_law_o (refine step_append_room rfl (.tmp 22) (.tmp 25) 28 rfl 44 i0 9 Try.underlying28 hi0 hz1 b 0 i cap (by simp [Act.eval, Act.put]) A (n - j) (cap - j) news (by simp [Act.eval, Act.put, hA]) s1.out hsrc.out s2.out (by omega) s3.out ?_; rw [← hW.out])
  go_wp2
  go_ret
  exact fin.out

theorem hand135 (t : Ty) (ht : t.size = 9) : CallOK Try.prog 135 (delS t) :=
  del_ok (entered Try.func135 rfl (by decide)) (fun w b n cap i j cs T h1 h2 h3 h4 h5 h6 h7 => by
    rw [ht] at h2 h3 ⊢
    exact del_calls w b n cap i j cs T h1 h2 h3 h4 h5 h6 h7)

end Go.Proofs.Ytfbikpbejkgegaa

namespace Go.Proofs.Ytfbikpbejkgegaa
open Go Go.Abs
noncomputable section
abbrev Y10 : Type := (Int × Int × Int × Int × Int × Int × Int × Int × Int × (Int × Int × Int × Int × Int × Int × Unit) × (Int × Int × Int × Int × Int × Unit) × Unit)

abbrev Y2 : Type := (List (Int × Y10 × Unit))

abbrev Y7 : Type := (Int × Int × Int × Int × Y2 × Int × (List Bool) × (List Int) × Unit)

abbrev Y9 : Type := (Int × Int × Int × Int × Int × Int × Int × Y2 × Bool × Unit)

abbrev Y5 : Type := ((List Y7) × (List Y9) × (List Bool) × (List (Int × Int × Unit)) × Unit)

abbrev Y11 : Type := ((Int × Int × Int × Int × Int × Unit) × Unit)

abbrev Z12 : Abs.Ty := (.cons (.int .i64) (.cons (.int .i64) .unit))

abbrev Z6 : Abs.Ty := (.cons (.int .i64) (.cons (.int .i64) (.cons (.int .i64) (.cons (.int .i64) (.cons (.int .i64) (.cons (.int .i64) (.cons (.int .i64) (.cons (.int .i64) (.cons (.int .i64) (.cons (.cons (.int .i64) (.cons (.int .i64) (.cons (.int .i64) (.cons (.int .i64) Z12)))) (.cons (.cons (.int .i64) (.cons (.int .i64) (.cons (.int .i64) Z12))) .unit)))))))))))

abbrev Z1 : Abs.Ty := (.cons (.int .i64) (.cons Z6 .unit))

abbrev Z3 : Abs.Ty := (.cons (.int .i64) (.cons (.int .i64) (.cons (.int .i64) (.cons (.int .i64) (.cons (.row Z1) (.cons (.int .i64) (.cons (.row .bool) (.cons (.row (.int .i64)) .unit))))))))

abbrev Z4 : Abs.Ty := (.cons (.int .i64) (.cons (.int .i64) (.cons (.int .i64) (.cons (.int .i64) (.cons (.int .i64) (.cons (.int .i64) (.cons (.int .i64) (.cons (.row Z1) (.cons .bool .unit)))))))))

abbrev Z8 : Abs.Ty := (.cons (.row Z3) (.cons (.row Z4) (.cons (.row .bool) (.cons (.row Z12) .unit))))

abbrev Z13 : Abs.Ty := (.cons (.row (.int .i64)) (.cons (.int .i64) .unit))

abbrev Y14 : Type := (((List Int) × Int × Unit) × Unit)

abbrev Y15 : Type := (((Unit) × Unit) × (List Y7) × (List Y9) × (List Bool) × (List (Int × Int × Unit)) × Unit)

abbrev Y16 : Type := ((Bool × Unit) × (Unit))

abbrev Y17 : Type := (((Unit) × Unit) × ((Unit) × Unit) × (List Y7) × (List Y9) × (List Bool) × (List (Int × Int × Unit)) × Unit)

abbrev Y18 : Type := ((Int × Int × Int × Int × Int × Int × Int × Bool × Unit) × Unit)

abbrev Y19 : Type := (Y11 × Y11 × Y2 × (List Bool) × (List Int) × Unit)

abbrev Y21 : Type := (Int × Int × Int × Unit)

abbrev Y22 : Type := ((Y5 × Int × Unit) × (Unit))

def note : FuncId → Abs.Note
  | 2 => ⟨true, [], false, fun _ => []⟩
  | 3 => ⟨true, [0, 2, 3, 4, 5, 6, 7, 8, 9, 10, 11, 13, 14, 16, 17, 18, 19, 22, 32, 103, 104, 105, 106, 107, 113, 157], false, fun | 10 => [(1, 10), (4, 10), (6, 10), (9, 10), (1, 11), (4, 11), (6, 11), (9, 11), (10, 11), (6, 12), (9, 12)] | 11 => [(0, 5), (2, 5), (5, 7), (6, 7), (5, 9), (6, 9), (5, 11), (6, 11), (7, 12), (9, 12)] | 13 => [(3, 8), (5, 8)] | _ => []⟩
  | 4 => ⟨true, [0, 1, 2, 3, 5, 8, 9, 10, 11, 12, 14, 16, 17, 18, 19, 20, 21, 22, 24, 25, 26, 27, 28, 29, 30, 31, 32, 33, 34, 43, 63, 64, 65, 66, 73, 74, 75, 76, 92, 121, 131, 132, 133, 134, 194, 216], false, fun | 6 => [(1, 4), (1, 7), (4, 7), (6, 7)] | 7 => [(0, 3)] | 13 => [(2, 4)] | 19 => [(3, 5), (3, 8), (7, 8)] | 24 => [(19, 21), (19, 22), (33, 34), (33, 36), (33, 38)] | _ => []⟩
  | 5 => ⟨true, [0, 2, 3, 4, 5, 6, 7, 8, 9, 11, 13, 14, 15, 16, 17, 18, 19, 20, 23, 32, 35, 40, 41, 50, 59, 63, 82, 103, 109, 128], false, fun _ => []⟩
  | 6 => ⟨true, [0, 2, 3, 4, 5, 6, 7, 8, 9, 10, 11, 12, 13, 14, 15, 16, 17, 18, 19, 20, 21, 22, 23, 26, 35, 45, 52, 65, 77, 95, 113, 116, 132, 153, 166], false, fun | 23 => [(2, 5)] | 32 => [(4, 11), (5, 11), (6, 11), (4, 12), (5, 12), (6, 12), (11, 12)] | _ => []⟩
  | 7 => ⟨true, [0, 2, 3, 4, 5, 6, 7, 8, 9, 10, 11, 12, 13, 16, 35, 43, 102, 107, 110, 120, 139], false, fun | 13 => [(5, 11), (5, 14), (11, 17), (11, 19), (5, 22), (11, 22), (14, 22), (17, 22), (19, 22)] | _ => []⟩
  | 8 => ⟨true, [0, 2, 3, 4, 5, 6, 7, 8, 9, 11, 12, 13, 14, 15, 16, 20, 39, 53, 54, 55, 56, 57, 91, 111, 147], false, fun | 18 => [(2, 13), (4, 13), (6, 13), (7, 13), (8, 13), (2, 14), (4, 14), (6, 14), (7, 14), (8, 14), (13, 14)] | 21 => [(4, 6)] | _ => []⟩
  | 9 => ⟨true, [0, 2, 3, 4, 5, 6, 7, 8, 9, 10, 13, 14, 17, 34, 69, 100, 137], false, fun | 6 => [(1, 4), (1, 7), (4, 7), (6, 7)] | 10 => [(1, 11), (6, 11), (8, 11), (11, 15), (1, 18), (6, 18), (8, 18), (11, 20), (18, 20), (1, 21), (6, 21), (8, 21), (11, 23), (18, 23), (21, 23), (1, 24), (6, 24), (8, 24), (1, 25), (6, 25), (8, 25), (1, 27), (6, 27), (8, 27), (1, 29), (6, 29), (8, 29), (11, 29), (15, 29), (18, 29), (20, 29), (21, 29), (23, 29), (24, 29), (25, 29), (27, 29)] | 14 => [(1, 8), (1, 9), (1, 11), (1, 15)] | 18 => [(1, 2)] | _ => []⟩
  | 10 => ⟨true, [0, 2, 3, 4, 5, 6, 7, 8, 10, 11, 12, 13, 16, 23, 24, 25, 26, 38, 56, 59, 60, 61, 62, 81], false, fun | 22 => [(1, 12), (4, 12), (7, 12), (8, 12)] | 23 => [(11, 13), (11, 16)] | _ => []⟩
  | 11 => ⟨true, [0, 1, 2, 3, 5, 6, 8, 9, 10, 11, 12, 13, 14, 15, 16, 18, 20, 22, 23, 24, 25, 26, 27, 28, 30, 32, 33, 34, 35, 36, 37, 38, 39, 40, 41, 50, 67, 114, 142, 143, 144, 145, 152, 161, 162, 163, 164, 169, 170, 171, 172, 217, 222, 223, 224, 225, 233, 234, 235, 236, 261, 293], false, fun | 6 => [(1, 4), (1, 7), (4, 7), (6, 7)] | 11 => [(1, 7), (2, 7), (5, 7), (1, 10), (2, 10), (5, 10), (1, 12), (2, 12), (5, 12), (1, 15), (2, 15), (5, 15), (1, 17), (2, 17), (5, 17), (7, 17), (7, 18), (1, 21), (2, 21), (5, 21), (17, 21), (18, 21), (1, 24), (2, 24), (5, 24), (17, 24), (18, 24), (1, 27), (2, 27), (5, 27), (7, 27), (10, 27), (12, 27), (15, 27), (17, 27), (18, 27), (7, 28), (1, 30), (2, 30), (5, 30), (17, 30), (18, 30), (27, 30), (28, 30), (7, 31), (7, 32), (7, 33), (7, 35), (7, 38), (1, 41), (2, 41), (5, 41), (7, 41), (10, 41), (12, 41), (15, 41), (17, 41), (18, 41), (21, 41), (24, 41), (27, 41), (28, 41), (30, 41), (31, 41), (32, 41), (33, 41), (35, 41), (38, 41)] | 15 => [(1, 10), (1, 11), (1, 13), (1, 17)] | 31 => [(19, 21), (19, 22)] | 38 => [(0, 2)] | 48 => [(12, 14)] | 51 => [(1, 4), (1, 7), (4, 7), (6, 7)] | 52 => [(4, 6), (4, 8), (13, 14)] | _ => []⟩
  | 12 => ⟨true, [0, 2, 3, 4, 5, 6, 7, 8, 9, 10, 11, 12, 13, 14, 15, 16, 17, 20, 38, 42, 95, 102, 128, 147], false, fun _ => []⟩
  | 13 => ⟨true, [0, 2, 3, 4, 5, 6, 7, 8, 9, 11, 12, 15, 38, 40, 48, 64, 67, 68, 69, 70, 88], false, fun | 5 => [(0, 2)] | _ => []⟩
  | 14 => ⟨true, [0, 2, 3, 4, 5, 6, 7, 8, 9, 10, 11, 12, 15, 27, 29, 37, 40, 41, 42, 46, 47, 48, 79, 91, 106, 115], false, fun | 19 => [(1, 10), (4, 10), (6, 10), (9, 10), (1, 11), (4, 11), (6, 11), (9, 11), (10, 11), (6, 12), (9, 12)] | _ => []⟩
  | 15 => ⟨true, [0, 2, 3, 4, 5, 6, 7, 8, 9, 11, 12, 13, 16, 37, 39, 47, 51, 52, 53, 54, 69, 83], false, fun _ => []⟩
  | 16 => ⟨true, [0, 2], false, fun _ => []⟩
  | 17 => ⟨true, [0, 1, 2, 3, 4, 5, 6, 7, 8, 37], false, fun | 6 => [(0, 9), (3, 9), (4, 9)] | _ => []⟩
  | 18 => ⟨true, [0, 2], false, fun _ => []⟩
  | 19 => ⟨true, [0, 1, 4, 5, 7, 17, 33], false, fun | 3 => [(0, 5)] | _ => []⟩
  | 20 => ⟨true, [0, 1, 4, 5, 19, 40], false, fun _ => []⟩
  | 21 => ⟨true, [0, 1, 2, 3, 6], false, fun _ => []⟩
  | 22 => ⟨true, [0, 1, 2, 6], false, fun _ => []⟩
  | 23 => ⟨true, [0, 1, 3, 4, 5, 6, 7, 8, 12, 16, 37, 38, 39, 44], false, fun | 7 => [(1, 3), (3, 5), (3, 7)] | 14 => [(2, 10), (5, 10), (7, 10)] | _ => []⟩
  | 24 => ⟨true, [0, 1, 2, 4, 5, 6, 7, 8, 9, 16, 53], false, fun | 8 => [(2, 9), (4, 9), (6, 9)] | _ => []⟩
  | 25 => ⟨true, [0, 1, 3, 4, 5, 9, 10, 16, 22, 28, 34, 50, 63, 70, 77, 82], false, fun | 12 => [(1, 8), (1, 9), (1, 11)] | 21 => [(1, 6), (1, 8)] | _ => []⟩
  | 26 => ⟨true, [0, 1, 3, 4, 34, 36, 37, 49, 60], false, fun _ => []⟩
  | 27 => ⟨true, [0, 1, 3, 4, 5, 47, 49, 50, 62, 83, 117, 120, 132], false, fun _ => []⟩
  | 28 => ⟨true, [0, 2, 5], false, fun _ => []⟩
  | 29 => ⟨true, [0, 2, 5], false, fun _ => []⟩
  | 30 => ⟨true, [0, 1, 3, 4, 5, 6, 7, 8, 9, 13, 17, 40, 46, 52], false, fun | 6 => [(4, 6), (4, 8)] | 16 => [(2, 10), (5, 10), (7, 10)] | _ => []⟩
  | 31 => ⟨true, [0, 1, 2, 3, 4, 5, 12, 17, 30], false, fun _ => []⟩
  | 32 => ⟨true, [0, 1, 4, 5, 10, 14, 26], false, fun _ => []⟩
  | 33 => ⟨true, [0, 1, 2, 4, 6], false, fun | 1 => [(2, 14), (3, 14), (4, 14), (8, 14), (10, 14), (2, 16), (3, 16), (4, 16), (8, 16), (10, 16), (2, 17), (3, 17), (4, 17), (8, 17), (10, 17), (2, 21), (3, 21), (4, 21), (8, 21), (10, 21), (17, 21), (18, 21), (2, 23), (3, 23), (4, 23), (8, 23), (10, 23), (17, 23), (18, 23), (2, 25), (3, 25), (4, 25), (8, 25), (10, 25), (17, 25), (18, 25), (2, 28), (3, 28), (4, 28), (8, 28), (10, 28), (17, 28), (18, 28), (2, 30), (3, 30), (4, 30), (8, 30), (10, 30), (14, 30), (16, 30), (17, 30), (18, 30), (2, 34), (3, 34), (4, 34), (8, 34), (10, 34), (17, 34), (18, 34), (30, 34), (31, 34), (2, 37), (3, 37), (4, 37), (8, 37), (10, 37), (17, 37), (18, 37), (30, 37), (31, 37), (2, 40), (3, 40), (4, 40), (8, 40), (10, 40), (14, 40), (16, 40), (17, 40), (18, 40), (21, 40), (23, 40), (25, 40), (28, 40), (30, 40), (31, 40), (2, 43), (3, 43), (4, 43), (8, 43), (10, 43), (17, 43), (18, 43), (30, 43), (31, 43), (40, 43), (41, 43), (2, 46), (3, 46), (4, 46), (8, 46), (10, 46), (17, 46), (18, 46), (30, 46), (31, 46), (40, 46), (41, 46), (44, 46)] | _ => []⟩
  | 34 => ⟨true, [0, 1, 2, 4, 5, 6, 7, 8, 9, 10, 15, 54], false, fun | 3 => [(1, 3), (0, 5), (1, 5), (3, 5), (4, 5)] | 7 => [(2, 9), (4, 9), (6, 9)] | _ => []⟩
  | 35 => ⟨true, [0, 1, 2, 3, 4], false, fun _ => []⟩
  | 36 => ⟨true, [0, 1, 2, 4, 5, 6, 13, 19, 38], false, fun _ => []⟩
  | 37 => ⟨true, [0, 1, 2, 4, 5, 6, 7, 8, 9, 16, 22, 41, 50, 57, 63], false, fun _ => []⟩
  | 38 => ⟨true, [0, 1, 2, 3, 6], false, fun _ => []⟩
  | 39 => ⟨true, [0, 1, 4, 5, 15], false, fun _ => []⟩
  | 40 => ⟨true, [0, 1, 4, 5, 15], false, fun _ => []⟩
  | 41 => ⟨true, [0, 1, 4], false, fun _ => []⟩
  | 42 => ⟨true, [0, 1, 3, 4, 5, 6, 7, 8, 31], false, fun | 6 => [(1, 12), (3, 12), (6, 12), (7, 12), (1, 13), (3, 13), (6, 13), (7, 13), (12, 13)] | _ => []⟩
  | 43 => ⟨true, [0, 1, 2, 3, 4, 5, 6, 7, 16, 49], false, fun _ => []⟩
  | 44 => ⟨true, [0, 1, 2, 4, 5, 6, 7, 8, 10, 17, 23, 55, 77, 81, 82, 83, 84, 89, 108], false, fun _ => []⟩
  | 45 => ⟨true, [0, 1, 2, 6], false, fun _ => []⟩
  | 46 => ⟨true, [0, 1, 3, 4, 5, 6, 7, 8, 17, 19, 20, 21, 22, 29, 45], false, fun | 8 => [(1, 12), (4, 12), (7, 12), (1, 14), (4, 14), (7, 14), (9, 14), (12, 14)] | _ => []⟩
  | 47 => ⟨true, [0, 1, 2, 4, 5, 6, 7, 8, 9, 10, 11, 12, 34, 51, 64, 74], false, fun | 4 => [(1, 3)] | 9 => [(1, 2)] | 14 => [(4, 10), (6, 10)] | 15 => [(1, 2)] | _ => []⟩
  | 48 => ⟨true, [0, 1, 4, 5, 26], false, fun _ => []⟩
  | 49 => ⟨true, [0, 1, 3, 4, 5, 9], false, fun _ => []⟩
  | 50 => ⟨true, [0, 1, 2, 3, 5, 15, 16, 17, 18], false, fun _ => []⟩
  | 51 => ⟨true, [0, 1, 4, 5, 10, 14, 25], false, fun _ => []⟩
  | 52 => ⟨true, [0, 1, 2, 4, 5, 6, 7, 8, 9, 10, 11, 12, 13, 14, 34, 52, 99, 122], false, fun | 3 => [(1, 3), (0, 5), (1, 5), (3, 5), (4, 5)] | 9 => [(1, 2)] | 17 => [(1, 2)] | _ => []⟩
  | 53 => ⟨true, [0, 1, 2, 4, 5, 6, 7, 8, 9, 10, 17, 23, 51, 73, 78, 87, 105], false, fun _ => []⟩
  | 54 => ⟨true, [0, 1, 2, 4, 5, 6, 7, 8, 14, 19, 25, 52], false, fun _ => []⟩
  | 55 => ⟨true, [0, 1, 2, 4, 5, 6, 7, 8, 9, 13, 17, 23, 35, 40, 63], false, fun _ => []⟩
  | 56 => ⟨true, [0, 1, 3, 4, 5, 6, 10], false, fun _ => []⟩
  | 57 => ⟨true, [0, 1, 3, 4, 5, 6, 7, 8, 17, 20, 26, 47], false, fun | 9 => [(1, 12), (4, 12), (7, 12), (1, 14), (4, 14), (7, 14), (9, 14), (12, 14)] | _ => []⟩
  | 58 => ⟨true, [0, 1, 4, 5, 26], false, fun _ => []⟩
  | 59 => ⟨true, [0, 1, 2, 3, 4, 15], false, fun _ => []⟩
  | 60 => ⟨true, [0, 1, 2, 3, 4, 5, 6, 7, 8, 36], false, fun _ => []⟩
  | 61 => ⟨true, [0, 2, 3, 4, 5, 6, 10, 15, 16, 17], false, fun _ => []⟩
  | 62 => ⟨true, [0, 1, 2, 4, 5, 6, 7, 12, 25, 30, 31, 38], false, fun _ => []⟩
  | 63 => ⟨true, [0, 1, 2, 3, 5, 6, 7, 8, 9, 10, 15, 34], false, fun | 5 => [(1, 13), (4, 13), (7, 13), (8, 13), (9, 13)] | _ => []⟩
  | 64 => ⟨true, [0, 1, 2, 4, 5, 6, 11, 20], false, fun | 7 => [(0, 9)] | _ => []⟩
  | 65 => ⟨true, [0, 1, 2, 3, 4, 8, 15], false, fun _ => []⟩
  | 66 => ⟨true, [0, 1, 2, 3, 5, 6, 9, 11, 12, 13, 14, 23], false, fun _ => []⟩
  | 67 => ⟨true, [0, 1, 2, 3, 6, 7, 8, 9, 19, 29, 37, 42], false, fun _ => []⟩
  | 68 => ⟨true, [0, 1, 2, 5], false, fun _ => []⟩
  | 69 => ⟨true, [0, 1, 4, 5, 10, 14, 25], false, fun _ => []⟩
  | 70 => ⟨true, [0, 1, 3, 4, 5, 6, 7, 8, 9, 10, 26, 35, 36, 45, 58, 67, 80, 88, 96, 105, 112, 126, 130], false, fun | 13 => [(0, 3)] | 33 => [(0, 6)] | _ => []⟩
  | 71 => ⟨true, [0, 1, 2, 3, 4, 5, 6, 7, 8, 27, 30, 50, 55, 83, 88, 122], false, fun _ => []⟩
  | 72 => ⟨true, [0, 2, 3, 4, 5, 6, 10, 17], false, fun _ => []⟩
  | 73 => ⟨true, [0, 1, 2, 4, 5, 6, 7, 8, 13, 26, 41], false, fun _ => []⟩
  | 74 => ⟨true, [0, 1, 3, 4, 5, 6, 7, 8, 9, 10, 26, 35, 38, 39, 47, 60, 69, 82, 90, 98, 106, 118, 124, 137], false, fun | 14 => [(0, 3)] | 32 => [(0, 5)] | 36 => [(0, 6)] | _ => []⟩
  | 75 => ⟨true, [0, 1, 2, 6], false, fun _ => []⟩
  | 76 => ⟨true, [0, 1, 2], false, fun | 1 => [(2, 4), (2, 7), (5, 7)] | _ => []⟩
  | 77 => ⟨true, [0, 1, 3, 4, 5, 7, 9, 10, 11, 12, 15, 22], false, fun | 9 => [(1, 3)] | _ => []⟩
  | 78 => ⟨true, [0, 1, 2, 3, 5, 6, 8], false, fun _ => []⟩
  | 79 => ⟨true, [0, 1, 2, 4, 9], false, fun _ => []⟩
  | 80 => ⟨true, [0, 1, 2], false, fun | 1 => [(2, 4), (2, 7), (5, 7)] | _ => []⟩
  | 81 => ⟨true, [0, 1, 2, 6], false, fun _ => []⟩
  | 82 => ⟨true, [0, 1, 2, 3, 5, 7, 8, 9, 10, 19], false, fun _ => []⟩
  | 83 => ⟨true, [0, 1, 3, 4], false, fun _ => []⟩
  | 84 => ⟨true, [0, 1, 3, 4], false, fun _ => []⟩
  | 85 => ⟨true, [0, 1, 4, 5, 6, 10, 28], false, fun _ => []⟩
  | 86 => ⟨true, [0, 1, 3, 4], false, fun | 1 => [(1, 3)] | _ => []⟩
  | 87 => ⟨true, [0, 1, 4, 5, 10, 14, 25], false, fun _ => []⟩
  | 88 => ⟨true, [0, 1, 2, 3, 5, 6, 8], false, fun _ => []⟩
  | 89 => ⟨true, [0, 1, 2, 4, 8], false, fun _ => []⟩
  | 90 => ⟨true, [0, 2, 3], false, fun _ => []⟩
  | 91 => ⟨true, [0, 2, 4], false, fun _ => []⟩
  | 92 => ⟨true, [0, 1, 2, 3, 4], false, fun _ => []⟩
  | 93 => ⟨true, [0, 1, 2, 3, 4, 5, 6, 7, 8, 9, 11, 44, 51, 68, 69, 70, 71, 84], false, fun | 7 => [(4, 6)] | _ => []⟩
  | 94 => ⟨true, [0, 1, 2, 6, 7, 8, 9, 13, 35], false, fun _ => []⟩
  | 95 => ⟨true, [0, 1, 4], false, fun _ => []⟩
  | 96 => ⟨true, [0, 1, 2, 3], true, fun _ => []⟩
  | 97 => ⟨true, [0, 1, 2, 4, 5, 6, 14], false, fun _ => []⟩
  | 98 => ⟨true, [0, 1, 2, 3, 4, 5, 6, 7, 10, 12, 13, 14, 15, 44], false, fun _ => []⟩
  | 99 => ⟨true, [0, 1, 2, 6], false, fun _ => []⟩
  | 100 => ⟨true, [0, 1, 2, 4, 5, 13, 19], false, fun _ => []⟩
  | 101 => ⟨true, [0, 1, 2, 3, 4, 23, 24, 25, 40, 41, 42], false, fun | 1 => [(2, 4), (2, 7), (5, 7), (2, 10), (5, 10), (8, 10)] | 5 => [(1, 8)] | 10 => [(1, 9)] | _ => []⟩
  | 102 => ⟨true, [0, 1, 2, 4, 5, 6, 7, 8, 9, 14, 33], false, fun | 5 => [(1, 13), (4, 13), (7, 13), (8, 13)] | _ => []⟩
  | 103 => ⟨true, [0, 1, 2, 6], true, fun _ => []⟩
  | 104 => ⟨true, [0, 1, 2, 4, 5, 12], true, fun _ => []⟩
  | 105 => ⟨true, [0, 1, 2, 4, 5, 6, 7, 8, 9, 10, 11, 12, 20, 43, 55, 56, 66, 72, 82, 94], false, fun | 7 => [(1, 9), (4, 9), (6, 9), (8, 9)] | _ => []⟩
  | 106 => ⟨true, [0, 1, 2, 3, 4, 5, 7, 8, 9, 28, 30, 31, 32, 33, 46, 49, 50, 51, 52, 75, 78, 79, 80, 81, 109], false, fun _ => []⟩
  | 107 => ⟨true, [0, 1, 2, 3, 6, 9, 14], false, fun _ => []⟩
  | 108 => ⟨true, [0, 1, 3, 4], false, fun _ => []⟩
  | 109 => ⟨true, [0, 1, 2, 4, 5, 6, 14], false, fun _ => []⟩
  | 110 => ⟨true, [0, 1, 2, 4, 5, 6, 7, 15], false, fun _ => []⟩
  | 111 => ⟨true, [0, 1, 2, 4, 5, 6, 14, 21], false, fun _ => []⟩
  | 112 => ⟨true, [0, 1, 2, 4, 5, 6, 14, 22], false, fun | 8 => [(1, 11)] | _ => []⟩
  | 113 => ⟨true, [0, 1, 2, 6, 7, 11, 25], false, fun _ => []⟩
  | 114 => ⟨true, [0, 1, 2, 4, 5, 9], false, fun _ => []⟩
  | 115 => ⟨true, [0, 1, 2, 3, 4, 5, 6, 11, 29], false, fun | 5 => [(1, 7), (1, 8)] | 12 => [(2, 4)] | _ => []⟩
  | 116 => ⟨true, [0, 1, 2, 4, 5, 6, 7, 8, 9, 10, 15, 22, 40, 49], false, fun | 7 => [(1, 13), (4, 13), (7, 13), (8, 13)] | 12 => [(1, 7), (3, 7)] | _ => []⟩
  | 117 => ⟨true, [0, 1, 2, 4, 5, 6, 7, 8, 13, 20, 28, 47], false, fun _ => []⟩
  | 118 => ⟨true, [0, 1, 2, 3, 5, 6, 7, 8, 9, 10, 11, 16, 23, 41], false, fun | 7 => [(1, 13), (4, 13), (7, 13), (8, 13), (9, 13)] | _ => []⟩
  | 119 => ⟨true, [0, 1, 2, 4, 5, 6, 7, 12], false, fun | 5 => [(4, 6)] | _ => []⟩
  | 120 => ⟨true, [0, 1, 2, 4, 5, 6, 7, 12, 18], false, fun | 7 => [(1, 3), (1, 8)] | _ => []⟩
  | 121 => ⟨true, [0, 1, 2, 4, 5, 6, 7, 12, 19], false, fun _ => []⟩
  | 122 => ⟨true, [0, 1, 2, 4, 5, 6, 7, 12, 20], false, fun | 8 => [(1, 11)] | _ => []⟩
  | 123 => ⟨true, [0, 1, 2, 3, 6], false, fun _ => []⟩
  | 124 => ⟨true, [0, 1, 2, 3, 6, 7, 8, 9, 14, 17, 26, 31], false, fun _ => []⟩
  | 125 => ⟨true, [0, 2, 4], false, fun _ => []⟩
  | 126 => ⟨true, [0, 2, 4], false, fun _ => []⟩
  | 127 => ⟨true, [0, 1, 4], false, fun _ => []⟩
  | 128 => ⟨true, [0, 1, 3], true, fun _ => []⟩
  | 129 => ⟨true, [0, 1, 4, 5, 7, 8, 9, 16], false, fun _ => []⟩
  | 130 => ⟨true, [0, 1, 2, 4, 5, 6, 7, 8, 9, 10, 55, 79], true, fun | 3 => [(0, 2)] | 6 => [(2, 16), (5, 16), (7, 16), (9, 16), (10, 16), (11, 16), (2, 17), (5, 17), (7, 17), (9, 17), (10, 17), (11, 17), (16, 17)] | _ => []⟩
  | 131 => ⟨true, [0, 2, 4], false, fun _ => []⟩
  | 132 => ⟨true, [0, 2, 4], false, fun _ => []⟩
  | 133 => ⟨true, [0, 2, 4], false, fun _ => []⟩
  | 134 => ⟨true, [0, 1, 3, 4, 5, 7, 8, 9, 16], false, fun _ => []⟩
  | 135 => ⟨true, [0, 1, 2, 6, 7, 16], true, fun _ => []⟩
  | 136 => ⟨true, [0, 1, 2, 4, 5, 9], false, fun _ => []⟩
  | 137 => ⟨true, [0, 1, 4, 5, 7, 8, 9, 16], false, fun _ => []⟩
  | 138 => ⟨true, [0, 1], false, fun _ => []⟩
  | 139 => ⟨true, [0, 1, 2], true, fun _ => []⟩
  | 140 => ⟨true, [0, 1, 2, 3, 5, 6, 7, 8, 9], true, fun _ => []⟩
  | _ => ⟨false, [], false, fun _ => []⟩

theorem good : Abs.Good Try.prog note := Abs.good_of (by kernel_rfl)

theorem foll : (Try.prog).follows .mixedOrders = true := by kernel_rfl

def mvtab (f : FuncId) : Bool := [103].contains f

def ctab : FuncId → Option Abs.SCall := Abs.ctabOf [(135, Abs.delS Z4), (138, Abs.fmS [(1, 24, []), (2, 140, [36]), (3, 47, []), (4, 140, [44])])]

theorem ctab_ok : ∀ f q, ctab f = some q → Abs.CallOK Try.prog f q := Abs.ctabOf_ok _ (by
  intro p hp
  simp only [List.mem_cons, List.not_mem_nil, or_false] at hp
  rcases hp with rfl | rfl
  · exact hand135 Z4 rfl
  · exact hand138
)

/- pagewatch/pagewatchmade.Light -/
def i16 : Abs.Sg := ⟨[0], (.dat (.row (.int .i64)) .nil), .nil⟩

def o16 : Abs.Sg := ⟨[2], (.dat .bool .nil), .nil⟩

def m16 (v : (((List Int) × Unit) × (Unit))) : Option Y16 :=
some (((decide (((v.1.1.length : Int) : Int) ≤ 500)), ()), ())

def sp16 : Abs.Spec := ⟨0, i16, o16, m16⟩

def an16 : Nat → Abs.FAn
  | _ => {}

theorem ok16 : Abs.SpecOK Try.prog 16 sp16 :=
  Abs.specOC_of (C := ctab) (mv := mvtab) ctab_ok (n := 12) (an := an16) (T := Abs.tabOf []) good foll (Abs.tabOf_ok _ (fun _ h => by cases h)) rfl (by intro v; kernel_rfl)

/- pagewatch/vote.in -/
def i81 : Abs.Sg := ⟨[0, 1, 2], (.dat (.int .i64) (.dat (.int .i64) (.dat (.int .i64) .nil))), .nil⟩

def o81 : Abs.Sg := ⟨[6], (.dat .bool .nil), .nil⟩

def m81 (v : (Y21 × (Unit))) : Option Y16 :=
((bif (decide ((v.1.1 : Int) ≥ v.1.2.1)) then (some (((decide ((v.1.1 : Int) ≤ v.1.2.2.1)), ()), ()))
else (some ((false, ()), ()))) : Option Y16).bind fun v1 =>
some ((v1.1.1, ()), ())

def sp81 : Abs.Spec := ⟨0, i81, o81, m81⟩

def an81 : Nat → Abs.FAn
  | 0 => Abs.FAn.mk (fun
    | 1 => some ⟨[6], (.dat .bool .nil), .nil⟩
    | _ => none) (fun _ => none) (fun _ => none) (fun _ _ => 0)
  | _ => {}

theorem ok81 : Abs.SpecOK Try.prog 81 sp81 :=
  Abs.specOC_of (C := ctab) (mv := mvtab) ctab_ok (n := 12) (an := an81) (T := Abs.tabOf []) good foll (Abs.tabOf_ok _ (fun _ h => by cases h)) rfl (by intro v; kernel_rfl)

/- pagewatch/vote.New -/
def i39 : Abs.Sg := ⟨[0, 1], (.dat (.int .i64) (.dat (.int .i64) .nil)), .nil⟩

def o39 : Abs.Sg := ⟨[4, 5], (.st (.ptr (0, 0) 8 0 0) (.dat (.int .i64) .nil)), (.box 8 (.agg (.dat (.int .i64) (.dat (.int .i64) (.dat (.int .i64) (.dat (.int .i64) (.st .nil (.dat (.int .i64) (.st .nil (.st .nil .nil)))))))) .nil) .nil)⟩

def m39 (v : ((Int × Int × Unit) × (Unit))) : Option ((Int × Unit) × (Y11 × Unit)) :=
(((m81 ((v.1.2.1, (1, (5, ()))), ())).bind fun u11 =>
bif (!u11.1.1) then (some ((true, (v.1.1, ())), (((0, (0, (0, (0, (0, ()))))), ()), ())))
else ((m81 ((v.1.1, (0, ((w64 (v.1.2.1 - 1)), ()))), ())).bind fun u12 =>
some (((!u12.1.1), (v.1.1, ())), (((0, (0, (0, (0, (0, ()))))), ()), ())))) : Option ((Bool × Int × Unit) × (Y11 × Unit))).bind fun v13 =>
bif v13.1.1 then (some ((1, ()), (((0, (0, (0, (0, (0, ()))))), ()), ())))
else (some ((0, ()), (((v13.1.2.1, (0, ((-1), (0, (0, ()))))), ()), ())))

def sp39 : Abs.Spec := ⟨0, i39, o39, m39⟩

def an39 : Nat → Abs.FAn
  | 0 => Abs.FAn.mk (fun
    | 1 => some ⟨[15, 4, 0], (.dat .bool (.st (.ptr (0, 0) 8 0 0) (.dat (.int .i64) .nil))), (.box 8 (.agg (.dat (.int .i64) (.dat (.int .i64) (.dat (.int .i64) (.dat (.int .i64) (.st .nil (.dat (.int .i64) (.st .nil (.st .nil .nil)))))))) .nil) .nil)⟩
    | _ => none) (fun _ => none) (fun _ => none) (fun _ _ => 0)
  | _ => {}

theorem ok39 : Abs.SpecOK Try.prog 39 sp39 :=
  Abs.specOC_of (C := ctab) (mv := mvtab) ctab_ok (n := 12) (an := an39) (T := Abs.tabOf [(81, sp81)]) good foll (Abs.tabOf_ok _ (by simp only [List.forall_mem_cons]; exact ⟨ok81, fun _ h => by cases h⟩)) rfl (by intro v; kernel_rfl)

def l82_0_3 (v : ((Int × Int × Y2 × Int × Unit) × ((Y7 × Unit) × Unit))) : Option (((Int × Int × Y2 × Int × Unit) × ((Y7 × Unit) × Unit)) ⊕ (Y16 ⊕ ((Unit) × ((Y7 × Unit) × Unit)))) :=
bif (decide ((v.1.1 : Int) < v.1.2.2.2.1)) then (Abs.rowAt v.1.2.2.1 v.1.1 fun e25 _ =>
(m81 ((e25.1, (v.1.2.1, (v.2.1.1.2.1, ()))), ())).bind fun u26 =>
bif (!u26.1.1) then (some (.inr (.inl ((false, ()), ()))))
else (some (.inl (((w64 (v.1.1 + 1)), (e25.1, (v.1.2.2.1, (v.1.2.2.2.1, ())))), ((v.2.1.1, ()), ())))))
else (some (.inr (.inr ((), ((v.2.1.1, ()), ())))))

/- pagewatch/vote.logged -/
def i82 : Abs.Sg := ⟨[0], (.dat Z3 .nil), .nil⟩

def o82 : Abs.Sg := ⟨[2], (.dat .bool .nil), .nil⟩

def m82 (v : ((Y7 × Unit) × (Unit))) : Option Y16 :=
(loopT l82_0_3 ((0, (1, (v.1.1.2.2.2.2.1, ((v.1.1.2.2.2.2.1.length : Int), ())))), ((v.1.1, ()), ()))).bind fun d27 =>
sumE d27 (fun d28 => (some ((d28.1.1, ()), ()))) (fun d29 => (((let x30 := (decide (((d29.2.1.1.2.2.2.2.1.length : Int) : Int) ≤ 256))
bif x30 then ((m81 ((d29.2.1.1.2.2.2.2.2.1, (0, ((d29.2.1.1.2.2.2.2.1.length : Int), ()))), ())).bind fun u31 =>
some ((u31.1.1, ()), ()))
else (some ((false, ()), ()))) : Option Y16).bind fun v32 =>
some ((v32.1.1, ()), ())))

def sp82 : Abs.Spec := ⟨0, i82, o82, m82⟩

def an82 : Nat → Abs.FAn
  | 0 => Abs.FAn.mk (fun
    | 9 => some ⟨[2], (.dat .bool .nil), .nil⟩
    | _ => none) (fun _ => none) (fun
    | 3 => some ⟨⟨[9, 1, 3, 7, 8], (.dat (.int .i64) (.st (.ptr (0, 0) 8 0 0) (.dat (.int .i64) (.dat (.row Z1) (.dat (.int .i64) .nil))))), (.box 8 (.dat Z3 .nil) .nil)⟩, (.more .ret ⟨[2], (.dat .bool .nil), .nil⟩ (.one (.exit 0) ⟨[1], (.st (.ptr (0, 0) 8 0 0) .nil), (.box 8 (.dat Z3 .nil) .nil)⟩))⟩
    | _ => none) (fun _ _ => 0)
  | _ => {}

theorem ok82 : Abs.SpecOK Try.prog 82 sp82 :=
  Abs.specOC_of (C := ctab) (mv := mvtab) ctab_ok (n := 12) (an := an82) (T := Abs.tabOf [(81, sp81)]) good foll (Abs.tabOf_ok _ (by simp only [List.forall_mem_cons]; exact ⟨ok81, fun _ h => by cases h⟩)) rfl (by intro v; kernel_rfl)

/- pagewatch/vote.votes -/
def i83 : Abs.Sg := ⟨[0, 1], (.dat (.int .i64) (.dat Z3 .nil)), .nil⟩

def o83 : Abs.Sg := ⟨[4], (.dat .bool .nil), .nil⟩

def m83 (v : ((Int × Y7 × Unit) × (Unit))) : Option Y16 :=
((let x5 := (((v.1.2.1.2.2.2.2.2.2.1.length : Int) : Int) == v.1.1)
bif x5 then (Abs.rowAt v.1.2.1.2.2.2.2.2.2.1 v.1.2.1.1 fun e6 _ =>
some ((e6, ()), ()))
else (some ((false, ()), ()))) : Option Y16).bind fun v7 =>
some ((v7.1.1, ()), ())

def sp83 : Abs.Spec := ⟨0, i83, o83, m83⟩

def an83 : Nat → Abs.FAn
  | 0 => Abs.FAn.mk (fun
    | 1 => some ⟨[4], (.dat .bool .nil), .nil⟩
    | _ => none) (fun _ => none) (fun _ => none) (fun _ _ => 0)
  | _ => {}

theorem ok83 : Abs.SpecOK Try.prog 83 sp83 :=
  Abs.specOC_of (C := ctab) (mv := mvtab) ctab_ok (n := 12) (an := an83) (T := Abs.tabOf []) good foll (Abs.tabOf_ok _ (fun _ h => by cases h)) rfl (by intro v; kernel_rfl)

/- 128 pagewatch/vote.matches$1: not told by a law: a closure -/

/- 137 slices.IndexFunc[[]int,int]: not told by a law: a parameter -/

/- 127 slices.ContainsFunc[[]int,int]: not told by a law: a parameter -/

def l84_2_2 (v : ((Int × (List Int) × Int × Unit) × ((Y7 × Unit) × Unit))) : Option (((Int × (List Int) × Int × Unit) × ((Y7 × Unit) × Unit)) ⊕ (((Int × Unit) × ((Y7 × Unit) × Unit)) ⊕ ((Unit) × ((Y7 × Unit) × Unit)))) :=
bif (decide ((v.1.1 : Int) < v.1.2.2.1)) then (Abs.rowAt v.1.2.1 v.1.1 fun e41 _ =>
(m81 ((e41, (0, ((v.2.1.1.2.2.2.2.1.length : Int), ()))), ())).bind fun u42 =>
bif (!u42.1.1) then (some (.inr (.inl ((v.1.1, ()), ((v.2.1.1, ()), ())))))
else (some (.inl (((w64 (v.1.1 + 1)), (v.1.2.1, (v.1.2.2.1, ()))), ((v.2.1.1, ()), ())))))
else (some (.inr (.inr ((), ((v.2.1.1, ()), ())))))

/- pagewatch/vote.matches -/
def i84 : Abs.Sg := ⟨[0, 1], (.dat (.int .i64) (.dat Z3 .nil)), .nil⟩

def o84 : Abs.Sg := ⟨[4], (.dat .bool .nil), .nil⟩

def m84 (v : ((Int × Y7 × Unit) × (Unit))) : Option Y16 :=
((let x38 := (((v.1.2.1.2.2.2.2.2.2.2.1.length : Int) : Int) == v.1.1)
bif x38 then (Abs.rowAt v.1.2.1.2.2.2.2.2.2.2.1 v.1.2.1.1 fun e39 _ =>
let x40 := ((e39 : Int) == (v.1.2.1.2.2.2.2.1.length : Int))
bif x40 then ((((loopT l84_2_2 ((0, (v.1.2.1.2.2.2.2.2.2.2.1, ((v.1.2.1.2.2.2.2.2.2.2.1.length : Int), ()))), ((v.1.2.1, ()), ()))).bind fun d43 =>
sumE d43 (fun d44 => (some (((decide ((d44.1.1 : Int) ≥ 0)), ()), ((d44.2.1.1, ()), ())))) (fun d45 => (some ((false, ()), ((d45.2.1.1, ()), ()))))) : Option ((Bool × Unit) × ((Y7 × Unit) × Unit))).bind fun v46 =>
some (((!v46.1.1), ()), ()))
else (some ((false, ()), ())))
else (some ((false, ()), ()))) : Option Y16).bind fun v47 =>
some ((v47.1.1, ()), ())

def sp84 : Abs.Spec := ⟨0, i84, o84, m84⟩

def an84 : Nat → Abs.FAn
  | 0 => Abs.FAn.mk (fun
    | 1 => some ⟨[4], (.dat .bool .nil), .nil⟩
    | _ => none) (fun _ => none) (fun _ => none) (fun
    | 1, 21 => 1
    | _, _ => 0)
  | 1 => Abs.FAn.mk (fun
    | 1 => some ⟨[4], (.dat .bool .nil), (.box 8 (.dat Z3 .nil) .nil)⟩
    | _ => none) (fun _ => none) (fun _ => none) (fun
    | 1, 2 => 2
    | _, _ => 0)
  | 2 => Abs.FAn.mk (fun _ => none) (fun _ => none) (fun
    | 2 => some ⟨⟨[8, 0, 1, 7], (.dat (.int .i64) (.dat (.row (.int .i64)) (.st (.clo 128 [((0, 0), 8, 0, 0)]) (.dat (.int .i64) .nil)))), (.box 8 (.dat Z3 .nil) .nil)⟩, (.more .ret ⟨[4], (.dat (.int .i64) .nil), (.box 8 (.dat Z3 .nil) .nil)⟩ (.one (.exit 0) ⟨[], .nil, (.box 8 (.dat Z3 .nil) .nil)⟩))⟩
    | _ => none) (fun
    | 4, 5 => 3
    | _, _ => 0)
  | _ => {}

theorem ok84 : Abs.SpecOK Try.prog 84 sp84 :=
  Abs.specOC_of (C := ctab) (mv := mvtab) ctab_ok (n := 12) (an := an84) (T := Abs.tabOf [(81, sp81)]) good foll (Abs.tabOf_ok _ (by simp only [List.forall_mem_cons]; exact ⟨ok81, fun _ h => by cases h⟩)) rfl (by intro v; kernel_rfl)

/- pagewatch/vote.Check -/
def i26 : Abs.Sg := ⟨[0, 1], (.dat (.int .i64) (.dat Z3 .nil)), .nil⟩

def o26 : Abs.Sg := ⟨[4], (.dat .bool .nil), .nil⟩

def m26 (v : ((Int × Y7 × Unit) × (Unit))) : Option Y16 :=
(((m81 ((v.1.1, (1, (5, ()))), ())).bind fun u47 =>
bif (!u47.1.1) then (some ((true, (v.1.1, ())), ((v.1.2.1, ()), ())))
else ((m81 ((v.1.2.1.1, (0, ((w64 (v.1.1 - 1)), ()))), ())).bind fun u48 =>
bif (!u48.1.1) then (some ((true, (v.1.1, ())), ((v.1.2.1, ()), ())))
else ((m81 ((v.1.2.1.2.1, (0, (1048576, ()))), ())).bind fun u49 =>
bif (!u49.1.1) then (some ((true, (v.1.1, ())), ((v.1.2.1, ()), ())))
else ((m81 ((v.1.2.1.2.2.1, ((-1), ((w64 (v.1.1 - 1)), ()))), ())).bind fun u50 =>
bif (!u50.1.1) then (some ((true, (v.1.1, ())), ((v.1.2.1, ()), ())))
else ((m82 ((v.1.2.1, ()), ())).bind fun u51 =>
some (((!u51.1.1), (v.1.1, ())), ((v.1.2.1, ()), ()))))))) : Option ((Bool × Int × Unit) × ((Y7 × Unit) × Unit))).bind fun v52 =>
bif v52.1.1 then (some ((false, ()), ()))
else (bif ((v52.2.1.1.2.2.2.1 : Int) == 0) then (((let x53 := (((v52.2.1.1.2.2.2.2.2.2.1.length : Int) : Int) == 0)
bif x53 then (let x54 := (((v52.2.1.1.2.2.2.2.2.2.2.1.length : Int) : Int) == 0)
some ((x54, ()), ()))
else (some ((false, ()), ()))) : Option Y16).bind fun v55 =>
some ((v55.1.1, ()), ()))
else (bif ((v52.2.1.1.2.2.2.1 : Int) == 1) then ((((m83 ((v52.1.2.1, (v52.2.1.1, ())), ())).bind fun u56 =>
bif u56.1.1 then (let x57 := (((v52.2.1.1.2.2.2.2.2.2.2.1.length : Int) : Int) == 0)
some ((x57, ()), ()))
else (some ((false, ()), ()))) : Option Y16).bind fun v58 =>
some ((v58.1.1, ()), ()))
else (bif ((v52.2.1.1.2.2.2.1 : Int) == 2) then ((((m83 ((v52.1.2.1, (v52.2.1.1, ())), ())).bind fun u59 =>
bif u59.1.1 then ((m84 ((v52.1.2.1, (v52.2.1.1, ())), ())).bind fun u60 =>
some ((u60.1.1, ()), ()))
else (some ((false, ()), ()))) : Option Y16).bind fun v61 =>
some ((v61.1.1, ()), ()))
else (some ((false, ()), ())))))

def sp26 : Abs.Spec := ⟨0, i26, o26, m26⟩

def an26 : Nat → Abs.FAn
  | 0 => Abs.FAn.mk (fun
    | 9 => some ⟨[4], (.dat .bool .nil), .nil⟩
    | 7 => some ⟨[4], (.dat .bool .nil), .nil⟩
    | 5 => some ⟨[4], (.dat .bool .nil), .nil⟩
    | 1 => some ⟨[34, 3, 0], (.dat .bool (.st (.ptr (0, 0) 8 0 0) (.dat (.int .i64) .nil))), (.box 8 (.dat Z3 .nil) .nil)⟩
    | _ => none) (fun _ => none) (fun _ => none) (fun _ _ => 0)
  | _ => {}

theorem ok26 : Abs.SpecOK Try.prog 26 sp26 :=
  Abs.specOC_of (C := ctab) (mv := mvtab) ctab_ok (n := 12) (an := an26) (T := Abs.tabOf [(81, sp81), (82, sp82), (83, sp83), (84, sp84)]) good foll (Abs.tabOf_ok _ (by simp only [List.forall_mem_cons]; exact ⟨ok81, ok82, ok83, ok84, fun _ h => by cases h⟩)) rfl (by intro v; kernel_rfl)

/- slices.Clone[[]pagewatch/api.Entry,pagewatch/api.Entry]: the copy of a row -/
def i91 : Abs.Sg := ⟨[0], (.dat (.row Z1) .nil), .nil⟩

def o91 : Abs.Sg := ⟨[2], (.st (.own Z1 (0, 0)) .nil), (.arr Z1 false .nil)⟩

def m91 (v : ((Y2 × Unit) × (Unit))) : Option ((Unit) × (Y2 × Unit)) :=
bif (decide (v.1.1.length ≤ 4294967296)) then some ((), (v.1.1, ())) else none

def sp91 : Abs.Spec := ⟨0, i91, o91, m91⟩

theorem ok91 : Abs.SpecOK Try.prog 91 sp91 :=
  Abs.clone_ok (N := note) (t := Z1) foll (Abs.specOK_of (n := 12) (an := fun _ => {}) (T := Abs.tabOf []) good foll (Abs.tabOf_ok _ (fun _ h => by cases h)) rfl (by intro v; kernel_rfl)) (by kernel_rfl) (by kernel_rfl)

/- slices.Clone[[]bool,bool]: the copy of a row -/
def i125 : Abs.Sg := ⟨[0], (.dat (.row .bool) .nil), .nil⟩

def o125 : Abs.Sg := ⟨[2], (.st (.own .bool (0, 0)) .nil), (.arr .bool false .nil)⟩

def m125 (v : (((List Bool) × Unit) × (Unit))) : Option ((Unit) × ((List Bool) × Unit)) :=
bif (decide (v.1.1.length ≤ 4294967296)) then some ((), (v.1.1, ())) else none

def sp125 : Abs.Spec := ⟨0, i125, o125, m125⟩

theorem ok125 : Abs.SpecOK Try.prog 125 sp125 :=
  Abs.clone_ok (N := note) (t := .bool) foll (Abs.specOK_of (n := 12) (an := fun _ => {}) (T := Abs.tabOf []) good foll (Abs.tabOf_ok _ (fun _ h => by cases h)) rfl (by intro v; kernel_rfl)) (by kernel_rfl) (by kernel_rfl)

/- slices.Clone[[]int,int]: the copy of a row -/
def i126 : Abs.Sg := ⟨[0], (.dat (.row (.int .i64)) .nil), .nil⟩

def o126 : Abs.Sg := ⟨[2], (.st (.own (.int .i64) (0, 0)) .nil), (.arr (.int .i64) false .nil)⟩

def m126 (v : (((List Int) × Unit) × (Unit))) : Option ((Unit) × ((List Int) × Unit)) :=
bif (decide (v.1.1.length ≤ 4294967296)) then some ((), (v.1.1, ())) else none

def sp126 : Abs.Spec := ⟨0, i126, o126, m126⟩

theorem ok126 : Abs.SpecOK Try.prog 126 sp126 :=
  Abs.clone_ok (N := note) (t := (.int .i64)) foll (Abs.specOK_of (n := 12) (an := fun _ => {}) (T := Abs.tabOf []) good foll (Abs.tabOf_ok _ (fun _ h => by cases h)) rfl (by intro v; kernel_rfl)) (by kernel_rfl) (by kernel_rfl)

/- pagewatch/vote.Copied -/
def i76 : Abs.Sg := ⟨[0], (.dat Z3 .nil), .nil⟩

def o76 : Abs.Sg := ⟨[2], (.st (.ptr (0, 0) 8 0 0) .nil), (.box 8 (.agg (.dat (.int .i64) (.dat (.int .i64) (.dat (.int .i64) (.dat (.int .i64) (.st (.own Z1 (1, 0)) (.dat (.int .i64) (.st (.own .bool (2, 0)) (.st (.own (.int .i64) (3, 0)) .nil)))))))) .nil) (.arr Z1 false (.arr .bool false (.arr (.int .i64) false .nil))))⟩

def m76 (v : ((Y7 × Unit) × (Unit))) : Option ((Unit) × (Y11 × Y2 × (List Bool) × (List Int) × Unit)) :=
(m91 ((v.1.1.2.2.2.2.1, ()), ())).bind fun u9 =>
(m125 ((v.1.1.2.2.2.2.2.2.1, ()), ())).bind fun u10 =>
(m126 ((v.1.1.2.2.2.2.2.2.2.1, ()), ())).bind fun u11 =>
some ((), (((v.1.1.1, (v.1.1.2.1, (v.1.1.2.2.1, (v.1.1.2.2.2.1, (v.1.1.2.2.2.2.2.1, ()))))), ()), (u9.2.1, (u10.2.1, (u11.2.1, ())))))

def sp76 : Abs.Spec := ⟨0, i76, o76, m76⟩

def an76 : Nat → Abs.FAn
  | _ => {}

theorem ok76 : Abs.SpecOK Try.prog 76 sp76 :=
  Abs.specOC_of (C := ctab) (mv := mvtab) ctab_ok (n := 12) (an := an76) (T := Abs.tabOf [(91, sp91), (125, sp125), (126, sp126)]) good foll (Abs.tabOf_ok _ (by simp only [List.forall_mem_cons]; exact ⟨ok91, ok125, ok126, fun _ h => by cases h⟩)) rfl (by intro v; kernel_rfl)

/- pagewatch/vote.last -/
def i75 : Abs.Sg := ⟨[0], (.dat Z3 .nil), .nil⟩

def o75 : Abs.Sg := ⟨[2], (.dat (.int .i64) .nil), .nil⟩

def m75 (v : ((Y7 × Unit) × (Unit))) : Option ((Int × Unit) × (Unit)) :=
bif (((v.1.1.2.2.2.2.1.length : Int) : Int) == 0) then (some ((0, ()), ()))
else (Abs.rowAt v.1.1.2.2.2.2.1 (w64 ((v.1.1.2.2.2.2.1.length : Int) - 1)) fun e2 _ =>
some ((e2.1, ()), ()))

def sp75 : Abs.Spec := ⟨0, i75, o75, m75⟩

def an75 : Nat → Abs.FAn
  | _ => {}

theorem ok75 : Abs.SpecOK Try.prog 75 sp75 :=
  Abs.specOC_of (C := ctab) (mv := mvtab) ctab_ok (n := 12) (an := an75) (T := Abs.tabOf []) good foll (Abs.tabOf_ok _ (fun _ h => by cases h)) rfl (by intro v; kernel_rfl)

/- pagewatch/vote.Quorum -/
def i28 : Abs.Sg := ⟨[0], (.dat (.int .i64) .nil), .nil⟩

def o28 : Abs.Sg := ⟨[2], (.dat (.int .i64) .nil), .nil⟩

def m28 (v : ((Int × Unit) × (Unit))) : Option ((Int × Unit) × (Unit)) :=
(m81 ((v.1.1, (1, (5, ()))), ())).bind fun u4 =>
bif (!u4.1.1) then (some ((0, ()), ()))
else (some (((w64 ((w64 ((v.1.1 : Int).tdiv 2)) + 1)), ()), ()))

def sp28 : Abs.Spec := ⟨0, i28, o28, m28⟩

def an28 : Nat → Abs.FAn
  | _ => {}

theorem ok28 : Abs.SpecOK Try.prog 28 sp28 :=
  Abs.specOC_of (C := ctab) (mv := mvtab) ctab_ok (n := 12) (an := an28) (T := Abs.tabOf [(81, sp81)]) good foll (Abs.tabOf_ok _ (by simp only [List.forall_mem_cons]; exact ⟨ok81, fun _ h => by cases h⟩)) rfl (by intro v; kernel_rfl)

def l77_0_3 (v : ((Int × Int × (List Bool) × Int × Int × Unit) × (Y11 × (Y7 × Unit) × Unit))) : Option (((Int × Int × (List Bool) × Int × Int × Unit) × (Y11 × (Y7 × Unit) × Unit)) ⊕ ((Int × Int × Unit) × (Y11 × (Y7 × Unit) × Unit))) :=
bif (decide ((v.1.1 : Int) < v.1.2.2.2.2.1)) then (((Abs.rowAt v.1.2.2.1 v.1.1 fun e17 _ =>
bif e17 then (some (((w64 (v.1.2.1 + 1)), (v.1.2.2.1, (v.1.2.2.2.1, (v.1.2.2.2.2.1, (v.1.1, ()))))), (((v.2.1.1.1, (v.2.1.1.2.1, (v.2.1.1.2.2.1, (v.2.1.1.2.2.2.1, (v.2.1.1.2.2.2.2.1, ()))))), ()), ((v.2.2.1.1, ()), ()))))
else (some ((v.1.2.1, (v.1.2.2.1, (v.1.2.2.2.1, (v.1.2.2.2.2.1, (v.1.1, ()))))), (((v.2.1.1.1, (v.2.1.1.2.1, (v.2.1.1.2.2.1, (v.2.1.1.2.2.2.1, (v.2.1.1.2.2.2.2.1, ()))))), ()), ((v.2.2.1.1, ()), ()))))) : Option ((Int × (List Bool) × Int × Int × Int × Unit) × (Y11 × (Y7 × Unit) × Unit))).bind fun v18 =>
some (.inl (((w64 (v18.1.2.2.2.2.1 + 1)), (v18.1.1, (v18.1.2.1, (v18.1.2.2.1, (v18.1.2.2.2.1, ()))))), (((v18.2.1.1.1, (v18.2.1.1.2.1, (v18.2.1.1.2.2.1, (v18.2.1.1.2.2.2.1, (v18.2.1.1.2.2.2.2.1, ()))))), ()), ((v18.2.2.1.1, ()), ())))))
else (some (.inr ((v.1.2.2.2.1, (v.1.2.1, ())), (((v.2.1.1.1, (v.2.1.1.2.1, (v.2.1.1.2.2.1, (v.2.1.1.2.2.2.1, (v.2.1.1.2.2.2.2.1, ()))))), ()), ((v.2.2.1.1, ()), ())))))

/- pagewatch/vote.lead -/
def i77 : Abs.Sg := ⟨[0, 1], (.dat (.int .i64) (.dat Z3 .nil)), .nil⟩

def o77 : Abs.Sg := ⟨[4], (.st (.ptr (0, 0) 8 0 0) .nil), (.box 8 (.dat Z3 .nil) .nil)⟩

def m77 (v : ((Int × Y7 × Unit) × (Unit))) : Option ((Unit) × ((Y7 × Unit) × Unit)) :=
(loopT l77_0_3 ((0, (0, (v.1.2.1.2.2.2.2.2.2.1, (v.1.1, ((v.1.2.1.2.2.2.2.2.2.1.length : Int), ()))))), (((0, (0, (0, (0, (0, ()))))), ()), ((v.1.2.1, ()), ())))).bind fun d19 =>
(((m28 ((d19.1.1, ()), ())).bind fun u20 =>
bif (decide ((d19.1.2.1 : Int) ≥ u20.1.1)) then (bif (decide ((0 : Int) ≤ d19.1.1 ∧ (d19.1.1 : Int) ≤ d19.1.1 ∧ (d19.1.1 : Int) ≤ 4294967296)) then
bif (decide ((0 : Int) ≤ d19.2.2.1.1.1 ∧ (d19.2.2.1.1.1 : Int) < (List.replicate d19.1.1.toNat (0 : Int)).length)) then
bif (decide (d19.2.2.1.1.1.toNat < (List.replicate d19.1.1.toNat (0 : Int)).length)) then
some ((), (((d19.2.1.1.1, (d19.2.1.1.2.1, (d19.2.1.1.2.2.1, (d19.2.1.1.2.2.2.1, (d19.2.1.1.2.2.2.2.1, ()))))), ()), (((d19.2.2.1.1.1, (d19.2.2.1.1.2.1, (d19.2.2.1.1.2.2.1, (2, (d19.2.2.1.1.2.2.2.2.1, (d19.2.2.1.1.2.2.2.2.2.1, (d19.2.2.1.1.2.2.2.2.2.2.1, (((List.replicate d19.1.1.toNat (0 : Int)).set d19.2.2.1.1.1.toNat (d19.2.2.1.1.2.2.2.2.1.length : Int)), ())))))))), ()), ())))
else none
else none
else none)
else (some ((), (((d19.2.1.1.1, (d19.2.1.1.2.1, (d19.2.1.1.2.2.1, (d19.2.1.1.2.2.2.1, (d19.2.1.1.2.2.2.2.1, ()))))), ()), ((d19.2.2.1.1, ()), ()))))) : Option ((Unit) × (Y11 × (Y7 × Unit) × Unit))).bind fun v21 =>
some ((), ((v21.2.2.1.1, ()), ()))

def sp77 : Abs.Spec := ⟨0, i77, o77, m77⟩

def an77 : Nat → Abs.FAn
  | 0 => Abs.FAn.mk (fun _ => none) (fun
    | 11 => some (⟨[4, 3], (.st (.ptr (0, 0) 8 0 0) (.st (.ptr (1, 0) 8 0 0) .nil)), (.box 8 (.agg (.dat (.int .i64) (.dat (.int .i64) (.dat (.int .i64) (.dat (.int .i64) (.st .nil (.dat (.int .i64) (.st .nil (.st .nil .nil)))))))) .nil) (.box 8 (.dat Z3 .nil) .nil))⟩, none)
    | 7 => some (⟨[5, 9, 4, 3, 0, 10, 11], (.dat (.int .i64) (.dat (.row .bool) (.st (.ptr (0, 0) 8 0 0) (.st (.ptr (1, 0) 8 0 0) (.dat (.int .i64) (.dat (.int .i64) (.dat (.int .i64) .nil))))))), (.box 8 (.agg (.dat (.int .i64) (.dat (.int .i64) (.dat (.int .i64) (.dat (.int .i64) (.st .nil (.dat (.int .i64) (.st .nil (.st .nil .nil)))))))) .nil) (.box 8 (.dat Z3 .nil) .nil))⟩, none)
    | _ => none) (fun
    | 3 => some ⟨⟨[11, 5, 9, 4, 3, 0, 10], (.dat (.int .i64) (.dat (.int .i64) (.dat (.row .bool) (.st (.ptr (0, 0) 8 0 0) (.st (.ptr (1, 0) 8 0 0) (.dat (.int .i64) (.dat (.int .i64) .nil))))))), (.box 8 (.agg (.dat (.int .i64) (.dat (.int .i64) (.dat (.int .i64) (.dat (.int .i64) (.st .nil (.dat (.int .i64) (.st .nil (.st .nil .nil)))))))) .nil) (.box 8 (.dat Z3 .nil) .nil))⟩, (.one (.exit 0) ⟨[4, 3, 0, 5], (.st (.ptr (0, 0) 8 0 0) (.st (.ptr (1, 0) 8 0 0) (.dat (.int .i64) (.dat (.int .i64) .nil)))), (.box 8 (.agg (.dat (.int .i64) (.dat (.int .i64) (.dat (.int .i64) (.dat (.int .i64) (.st .nil (.dat (.int .i64) (.st .nil (.st .nil .nil)))))))) .nil) (.box 8 (.dat Z3 .nil) .nil))⟩)⟩
    | _ => none) (fun _ _ => 0)
  | _ => {}

theorem ok77 : Abs.SpecOK Try.prog 77 sp77 :=
  Abs.specOC_of (C := ctab) (mv := mvtab) ctab_ok (n := 12) (an := an77) (T := Abs.tabOf [(28, sp28)]) good foll (Abs.tabOf_ok _ (by simp only [List.forall_mem_cons]; exact ⟨ok28, fun _ h => by cases h⟩)) rfl (by intro v; kernel_rfl)

def l23_0_11 (v : (Y21 × (Y11 × (List Y9) × Y11 × Y2 × (List Bool) × Unit))) : Option ((Y21 × (Y11 × (List Y9) × Y11 × Y2 × (List Bool) × Unit)) ⊕ ((Int × Unit) × (Y11 × (List Y9) × Y11 × Y2 × (List Bool) × Unit))) :=
bif (decide ((v.1.1 : Int) < v.1.2.2.1)) then (((bif ((v.1.1 : Int) != v.2.1.1.1) then ((m75 (((v.2.1.1.1, (v.2.1.1.2.1, (v.2.1.1.2.2.1, (v.2.1.1.2.2.2.1, (v.2.2.2.2.1, (v.2.1.1.2.2.2.2.1, (v.2.2.2.2.2.1, ([], ())))))))), ()), ())).bind fun u27 =>
bif (decide (v.2.2.1.length + ([(1, (v.2.1.1.1, (v.1.1, (v.2.1.1.2.1, (((v.2.2.2.2.1.length : Nat) : Int), (u27.1.1, (0, ([], (false, ())))))))))] : List Y9).length ≤ 4294967296)) then
let x28 := (v.2.2.1 ++ ([(1, (v.2.1.1.1, (v.1.1, (v.2.1.1.2.1, (((v.2.2.2.2.1.length : Nat) : Int), (u27.1.1, (0, ([], (false, ())))))))))] : List Y9))
some ((v.1.2.1, (v.1.2.2.1, (v.1.1, ()))), (((v.2.1.1.1, (v.2.1.1.2.1, (v.2.1.1.2.2.1, (v.2.1.1.2.2.2.1, (v.2.1.1.2.2.2.2.1, ()))))), ()), (x28, (((v.2.2.2.1.1.1, (v.2.2.2.1.1.2.1, (v.2.2.2.1.1.2.2.1, (v.2.2.2.1.1.2.2.2.1, (v.2.2.2.1.1.2.2.2.2.1, ()))))), ()), (v.2.2.2.2.1, (v.2.2.2.2.2.1, ()))))))
else none)
else (some ((v.1.2.1, (v.1.2.2.1, (v.1.1, ()))), (((v.2.1.1.1, (v.2.1.1.2.1, (v.2.1.1.2.2.1, (v.2.1.1.2.2.2.1, (v.2.1.1.2.2.2.2.1, ()))))), ()), (v.2.2.1, (((v.2.2.2.1.1.1, (v.2.2.2.1.1.2.1, (v.2.2.2.1.1.2.2.1, (v.2.2.2.1.1.2.2.2.1, (v.2.2.2.1.1.2.2.2.2.1, ()))))), ()), (v.2.2.2.2.1, (v.2.2.2.2.2.1, ())))))))) : Option (Y21 × (Y11 × (List Y9) × Y11 × Y2 × (List Bool) × Unit))).bind fun v29 =>
some (.inl (((w64 (v29.1.2.2.1 + 1)), (v29.1.1, (v29.1.2.1, ()))), (((v29.2.1.1.1, (v29.2.1.1.2.1, (v29.2.1.1.2.2.1, (v29.2.1.1.2.2.2.1, (v29.2.1.1.2.2.2.2.1, ()))))), ()), (v29.2.2.1, (((v29.2.2.2.1.1.1, (v29.2.2.2.1.1.2.1, (v29.2.2.2.1.1.2.2.1, (v29.2.2.2.1.1.2.2.2.1, (v29.2.2.2.1.1.2.2.2.2.1, ()))))), ()), (v29.2.2.2.2.1, (v29.2.2.2.2.2.1, ()))))))))
else (some (.inr ((v.1.2.1, ()), (((v.2.2.2.1.1.1, (v.2.2.2.1.1.2.1, (v.2.2.2.1.1.2.2.1, (v.2.2.2.1.1.2.2.2.1, (v.2.2.2.1.1.2.2.2.2.1, ()))))), ()), (v.2.2.1, (((v.2.1.1.1, (v.2.1.1.2.1, (v.2.1.1.2.2.1, (v.2.1.1.2.2.2.1, (v.2.1.1.2.2.2.2.1, ()))))), ()), (v.2.2.2.2.1, (v.2.2.2.2.2.1, ()))))))))

/- pagewatch/vote.Stand -/
def i23 : Abs.Sg := ⟨[0, 1], (.dat (.int .i64) (.dat Z3 .nil)), .nil⟩

def o23 : Abs.Sg := ⟨[4, 5, 6], (.st (.ptr (0, 0) 8 0 0) (.st (.own Z4 (1, 0)) (.dat (.int .i64) .nil))), (.box 8 (.dat Z3 .nil) (.arr Z4 false .nil))⟩

def m23 (v : ((Int × Y7 × Unit) × (Unit))) : Option ((Int × Unit) × ((Y7 × Unit) × (List Y9) × Unit)) :=
(m26 ((v.1.1, (v.1.2.1, ())), ())).bind fun u25 =>
bif (!u25.1.1) then (some ((8, ()), (((0, (0, (0, (0, ([], (0, ([], ([], ())))))))), ()), ([], ()))))
else (bif ((v.1.2.1.2.1 : Int) == 1048576) then (some ((5, ()), (((0, (0, (0, (0, ([], (0, ([], ([], ())))))))), ()), ([], ()))))
else ((m76 ((v.1.2.1, ()), ())).bind fun u26 =>
bif (decide ((0 : Int) ≤ v.1.1 ∧ (v.1.1 : Int) ≤ v.1.1 ∧ (v.1.1 : Int) ≤ 4294967296)) then
bif (decide ((0 : Int) ≤ u26.2.1.1.1 ∧ (u26.2.1.1.1 : Int) < (List.replicate v.1.1.toNat (false : Bool)).length)) then
bif (decide (u26.2.1.1.1.toNat < (List.replicate v.1.1.toNat (false : Bool)).length)) then
(loopT l23_0_11 ((0, (v.1.1, (v.1.1, ()))), (((u26.2.1.1.1, ((w64 (u26.2.1.1.2.1 + 1)), (u26.2.1.1.1, (1, (u26.2.1.1.2.2.2.2.1, ()))))), ()), ([], (((0, (0, (0, (0, (0, ()))))), ()), (u26.2.2.1, (((List.replicate v.1.1.toNat (false : Bool)).set u26.2.1.1.1.toNat true), ()))))))).bind fun d30 =>
(m77 ((d30.1.1, ((d30.2.2.2.1.1.1, (d30.2.2.2.1.1.2.1, (d30.2.2.2.1.1.2.2.1, (d30.2.2.2.1.1.2.2.2.1, (d30.2.2.2.2.1, (d30.2.2.2.1.1.2.2.2.2.1, (d30.2.2.2.2.2.1, ([], ())))))))), ())), ())).bind fun u31 =>
some ((0, ()), ((u31.2.1.1, ()), (d30.2.2.1, ())))
else none
else none
else none))

def sp23 : Abs.Spec := ⟨0, i23, o23, m23⟩

def an23 : Nat → Abs.FAn
  | 0 => Abs.FAn.mk (fun _ => none) (fun
    | 15 => some (⟨[3, 7, 4, 0, 37, 38], (.st (.ptr (0, 0) 8 0 0) (.st (.own Z4 (1, 0)) (.st (.ptr (2, 0) 8 0 0) (.dat (.int .i64) (.dat (.int .i64) (.dat (.int .i64) .nil)))))), (.box 8 (.agg (.dat (.int .i64) (.dat (.int .i64) (.dat (.int .i64) (.dat (.int .i64) (.st (.own Z1 (3, 0)) (.dat (.int .i64) (.st (.own .bool (4, 0)) (.st .nil .nil)))))))) .nil) (.arr Z4 false (.box 8 (.agg (.dat (.int .i64) (.dat (.int .i64) (.dat (.int .i64) (.dat (.int .i64) (.st .nil (.dat (.int .i64) (.st .nil (.st .nil .nil)))))))) .nil) (.arr Z1 false (.arr .bool false .nil)))))⟩, none)
    | _ => none) (fun
    | 11 => some ⟨⟨[38, 3, 7, 4, 0, 37], (.dat (.int .i64) (.st (.ptr (0, 0) 8 0 0) (.st (.own Z4 (1, 0)) (.st (.ptr (2, 0) 8 0 0) (.dat (.int .i64) (.dat (.int .i64) .nil)))))), (.box 8 (.agg (.dat (.int .i64) (.dat (.int .i64) (.dat (.int .i64) (.dat (.int .i64) (.st (.own Z1 (3, 0)) (.dat (.int .i64) (.st (.own .bool (4, 0)) (.st .nil .nil)))))))) .nil) (.arr Z4 false (.box 8 (.agg (.dat (.int .i64) (.dat (.int .i64) (.dat (.int .i64) (.dat (.int .i64) (.st .nil (.dat (.int .i64) (.st .nil (.st .nil .nil)))))))) .nil) (.arr Z1 false (.arr .bool false .nil)))))⟩, (.one (.exit 0) ⟨[4, 7, 3, 0], (.st (.ptr (0, 0) 8 0 0) (.st (.own Z4 (1, 0)) (.st (.ptr (2, 0) 8 0 0) (.dat (.int .i64) .nil)))), (.box 8 (.agg (.dat (.int .i64) (.dat (.int .i64) (.dat (.int .i64) (.dat (.int .i64) (.st .nil (.dat (.int .i64) (.st .nil (.st .nil .nil)))))))) .nil) (.arr Z4 false (.box 8 (.agg (.dat (.int .i64) (.dat (.int .i64) (.dat (.int .i64) (.dat (.int .i64) (.st (.own Z1 (3, 0)) (.dat (.int .i64) (.st (.own .bool (4, 0)) (.st .nil .nil)))))))) .nil) (.arr Z1 false (.arr .bool false .nil)))))⟩)⟩
    | _ => none) (fun _ _ => 0)
  | _ => {}

theorem ok23 : Abs.SpecOK Try.prog 23 sp23 :=
  Abs.specOC_of (C := ctab) (mv := mvtab) ctab_ok (n := 12) (an := an23) (T := Abs.tabOf [(26, sp26), (76, sp76), (75, sp75), (77, sp77)]) good foll (Abs.tabOf_ok _ (by simp only [List.forall_mem_cons]; exact ⟨ok26, ok76, ok75, ok77, fun _ h => by cases h⟩)) rfl (by intro v; kernel_rfl)

/- pagewatch/vote.Heard -/
def i78 : Abs.Sg := ⟨[0, 1, 2, 3], (.dat (.int .i64) (.dat Z3 (.dat Z4 (.dat (.int .i64) .nil)))), .nil⟩

def o78 : Abs.Sg := ⟨[8], (.dat .bool .nil), .nil⟩

def m78 (v : ((Int × Y7 × Y9 × Int × Unit) × (Unit))) : Option Y16 :=
(((m26 ((v.1.1, (v.1.2.1, ())), ())).bind fun u7 =>
bif u7.1.1 then (bif ((v.1.2.2.1.1 : Int) == v.1.2.2.2.1) then (bif ((v.1.2.2.1.2.2.1 : Int) == v.1.2.1.1) then ((m81 ((v.1.2.2.1.2.1, (0, ((w64 (v.1.1 - 1)), ()))), ())).bind fun u8 =>
bif u8.1.1 then (bif ((v.1.2.2.1.2.1 : Int) != v.1.2.1.1) then ((m81 ((v.1.2.2.1.2.2.2.1, (1, (1048576, ()))), ())).bind fun u9 =>
some ((u9.1.1, ()), ()))
else (some ((false, ()), ())))
else (some ((false, ()), ())))
else (some ((false, ()), ())))
else (some ((false, ()), ())))
else (some ((false, ()), ()))) : Option Y16).bind fun v10 =>
some ((v10.1.1, ()), ())

def sp78 : Abs.Spec := ⟨0, i78, o78, m78⟩

def an78 : Nat → Abs.FAn
  | 0 => Abs.FAn.mk (fun
    | 1 => some ⟨[8], (.dat .bool .nil), .nil⟩
    | _ => none) (fun _ => none) (fun _ => none) (fun _ _ => 0)
  | _ => {}

theorem ok78 : Abs.SpecOK Try.prog 78 sp78 :=
  Abs.specOC_of (C := ctab) (mv := mvtab) ctab_ok (n := 12) (an := an78) (T := Abs.tabOf [(26, sp26), (81, sp81)]) good foll (Abs.tabOf_ok _ (by simp only [List.forall_mem_cons]; exact ⟨ok26, ok81, fun _ h => by cases h⟩)) rfl (by intro v; kernel_rfl)

/- pagewatch/vote.Follow -/
def i79 : Abs.Sg := ⟨[0, 1], (.dat Z3 (.dat (.int .i64) .nil)), .nil⟩

def o79 : Abs.Sg := ⟨[4], (.st (.ptr (0, 0) 8 0 0) .nil), (.box 8 (.dat Z3 .nil) .nil)⟩

def m79 (v : ((Y7 × Int × Unit) × (Unit))) : Option ((Unit) × ((Y7 × Unit) × Unit)) :=
(((m81 ((v.1.2.1, ((w64 (v.1.1.2.1 + 1)), (1048576, ()))), ())).bind fun u5 =>
bif u5.1.1 then (some ((), (((0, (0, (0, (0, (0, ()))))), ()), (((v.1.1.1, (v.1.2.1, ((-1), (0, (v.1.1.2.2.2.2.1, (v.1.1.2.2.2.2.2.1, ([], ([], ())))))))), ()), ()))))
else (some ((), (((0, (0, (0, (0, (0, ()))))), ()), ((v.1.1, ()), ()))))) : Option ((Unit) × (Y11 × (Y7 × Unit) × Unit))).bind fun v6 =>
some ((), ((v6.2.2.1.1, ()), ()))

def sp79 : Abs.Spec := ⟨0, i79, o79, m79⟩

def an79 : Nat → Abs.FAn
  | 0 => Abs.FAn.mk (fun _ => none) (fun
    | 3 => some (⟨[4, 2], (.st (.ptr (0, 0) 8 0 0) (.st (.ptr (1, 0) 8 0 0) .nil)), (.box 8 (.agg (.dat (.int .i64) (.dat (.int .i64) (.dat (.int .i64) (.dat (.int .i64) (.st .nil (.dat (.int .i64) (.st .nil (.st .nil .nil)))))))) .nil) (.box 8 (.dat Z3 .nil) .nil))⟩, none)
    | _ => none) (fun _ => none) (fun _ _ => 0)
  | _ => {}

theorem ok79 : Abs.SpecOK Try.prog 79 sp79 :=
  Abs.specOC_of (C := ctab) (mv := mvtab) ctab_ok (n := 12) (an := an79) (T := Abs.tabOf [(81, sp81)]) good foll (Abs.tabOf_ok _ (by simp only [List.forall_mem_cons]; exact ⟨ok81, fun _ h => by cases h⟩)) rfl (by intro v; kernel_rfl)

/- pagewatch/vote.Fresh -/
def i21 : Abs.Sg := ⟨[0, 1, 2], (.dat Z3 (.dat (.int .i64) (.dat (.int .i64) .nil))), .nil⟩

def o21 : Abs.Sg := ⟨[6], (.dat .bool .nil), .nil⟩

def m21 (v : ((Y7 × Int × Int × Unit) × (Unit))) : Option Y16 :=
(((m75 ((v.1.1, ()), ())).bind fun u7 =>
bif (decide ((v.1.2.2.1 : Int) > u7.1.1)) then (some ((true, ()), ()))
else ((m75 ((v.1.1, ()), ())).bind fun u8 =>
bif ((v.1.2.2.1 : Int) == u8.1.1) then (let x9 := (decide ((v.1.2.1 : Int) ≥ (v.1.1.2.2.2.2.1.length : Int)))
some ((x9, ()), ()))
else (some ((false, ()), ())))) : Option Y16).bind fun v10 =>
some ((v10.1.1, ()), ())

def sp21 : Abs.Spec := ⟨0, i21, o21, m21⟩

def an21 : Nat → Abs.FAn
  | 0 => Abs.FAn.mk (fun
    | 1 => some ⟨[6], (.dat .bool .nil), .nil⟩
    | _ => none) (fun _ => none) (fun _ => none) (fun _ _ => 0)
  | _ => {}

theorem ok21 : Abs.SpecOK Try.prog 21 sp21 :=
  Abs.specOC_of (C := ctab) (mv := mvtab) ctab_ok (n := 12) (an := an21) (T := Abs.tabOf [(75, sp75)]) good foll (Abs.tabOf_ok _ (by simp only [List.forall_mem_cons]; exact ⟨ok75, fun _ h => by cases h⟩)) rfl (by intro v; kernel_rfl)

/- pagewatch/vote.Hear -/
def i24 : Abs.Sg := ⟨[0, 1, 2], (.dat (.int .i64) (.dat Z3 (.dat Z4 .nil))), .nil⟩

def o24 : Abs.Sg := ⟨[6, 7, 8], (.st (.ptr (0, 0) 8 0 0) (.st (.ptr (1, 0) 9 0 0) (.dat .bool .nil))), (.box 8 (.dat Z3 .nil) (.box 9 (.agg (.dat (.int .i64) (.dat (.int .i64) (.dat (.int .i64) (.dat (.int .i64) (.dat (.int .i64) (.dat (.int .i64) (.dat (.int .i64) (.st .nil (.dat .bool .nil))))))))) .nil) .nil))⟩

def m24 (v : ((Int × Y7 × Y9 × Unit) × (Unit))) : Option ((Bool × Unit) × ((Y7 × Unit) × Y18 × Unit)) :=
(m76 ((v.1.2.1, ()), ())).bind fun u19 =>
(m78 ((v.1.1, ((u19.2.1.1.1, (u19.2.1.1.2.1, (u19.2.1.1.2.2.1, (u19.2.1.1.2.2.2.1, (u19.2.2.1, (u19.2.1.1.2.2.2.2.1, (u19.2.2.2.1, (u19.2.2.2.2.1, ())))))))), (v.1.2.2.1, (1, ())))), ())).bind fun u20 =>
bif (!u20.1.1) then (some ((false, ()), (((u19.2.1.1.1, (u19.2.1.1.2.1, (u19.2.1.1.2.2.1, (u19.2.1.1.2.2.2.1, (u19.2.2.1, (u19.2.1.1.2.2.2.2.1, (u19.2.2.2.1, (u19.2.2.2.2.1, ())))))))), ()), (((0, (0, (0, (0, (0, (0, (0, (false, ())))))))), ()), ()))))
else ((m79 (((u19.2.1.1.1, (u19.2.1.1.2.1, (u19.2.1.1.2.2.1, (u19.2.1.1.2.2.2.1, (u19.2.2.1, (u19.2.1.1.2.2.2.2.1, (u19.2.2.2.1, (u19.2.2.2.2.1, ())))))))), (v.1.2.2.1.2.2.2.1, ())), ())).bind fun u21 =>
((bif ((u21.2.1.1.2.1 : Int) == v.1.2.2.1.2.2.2.1) then (bif ((u21.2.1.1.2.2.1 : Int) == (-1)) then (bif ((u21.2.1.1.2.2.2.1 : Int) == 0) then ((m21 ((u21.2.1.1, (v.1.2.2.1.2.2.2.2.1, (v.1.2.2.1.2.2.2.2.2.1, ()))), ())).bind fun u22 =>
some ((u22.1.1, ()), (((0, (0, (0, (0, (0, ()))))), ()), (((0, (0, (0, (0, (0, (0, (0, (false, ())))))))), ()), ((u21.2.1.1, ()), ((v.1.2.2.1, ()), ()))))))
else (some ((false, ()), (((0, (0, (0, (0, (0, ()))))), ()), (((0, (0, (0, (0, (0, (0, (0, (false, ())))))))), ()), ((u21.2.1.1, ()), ((v.1.2.2.1, ()), ())))))))
else (bif ((u21.2.1.1.2.2.1 : Int) == v.1.2.2.1.2.1) then (bif ((u21.2.1.1.2.2.2.1 : Int) == 0) then ((m21 ((u21.2.1.1, (v.1.2.2.1.2.2.2.2.1, (v.1.2.2.1.2.2.2.2.2.1, ()))), ())).bind fun u23 =>
some ((u23.1.1, ()), (((0, (0, (0, (0, (0, ()))))), ()), (((0, (0, (0, (0, (0, (0, (0, (false, ())))))))), ()), ((u21.2.1.1, ()), ((v.1.2.2.1, ()), ()))))))
else (some ((false, ()), (((0, (0, (0, (0, (0, ()))))), ()), (((0, (0, (0, (0, (0, (0, (0, (false, ())))))))), ()), ((u21.2.1.1, ()), ((v.1.2.2.1, ()), ())))))))
else (some ((false, ()), (((0, (0, (0, (0, (0, ()))))), ()), (((0, (0, (0, (0, (0, (0, (0, (false, ())))))))), ()), ((u21.2.1.1, ()), ((v.1.2.2.1, ()), ()))))))))
else (some ((false, ()), (((0, (0, (0, (0, (0, ()))))), ()), (((0, (0, (0, (0, (0, (0, (0, (false, ())))))))), ()), ((u21.2.1.1, ()), ((v.1.2.2.1, ()), ()))))))) : Option ((Bool × Unit) × (Y11 × Y18 × (Y7 × Unit) × (Y9 × Unit) × Unit))).bind fun v24 =>
((bif v24.1.1 then (some ((v24.1.1, ()), (((v24.2.1.1.1, (v24.2.1.1.2.1, (v24.2.1.1.2.2.1, (v24.2.1.1.2.2.2.1, (v24.2.1.1.2.2.2.2.1, ()))))), ()), (((v24.2.2.1.1.1, (v24.2.2.1.1.2.1, (v24.2.2.1.1.2.2.1, (v24.2.2.1.1.2.2.2.1, (v24.2.2.1.1.2.2.2.2.1, (v24.2.2.1.1.2.2.2.2.2.1, (v24.2.2.1.1.2.2.2.2.2.2.1, (v24.2.2.1.1.2.2.2.2.2.2.2.1, ())))))))), ()), (((v24.2.2.2.1.1.1, (v24.2.2.2.1.1.2.1, (v24.2.2.2.2.1.1.2.1, v24.2.2.2.1.1.2.2.2))), ()), ((v24.2.2.2.2.1.1, ()), ()))))))
else (some ((v24.1.1, ()), (((v24.2.1.1.1, (v24.2.1.1.2.1, (v24.2.1.1.2.2.1, (v24.2.1.1.2.2.2.1, (v24.2.1.1.2.2.2.2.1, ()))))), ()), (((v24.2.2.1.1.1, (v24.2.2.1.1.2.1, (v24.2.2.1.1.2.2.1, (v24.2.2.1.1.2.2.2.1, (v24.2.2.1.1.2.2.2.2.1, (v24.2.2.1.1.2.2.2.2.2.1, (v24.2.2.1.1.2.2.2.2.2.2.1, (v24.2.2.1.1.2.2.2.2.2.2.2.1, ())))))))), ()), ((v24.2.2.2.1.1, ()), ((v24.2.2.2.2.1.1, ()), ()))))))) : Option ((Bool × Unit) × (Y11 × Y18 × (Y7 × Unit) × (Y9 × Unit) × Unit))).bind fun v25 =>
some ((true, ()), ((v25.2.2.2.1.1, ()), (((2, (v25.2.2.2.1.1.1, (v25.2.2.2.2.1.1.2.1, (v25.2.2.2.1.1.2.1, (0, (0, (0, (v25.1.1, ())))))))), ()), ()))))

def sp24 : Abs.Spec := ⟨0, i24, o24, m24⟩

def an24 : Nat → Abs.FAn
  | 0 => Abs.FAn.mk (fun
    | 5 => some ⟨[6, 7, 9, 4, 5], (.st (.ptr (0, 0) 8 0 0) (.st (.ptr (1, 0) 9 0 0) (.dat .bool (.st (.ptr (2, 0) 8 0 0) (.st (.ptr (3, 0) 9 0 0) .nil))))), (.box 8 (.agg (.dat (.int .i64) (.dat (.int .i64) (.dat (.int .i64) (.dat (.int .i64) (.st .nil (.dat (.int .i64) (.st .nil (.st .nil .nil)))))))) .nil) (.box 9 (.agg (.dat (.int .i64) (.dat (.int .i64) (.dat (.int .i64) (.dat (.int .i64) (.dat (.int .i64) (.dat (.int .i64) (.dat (.int .i64) (.st .nil (.dat .bool .nil))))))))) .nil) (.box 8 (.dat Z3 .nil) (.box 9 (.dat Z4 .nil) .nil))))⟩
    | _ => none) (fun
    | 8 => some (⟨[6, 7, 9, 4, 5], (.st (.ptr (0, 0) 8 0 0) (.st (.ptr (1, 0) 9 0 0) (.dat .bool (.st (.ptr (2, 0) 8 0 0) (.st (.ptr (3, 0) 9 0 0) .nil))))), (.box 8 (.agg (.dat (.int .i64) (.dat (.int .i64) (.dat (.int .i64) (.dat (.int .i64) (.st .nil (.dat (.int .i64) (.st .nil (.st .nil .nil)))))))) .nil) (.box 9 (.agg (.dat (.int .i64) (.dat (.int .i64) (.dat (.int .i64) (.dat (.int .i64) (.dat (.int .i64) (.dat (.int .i64) (.dat (.int .i64) (.st .nil (.dat .bool .nil))))))))) .nil) (.box 8 (.dat Z3 .nil) (.box 9 (.dat Z4 .nil) .nil))))⟩, none)
    | _ => none) (fun _ => none) (fun _ _ => 0)
  | _ => {}

theorem ok24 : Abs.SpecOK Try.prog 24 sp24 :=
  Abs.specOC_of (C := ctab) (mv := mvtab) ctab_ok (n := 12) (an := an24) (T := Abs.tabOf [(76, sp76), (78, sp78), (79, sp79), (21, sp21)]) good foll (Abs.tabOf_ok _ (by simp only [List.forall_mem_cons]; exact ⟨ok76, ok78, ok79, ok21, fun _ h => by cases h⟩)) rfl (by intro v; kernel_rfl)

/- pagewatch/vote.Voted -/
def i36 : Abs.Sg := ⟨[0, 1, 2], (.dat (.int .i64) (.dat Z3 (.dat Z4 .nil))), .nil⟩

def o36 : Abs.Sg := ⟨[6], (.st (.ptr (0, 0) 8 0 0) .nil), (.box 8 (.dat Z3 .nil) .nil)⟩

def m36 (v : ((Int × Y7 × Y9 × Unit) × (Unit))) : Option ((Unit) × ((Y7 × Unit) × Unit)) :=
(m76 ((v.1.2.1, ()), ())).bind fun u19 =>
(m78 ((v.1.1, ((u19.2.1.1.1, (u19.2.1.1.2.1, (u19.2.1.1.2.2.1, (u19.2.1.1.2.2.2.1, (u19.2.2.1, (u19.2.1.1.2.2.2.2.1, (u19.2.2.2.1, (u19.2.2.2.2.1, ())))))))), (v.1.2.2.1, (2, ())))), ())).bind fun u20 =>
bif (!u20.1.1) then (some ((), (((u19.2.1.1.1, (u19.2.1.1.2.1, (u19.2.1.1.2.2.1, (u19.2.1.1.2.2.2.1, (u19.2.2.1, (u19.2.1.1.2.2.2.2.1, (u19.2.2.2.1, (u19.2.2.2.2.1, ())))))))), ()), ())))
else (let x21 := (decide ((v.1.2.2.1.2.2.2.1 : Int) > u19.2.1.1.2.1))
bif x21 then ((m79 (((u19.2.1.1.1, (u19.2.1.1.2.1, (u19.2.1.1.2.2.1, (u19.2.1.1.2.2.2.1, (u19.2.2.1, (u19.2.1.1.2.2.2.2.1, (u19.2.2.2.1, (u19.2.2.2.2.1, ())))))))), (v.1.2.2.1.2.2.2.1, ())), ())).bind fun u22 =>
some ((), ((u22.2.1.1, ()), ())))
else (((bif ((u19.2.1.1.2.2.2.1 : Int) != 1) then (some ((true, (v.1.1, ())), (((0, (0, (0, (0, (0, ()))))), ()), (((u19.2.1.1.1, (u19.2.1.1.2.1, (u19.2.1.1.2.2.1, (u19.2.1.1.2.2.2.1, (u19.2.1.1.2.2.2.2.1, ()))))), ()), ((v.1.2.2.1, ()), (u19.2.2.1, (u19.2.2.2.1, (u19.2.2.2.2.1, ()))))))))
else (bif ((v.1.2.2.1.2.2.2.1 : Int) != u19.2.1.1.2.1) then (some ((true, (v.1.1, ())), (((0, (0, (0, (0, (0, ()))))), ()), (((u19.2.1.1.1, (u19.2.1.1.2.1, (u19.2.1.1.2.2.1, (u19.2.1.1.2.2.2.1, (u19.2.1.1.2.2.2.2.1, ()))))), ()), ((v.1.2.2.1, ()), (u19.2.2.1, (u19.2.2.2.1, (u19.2.2.2.2.1, ()))))))))
else (some (((!v.1.2.2.1.2.2.2.2.2.2.2.2.1), (v.1.1, ())), (((0, (0, (0, (0, (0, ()))))), ()), (((u19.2.1.1.1, (u19.2.1.1.2.1, (u19.2.1.1.2.2.1, (u19.2.1.1.2.2.2.1, (u19.2.1.1.2.2.2.2.1, ()))))), ()), ((v.1.2.2.1, ()), (u19.2.2.1, (u19.2.2.2.1, (u19.2.2.2.2.1, ())))))))))) : Option ((Bool × Int × Unit) × (Y11 × Y11 × (Y9 × Unit) × Y2 × (List Bool) × (List Int) × Unit))).bind fun v23 =>
bif v23.1.1 then (some ((), (((v23.2.2.1.1.1, (v23.2.2.1.1.2.1, (v23.2.2.1.1.2.2.1, (v23.2.2.1.1.2.2.2.1, (v23.2.2.2.2.1, (v23.2.2.1.1.2.2.2.2.1, (v23.2.2.2.2.2.1, (v23.2.2.2.2.2.2.1, ())))))))), ()), ())))
else (bif (decide ((0 : Int) ≤ v23.2.2.2.1.1.2.1 ∧ (v23.2.2.2.1.1.2.1 : Int) < v23.2.2.2.2.2.1.length)) then
bif (decide (v23.2.2.2.1.1.2.1.toNat < v23.2.2.2.2.2.1.length)) then
(m77 ((v23.1.2.1, ((v23.2.2.1.1.1, (v23.2.2.1.1.2.1, (v23.2.2.1.1.2.2.1, (v23.2.2.1.1.2.2.2.1, (v23.2.2.2.2.1, (v23.2.2.1.1.2.2.2.2.1, ((v23.2.2.2.2.2.1.set v23.2.2.2.1.1.2.1.toNat true), (v23.2.2.2.2.2.2.1, ())))))))), ())), ())).bind fun u24 =>
some ((), ((u24.2.1.1, ()), ()))
else none
else none)))

def sp36 : Abs.Spec := ⟨0, i36, o36, m36⟩

def an36 : Nat → Abs.FAn
  | 0 => Abs.FAn.mk (fun
    | 6 => some ⟨[38, 6, 4, 0, 5], (.dat .bool (.st (.ptr (0, 0) 8 0 0) (.st (.ptr (1, 0) 8 0 0) (.dat (.int .i64) (.st (.ptr (2, 0) 9 0 0) .nil))))), (.box 8 (.agg (.dat (.int .i64) (.dat (.int .i64) (.dat (.int .i64) (.dat (.int .i64) (.st .nil (.dat (.int .i64) (.st .nil (.st .nil .nil)))))))) .nil) (.box 8 (.agg (.dat (.int .i64) (.dat (.int .i64) (.dat (.int .i64) (.dat (.int .i64) (.st (.own Z1 (3, 0)) (.dat (.int .i64) (.st (.own .bool (4, 0)) (.st (.own (.int .i64) (5, 0)) .nil)))))))) .nil) (.box 9 (.dat Z4 .nil) (.arr Z1 false (.arr .bool false (.arr (.int .i64) false .nil))))))⟩
    | _ => none) (fun _ => none) (fun _ => none) (fun _ _ => 0)
  | _ => {}

theorem ok36 : Abs.SpecOK Try.prog 36 sp36 :=
  Abs.specOC_of (C := ctab) (mv := mvtab) ctab_ok (n := 12) (an := an36) (T := Abs.tabOf [(76, sp76), (78, sp78), (79, sp79), (77, sp77)]) good foll (Abs.tabOf_ok _ (by simp only [List.forall_mem_cons]; exact ⟨ok76, ok78, ok79, ok77, fun _ h => by cases h⟩)) rfl (by intro v; kernel_rfl)

/- pagewatch/pagewatchmade.Roll -/
def i18 : Abs.Sg := ⟨[0], (.dat (.row (.int .i64)) .nil), .nil⟩

def o18 : Abs.Sg := ⟨[2], (.st (.ptr (0, 0) 2 0 0) .nil), (.box 2 (.dat Z13 .nil) .nil)⟩

def m18 (v : (((List Int) × Unit) × (Unit))) : Option ((Unit) × (Y14 × Unit)) :=
some ((), (((v.1.1, (0, ())), ()), ()))

def sp18 : Abs.Spec := ⟨0, i18, o18, m18⟩

def an18 : Nat → Abs.FAn
  | _ => {}

theorem ok18 : Abs.SpecOK Try.prog 18 sp18 :=
  Abs.specOC_of (C := ctab) (mv := mvtab) ctab_ok (n := 12) (an := an18) (T := Abs.tabOf []) good foll (Abs.tabOf_ok _ (fun _ h => by cases h)) rfl (by intro v; kernel_rfl)

/- (*pagewatch/pagewatchmade.Dice).Next -/
def i20 : Abs.Sg := ⟨[0, 1], (.st (.ptr (0, 0) 2 0 0) (.dat (.int .i64) .nil)), (.box 2 (.dat Z13 .nil) .nil)⟩

def o20 : Abs.Sg := ⟨[4], (.dat (.int .i64) .nil), (.box 2 (.dat Z13 .nil) .nil)⟩

def m20 (v : ((Int × Unit) × (Y14 × Unit))) : Option ((Int × Unit) × (Y14 × Unit)) :=
((let x15 := (decide ((v.2.1.1.2.1 : Int) ≥ (v.2.1.1.1.length : Int)))
bif x15 then (some ((true, (v.1.1, ())), ((v.2.1.1, ()), ())))
else (some (((decide ((v.1.1 : Int) < 1)), (v.1.1, ())), ((v.2.1.1, ()), ())))) : Option ((Bool × Int × Unit) × (Y14 × Unit))).bind fun v16 =>
bif v16.1.1 then (some ((0, ()), ((v16.2.1.1, ()), ())))
else (Abs.rowAt v16.2.1.1.1 v16.2.1.1.2.1 fun e17 _ =>
bif (decide (v16.1.2.1 ≠ (0 : Int))) then
((let x18 := (decide ((((e17 : Int).tmod v16.1.2.1) : Int) < 0))
bif x18 then (some (((w64 (((e17 : Int).tmod v16.1.2.1) + v16.1.2.1)), ()), (((v16.2.1.1.1, ((w64 (v16.2.1.1.2.1 + 1)), ())), ()), ())))
else (some ((((e17 : Int).tmod v16.1.2.1), ()), (((v16.2.1.1.1, ((w64 (v16.2.1.1.2.1 + 1)), ())), ()), ())))) : Option ((Int × Unit) × (Y14 × Unit))).bind fun v19 =>
some ((v19.1.1, ()), ((v19.2.1.1, ()), ()))
else none)

def sp20 : Abs.Spec := ⟨1, i20, o20, m20⟩

def an20 : Nat → Abs.FAn
  | 0 => Abs.FAn.mk (fun
    | 1 => some ⟨[19, 1, 0], (.dat .bool (.dat (.int .i64) (.st (.ptr (0, 0) 2 0 0) .nil))), (.box 2 (.dat Z13 .nil) .nil)⟩
    | _ => none) (fun
    | 7 => some (⟨[5], (.dat (.int .i64) .nil), (.box 2 (.dat Z13 .nil) .nil)⟩, none)
    | _ => none) (fun _ => none) (fun _ _ => 0)
  | _ => {}

theorem ok20 : Abs.SpecOK Try.prog 20 sp20 :=
  Abs.specOC_of (C := ctab) (mv := mvtab) ctab_ok (n := 12) (an := an20) (T := Abs.tabOf []) good foll (Abs.tabOf_ok _ (fun _ h => by cases h)) rfl (by intro v; kernel_rfl)

/- pagewatch/pagewatchref25.In -/
def i45 : Abs.Sg := ⟨[0, 1, 2], (.dat (.int .i64) (.dat (.int .i64) (.dat (.int .i64) .nil))), .nil⟩

def o45 : Abs.Sg := ⟨[6], (.dat .bool .nil), .nil⟩

def m45 (v : (Y21 × (Unit))) : Option Y16 :=
((bif (decide ((v.1.1 : Int) ≥ v.1.2.1)) then (some (((decide ((v.1.1 : Int) ≤ v.1.2.2.1)), ()), ()))
else (some ((false, ()), ()))) : Option Y16).bind fun v1 =>
some ((v1.1.1, ()), ())

def sp45 : Abs.Spec := ⟨0, i45, o45, m45⟩

def an45 : Nat → Abs.FAn
  | 0 => Abs.FAn.mk (fun
    | 1 => some ⟨[6], (.dat .bool .nil), .nil⟩
    | _ => none) (fun _ => none) (fun _ => none) (fun _ _ => 0)
  | _ => {}

theorem ok45 : Abs.SpecOK Try.prog 45 sp45 :=
  Abs.specOC_of (C := ctab) (mv := mvtab) ctab_ok (n := 12) (an := an45) (T := Abs.tabOf []) good foll (Abs.tabOf_ok _ (fun _ h => by cases h)) rfl (by intro v; kernel_rfl)

/- pagewatch/pagewatchref32.Quorum -/
def i29 : Abs.Sg := ⟨[0], (.dat (.int .i64) .nil), .nil⟩

def o29 : Abs.Sg := ⟨[2], (.dat (.int .i64) .nil), .nil⟩

def m29 (v : ((Int × Unit) × (Unit))) : Option ((Int × Unit) × (Unit)) :=
(m45 ((v.1.1, (1, (5, ()))), ())).bind fun u4 =>
bif (!u4.1.1) then (some ((0, ()), ()))
else (some (((w64 ((w64 ((v.1.1 : Int).tdiv 2)) + 1)), ()), ()))

def sp29 : Abs.Spec := ⟨0, i29, o29, m29⟩

def an29 : Nat → Abs.FAn
  | _ => {}

theorem ok29 : Abs.SpecOK Try.prog 29 sp29 :=
  Abs.specOC_of (C := ctab) (mv := mvtab) ctab_ok (n := 12) (an := an29) (T := Abs.tabOf [(45, sp45)]) good foll (Abs.tabOf_ok _ (by simp only [List.forall_mem_cons]; exact ⟨ok45, fun _ h => by cases h⟩)) rfl (by intro v; kernel_rfl)

def l85_0_3 (v : ((Int × Y2 × Int × Int × Unit) × (Unit))) : Option (((Int × Y2 × Int × Int × Unit) × (Unit)) ⊕ (Y16 ⊕ ((Y2 × Unit) × (Unit)))) :=
let x37 := (decide ((v.1.1 : Int) < (v.1.2.1.length : Int)))
bif x37 then (((Abs.rowAt v.1.2.1 v.1.1 fun e38 _ =>
bif (decide ((e38.1 : Int) < v.1.2.2.2.1)) then (some ((true, (v.1.2.1, (v.1.2.2.1, (v.1.1, ())))), ()))
else (Abs.rowAt v.1.2.1 v.1.1 fun e39 _ =>
some (((decide ((e39.1 : Int) > v.1.2.2.1)), (v.1.2.1, (v.1.2.2.1, (v.1.1, ())))), ()))) : Option ((Bool × Y2 × Int × Int × Unit) × (Unit))).bind fun v40 =>
bif v40.1.1 then (some (.inr (.inl ((false, ()), ()))))
else (Abs.rowAt v40.1.2.1 v40.1.2.2.2.1 fun e41 _ =>
some (.inl (((w64 (v40.1.2.2.2.1 + 1)), (v40.1.2.1, (v40.1.2.2.1, (e41.1, ())))), ()))))
else (some (.inr (.inr ((v.1.2.1, ()), ()))))

/- pagewatch/pagewatchref32.LogFits -/
def i85 : Abs.Sg := ⟨[0, 1], (.dat (.row Z1) (.dat (.int .i64) .nil)), .nil⟩

def o85 : Abs.Sg := ⟨[4], (.dat .bool .nil), .nil⟩

def m85 (v : ((Y2 × Int × Unit) × (Unit))) : Option Y16 :=
(loopT l85_0_3 ((0, (v.1.1, (v.1.2.1, (1, ())))), ())).bind fun d42 =>
sumE d42 (fun d43 => (some ((d43.1.1, ()), ()))) (fun d44 => (some (((decide (((d44.1.1.length : Int) : Int) ≤ 256)), ()), ())))

def sp85 : Abs.Spec := ⟨0, i85, o85, m85⟩

def an85 : Nat → Abs.FAn
  | 0 => Abs.FAn.mk (fun
    | 5 => some ⟨[28, 0, 1, 6], (.dat .bool (.dat (.row Z1) (.dat (.int .i64) (.dat (.int .i64) .nil)))), .nil⟩
    | _ => none) (fun _ => none) (fun
    | 3 => some ⟨⟨[6, 0, 1, 5], (.dat (.int .i64) (.dat (.row Z1) (.dat (.int .i64) (.dat (.int .i64) .nil)))), .nil⟩, (.more .ret ⟨[4], (.dat .bool .nil), .nil⟩ (.one (.exit 0) ⟨[0], (.dat (.row Z1) .nil), .nil⟩))⟩
    | _ => none) (fun _ _ => 0)
  | _ => {}

theorem ok85 : Abs.SpecOK Try.prog 85 sp85 :=
  Abs.specOC_of (C := ctab) (mv := mvtab) ctab_ok (n := 12) (an := an85) (T := Abs.tabOf []) good foll (Abs.tabOf_ok _ (fun _ h => by cases h)) rfl (by intro v; kernel_rfl)

def l27_0_12 (v : ((Int × Int × Unit) × ((Y7 × Unit) × Unit))) : Option (((Int × Int × Unit) × ((Y7 × Unit) × Unit)) ⊕ (Y16 ⊕ ((Unit) × (Unit)))) :=
bif (decide ((v.1.1 : Int) < v.1.2.1)) then (Abs.rowAt v.2.1.1.2.2.2.2.2.2.2.1 v.1.1 fun e119 _ =>
(m45 ((e119, (0, ((v.2.1.1.2.2.2.2.1.length : Int), ()))), ())).bind fun u120 =>
bif (!u120.1.1) then (some (.inr (.inl ((false, ()), ()))))
else (some (.inl (((w64 (v.1.1 + 1)), (v.1.2.1, ())), ((v.2.1.1, ()), ())))))
else (some (.inr (.inr ((), ()))))

/- pagewatch/pagewatchref32.Check -/
def i27 : Abs.Sg := ⟨[0, 1], (.dat (.int .i64) (.dat Z3 .nil)), .nil⟩

def o27 : Abs.Sg := ⟨[4], (.dat .bool .nil), .nil⟩

def m27 (v : ((Int × Y7 × Unit) × (Unit))) : Option Y16 :=
(((m29 ((v.1.1, ()), ())).bind fun u99 =>
bif ((u99.1.1 : Int) == 0) then (some ((true, (v.1.1, ())), ((v.1.2.1, ()), ())))
else ((m45 ((v.1.2.1.1, (0, ((w64 (v.1.1 - 1)), ()))), ())).bind fun u100 =>
bif (!u100.1.1) then (some ((true, (v.1.1, ())), ((v.1.2.1, ()), ())))
else ((m45 ((v.1.2.1.2.1, (0, (1048576, ()))), ())).bind fun u101 =>
bif (!u101.1.1) then (some ((true, (v.1.1, ())), ((v.1.2.1, ()), ())))
else ((m45 ((v.1.2.1.2.2.1, ((-1), ((w64 (v.1.1 - 1)), ()))), ())).bind fun u102 =>
bif (!u102.1.1) then (some ((true, (v.1.1, ())), ((v.1.2.1, ()), ())))
else ((m85 ((v.1.2.1.2.2.2.2.1, (v.1.2.1.2.1, ())), ())).bind fun u103 =>
bif (!u103.1.1) then (some ((true, (v.1.1, ())), ((v.1.2.1, ()), ())))
else ((m45 ((v.1.2.1.2.2.2.2.2.1, (0, ((v.1.2.1.2.2.2.2.1.length : Int), ()))), ())).bind fun u104 =>
some (((!u104.1.1), (v.1.1, ())), ((v.1.2.1, ()), ())))))))) : Option ((Bool × Int × Unit) × ((Y7 × Unit) × Unit))).bind fun v105 =>
bif v105.1.1 then (some ((false, ()), ()))
else (bif ((v105.2.1.1.2.2.2.1 : Int) == 0) then (((let x106 := (((v105.2.1.1.2.2.2.2.2.2.1.length : Int) : Int) == 0)
bif x106 then (let x107 := (((v105.2.1.1.2.2.2.2.2.2.2.1.length : Int) : Int) == 0)
some ((x107, ()), ()))
else (some ((false, ()), ()))) : Option Y16).bind fun v108 =>
some ((v108.1.1, ()), ()))
else (bif ((v105.2.1.1.2.2.2.1 : Int) == 1) then (((let x109 := (((v105.2.1.1.2.2.2.2.2.2.1.length : Int) : Int) == v105.1.2.1)
bif x109 then (Abs.rowAt v105.2.1.1.2.2.2.2.2.2.1 v105.2.1.1.1 fun e110 _ =>
bif e110 then (let x111 := (((v105.2.1.1.2.2.2.2.2.2.2.1.length : Int) : Int) == 0)
some ((x111, ()), ()))
else (some ((false, ()), ())))
else (some ((false, ()), ()))) : Option Y16).bind fun v112 =>
some ((v112.1.1, ()), ()))
else (bif ((v105.2.1.1.2.2.2.1 : Int) == 2) then (((let x113 := (((v105.2.1.1.2.2.2.2.2.2.1.length : Int) : Int) != v105.1.2.1)
bif x113 then (some ((true, (v105.1.2.1, ())), ((v105.2.1.1, ()), ())))
else (Abs.rowAt v105.2.1.1.2.2.2.2.2.2.1 v105.2.1.1.1 fun e114 _ =>
bif (!e114) then (some ((true, (v105.1.2.1, ())), ((v105.2.1.1, ()), ())))
else (let x115 := (((v105.2.1.1.2.2.2.2.2.2.2.1.length : Int) : Int) != v105.1.2.1)
bif x115 then (some ((true, (v105.1.2.1, ())), ((v105.2.1.1, ()), ())))
else (Abs.rowAt v105.2.1.1.2.2.2.2.2.2.2.1 v105.2.1.1.1 fun e116 _ =>
let x117 := ((e116 : Int) != (v105.2.1.1.2.2.2.2.1.length : Int))
some ((x117, (v105.1.2.1, ())), ((v105.2.1.1, ()), ())))))) : Option ((Bool × Int × Unit) × ((Y7 × Unit) × Unit))).bind fun v118 =>
bif v118.1.1 then (some ((false, ()), ()))
else ((loopT l27_0_12 ((0, (v118.1.2.1, ())), ((v118.2.1.1, ()), ()))).bind fun d121 =>
sumE d121 (fun d122 => (some ((d122.1.1, ()), ()))) (fun d123 => (some ((true, ()), ())))))
else (some ((false, ()), ())))))

def sp27 : Abs.Spec := ⟨0, i27, o27, m27⟩

def an27 : Nat → Abs.FAn
  | 0 => Abs.FAn.mk (fun
    | 9 => some ⟨[117, 3, 0], (.dat .bool (.st (.ptr (0, 0) 8 0 0) (.dat (.int .i64) .nil))), (.box 8 (.dat Z3 .nil) .nil)⟩
    | 7 => some ⟨[4], (.dat .bool .nil), .nil⟩
    | 5 => some ⟨[4], (.dat .bool .nil), .nil⟩
    | 1 => some ⟨[47, 3, 0], (.dat .bool (.st (.ptr (0, 0) 8 0 0) (.dat (.int .i64) .nil))), (.box 8 (.dat Z3 .nil) .nil)⟩
    | _ => none) (fun _ => none) (fun
    | 12 => some ⟨⟨[5, 3, 0], (.dat (.int .i64) (.st (.ptr (0, 0) 8 0 0) (.dat (.int .i64) .nil))), (.box 8 (.dat Z3 .nil) .nil)⟩, (.more .ret ⟨[4], (.dat .bool .nil), .nil⟩ (.one (.exit 1) ⟨[], .nil, .nil⟩))⟩
    | _ => none) (fun _ _ => 0)
  | _ => {}

theorem ok27 : Abs.SpecOK Try.prog 27 sp27 :=
  Abs.specOC_of (C := ctab) (mv := mvtab) ctab_ok (n := 12) (an := an27) (T := Abs.tabOf [(29, sp29), (45, sp45), (85, sp85)]) good foll (Abs.tabOf_ok _ (by simp only [List.forall_mem_cons]; exact ⟨ok29, ok45, ok85, fun _ h => by cases h⟩)) rfl (by intro v; kernel_rfl)

def l113_0_2 (v : ((Int × Int × Int × (List (Int × Int × Unit)) × Unit) × (Unit))) : Option (((Int × Int × Int × (List (Int × Int × Unit)) × Unit) × (Unit)) ⊕ (Y16 ⊕ ((Unit) × (Unit)))) :=
let x36 := (decide ((v.1.1 : Int) < (v.1.2.2.2.1.length : Int)))
bif x36 then (Abs.rowAt v.1.2.2.2.1 v.1.1 fun e37 _ =>
let x38 := (if (v.1.2.1 : Int) < v.1.2.2.1 then v.1.2.1 else v.1.2.2.1)
let x39 := (if (v.1.2.1 : Int) > v.1.2.2.1 then v.1.2.1 else v.1.2.2.1)
let x40 := (((e37.1 : Int) == x38) && (((e37.2.1 : Int) == x39) && true))
bif x40 then (some (.inr (.inl ((true, ()), ()))))
else (some (.inl (((w64 (v.1.1 + 1)), (v.1.2.1, (v.1.2.2.1, (v.1.2.2.2.1, ())))), ()))))
else (some (.inr (.inr ((), ()))))

/- pagewatch/pagewatchref34.isCut -/
def i113 : Abs.Sg := ⟨[0, 1, 2], (.dat (.row Z12) (.dat (.int .i64) (.dat (.int .i64) .nil))), .nil⟩

def o113 : Abs.Sg := ⟨[6], (.dat .bool .nil), .nil⟩

def m113 (v : (((List (Int × Int × Unit)) × Int × Int × Unit) × (Unit))) : Option Y16 :=
(loopT l113_0_2 ((0, (v.1.2.2.1, (v.1.2.1, (v.1.1, ())))), ())).bind fun d41 =>
sumE d41 (fun d42 => (some ((d42.1.1, ()), ()))) (fun d43 => (some ((false, ()), ())))

def sp113 : Abs.Spec := ⟨0, i113, o113, m113⟩

def an113 : Nat → Abs.FAn
  | 0 => Abs.FAn.mk (fun _ => none) (fun _ => none) (fun
    | 2 => some ⟨⟨[7, 2, 1, 0], (.dat (.int .i64) (.dat (.int .i64) (.dat (.int .i64) (.dat (.row Z12) .nil)))), .nil⟩, (.more .ret ⟨[6], (.dat .bool .nil), .nil⟩ (.one (.exit 0) ⟨[], .nil, .nil⟩))⟩
    | _ => none) (fun _ _ => 0)
  | _ => {}

theorem ok113 : Abs.SpecOK Try.prog 113 sp113 :=
  Abs.specOC_of (C := ctab) (mv := mvtab) ctab_ok (n := 12) (an := an113) (T := Abs.tabOf []) good foll (Abs.tabOf_ok _ (fun _ h => by cases h)) rfl (by intro v; kernel_rfl)

def l71_0_5 (v : ((Int × Int × Unit) × ((Y5 × Unit) × Unit))) : Option (((Int × Int × Unit) × ((Y5 × Unit) × Unit)) ⊕ (Y16 ⊕ ((Int × Unit) × ((Y5 × Unit) × Unit)))) :=
bif (decide ((v.1.1 : Int) < v.1.2.1)) then (((Abs.rowAt v.2.1.1.1 v.1.1 fun e113 _ =>
bif ((e113.1 : Int) != v.1.1) then (some ((true, (v.1.2.1, (v.1.1, ()))), ((v.2.1.1, ()), ())))
else (Abs.rowAt v.2.1.1.1 v.1.1 fun e114 _ =>
(m27 ((v.1.2.1, (e114, ())), ())).bind fun u115 =>
some (((!u115.1.1), (v.1.2.1, (v.1.1, ()))), ((v.2.1.1, ()), ())))) : Option ((Bool × Int × Int × Unit) × ((Y5 × Unit) × Unit))).bind fun v116 =>
bif v116.1.1 then (some (.inr (.inl ((false, ()), ()))))
else (some (.inl (((w64 (v116.1.2.2.1 + 1)), (v116.1.2.1, ())), ((v116.2.1.1, ()), ())))))
else (some (.inr (.inr ((v.1.2.1, ()), ((v.2.1.1, ()), ())))))

def l71_0_10 (v : ((Int × Int × Unit) × ((Y5 × Unit) × Unit))) : Option (((Int × Int × Unit) × ((Y5 × Unit) × Unit)) ⊕ (Y16 ⊕ ((Int × Unit) × ((Y5 × Unit) × Unit)))) :=
let x120 := (decide ((v.1.1 : Int) < (v.2.1.1.2.1.length : Int)))
bif x120 then (Abs.rowAt v.2.1.1.2.1 v.1.1 fun e121 _ =>
(((m45 ((e121.2.1, (0, ((w64 (v.1.2.1 - 1)), ()))), ())).bind fun u122 =>
bif (!u122.1.1) then (some ((true, (v.1.2.1, (v.1.1, ()))), ((v.2.1.1, ()), ())))
else ((m45 ((e121.2.2.1, (0, ((w64 (v.1.2.1 - 1)), ()))), ())).bind fun u123 =>
bif (!u123.1.1) then (some ((true, (v.1.2.1, (v.1.1, ()))), ((v.2.1.1, ()), ())))
else (some ((((e121.2.1 : Int) == e121.2.2.1), (v.1.2.1, (v.1.1, ()))), ((v.2.1.1, ()), ()))))) : Option ((Bool × Int × Int × Unit) × ((Y5 × Unit) × Unit))).bind fun v124 =>
bif v124.1.1 then (some (.inr (.inl ((false, ()), ()))))
else (some (.inl (((w64 (v124.1.2.2.1 + 1)), (v124.1.2.1, ())), ((v124.2.1.1, ()), ())))))
else (some (.inr (.inr ((v.1.2.1, ()), ((v.2.1.1, ()), ())))))

def l71_0_16 (v : ((Int × Int × Unit) × ((Y5 × Unit) × Unit))) : Option (((Int × Int × Unit) × ((Y5 × Unit) × Unit)) ⊕ (Y16 ⊕ ((Unit) × (Unit)))) :=
let x128 := (decide ((v.1.1 : Int) < (v.2.1.1.2.2.2.1.length : Int)))
bif x128 then (Abs.rowAt v.2.1.1.2.2.2.1 v.1.1 fun e129 _ =>
((bif (decide ((e129.1 : Int) < 0)) then (some ((true, (v.1.2.1, (v.1.1, ()))), ((v.2.1.1, ()), ())))
else (bif (decide ((e129.1 : Int) ≥ e129.2.1)) then (some ((true, (v.1.2.1, (v.1.1, ()))), ((v.2.1.1, ()), ())))
else (bif (decide ((e129.2.1 : Int) ≥ v.1.2.1)) then (some ((true, (v.1.2.1, (v.1.1, ()))), ((v.2.1.1, ()), ())))
else (bif (decide ((0 : Int) ≤ v.1.1)) then
bif (decide (0 ≤ v.1.1.toNat ∧ v.1.1.toNat ≤ v.2.1.1.2.2.2.1.length)) then
(m113 (((v.2.1.1.2.2.2.1.take v.1.1.toNat), (e129.1, (e129.2.1, ()))), ())).bind fun u130 =>
some ((u130.1.1, (v.1.2.1, (v.1.1, ()))), ((v.2.1.1, ()), ()))
else none
else none)))) : Option ((Bool × Int × Int × Unit) × ((Y5 × Unit) × Unit))).bind fun v131 =>
bif v131.1.1 then (some (.inr (.inl ((false, ()), ()))))
else (some (.inl (((w64 (v131.1.2.2.1 + 1)), (v131.1.2.1, ())), ((v131.2.1.1, ()), ())))))
else (some (.inr (.inr ((), ()))))

/- pagewatch/pagewatchref34.Check -/
def i71 : Abs.Sg := ⟨[0], (.dat Z8 .nil), .nil⟩

def o71 : Abs.Sg := ⟨[2], (.dat .bool .nil), .nil⟩

def m71 (v : ((Y5 × Unit) × (Unit))) : Option Y16 :=
(((m29 (((v.1.1.1.length : Int), ()), ())).bind fun u109 =>
bif ((u109.1.1 : Int) == 0) then (some ((true, ((v.1.1.1.length : Int), ())), ((v.1.1, ()), ())))
else (let x110 := (((v.1.1.2.2.1.length : Int) : Int) != (v.1.1.1.length : Int))
bif x110 then (some ((true, ((v.1.1.1.length : Int), ())), ((v.1.1, ()), ())))
else (let x111 := (decide (((v.1.1.2.1.length : Int) : Int) > 256))
some ((x111, ((v.1.1.1.length : Int), ())), ((v.1.1, ()), ()))))) : Option ((Bool × Int × Unit) × ((Y5 × Unit) × Unit))).bind fun v112 =>
bif v112.1.1 then (some ((false, ()), ()))
else ((loopT l71_0_5 ((0, (v112.1.2.1, ())), ((v112.2.1.1, ()), ()))).bind fun d117 =>
sumE d117 (fun d118 => (some ((d118.1.1, ()), ()))) (fun d119 => ((loopT l71_0_10 ((0, (d119.1.1, ())), ((d119.2.1.1, ()), ()))).bind fun d125 =>
sumE d125 (fun d126 => (some ((d126.1.1, ()), ()))) (fun d127 => ((loopT l71_0_16 ((0, (d127.1.1, ())), ((d127.2.1.1, ()), ()))).bind fun d132 =>
sumE d132 (fun d133 => (some ((d133.1.1, ()), ()))) (fun d134 => (some ((true, ()), ()))))))))

def sp71 : Abs.Spec := ⟨0, i71, o71, m71⟩

def an71 : Nat → Abs.FAn
  | 0 => Abs.FAn.mk (fun
    | 19 => some ⟨[122, 1, 3, 7], (.dat .bool (.st (.ptr (0, 0) 4 0 0) (.dat (.int .i64) (.dat (.int .i64) .nil)))), (.box 4 (.dat Z8 .nil) .nil)⟩
    | 13 => some ⟨[83, 3, 1, 5], (.dat .bool (.dat (.int .i64) (.st (.ptr (0, 0) 4 0 0) (.dat (.int .i64) .nil)))), (.box 4 (.dat Z8 .nil) .nil)⟩
    | 7 => some ⟨[50, 1, 3, 4], (.dat .bool (.st (.ptr (0, 0) 4 0 0) (.dat (.int .i64) (.dat (.int .i64) .nil)))), (.box 4 (.dat Z8 .nil) .nil)⟩
    | 2 => some ⟨[27, 1, 3], (.dat .bool (.st (.ptr (0, 0) 4 0 0) (.dat (.int .i64) .nil))), (.box 4 (.dat Z8 .nil) .nil)⟩
    | _ => none) (fun _ => none) (fun
    | 16 => some ⟨⟨[7, 1, 3], (.dat (.int .i64) (.st (.ptr (0, 0) 4 0 0) (.dat (.int .i64) .nil))), (.box 4 (.dat Z8 .nil) .nil)⟩, (.more .ret ⟨[2], (.dat .bool .nil), .nil⟩ (.one (.exit 4) ⟨[], .nil, .nil⟩))⟩
    | 10 => some ⟨⟨[5, 3, 1], (.dat (.int .i64) (.dat (.int .i64) (.st (.ptr (0, 0) 4 0 0) .nil))), (.box 4 (.dat Z8 .nil) .nil)⟩, (.more .ret ⟨[2], (.dat .bool .nil), .nil⟩ (.one (.exit 2) ⟨[1, 3], (.st (.ptr (0, 0) 4 0 0) (.dat (.int .i64) .nil)), (.box 4 (.dat Z8 .nil) .nil)⟩))⟩
    | 5 => some ⟨⟨[4, 1, 3], (.dat (.int .i64) (.st (.ptr (0, 0) 4 0 0) (.dat (.int .i64) .nil))), (.box 4 (.dat Z8 .nil) .nil)⟩, (.more .ret ⟨[2], (.dat .bool .nil), .nil⟩ (.one (.exit 0) ⟨[3, 1], (.dat (.int .i64) (.st (.ptr (0, 0) 4 0 0) .nil)), (.box 4 (.dat Z8 .nil) .nil)⟩))⟩
    | _ => none) (fun _ _ => 0)
  | _ => {}

theorem ok71 : Abs.SpecOK Try.prog 71 sp71 :=
  Abs.specOC_of (C := ctab) (mv := mvtab) ctab_ok (n := 12) (an := an71) (T := Abs.tabOf [(29, sp29), (27, sp27), (45, sp45), (113, sp113)]) good foll (Abs.tabOf_ok _ (by simp only [List.forall_mem_cons]; exact ⟨ok29, ok27, ok45, ok113, fun _ h => by cases h⟩)) rfl (by intro v; kernel_rfl)

/- pagewatch/pagewatchref32.Copy -/
def i80 : Abs.Sg := ⟨[0], (.dat Z3 .nil), .nil⟩

def o80 : Abs.Sg := ⟨[2], (.st (.ptr (0, 0) 8 0 0) .nil), (.box 8 (.agg (.dat (.int .i64) (.dat (.int .i64) (.dat (.int .i64) (.dat (.int .i64) (.st (.own Z1 (1, 0)) (.dat (.int .i64) (.st (.own .bool (2, 0)) (.st (.own (.int .i64) (3, 0)) .nil)))))))) .nil) (.arr Z1 false (.arr .bool false (.arr (.int .i64) false .nil))))⟩

def m80 (v : ((Y7 × Unit) × (Unit))) : Option ((Unit) × (Y11 × Y2 × (List Bool) × (List Int) × Unit)) :=
bif (decide (0 + v.1.1.2.2.2.2.1.length ≤ 4294967296)) then
bif (decide (0 + v.1.1.2.2.2.2.2.2.1.length ≤ 4294967296)) then
bif (decide (0 + v.1.1.2.2.2.2.2.2.2.1.length ≤ 4294967296)) then
some ((), (((v.1.1.1, (v.1.1.2.1, (v.1.1.2.2.1, (v.1.1.2.2.2.1, (v.1.1.2.2.2.2.2.1, ()))))), ()), (v.1.1.2.2.2.2.1, (v.1.1.2.2.2.2.2.2.1, (v.1.1.2.2.2.2.2.2.2.1, ())))))
else none
else none
else none

def sp80 : Abs.Spec := ⟨0, i80, o80, m80⟩

def an80 : Nat → Abs.FAn
  | _ => {}

theorem ok80 : Abs.SpecOK Try.prog 80 sp80 :=
  Abs.specOC_of (C := ctab) (mv := mvtab) ctab_ok (n := 12) (an := an80) (T := Abs.tabOf []) good foll (Abs.tabOf_ok _ (fun _ h => by cases h)) rfl (by intro v; kernel_rfl)

def l115_0_3 (v : ((Int × Unit) × (((Unit) × Unit) × (Y5 × Unit) × ((Unit) × Unit) × (List Y7) × Unit))) : Option (((Int × Unit) × (((Unit) × Unit) × (Y5 × Unit) × ((Unit) × Unit) × (List Y7) × Unit)) ⊕ ((Unit) × (((Unit) × Unit) × (Y5 × Unit) × ((Unit) × Unit) × (List Y7) × Unit))) :=
let x66 := (decide ((v.1.1 : Int) < (v.2.2.1.1.1.length : Int)))
bif x66 then (Abs.rowAt v.2.2.1.1.1 v.1.1 fun e67 _ =>
(m80 ((e67, ()), ())).bind fun u68 =>
bif (decide (v.2.2.2.2.1.length + ([(u68.2.1.1.1, (u68.2.1.1.2.1, (u68.2.1.1.2.2.1, (u68.2.1.1.2.2.2.1, (u68.2.2.1, (u68.2.1.1.2.2.2.2.1, (u68.2.2.2.1, (u68.2.2.2.2.1, ()))))))))] : List Y7).length ≤ 4294967296)) then
let x69 := (v.2.2.2.2.1 ++ ([(u68.2.1.1.1, (u68.2.1.1.2.1, (u68.2.1.1.2.2.1, (u68.2.1.1.2.2.2.1, (u68.2.2.1, (u68.2.1.1.2.2.2.2.1, (u68.2.2.2.1, (u68.2.2.2.2.1, ()))))))))] : List Y7))
some (.inl (((w64 (v.1.1 + 1)), ()), (((), ()), ((v.2.2.1.1, ()), (((), ()), (x69, ()))))))
else none)
else (some (.inr ((), (((), ()), ((v.2.2.1.1, ()), (((), ()), (v.2.2.2.2.1, ())))))))

def l115_0_7 (v : ((Int × Unit) × (((Unit) × Unit) × (Y5 × Unit) × ((Unit) × Unit) × (List Y7) × (List Y9) × Unit))) : Option (((Int × Unit) × (((Unit) × Unit) × (Y5 × Unit) × ((Unit) × Unit) × (List Y7) × (List Y9) × Unit)) ⊕ ((Unit) × (((Unit) × Unit) × ((Unit) × Unit) × (Y5 × Unit) × (List Y7) × (List Y9) × Unit))) :=
let x71 := (decide ((v.1.1 : Int) < (v.2.2.1.1.2.1.length : Int)))
bif x71 then (Abs.rowAt v.2.2.1.1.2.1 v.1.1 fun e72 _ =>
bif (decide (0 + e72.2.2.2.2.2.2.2.1.length ≤ 4294967296)) then
bif (decide (v.2.2.2.2.2.1.length + ([e72] : List Y9).length ≤ 4294967296)) then
let x73 := (v.2.2.2.2.2.1 ++ ([e72] : List Y9))
some (.inl (((w64 (v.1.1 + 1)), ()), (((), ()), ((v.2.2.1.1, ()), (((), ()), (v.2.2.2.2.1, (x73, ())))))))
else none
else none)
else (some (.inr ((), (((), ()), (((), ()), ((v.2.2.1.1, ()), (v.2.2.2.2.1, (v.2.2.2.2.2.1, ()))))))))

/- pagewatch/pagewatchref34.Copy -/
def i115 : Abs.Sg := ⟨[0], (.dat Z8 .nil), .nil⟩

def o115 : Abs.Sg := ⟨[2], (.st (.ptr (0, 0) 4 0 0) .nil), (.box 4 (.agg (.st (.own Z3 (1, 0)) (.st (.own Z4 (2, 0)) (.st (.own .bool (3, 0)) (.st (.own Z12 (4, 0)) .nil)))) .nil) (.arr Z3 false (.arr Z4 false (.arr .bool false (.arr Z12 false .nil)))))⟩

def m115 (v : ((Y5 × Unit) × (Unit))) : Option ((Unit) × Y15) :=
(loopT l115_0_3 ((0, ()), (((), ()), ((v.1.1, ()), (((), ()), ([], ())))))).bind fun d70 =>
(loopT l115_0_7 ((0, ()), (((), ()), ((d70.2.2.1.1, ()), (((), ()), (d70.2.2.2.2.1, ([], ()))))))).bind fun d74 =>
bif (decide (0 + d74.2.2.2.1.1.2.2.1.length ≤ 4294967296)) then
bif (decide (0 + d74.2.2.2.1.1.2.2.2.1.length ≤ 4294967296)) then
some ((), (((), ()), (d74.2.2.2.2.1, (d74.2.2.2.2.2.1, (d74.2.2.2.1.1.2.2.1, (d74.2.2.2.1.1.2.2.2.1, ()))))))
else none
else none

def sp115 : Abs.Spec := ⟨0, i115, o115, m115⟩

def an115 : Nat → Abs.FAn
  | 0 => Abs.FAn.mk (fun _ => none) (fun _ => none) (fun
    | 7 => some ⟨⟨[5, 3, 1, 2], (.dat (.int .i64) (.st (.ptr (0, 0) 4 0 0) (.st (.ptr (1, 0) 4 0 0) (.st (.ptr (2, 0) 4 0 0) .nil)))), (.box 4 (.agg (.st (.own Z3 (3, 0)) (.st (.own Z4 (4, 0)) (.st .nil (.st .nil .nil)))) .nil) (.box 4 (.dat Z8 .nil) (.box 4 (.agg (.st .nil (.st .nil (.st .nil (.st .nil .nil)))) .nil) (.arr Z3 false (.arr Z4 false .nil)))))⟩, (.one (.exit 2) ⟨[2, 3, 1], (.st (.ptr (0, 0) 4 0 0) (.st (.ptr (1, 0) 4 0 0) (.st (.ptr (2, 0) 4 0 0) .nil))), (.box 4 (.agg (.st .nil (.st .nil (.st .nil (.st .nil .nil)))) .nil) (.box 4 (.agg (.st (.own Z3 (3, 0)) (.st (.own Z4 (4, 0)) (.st .nil (.st .nil .nil)))) .nil) (.box 4 (.dat Z8 .nil) (.arr Z3 false (.arr Z4 false .nil)))))⟩)⟩
    | 3 => some ⟨⟨[4, 3, 1, 2], (.dat (.int .i64) (.st (.ptr (0, 0) 4 0 0) (.st (.ptr (1, 0) 4 0 0) (.st (.ptr (2, 0) 4 0 0) .nil)))), (.box 4 (.agg (.st (.own Z3 (3, 0)) (.st .nil (.st .nil (.st .nil .nil)))) .nil) (.box 4 (.dat Z8 .nil) (.box 4 (.agg (.st .nil (.st .nil (.st .nil (.st .nil .nil)))) .nil) (.arr Z3 false .nil))))⟩, (.one (.exit 0) ⟨[3, 1, 2], (.st (.ptr (0, 0) 4 0 0) (.st (.ptr (1, 0) 4 0 0) (.st (.ptr (2, 0) 4 0 0) .nil))), (.box 4 (.agg (.st (.own Z3 (3, 0)) (.st .nil (.st .nil (.st .nil .nil)))) .nil) (.box 4 (.dat Z8 .nil) (.box 4 (.agg (.st .nil (.st .nil (.st .nil (.st .nil .nil)))) .nil) (.arr Z3 false .nil))))⟩)⟩
    | _ => none) (fun _ _ => 0)
  | _ => {}

theorem ok115 : Abs.SpecOK Try.prog 115 sp115 :=
  Abs.specOC_of (C := ctab) (mv := mvtab) ctab_ok (n := 12) (an := an115) (T := Abs.tabOf [(80, sp80)]) good foll (Abs.tabOf_ok _ (by simp only [List.forall_mem_cons]; exact ⟨ok80, fun _ h => by cases h⟩)) rfl (by intro v; kernel_rfl)

/- pagewatch/pagewatchref32.lead -/
def i86 : Abs.Sg := ⟨[0, 1], (.dat (.int .i64) (.dat Z3 .nil)), .nil⟩

def o86 : Abs.Sg := ⟨[4], (.st (.ptr (0, 0) 8 0 0) .nil), (.box 8 (.agg (.dat (.int .i64) (.dat (.int .i64) (.dat (.int .i64) (.dat (.int .i64) (.dat (.row Z1) (.dat (.int .i64) (.dat (.row .bool) (.st (.own (.int .i64) (1, 0)) .nil)))))))) .nil) (.arr (.int .i64) false .nil))⟩

def m86 (v : ((Int × Y7 × Unit) × (Unit))) : Option ((Unit) × (((Int × Int × Int × Int × Y2 × Int × (List Bool) × Unit) × Unit) × (List Int) × Unit)) :=
bif (decide ((0 : Int) ≤ v.1.1 ∧ (v.1.1 : Int) ≤ v.1.1 ∧ (v.1.1 : Int) ≤ 4294967296)) then
bif (decide ((0 : Int) ≤ v.1.2.1.1 ∧ (v.1.2.1.1 : Int) < (List.replicate v.1.1.toNat (0 : Int)).length)) then
bif (decide (v.1.2.1.1.toNat < (List.replicate v.1.1.toNat (0 : Int)).length)) then
some ((), (((v.1.2.1.1, (v.1.2.1.2.1, (v.1.2.1.2.2.1, (2, (v.1.2.1.2.2.2.2.1, (v.1.2.1.2.2.2.2.2.1, (v.1.2.1.2.2.2.2.2.2.1, ()))))))), ()), (((List.replicate v.1.1.toNat (0 : Int)).set v.1.2.1.1.toNat (v.1.2.1.2.2.2.2.1.length : Int)), ())))
else none
else none
else none

def sp86 : Abs.Spec := ⟨0, i86, o86, m86⟩

def an86 : Nat → Abs.FAn
  | _ => {}

theorem ok86 : Abs.SpecOK Try.prog 86 sp86 :=
  Abs.specOC_of (C := ctab) (mv := mvtab) ctab_ok (n := 12) (an := an86) (T := Abs.tabOf []) good foll (Abs.tabOf_ok _ (fun _ h => by cases h)) rfl (by intro v; kernel_rfl)

/- pagewatch/pagewatchref32.Last -/
def i22 : Abs.Sg := ⟨[0], (.dat Z3 .nil), .nil⟩

def o22 : Abs.Sg := ⟨[2], (.dat (.int .i64) .nil), .nil⟩

def m22 (v : ((Y7 × Unit) × (Unit))) : Option ((Int × Unit) × (Unit)) :=
bif (((v.1.1.2.2.2.2.1.length : Int) : Int) == 0) then (some ((0, ()), ()))
else (Abs.rowAt v.1.1.2.2.2.2.1 (w64 ((v.1.1.2.2.2.2.1.length : Int) - 1)) fun e2 _ =>
some ((e2.1, ()), ()))

def sp22 : Abs.Spec := ⟨0, i22, o22, m22⟩

def an22 : Nat → Abs.FAn
  | _ => {}

theorem ok22 : Abs.SpecOK Try.prog 22 sp22 :=
  Abs.specOC_of (C := ctab) (mv := mvtab) ctab_ok (n := 12) (an := an22) (T := Abs.tabOf []) good foll (Abs.tabOf_ok _ (fun _ h => by cases h)) rfl (by intro v; kernel_rfl)

/- pagewatch/pagewatchref34.wire -/
def i136 : Abs.Sg := ⟨[0, 1], (.dat Z8 (.dat (.int .i64) .nil)), .nil⟩

def o136 : Abs.Sg := ⟨[4], (.dat (.int .i64) .nil), .nil⟩

def m136 (v : Y22) : Option ((Int × Unit) × (Unit)) :=
(m71 ((v.1.1, ()), ())).bind fun u8 =>
bif (!u8.1.1) then (some ((8, ()), ()))
else ((m45 ((v.1.2.1, (0, ((w64 ((v.1.1.2.1.length : Int) - 1)), ()))), ())).bind fun u9 =>
bif (!u9.1.1) then (some ((3, ()), ()))
else (some ((0, ()), ())))

def sp136 : Abs.Spec := ⟨0, i136, o136, m136⟩

def an136 : Nat → Abs.FAn
  | _ => {}

theorem ok136 : Abs.SpecOK Try.prog 136 sp136 :=
  Abs.specOC_of (C := ctab) (mv := mvtab) ctab_ok (n := 12) (an := an136) (T := Abs.tabOf [(71, sp71), (45, sp45)]) good foll (Abs.tabOf_ok _ (by simp only [List.forall_mem_cons]; exact ⟨ok71, ok45, fun _ h => by cases h⟩)) rfl (by intro v; kernel_rfl)

/- pagewatch/pagewatchref32.To -/
def i88 : Abs.Sg := ⟨[0, 1, 2, 3], (.dat (.int .i64) (.dat Z3 (.dat Z4 (.dat (.int .i64) .nil)))), .nil⟩

def o88 : Abs.Sg := ⟨[8], (.dat .bool .nil), .nil⟩

def m88 (v : ((Int × Y7 × Y9 × Int × Unit) × (Unit))) : Option Y16 :=
(((m27 ((v.1.1, (v.1.2.1, ())), ())).bind fun u7 =>
bif u7.1.1 then (bif ((v.1.2.2.1.1 : Int) == v.1.2.2.2.1) then (bif ((v.1.2.2.1.2.2.1 : Int) == v.1.2.1.1) then ((m45 ((v.1.2.2.1.2.1, (0, ((w64 (v.1.1 - 1)), ()))), ())).bind fun u8 =>
bif u8.1.1 then (bif ((v.1.2.2.1.2.1 : Int) != v.1.2.1.1) then ((m45 ((v.1.2.2.1.2.2.2.1, (1, (1048576, ()))), ())).bind fun u9 =>
some ((u9.1.1, ()), ()))
else (some ((false, ()), ())))
else (some ((false, ()), ())))
else (some ((false, ()), ())))
else (some ((false, ()), ())))
else (some ((false, ()), ()))) : Option Y16).bind fun v10 =>
some ((v10.1.1, ()), ())

def sp88 : Abs.Spec := ⟨0, i88, o88, m88⟩

def an88 : Nat → Abs.FAn
  | 0 => Abs.FAn.mk (fun
    | 1 => some ⟨[8], (.dat .bool .nil), .nil⟩
    | _ => none) (fun _ => none) (fun _ => none) (fun _ _ => 0)
  | _ => {}

theorem ok88 : Abs.SpecOK Try.prog 88 sp88 :=
  Abs.specOC_of (C := ctab) (mv := mvtab) ctab_ok (n := 12) (an := an88) (T := Abs.tabOf [(27, sp27), (45, sp45)]) good foll (Abs.tabOf_ok _ (by simp only [List.forall_mem_cons]; exact ⟨ok27, ok45, fun _ h => by cases h⟩)) rfl (by intro v; kernel_rfl)

/- pagewatch/pagewatchref32.Follow -/
def i89 : Abs.Sg := ⟨[0, 1], (.dat Z3 (.dat (.int .i64) .nil)), .nil⟩

def o89 : Abs.Sg := ⟨[4], (.st (.ptr (0, 0) 8 0 0) .nil), (.box 8 (.dat Z3 .nil) .nil)⟩

def m89 (v : ((Y7 × Int × Unit) × (Unit))) : Option ((Unit) × ((Y7 × Unit) × Unit)) :=
((bif (decide ((v.1.2.1 : Int) > v.1.1.2.1)) then (some ((), (((0, (0, (0, (0, (0, ()))))), ()), (((v.1.1.1, (v.1.2.1, ((-1), (0, (v.1.1.2.2.2.2.1, (v.1.1.2.2.2.2.2.1, ([], ([], ())))))))), ()), ()))))
else (some ((), (((0, (0, (0, (0, (0, ()))))), ()), ((v.1.1, ()), ()))))) : Option ((Unit) × (Y11 × (Y7 × Unit) × Unit))).bind fun v1 =>
some ((), ((v1.2.2.1.1, ()), ()))

def sp89 : Abs.Spec := ⟨0, i89, o89, m89⟩

def an89 : Nat → Abs.FAn
  | 0 => Abs.FAn.mk (fun _ => none) (fun
    | 3 => some (⟨[4, 2], (.st (.ptr (0, 0) 8 0 0) (.st (.ptr (1, 0) 8 0 0) .nil)), (.box 8 (.agg (.dat (.int .i64) (.dat (.int .i64) (.dat (.int .i64) (.dat (.int .i64) (.st .nil (.dat (.int .i64) (.st .nil (.st .nil .nil)))))))) .nil) (.box 8 (.dat Z3 .nil) .nil))⟩, none)
    | _ => none) (fun _ => none) (fun _ _ => 0)
  | _ => {}

theorem ok89 : Abs.SpecOK Try.prog 89 sp89 :=
  Abs.specOC_of (C := ctab) (mv := mvtab) ctab_ok (n := 12) (an := an89) (T := Abs.tabOf []) good foll (Abs.tabOf_ok _ (fun _ h => by cases h)) rfl (by intro v; kernel_rfl)

/- pagewatch/pagewatchref32.Fresh -/
def i38 : Abs.Sg := ⟨[0, 1, 2], (.dat Z3 (.dat (.int .i64) (.dat (.int .i64) .nil))), .nil⟩

def o38 : Abs.Sg := ⟨[6], (.dat .bool .nil), .nil⟩

def m38 (v : ((Y7 × Int × Int × Unit) × (Unit))) : Option Y16 :=
(((m22 ((v.1.1, ()), ())).bind fun u7 =>
bif (decide ((v.1.2.2.1 : Int) > u7.1.1)) then (some ((true, ()), ()))
else ((m22 ((v.1.1, ()), ())).bind fun u8 =>
bif ((v.1.2.2.1 : Int) == u8.1.1) then (let x9 := (decide ((v.1.2.1 : Int) ≥ (v.1.1.2.2.2.2.1.length : Int)))
some ((x9, ()), ()))
else (some ((false, ()), ())))) : Option Y16).bind fun v10 =>
some ((v10.1.1, ()), ())

def sp38 : Abs.Spec := ⟨0, i38, o38, m38⟩

def an38 : Nat → Abs.FAn
  | 0 => Abs.FAn.mk (fun
    | 1 => some ⟨[6], (.dat .bool .nil), .nil⟩
    | _ => none) (fun _ => none) (fun _ => none) (fun _ _ => 0)
  | _ => {}

theorem ok38 : Abs.SpecOK Try.prog 38 sp38 :=
  Abs.specOC_of (C := ctab) (mv := mvtab) ctab_ok (n := 12) (an := an38) (T := Abs.tabOf [(22, sp22)]) good foll (Abs.tabOf_ok _ (by simp only [List.forall_mem_cons]; exact ⟨ok22, fun _ h => by cases h⟩)) rfl (by intro v; kernel_rfl)

/- pagewatch/pagewatchref32.Hear -/
def i34 : Abs.Sg := ⟨[0, 1, 2], (.dat (.int .i64) (.dat Z3 (.dat Z4 .nil))), .nil⟩

def o34 : Abs.Sg := ⟨[6, 7, 8], (.st (.ptr (0, 0) 8 0 0) (.st (.ptr (1, 0) 9 0 0) (.dat .bool .nil))), (.box 8 (.dat Z3 .nil) (.box 9 (.agg (.dat (.int .i64) (.dat (.int .i64) (.dat (.int .i64) (.dat (.int .i64) (.dat (.int .i64) (.dat (.int .i64) (.dat (.int .i64) (.st .nil (.dat .bool .nil))))))))) .nil) .nil))⟩

def m34 (v : ((Int × Y7 × Y9 × Unit) × (Unit))) : Option ((Bool × Unit) × ((Y7 × Unit) × Y18 × Unit)) :=
(m88 ((v.1.1, (v.1.2.1, (v.1.2.2.1, (1, ())))), ())).bind fun u22 =>
bif (!u22.1.1) then ((m80 ((v.1.2.1, ()), ())).bind fun u23 =>
some ((false, ()), (((u23.2.1.1.1, (u23.2.1.1.2.1, (u23.2.1.1.2.2.1, (u23.2.1.1.2.2.2.1, (u23.2.2.1, (u23.2.1.1.2.2.2.2.1, (u23.2.2.2.1, (u23.2.2.2.2.1, ())))))))), ()), (((0, (0, (0, (0, (0, (0, (0, (false, ())))))))), ()), ()))))
else ((m80 ((v.1.2.1, ()), ())).bind fun u24 =>
(m89 (((u24.2.1.1.1, (u24.2.1.1.2.1, (u24.2.1.1.2.2.1, (u24.2.1.1.2.2.2.1, (u24.2.2.1, (u24.2.1.1.2.2.2.2.1, (u24.2.2.2.1, (u24.2.2.2.2.1, ())))))))), (v.1.2.2.1.2.2.2.1, ())), ())).bind fun u25 =>
((bif ((u25.2.1.1.2.1 : Int) == v.1.2.2.1.2.2.2.1) then (bif ((u25.2.1.1.2.2.1 : Int) == (-1)) then (bif ((u25.2.1.1.2.2.2.1 : Int) == 0) then ((m38 ((u25.2.1.1, (v.1.2.2.1.2.2.2.2.1, (v.1.2.2.1.2.2.2.2.2.1, ()))), ())).bind fun u26 =>
some ((u26.1.1, ()), (((0, (0, (0, (0, (0, ()))))), ()), (((0, (0, (0, (0, (0, (0, (0, (false, ())))))))), ()), ((u25.2.1.1, ()), ((v.1.2.2.1, ()), ((v.1.2.1, ()), ())))))))
else (some ((false, ()), (((0, (0, (0, (0, (0, ()))))), ()), (((0, (0, (0, (0, (0, (0, (0, (false, ())))))))), ()), ((u25.2.1.1, ()), ((v.1.2.2.1, ()), ((v.1.2.1, ()), ()))))))))
else (bif ((u25.2.1.1.2.2.1 : Int) == v.1.2.2.1.2.1) then (bif ((u25.2.1.1.2.2.2.1 : Int) == 0) then ((m38 ((u25.2.1.1, (v.1.2.2.1.2.2.2.2.1, (v.1.2.2.1.2.2.2.2.2.1, ()))), ())).bind fun u27 =>
some ((u27.1.1, ()), (((0, (0, (0, (0, (0, ()))))), ()), (((0, (0, (0, (0, (0, (0, (0, (false, ())))))))), ()), ((u25.2.1.1, ()), ((v.1.2.2.1, ()), ((v.1.2.1, ()), ())))))))
else (some ((false, ()), (((0, (0, (0, (0, (0, ()))))), ()), (((0, (0, (0, (0, (0, (0, (0, (false, ())))))))), ()), ((u25.2.1.1, ()), ((v.1.2.2.1, ()), ((v.1.2.1, ()), ()))))))))
else (some ((false, ()), (((0, (0, (0, (0, (0, ()))))), ()), (((0, (0, (0, (0, (0, (0, (0, (false, ())))))))), ()), ((u25.2.1.1, ()), ((v.1.2.2.1, ()), ((v.1.2.1, ()), ())))))))))
else (some ((false, ()), (((0, (0, (0, (0, (0, ()))))), ()), (((0, (0, (0, (0, (0, (0, (0, (false, ())))))))), ()), ((u25.2.1.1, ()), ((v.1.2.2.1, ()), ((v.1.2.1, ()), ())))))))) : Option ((Bool × Unit) × (Y11 × Y18 × (Y7 × Unit) × (Y9 × Unit) × (Y7 × Unit) × Unit))).bind fun v28 =>
((bif v28.1.1 then (some ((v28.1.1, ()), (((v28.2.1.1.1, (v28.2.1.1.2.1, (v28.2.1.1.2.2.1, (v28.2.1.1.2.2.2.1, (v28.2.1.1.2.2.2.2.1, ()))))), ()), (((v28.2.2.1.1.1, (v28.2.2.1.1.2.1, (v28.2.2.1.1.2.2.1, (v28.2.2.1.1.2.2.2.1, (v28.2.2.1.1.2.2.2.2.1, (v28.2.2.1.1.2.2.2.2.2.1, (v28.2.2.1.1.2.2.2.2.2.2.1, (v28.2.2.1.1.2.2.2.2.2.2.2.1, ())))))))), ()), (((v28.2.2.2.1.1.1, (v28.2.2.2.1.1.2.1, (v28.2.2.2.2.1.1.2.1, v28.2.2.2.1.1.2.2.2))), ()), ((v28.2.2.2.2.1.1, ()), ((v28.2.2.2.2.2.1.1, ()), ())))))))
else (some ((v28.1.1, ()), (((v28.2.1.1.1, (v28.2.1.1.2.1, (v28.2.1.1.2.2.1, (v28.2.1.1.2.2.2.1, (v28.2.1.1.2.2.2.2.1, ()))))), ()), (((v28.2.2.1.1.1, (v28.2.2.1.1.2.1, (v28.2.2.1.1.2.2.1, (v28.2.2.1.1.2.2.2.1, (v28.2.2.1.1.2.2.2.2.1, (v28.2.2.1.1.2.2.2.2.2.1, (v28.2.2.1.1.2.2.2.2.2.2.1, (v28.2.2.1.1.2.2.2.2.2.2.2.1, ())))))))), ()), ((v28.2.2.2.1.1, ()), ((v28.2.2.2.2.1.1, ()), ((v28.2.2.2.2.2.1.1, ()), ())))))))) : Option ((Bool × Unit) × (Y11 × Y18 × (Y7 × Unit) × (Y9 × Unit) × (Y7 × Unit) × Unit))).bind fun v29 =>
some ((true, ()), ((v29.2.2.2.1.1, ()), (((2, (v29.2.2.2.2.2.1.1.1, (v29.2.2.2.2.1.1.2.1, (v29.2.2.2.1.1.2.1, (0, (0, (0, (v29.1.1, ())))))))), ()), ()))))

def sp34 : Abs.Spec := ⟨0, i34, o34, m34⟩

def an34 : Nat → Abs.FAn
  | 0 => Abs.FAn.mk (fun
    | 4 => some ⟨[6, 7, 10, 9, 5, 4], (.st (.ptr (0, 0) 8 0 0) (.st (.ptr (1, 0) 9 0 0) (.dat .bool (.st (.ptr (2, 0) 8 0 0) (.st (.ptr (3, 0) 9 0 0) (.st (.ptr (4, 0) 8 0 0) .nil)))))), (.box 8 (.agg (.dat (.int .i64) (.dat (.int .i64) (.dat (.int .i64) (.dat (.int .i64) (.st .nil (.dat (.int .i64) (.st .nil (.st .nil .nil)))))))) .nil) (.box 9 (.agg (.dat (.int .i64) (.dat (.int .i64) (.dat (.int .i64) (.dat (.int .i64) (.dat (.int .i64) (.dat (.int .i64) (.dat (.int .i64) (.st .nil (.dat .bool .nil))))))))) .nil) (.box 8 (.dat Z3 .nil) (.box 9 (.dat Z4 .nil) (.box 8 (.dat Z3 .nil) .nil)))))⟩
    | _ => none) (fun
    | 7 => some (⟨[6, 7, 10, 9, 5, 4], (.st (.ptr (0, 0) 8 0 0) (.st (.ptr (1, 0) 9 0 0) (.dat .bool (.st (.ptr (2, 0) 8 0 0) (.st (.ptr (3, 0) 9 0 0) (.st (.ptr (4, 0) 8 0 0) .nil)))))), (.box 8 (.agg (.dat (.int .i64) (.dat (.int .i64) (.dat (.int .i64) (.dat (.int .i64) (.st .nil (.dat (.int .i64) (.st .nil (.st .nil .nil)))))))) .nil) (.box 9 (.agg (.dat (.int .i64) (.dat (.int .i64) (.dat (.int .i64) (.dat (.int .i64) (.dat (.int .i64) (.dat (.int .i64) (.dat (.int .i64) (.st .nil (.dat .bool .nil))))))))) .nil) (.box 8 (.dat Z3 .nil) (.box 9 (.dat Z4 .nil) (.box 8 (.dat Z3 .nil) .nil)))))⟩, none)
    | _ => none) (fun _ => none) (fun _ _ => 0)
  | _ => {}

theorem ok34 : Abs.SpecOK Try.prog 34 sp34 :=
  Abs.specOC_of (C := ctab) (mv := mvtab) ctab_ok (n := 12) (an := an34) (T := Abs.tabOf [(88, sp88), (80, sp80), (89, sp89), (38, sp38)]) good foll (Abs.tabOf_ok _ (by simp only [List.forall_mem_cons]; exact ⟨ok88, ok80, ok89, ok38, fun _ h => by cases h⟩)) rfl (by intro v; kernel_rfl)

def l37_0_11 (v : (Y21 × Y19)) : Option ((Y21 × Y19) ⊕ ((Int × Int × Unit) × Y19)) :=
bif (decide ((v.1.1 : Int) < v.1.2.2.1)) then (((bif (decide ((0 : Int) ≤ v.1.1 ∧ (v.1.1 : Int) < v.2.2.2.2.1.length)) then
(v.2.2.2.2.1[v.1.1.toNat]?).bind fun e42 =>
bif e42 then (some (((w64 (v.1.2.1 + 1)), (v.1.2.2.1, (v.1.1, ()))), (((v.2.1.1.1, (v.2.1.1.2.1, (v.2.1.1.2.2.1, (v.2.1.1.2.2.2.1, (v.2.1.1.2.2.2.2.1, ()))))), ()), (((v.2.2.1.1.1, (v.2.2.1.1.2.1, (v.2.2.1.1.2.2.1, (v.2.2.1.1.2.2.2.1, (v.2.2.1.1.2.2.2.2.1, ()))))), ()), (v.2.2.2.1, (v.2.2.2.2.1, (v.2.2.2.2.2.1, ())))))))
else (some ((v.1.2.1, (v.1.2.2.1, (v.1.1, ()))), (((v.2.1.1.1, (v.2.1.1.2.1, (v.2.1.1.2.2.1, (v.2.1.1.2.2.2.1, (v.2.1.1.2.2.2.2.1, ()))))), ()), (((v.2.2.1.1.1, (v.2.2.1.1.2.1, (v.2.2.1.1.2.2.1, (v.2.2.1.1.2.2.2.1, (v.2.2.1.1.2.2.2.2.1, ()))))), ()), (v.2.2.2.1, (v.2.2.2.2.1, (v.2.2.2.2.2.1, ())))))))
else none) : Option (Y21 × Y19)).bind fun v43 =>
some (.inl (((w64 (v43.1.2.2.1 + 1)), (v43.1.1, (v43.1.2.1, ()))), (((v43.2.1.1.1, (v43.2.1.1.2.1, (v43.2.1.1.2.2.1, (v43.2.1.1.2.2.2.1, (v43.2.1.1.2.2.2.2.1, ()))))), ()), (((v43.2.2.1.1.1, (v43.2.2.1.1.2.1, (v43.2.2.1.1.2.2.1, (v43.2.2.1.1.2.2.2.1, (v43.2.2.1.1.2.2.2.2.1, ()))))), ()), (v43.2.2.2.1, (v43.2.2.2.2.1, (v43.2.2.2.2.2.1, ()))))))))
else (some (.inr ((v.1.2.2.1, (v.1.2.1, ())), (((v.2.2.1.1.1, (v.2.2.1.1.2.1, (v.2.2.1.1.2.2.1, (v.2.2.1.1.2.2.2.1, (v.2.2.1.1.2.2.2.2.1, ()))))), ()), (((v.2.1.1.1, (v.2.1.1.2.1, (v.2.1.1.2.2.1, (v.2.1.1.2.2.2.1, (v.2.1.1.2.2.2.2.1, ()))))), ()), (v.2.2.2.1, (v.2.2.2.2.1, (v.2.2.2.2.2.1, ()))))))))

/- pagewatch/pagewatchref32.Voted -/
def i37 : Abs.Sg := ⟨[0, 1, 2], (.dat (.int .i64) (.dat Z3 (.dat Z4 .nil))), .nil⟩

def o37 : Abs.Sg := ⟨[6], (.st (.ptr (0, 0) 8 0 0) .nil), (.box 8 (.dat Z3 .nil) .nil)⟩

def m37 (v : ((Int × Y7 × Y9 × Unit) × (Unit))) : Option ((Unit) × ((Y7 × Unit) × Unit)) :=
(m80 ((v.1.2.1, ()), ())).bind fun u37 =>
(m88 ((v.1.1, (v.1.2.1, (v.1.2.2.1, (2, ())))), ())).bind fun u38 =>
bif (!u38.1.1) then (some ((), (((u37.2.1.1.1, (u37.2.1.1.2.1, (u37.2.1.1.2.2.1, (u37.2.1.1.2.2.2.1, (u37.2.2.1, (u37.2.1.1.2.2.2.2.1, (u37.2.2.2.1, (u37.2.2.2.2.1, ())))))))), ()), ())))
else (let x39 := (decide ((v.1.2.2.1.2.2.2.1 : Int) > v.1.2.1.2.1))
bif x39 then ((m89 (((u37.2.1.1.1, (u37.2.1.1.2.1, (u37.2.1.1.2.2.1, (u37.2.1.1.2.2.2.1, (u37.2.2.1, (u37.2.1.1.2.2.2.2.1, (u37.2.2.2.1, (u37.2.2.2.2.1, ())))))))), (v.1.2.2.1.2.2.2.1, ())), ())).bind fun u40 =>
some ((), ((u40.2.1.1, ()), ())))
else (((bif ((v.1.2.1.2.2.2.1 : Int) != 1) then (some ((true, (v.1.1, ())), (((0, (0, (0, (0, (0, ()))))), ()), (((u37.2.1.1.1, (u37.2.1.1.2.1, (u37.2.1.1.2.2.1, (u37.2.1.1.2.2.2.1, (u37.2.1.1.2.2.2.2.1, ()))))), ()), ((v.1.2.2.1, ()), (u37.2.2.1, (u37.2.2.2.1, (u37.2.2.2.2.1, ()))))))))
else (bif ((v.1.2.2.1.2.2.2.1 : Int) != v.1.2.1.2.1) then (some ((true, (v.1.1, ())), (((0, (0, (0, (0, (0, ()))))), ()), (((u37.2.1.1.1, (u37.2.1.1.2.1, (u37.2.1.1.2.2.1, (u37.2.1.1.2.2.2.1, (u37.2.1.1.2.2.2.2.1, ()))))), ()), ((v.1.2.2.1, ()), (u37.2.2.1, (u37.2.2.2.1, (u37.2.2.2.2.1, ()))))))))
else (some (((!v.1.2.2.1.2.2.2.2.2.2.2.2.1), (v.1.1, ())), (((0, (0, (0, (0, (0, ()))))), ()), (((u37.2.1.1.1, (u37.2.1.1.2.1, (u37.2.1.1.2.2.1, (u37.2.1.1.2.2.2.1, (u37.2.1.1.2.2.2.2.1, ()))))), ()), ((v.1.2.2.1, ()), (u37.2.2.1, (u37.2.2.2.1, (u37.2.2.2.2.1, ())))))))))) : Option ((Bool × Int × Unit) × (Y11 × Y11 × (Y9 × Unit) × Y2 × (List Bool) × (List Int) × Unit))).bind fun v41 =>
bif v41.1.1 then (some ((), (((v41.2.2.1.1.1, (v41.2.2.1.1.2.1, (v41.2.2.1.1.2.2.1, (v41.2.2.1.1.2.2.2.1, (v41.2.2.2.2.1, (v41.2.2.1.1.2.2.2.2.1, (v41.2.2.2.2.2.1, (v41.2.2.2.2.2.2.1, ())))))))), ()), ())))
else (bif (decide ((0 : Int) ≤ v41.2.2.2.1.1.2.1 ∧ (v41.2.2.2.1.1.2.1 : Int) < v41.2.2.2.2.2.1.length)) then
bif (decide (v41.2.2.2.1.1.2.1.toNat < v41.2.2.2.2.2.1.length)) then
(loopT l37_0_11 ((0, (0, (v41.1.2.1, ()))), (((v41.2.2.1.1.1, (v41.2.2.1.1.2.1, (v41.2.2.1.1.2.2.1, (v41.2.2.1.1.2.2.2.1, (v41.2.2.1.1.2.2.2.2.1, ()))))), ()), (((v41.2.1.1.1, (v41.2.1.1.2.1, (v41.2.1.1.2.2.1, (v41.2.1.1.2.2.2.1, (v41.2.1.1.2.2.2.2.1, ()))))), ()), (v41.2.2.2.2.1, ((v41.2.2.2.2.2.1.set v41.2.2.2.1.1.2.1.toNat true), (v41.2.2.2.2.2.2.1, ()))))))).bind fun d44 =>
(((m29 ((d44.1.1, ()), ())).bind fun u45 =>
bif (decide ((d44.1.2.1 : Int) ≥ u45.1.1)) then ((m86 ((d44.1.1, ((d44.2.2.1.1.1, (d44.2.2.1.1.2.1, (d44.2.2.1.1.2.2.1, (d44.2.2.1.1.2.2.2.1, (d44.2.2.2.1, (d44.2.2.1.1.2.2.2.2.1, (d44.2.2.2.2.1, (d44.2.2.2.2.2.1, ())))))))), ())), ())).bind fun u46 =>
some ((), (((d44.2.1.1.1, (d44.2.1.1.2.1, (d44.2.1.1.2.2.1, (d44.2.1.1.2.2.2.1, (d44.2.1.1.2.2.2.2.1, ()))))), ()), (((u46.2.1.1.1, (u46.2.1.1.2.1, (u46.2.1.1.2.2.1, (u46.2.1.1.2.2.2.1, (u46.2.1.1.2.2.2.2.1, (u46.2.1.1.2.2.2.2.2.1, (u46.2.1.1.2.2.2.2.2.2.1, ()))))))), ()), (u46.2.2.1, ())))))
else (some ((), (((d44.2.1.1.1, (d44.2.1.1.2.1, (d44.2.1.1.2.2.1, (d44.2.1.1.2.2.2.1, (d44.2.1.1.2.2.2.2.1, ()))))), ()), (((d44.2.2.1.1.1, (d44.2.2.1.1.2.1, (d44.2.2.1.1.2.2.1, (d44.2.2.1.1.2.2.2.1, (d44.2.2.2.1, (d44.2.2.1.1.2.2.2.2.1, (d44.2.2.2.2.1, ()))))))), ()), (d44.2.2.2.2.2.1, ())))))) : Option ((Unit) × (Y11 × ((Int × Int × Int × Int × Y2 × Int × (List Bool) × Unit) × Unit) × (List Int) × Unit))).bind fun v47 =>
some ((), (((v47.2.2.1.1.1, (v47.2.2.1.1.2.1, (v47.2.2.1.1.2.2.1, (v47.2.2.1.1.2.2.2.1, (v47.2.2.1.1.2.2.2.2.1, (v47.2.2.1.1.2.2.2.2.2.1, (v47.2.2.1.1.2.2.2.2.2.2.1, (v47.2.2.2.1, ())))))))), ()), ()))
else none
else none)))

def sp37 : Abs.Spec := ⟨0, i37, o37, m37⟩

def an37 : Nat → Abs.FAn
  | 0 => Abs.FAn.mk (fun
    | 6 => some ⟨[41, 6, 7, 0, 5], (.dat .bool (.st (.ptr (0, 0) 8 0 0) (.st (.ptr (1, 0) 8 0 0) (.dat (.int .i64) (.st (.ptr (2, 0) 9 0 0) .nil))))), (.box 8 (.agg (.dat (.int .i64) (.dat (.int .i64) (.dat (.int .i64) (.dat (.int .i64) (.st .nil (.dat (.int .i64) (.st .nil (.st .nil .nil)))))))) .nil) (.box 8 (.agg (.dat (.int .i64) (.dat (.int .i64) (.dat (.int .i64) (.dat (.int .i64) (.st (.own Z1 (3, 0)) (.dat (.int .i64) (.st (.own .bool (4, 0)) (.st (.own (.int .i64) (5, 0)) .nil)))))))) .nil) (.box 9 (.dat Z4 .nil) (.arr Z1 false (.arr .bool false (.arr (.int .i64) false .nil))))))⟩
    | _ => none) (fun
    | 17 => some (⟨[6, 7], (.st (.ptr (0, 0) 8 0 0) (.st (.ptr (1, 0) 8 0 0) .nil)), (.box 8 (.agg (.dat (.int .i64) (.dat (.int .i64) (.dat (.int .i64) (.dat (.int .i64) (.st .nil (.dat (.int .i64) (.st .nil (.st .nil .nil)))))))) .nil) (.box 8 (.agg (.dat (.int .i64) (.dat (.int .i64) (.dat (.int .i64) (.dat (.int .i64) (.dat (.row Z1) (.dat (.int .i64) (.dat (.row .bool) (.st (.own (.int .i64) (2, 0)) .nil)))))))) .nil) (.arr (.int .i64) false .nil)))⟩, none)
    | 12 => some (⟨[8, 7, 6, 0, 9], (.dat (.int .i64) (.st (.ptr (0, 0) 8 0 0) (.st (.ptr (1, 0) 8 0 0) (.dat (.int .i64) (.dat (.int .i64) .nil))))), (.box 8 (.agg (.dat (.int .i64) (.dat (.int .i64) (.dat (.int .i64) (.dat (.int .i64) (.st (.own Z1 (2, 0)) (.dat (.int .i64) (.st (.own .bool (3, 0)) (.st (.own (.int .i64) (4, 0)) .nil)))))))) .nil) (.box 8 (.agg (.dat (.int .i64) (.dat (.int .i64) (.dat (.int .i64) (.dat (.int .i64) (.st .nil (.dat (.int .i64) (.st .nil (.st .nil .nil)))))))) .nil) (.arr Z1 false (.arr .bool false (.arr (.int .i64) false .nil)))))⟩, none)
    | _ => none) (fun
    | 11 => some ⟨⟨[9, 8, 7, 6, 0], (.dat (.int .i64) (.dat (.int .i64) (.st (.ptr (0, 0) 8 0 0) (.st (.ptr (1, 0) 8 0 0) (.dat (.int .i64) .nil))))), (.box 8 (.agg (.dat (.int .i64) (.dat (.int .i64) (.dat (.int .i64) (.dat (.int .i64) (.st (.own Z1 (2, 0)) (.dat (.int .i64) (.st (.own .bool (3, 0)) (.st (.own (.int .i64) (4, 0)) .nil)))))))) .nil) (.box 8 (.agg (.dat (.int .i64) (.dat (.int .i64) (.dat (.int .i64) (.dat (.int .i64) (.st .nil (.dat (.int .i64) (.st .nil (.st .nil .nil)))))))) .nil) (.arr Z1 false (.arr .bool false (.arr (.int .i64) false .nil)))))⟩, (.one (.exit 0) ⟨[6, 7, 0, 8], (.st (.ptr (0, 0) 8 0 0) (.st (.ptr (1, 0) 8 0 0) (.dat (.int .i64) (.dat (.int .i64) .nil)))), (.box 8 (.agg (.dat (.int .i64) (.dat (.int .i64) (.dat (.int .i64) (.dat (.int .i64) (.st .nil (.dat (.int .i64) (.st .nil (.st .nil .nil)))))))) .nil) (.box 8 (.agg (.dat (.int .i64) (.dat (.int .i64) (.dat (.int .i64) (.dat (.int .i64) (.st (.own Z1 (2, 0)) (.dat (.int .i64) (.st (.own .bool (3, 0)) (.st (.own (.int .i64) (4, 0)) .nil)))))))) .nil) (.arr Z1 false (.arr .bool false (.arr (.int .i64) false .nil)))))⟩)⟩
    | _ => none) (fun _ _ => 0)
  | _ => {}

theorem ok37 : Abs.SpecOK Try.prog 37 sp37 :=
  Abs.specOC_of (C := ctab) (mv := mvtab) ctab_ok (n := 12) (an := an37) (T := Abs.tabOf [(80, sp80), (88, sp88), (89, sp89), (29, sp29), (86, sp86)]) good foll (Abs.tabOf_ok _ (by simp only [List.forall_mem_cons]; exact ⟨ok80, ok88, ok89, ok29, ok86, fun _ h => by cases h⟩)) rfl (by intro v; kernel_rfl)

def l94_0_2 (v : ((Int × Y2 × Y2 × Int × Unit) × (Unit))) : Option (((Int × Y2 × Y2 × Int × Unit) × (Unit)) ⊕ (((Int × Unit) × (Y2 × Unit)) ⊕ ((Y2 × Unit) × (Unit)))) :=
let x46 := (decide ((v.1.1 : Int) < (v.1.2.1.length : Int)))
bif x46 then (((let x47 := (decide (((w64 (v.1.2.2.2.1 + v.1.1)) : Int) ≥ (v.1.2.2.1.length : Int)))
bif x47 then (some ((true, (v.1.1, (v.1.2.1, (v.1.2.2.1, ((w64 (v.1.2.2.2.1 + v.1.1)), (v.1.2.2.2.1, ())))))), ()))
else (Abs.rowAt v.1.2.2.1 (w64 (v.1.2.2.2.1 + v.1.1)) fun e48 _ =>
Abs.rowAt v.1.2.1 v.1.1 fun e49 _ =>
some ((((e48.1 : Int) != e49.1), (v.1.1, (v.1.2.1, (v.1.2.2.1, ((w64 (v.1.2.2.2.1 + v.1.1)), (v.1.2.2.2.1, ())))))), ()))) : Option ((Bool × Int × Y2 × Y2 × Int × Int × Unit) × (Unit))).bind fun v50 =>
bif v50.1.1 then (let x51 := (if ((v50.1.2.2.2.1.length : Int) : Int) < v50.1.2.2.2.2.1 then (v50.1.2.2.2.1.length : Int) else v50.1.2.2.2.2.1)
bif (decide ((0 : Int) ≤ x51)) then
bif (decide (0 ≤ x51.toNat ∧ x51.toNat ≤ v50.1.2.2.2.1.length)) then
bif (decide (0 + (v50.1.2.2.2.1.take x51.toNat).length ≤ 4294967296)) then
bif (decide ((0 : Int) ≤ v50.1.2.1)) then
bif (decide (v50.1.2.1.toNat ≤ v50.1.2.2.1.length ∧ v50.1.2.2.1.length ≤ v50.1.2.2.1.length)) then
let x52 := ((v50.1.2.2.1.drop v50.1.2.1.toNat).take (v50.1.2.2.1.length - v50.1.2.1.toNat))
bif (decide ((v50.1.2.2.2.1.take x51.toNat).length + x52.length ≤ 4294967296)) then
some (.inr (.inl ((x51, ()), (((v50.1.2.2.2.1.take x51.toNat) ++ x52), ()))))
else none
else none
else none
else none
else none
else none)
else (some (.inl (((w64 (v50.1.2.1 + 1)), (v50.1.2.2.1, (v50.1.2.2.2.1, (v50.1.2.2.2.2.2.1, ())))), ()))))
else (some (.inr (.inr ((v.1.2.2.1, ()), ()))))

/- pagewatch/pagewatchref33.joined -/
def i94 : Abs.Sg := ⟨[0, 1, 2], (.dat (.row Z1) (.dat (.int .i64) (.dat (.row Z1) .nil))), .nil⟩

def o94 : Abs.Sg := ⟨[6, 7], (.st (.own Z1 (0, 0)) (.dat (.int .i64) .nil)), (.arr Z1 false .nil)⟩

def m94 (v : ((Y2 × Int × Y2 × Unit) × (Unit))) : Option ((Int × Unit) × (Y2 × Unit)) :=
(loopT l94_0_2 ((0, (v.1.2.2.1, (v.1.1, (v.1.2.1, ())))), ())).bind fun d53 =>
sumE d53 (fun d54 => (some ((d54.1.1, ()), (d54.2.1, ())))) (fun d55 => (bif (decide (0 + d55.1.1.length ≤ 4294967296)) then
some (((d55.1.1.length : Int), ()), (d55.1.1, ()))
else none))

def sp94 : Abs.Spec := ⟨0, i94, o94, m94⟩

def an94 : Nat → Abs.FAn
  | 0 => Abs.FAn.mk (fun
    | 5 => some ⟨[35, 8, 2, 0, 9, 1], (.dat .bool (.dat (.int .i64) (.dat (.row Z1) (.dat (.row Z1) (.dat (.int .i64) (.dat (.int .i64) .nil)))))), .nil⟩
    | _ => none) (fun _ => none) (fun
    | 2 => some ⟨⟨[8, 2, 0, 1], (.dat (.int .i64) (.dat (.row Z1) (.dat (.row Z1) (.dat (.int .i64) .nil)))), .nil⟩, (.more .ret ⟨[6, 7], (.st (.own Z1 (0, 0)) (.dat (.int .i64) .nil)), (.arr Z1 false .nil)⟩ (.one (.exit 0) ⟨[0], (.dat (.row Z1) .nil), .nil⟩))⟩
    | _ => none) (fun _ _ => 0)
  | _ => {}

theorem ok94 : Abs.SpecOK Try.prog 94 sp94 :=
  Abs.specOC_of (C := ctab) (mv := mvtab) ctab_ok (n := 12) (an := an94) (T := Abs.tabOf []) good foll (Abs.tabOf_ok _ (fun _ h => by cases h)) rfl (by intro v; kernel_rfl)

/- pagewatch/pagewatchref33.Accept -/
def i52 : Abs.Sg := ⟨[0, 1, 2], (.dat (.int .i64) (.dat Z3 (.dat Z4 .nil))), .nil⟩

def o52 : Abs.Sg := ⟨[6, 7, 8], (.st (.ptr (0, 0) 8 0 0) (.st (.ptr (1, 0) 9 0 0) (.dat .bool .nil))), (.box 8 (.dat Z3 .nil) (.box 9 (.agg (.dat (.int .i64) (.dat (.int .i64) (.dat (.int .i64) (.dat (.int .i64) (.dat (.int .i64) (.dat (.int .i64) (.dat (.int .i64) (.st .nil (.dat .bool .nil))))))))) .nil) .nil))⟩

def m52 (v : ((Int × Y7 × Y9 × Unit) × (Unit))) : Option ((Bool × Unit) × ((Y7 × Unit) × Y18 × Unit)) :=
(((m88 ((v.1.1, (v.1.2.1, (v.1.2.2.1, (3, ())))), ())).bind fun u61 =>
bif (!u61.1.1) then (some ((true, ()), (((0, (0, (0, (0, (0, ()))))), ()), (((0, (0, (0, (0, (0, (0, (0, (false, ())))))))), ()), ((v.1.2.1, ()), ((v.1.2.2.1, ()), ()))))))
else (bif (decide ((v.1.2.2.1.2.2.2.2.1 : Int) < 0)) then (some ((true, ()), (((0, (0, (0, (0, (0, ()))))), ()), (((0, (0, (0, (0, (0, (0, (0, (false, ())))))))), ()), ((v.1.2.1, ()), ((v.1.2.2.1, ()), ()))))))
else (bif (decide ((v.1.2.2.1.2.2.2.2.2.1 : Int) < 0)) then (some ((true, ()), (((0, (0, (0, (0, (0, ()))))), ()), (((0, (0, (0, (0, (0, (0, (0, (false, ())))))))), ()), ((v.1.2.1, ()), ((v.1.2.2.1, ()), ()))))))
else (some (((decide ((v.1.2.2.1.2.2.2.2.2.2.1 : Int) < 0)), ()), (((0, (0, (0, (0, (0, ()))))), ()), (((0, (0, (0, (0, (0, (0, (0, (false, ())))))))), ()), ((v.1.2.1, ()), ((v.1.2.2.1, ()), ()))))))))) : Option ((Bool × Unit) × (Y11 × Y18 × (Y7 × Unit) × (Y9 × Unit) × Unit))).bind fun v62 =>
bif v62.1.1 then ((m80 ((v62.2.2.2.1.1, ()), ())).bind fun u63 =>
some ((false, ()), (((u63.2.1.1.1, (u63.2.1.1.2.1, (u63.2.1.1.2.2.1, (u63.2.1.1.2.2.2.1, (u63.2.2.1, (u63.2.1.1.2.2.2.2.1, (u63.2.2.2.1, (u63.2.2.2.2.1, ())))))))), ()), (((0, (0, (0, (0, (0, (0, (0, (false, ())))))))), ()), ()))))
else ((m80 ((v62.2.2.2.1.1, ()), ())).bind fun u64 =>
(m89 (((u64.2.1.1.1, (u64.2.1.1.2.1, (u64.2.1.1.2.2.1, (u64.2.1.1.2.2.2.1, (u64.2.2.1, (u64.2.1.1.2.2.2.2.1, (u64.2.2.2.1, (u64.2.2.2.2.1, ())))))))), (v62.2.2.2.2.1.1.2.2.2.1, ())), ())).bind fun u65 =>
((((bif ((u65.2.1.1.2.2.2.1 : Int) == 1) then (let x66 := ((u65.2.1.1.2.1 : Int) == v62.2.2.2.2.1.1.2.2.2.1)
some ((x66, ()), (((v62.2.1.1.1, (v62.2.1.1.2.1, (v62.2.1.1.2.2.1, (v62.2.1.1.2.2.2.1, (v62.2.1.1.2.2.2.2.1, ()))))), ()), (((v62.2.2.1.1.1, (v62.2.2.1.1.2.1, (v62.2.2.1.1.2.2.1, (v62.2.2.1.1.2.2.2.1, (v62.2.2.1.1.2.2.2.2.1, (v62.2.2.1.1.2.2.2.2.2.1, (v62.2.2.1.1.2.2.2.2.2.2.1, (v62.2.2.1.1.2.2.2.2.2.2.2.1, ())))))))), ()), ((u65.2.1.1, ()), ((v62.2.2.2.1.1, ()), ((v62.2.2.2.2.1.1, ()), ())))))))
else (some ((false, ()), (((v62.2.1.1.1, (v62.2.1.1.2.1, (v62.2.1.1.2.2.1, (v62.2.1.1.2.2.2.1, (v62.2.1.1.2.2.2.2.1, ()))))), ()), (((v62.2.2.1.1.1, (v62.2.2.1.1.2.1, (v62.2.2.1.1.2.2.1, (v62.2.2.1.1.2.2.2.1, (v62.2.2.1.1.2.2.2.2.1, (v62.2.2.1.1.2.2.2.2.2.1, (v62.2.2.1.1.2.2.2.2.2.2.1, (v62.2.2.1.1.2.2.2.2.2.2.2.1, ())))))))), ()), ((u65.2.1.1, ()), ((v62.2.2.2.1.1, ()), ((v62.2.2.2.2.1.1, ()), ())))))))) : Option ((Bool × Unit) × (Y11 × Y18 × (Y7 × Unit) × (Y7 × Unit) × (Y9 × Unit) × Unit))).bind fun v67 =>
bif v67.1.1 then (some ((), (((v67.2.1.1.1, (v67.2.1.1.2.1, (v67.2.1.1.2.2.1, (v67.2.1.1.2.2.2.1, (v67.2.1.1.2.2.2.2.1, ()))))), ()), (((v67.2.2.1.1.1, (v67.2.2.1.1.2.1, (v67.2.2.1.1.2.2.1, (v67.2.2.1.1.2.2.2.1, (v67.2.2.1.1.2.2.2.2.1, (v67.2.2.1.1.2.2.2.2.2.1, (v67.2.2.1.1.2.2.2.2.2.2.1, (v67.2.2.1.1.2.2.2.2.2.2.2.1, ())))))))), ()), (((v67.2.2.2.1.1.1, (v67.2.2.2.1.1.2.1, (v67.2.2.2.1.1.2.2.1, (0, (v67.2.2.2.1.1.2.2.2.2.1, (v67.2.2.2.1.1.2.2.2.2.2.1, ([], v67.2.2.2.1.1.2.2.2.2.2.2.2))))))), ()), ((v67.2.2.2.2.1.1, ()), ((v67.2.2.2.2.2.1.1, ()), ())))))))
else (some ((), (((v67.2.1.1.1, (v67.2.1.1.2.1, (v67.2.1.1.2.2.1, (v67.2.1.1.2.2.2.1, (v67.2.1.1.2.2.2.2.1, ()))))), ()), (((v67.2.2.1.1.1, (v67.2.2.1.1.2.1, (v67.2.2.1.1.2.2.1, (v67.2.2.1.1.2.2.2.1, (v67.2.2.1.1.2.2.2.2.1, (v67.2.2.1.1.2.2.2.2.2.1, (v67.2.2.1.1.2.2.2.2.2.2.1, (v67.2.2.1.1.2.2.2.2.2.2.2.1, ())))))))), ()), ((v67.2.2.2.1.1, ()), ((v67.2.2.2.2.1.1, ()), ((v67.2.2.2.2.2.1.1, ()), ())))))))) : Option ((Unit) × (Y11 × Y18 × (Y7 × Unit) × (Y7 × Unit) × (Y9 × Unit) × Unit))).bind fun v68 =>
((let x69 := ((v68.2.2.2.2.2.1.1.2.2.2.1 : Int) == v68.2.2.2.1.1.2.1)
bif x69 then (bif ((v68.2.2.2.1.1.2.2.2.1 : Int) != 2) then (let x70 := (decide ((v68.2.2.2.2.2.1.1.2.2.2.2.1 : Int) ≤ (v68.2.2.2.1.1.2.2.2.2.1.length : Int)))
bif x70 then (bif ((v68.2.2.2.2.2.1.1.2.2.2.2.1 : Int) == 0) then (some ((true, ()), (((v68.2.1.1.1, (v68.2.1.1.2.1, (v68.2.1.1.2.2.1, (v68.2.1.1.2.2.2.1, (v68.2.1.1.2.2.2.2.1, ()))))), ()), (((v68.2.2.1.1.1, (v68.2.2.1.1.2.1, (v68.2.2.1.1.2.2.1, (v68.2.2.1.1.2.2.2.1, (v68.2.2.1.1.2.2.2.2.1, (v68.2.2.1.1.2.2.2.2.2.1, (v68.2.2.1.1.2.2.2.2.2.2.1, (v68.2.2.1.1.2.2.2.2.2.2.2.1, ())))))))), ()), ((v68.2.2.2.1.1, ()), ((v68.2.2.2.2.1.1, ()), ((v68.2.2.2.2.2.1.1, ()), ())))))))
else (Abs.rowAt v68.2.2.2.1.1.2.2.2.2.1 (w64 (v68.2.2.2.2.2.1.1.2.2.2.2.1 - 1)) fun e71 _ =>
some ((((e71.1 : Int) == v68.2.2.2.2.2.1.1.2.2.2.2.2.1), ()), (((v68.2.1.1.1, (v68.2.1.1.2.1, (v68.2.1.1.2.2.1, (v68.2.1.1.2.2.2.1, (v68.2.1.1.2.2.2.2.1, ()))))), ()), (((v68.2.2.1.1.1, (v68.2.2.1.1.2.1, (v68.2.2.1.1.2.2.1, (v68.2.2.1.1.2.2.2.1, (v68.2.2.1.1.2.2.2.2.1, (v68.2.2.1.1.2.2.2.2.2.1, (v68.2.2.1.1.2.2.2.2.2.2.1, (v68.2.2.1.1.2.2.2.2.2.2.2.1, ())))))))), ()), ((v68.2.2.2.1.1, ()), ((v68.2.2.2.2.1.1, ()), ((v68.2.2.2.2.2.1.1, ()), ()))))))))
else (some ((false, ()), (((v68.2.1.1.1, (v68.2.1.1.2.1, (v68.2.1.1.2.2.1, (v68.2.1.1.2.2.2.1, (v68.2.1.1.2.2.2.2.1, ()))))), ()), (((v68.2.2.1.1.1, (v68.2.2.1.1.2.1, (v68.2.2.1.1.2.2.1, (v68.2.2.1.1.2.2.2.1, (v68.2.2.1.1.2.2.2.2.1, (v68.2.2.1.1.2.2.2.2.2.1, (v68.2.2.1.1.2.2.2.2.2.2.1, (v68.2.2.1.1.2.2.2.2.2.2.2.1, ())))))))), ()), ((v68.2.2.2.1.1, ()), ((v68.2.2.2.2.1.1, ()), ((v68.2.2.2.2.2.1.1, ()), ()))))))))
else (some ((false, ()), (((v68.2.1.1.1, (v68.2.1.1.2.1, (v68.2.1.1.2.2.1, (v68.2.1.1.2.2.2.1, (v68.2.1.1.2.2.2.2.1, ()))))), ()), (((v68.2.2.1.1.1, (v68.2.2.1.1.2.1, (v68.2.2.1.1.2.2.1, (v68.2.2.1.1.2.2.2.1, (v68.2.2.1.1.2.2.2.2.1, (v68.2.2.1.1.2.2.2.2.2.1, (v68.2.2.1.1.2.2.2.2.2.2.1, (v68.2.2.1.1.2.2.2.2.2.2.2.1, ())))))))), ()), ((v68.2.2.2.1.1, ()), ((v68.2.2.2.2.1.1, ()), ((v68.2.2.2.2.2.1.1, ()), ()))))))))
else (some ((false, ()), (((v68.2.1.1.1, (v68.2.1.1.2.1, (v68.2.1.1.2.2.1, (v68.2.1.1.2.2.2.1, (v68.2.1.1.2.2.2.2.1, ()))))), ()), (((v68.2.2.1.1.1, (v68.2.2.1.1.2.1, (v68.2.2.1.1.2.2.1, (v68.2.2.1.1.2.2.2.1, (v68.2.2.1.1.2.2.2.2.1, (v68.2.2.1.1.2.2.2.2.2.1, (v68.2.2.1.1.2.2.2.2.2.2.1, (v68.2.2.1.1.2.2.2.2.2.2.2.1, ())))))))), ()), ((v68.2.2.2.1.1, ()), ((v68.2.2.2.2.1.1, ()), ((v68.2.2.2.2.2.1.1, ()), ())))))))) : Option ((Bool × Unit) × (Y11 × Y18 × (Y7 × Unit) × (Y7 × Unit) × (Y9 × Unit) × Unit))).bind fun v72 =>
bif (!v72.1.1) then (some ((true, ()), ((v72.2.2.2.1.1, ()), (((4, (v72.2.2.2.2.1.1.1, (v72.2.2.2.2.2.1.1.2.1, (v72.2.2.2.1.1.2.1, (0, (0, (0, (false, ())))))))), ()), ()))))
else ((m94 ((v72.2.2.2.1.1.2.2.2.2.1, (v72.2.2.2.2.2.1.1.2.2.2.2.1, (v72.2.2.2.2.2.1.1.2.2.2.2.2.2.2.1, ()))), ())).bind fun u73 =>
(((m85 ((u73.2.1, (v72.2.2.2.2.2.1.1.2.2.2.1, ())), ())).bind fun u74 =>
bif (!u74.1.1) then (some ((true, ()), (((v72.2.1.1.1, (v72.2.1.1.2.1, (v72.2.1.1.2.2.1, (v72.2.1.1.2.2.2.1, (v72.2.1.1.2.2.2.2.1, ()))))), ()), (((v72.2.2.1.1.1, (v72.2.2.1.1.2.1, (v72.2.2.1.1.2.2.1, (v72.2.2.1.1.2.2.2.1, (v72.2.2.1.1.2.2.2.2.1, (v72.2.2.1.1.2.2.2.2.2.1, (v72.2.2.1.1.2.2.2.2.2.2.1, (v72.2.2.1.1.2.2.2.2.2.2.2.1, ())))))))), ()), ((v72.2.2.2.2.1.1, ()), (((4, (v72.2.2.2.2.1.1.1, (v72.2.2.2.2.2.1.1.2.1, (v72.2.2.2.1.1.2.1, (0, (0, (0, (false, ())))))))), ()), ((v72.2.2.2.1.1, ()), ((v72.2.2.2.2.2.1.1, ()), (u73.2.1, ())))))))))
else (let x75 := (decide ((u73.1.1 : Int) < v72.2.2.2.1.1.2.2.2.2.2.1))
some ((x75, ()), (((v72.2.1.1.1, (v72.2.1.1.2.1, (v72.2.1.1.2.2.1, (v72.2.1.1.2.2.2.1, (v72.2.1.1.2.2.2.2.1, ()))))), ()), (((v72.2.2.1.1.1, (v72.2.2.1.1.2.1, (v72.2.2.1.1.2.2.1, (v72.2.2.1.1.2.2.2.1, (v72.2.2.1.1.2.2.2.2.1, (v72.2.2.1.1.2.2.2.2.2.1, (v72.2.2.1.1.2.2.2.2.2.2.1, (v72.2.2.1.1.2.2.2.2.2.2.2.1, ())))))))), ()), ((v72.2.2.2.2.1.1, ()), (((4, (v72.2.2.2.2.1.1.1, (v72.2.2.2.2.2.1.1.2.1, (v72.2.2.2.1.1.2.1, (0, (0, (0, (false, ())))))))), ()), ((v72.2.2.2.1.1, ()), ((v72.2.2.2.2.2.1.1, ()), (u73.2.1, ())))))))))) : Option ((Bool × Unit) × (Y11 × Y18 × (Y7 × Unit) × Y18 × (Y7 × Unit) × (Y9 × Unit) × Y2 × Unit))).bind fun v76 =>
bif v76.1.1 then ((m80 ((v76.2.2.2.1.1, ()), ())).bind fun u77 =>
some ((false, ()), (((u77.2.1.1.1, (u77.2.1.1.2.1, (u77.2.1.1.2.2.1, (u77.2.1.1.2.2.2.1, (u77.2.2.1, (u77.2.1.1.2.2.2.2.1, (u77.2.2.2.1, (u77.2.2.2.2.1, ())))))))), ()), (((0, (0, (0, (0, (0, (0, (0, (false, ())))))))), ()), ()))))
else (let x78 := (w64 (v76.2.2.2.2.2.2.1.1.2.2.2.2.1 + (v76.2.2.2.2.2.2.1.1.2.2.2.2.2.2.2.1.length : Int)))
let x79 := (if (x78 : Int) < v76.2.2.2.2.2.2.1.1.2.2.2.2.2.2.1 then x78 else v76.2.2.2.2.2.2.1.1.2.2.2.2.2.2.1)
let x80 := (if (x79 : Int) > v76.2.2.2.2.2.1.1.2.2.2.2.2.1 then x79 else v76.2.2.2.2.2.1.1.2.2.2.2.2.1)
some ((true, ()), (((v76.2.2.2.2.2.1.1.1, (v76.2.2.2.2.2.1.1.2.1, (v76.2.2.2.2.2.1.1.2.2.1, (v76.2.2.2.2.2.1.1.2.2.2.1, (v76.2.2.2.2.2.2.2.1, (x80, v76.2.2.2.2.2.1.1.2.2.2.2.2.2)))))), ()), (((v76.2.2.2.2.1.1.1, (v76.2.2.2.2.1.1.2.1, (v76.2.2.2.2.1.1.2.2.1, (v76.2.2.2.2.1.1.2.2.2.1, (x78, (v76.2.2.2.2.1.1.2.2.2.2.2.1, (v76.2.2.2.2.1.1.2.2.2.2.2.2.1, (true, ())))))))), ()), ()))))))

def sp52 : Abs.Spec := ⟨0, i52, o52, m52⟩

def an52 : Nat → Abs.FAn
  | 0 => Abs.FAn.mk (fun
    | 11 => some ⟨[122, 6, 7, 4, 11, 9, 5, 12], (.dat .bool (.st (.ptr (0, 0) 8 0 0) (.st (.ptr (1, 0) 9 0 0) (.st (.ptr (2, 0) 8 0 0) (.st (.ptr (3, 0) 9 0 0) (.st (.ptr (4, 0) 8 0 0) (.st (.ptr (5, 0) 9 0 0) (.st (.own Z1 (6, 0)) .nil)))))))), (.box 8 (.agg (.dat (.int .i64) (.dat (.int .i64) (.dat (.int .i64) (.dat (.int .i64) (.st .nil (.dat (.int .i64) (.st .nil (.st .nil .nil)))))))) .nil) (.box 9 (.agg (.dat (.int .i64) (.dat (.int .i64) (.dat (.int .i64) (.dat (.int .i64) (.dat (.int .i64) (.dat (.int .i64) (.dat (.int .i64) (.st .nil (.dat .bool .nil))))))))) .nil) (.box 8 (.dat Z3 .nil) (.box 9 (.agg (.dat (.int .i64) (.dat (.int .i64) (.dat (.int .i64) (.dat (.int .i64) (.dat (.int .i64) (.dat (.int .i64) (.dat (.int .i64) (.st .nil (.dat .bool .nil))))))))) .nil) (.box 8 (.dat Z3 .nil) (.box 9 (.dat Z4 .nil) (.arr Z1 false .nil)))))))⟩
    | 6 => some ⟨[6, 7, 9, 4, 5, 10], (.st (.ptr (0, 0) 8 0 0) (.st (.ptr (1, 0) 9 0 0) (.st (.ptr (2, 0) 8 0 0) (.st (.ptr (3, 0) 8 0 0) (.st (.ptr (4, 0) 9 0 0) (.dat .bool .nil)))))), (.box 8 (.agg (.dat (.int .i64) (.dat (.int .i64) (.dat (.int .i64) (.dat (.int .i64) (.st .nil (.dat (.int .i64) (.st .nil (.st .nil .nil)))))))) .nil) (.box 9 (.agg (.dat (.int .i64) (.dat (.int .i64) (.dat (.int .i64) (.dat (.int .i64) (.dat (.int .i64) (.dat (.int .i64) (.dat (.int .i64) (.st .nil (.dat .bool .nil))))))))) .nil) (.box 8 (.dat Z3 .nil) (.box 8 (.dat Z3 .nil) (.box 9 (.dat Z4 .nil) .nil)))))⟩
    | 4 => some ⟨[52, 6, 7, 9, 4, 5], (.dat .bool (.st (.ptr (0, 0) 8 0 0) (.st (.ptr (1, 0) 9 0 0) (.st (.ptr (2, 0) 8 0 0) (.st (.ptr (3, 0) 8 0 0) (.st (.ptr (4, 0) 9 0 0) .nil)))))), (.box 8 (.agg (.dat (.int .i64) (.dat (.int .i64) (.dat (.int .i64) (.dat (.int .i64) (.st .nil (.dat (.int .i64) (.st .nil (.st .nil .nil)))))))) .nil) (.box 9 (.agg (.dat (.int .i64) (.dat (.int .i64) (.dat (.int .i64) (.dat (.int .i64) (.dat (.int .i64) (.dat (.int .i64) (.dat (.int .i64) (.st .nil (.dat .bool .nil))))))))) .nil) (.box 8 (.dat Z3 .nil) (.box 8 (.dat Z3 .nil) (.box 9 (.dat Z4 .nil) .nil)))))⟩
    | 1 => some ⟨[34, 6, 7, 4, 5], (.dat .bool (.st (.ptr (0, 0) 8 0 0) (.st (.ptr (1, 0) 9 0 0) (.st (.ptr (2, 0) 8 0 0) (.st (.ptr (3, 0) 9 0 0) .nil))))), (.box 8 (.agg (.dat (.int .i64) (.dat (.int .i64) (.dat (.int .i64) (.dat (.int .i64) (.st .nil (.dat (.int .i64) (.st .nil (.st .nil .nil)))))))) .nil) (.box 9 (.agg (.dat (.int .i64) (.dat (.int .i64) (.dat (.int .i64) (.dat (.int .i64) (.dat (.int .i64) (.dat (.int .i64) (.dat (.int .i64) (.st .nil (.dat .bool .nil))))))))) .nil) (.box 8 (.dat Z3 .nil) (.box 9 (.dat Z4 .nil) .nil))))⟩
    | _ => none) (fun
    | 6 => some (⟨[6, 7, 9, 4, 5], (.st (.ptr (0, 0) 8 0 0) (.st (.ptr (1, 0) 9 0 0) (.st (.ptr (2, 0) 8 0 0) (.st (.ptr (3, 0) 8 0 0) (.st (.ptr (4, 0) 9 0 0) .nil))))), (.box 8 (.agg (.dat (.int .i64) (.dat (.int .i64) (.dat (.int .i64) (.dat (.int .i64) (.st .nil (.dat (.int .i64) (.st .nil (.st .nil .nil)))))))) .nil) (.box 9 (.agg (.dat (.int .i64) (.dat (.int .i64) (.dat (.int .i64) (.dat (.int .i64) (.dat (.int .i64) (.dat (.int .i64) (.dat (.int .i64) (.st .nil (.dat .bool .nil))))))))) .nil) (.box 8 (.dat Z3 .nil) (.box 8 (.dat Z3 .nil) (.box 9 (.dat Z4 .nil) .nil)))))⟩, none)
    | _ => none) (fun _ => none) (fun _ _ => 0)
  | _ => {}

theorem ok52 : Abs.SpecOK Try.prog 52 sp52 :=
  Abs.specOC_of (C := ctab) (mv := mvtab) ctab_ok (n := 12) (an := an52) (T := Abs.tabOf [(88, sp88), (80, sp80), (89, sp89), (94, sp94), (85, sp85)]) good foll (Abs.tabOf_ok _ (by simp only [List.forall_mem_cons]; exact ⟨ok88, ok80, ok89, ok94, ok85, fun _ h => by cases h⟩)) rfl (by intro v; kernel_rfl)

def l53_0_14 (v : ((Int × Int × Int × Int × Unit) × Y19)) : Option (((Int × Int × Int × Int × Unit) × Y19) ⊕ (Y21 × Y19)) :=
bif (decide ((v.1.1 : Int) < v.1.2.2.2.1)) then (((bif (decide ((0 : Int) ≤ v.1.1 ∧ (v.1.1 : Int) < v.2.2.2.2.2.1.length)) then
(v.2.2.2.2.2.1[v.1.1.toNat]?).bind fun e76 =>
bif (decide ((e76 : Int) ≥ v.1.2.2.1)) then (some (((w64 (v.1.2.1 + 1)), (v.1.2.2.1, (v.1.2.2.2.1, (v.1.1, ())))), (((v.2.1.1.1, (v.2.1.1.2.1, (v.2.1.1.2.2.1, (v.2.1.1.2.2.2.1, (v.2.1.1.2.2.2.2.1, ()))))), ()), (((v.2.2.1.1.1, (v.2.2.1.1.2.1, (v.2.2.1.1.2.2.1, (v.2.2.1.1.2.2.2.1, (v.2.2.1.1.2.2.2.2.1, ()))))), ()), (v.2.2.2.1, (v.2.2.2.2.1, (v.2.2.2.2.2.1, ())))))))
else (some ((v.1.2.1, (v.1.2.2.1, (v.1.2.2.2.1, (v.1.1, ())))), (((v.2.1.1.1, (v.2.1.1.2.1, (v.2.1.1.2.2.1, (v.2.1.1.2.2.2.1, (v.2.1.1.2.2.2.2.1, ()))))), ()), (((v.2.2.1.1.1, (v.2.2.1.1.2.1, (v.2.2.1.1.2.2.1, (v.2.2.1.1.2.2.2.1, (v.2.2.1.1.2.2.2.2.1, ()))))), ()), (v.2.2.2.1, (v.2.2.2.2.1, (v.2.2.2.2.2.1, ())))))))
else none) : Option ((Int × Int × Int × Int × Unit) × Y19)).bind fun v77 =>
some (.inl (((w64 (v77.1.2.2.2.1 + 1)), (v77.1.1, (v77.1.2.1, (v77.1.2.2.1, ())))), (((v77.2.1.1.1, (v77.2.1.1.2.1, (v77.2.1.1.2.2.1, (v77.2.1.1.2.2.2.1, (v77.2.1.1.2.2.2.2.1, ()))))), ()), (((v77.2.2.1.1.1, (v77.2.2.1.1.2.1, (v77.2.2.1.1.2.2.1, (v77.2.2.1.1.2.2.2.1, (v77.2.2.1.1.2.2.2.2.1, ()))))), ()), (v77.2.2.2.1, (v77.2.2.2.2.1, (v77.2.2.2.2.2.1, ()))))))))
else (some (.inr ((v.1.2.2.1, (v.1.2.2.2.1, (v.1.2.1, ()))), (((v.2.2.1.1.1, (v.2.2.1.1.2.1, (v.2.2.1.1.2.2.1, (v.2.2.1.1.2.2.2.1, (v.2.2.1.1.2.2.2.2.1, ()))))), ()), (((v.2.1.1.1, (v.2.1.1.2.1, (v.2.1.1.2.2.1, (v.2.1.1.2.2.2.1, (v.2.1.1.2.2.2.2.1, ()))))), ()), (v.2.2.2.1, (v.2.2.2.2.1, (v.2.2.2.2.2.1, ()))))))))

def l53_0_10 (v : ((Int × Int × Unit) × Y19)) : Option (((Int × Int × Unit) × Y19) ⊕ ((Unit) × Y19)) :=
bif (decide ((v.1.1 : Int) > v.2.1.1.2.2.2.2.1)) then ((loopT l53_0_14 ((0, (0, (v.1.1, (v.1.2.1, ())))), (((v.2.1.1.1, (v.2.1.1.2.1, (v.2.1.1.2.2.1, (v.2.1.1.2.2.2.1, (v.2.1.1.2.2.2.2.1, ()))))), ()), (((v.2.2.1.1.1, (v.2.2.1.1.2.1, (v.2.2.1.1.2.2.1, (v.2.2.1.1.2.2.2.1, (v.2.2.1.1.2.2.2.2.1, ()))))), ()), (v.2.2.2.1, (v.2.2.2.2.1, (v.2.2.2.2.2.1, ()))))))).bind fun d78 =>
(((m29 ((d78.1.2.1, ()), ())).bind fun u79 =>
bif (decide ((d78.1.2.2.1 : Int) ≥ u79.1.1)) then (bif (decide ((0 : Int) ≤ (w64 (d78.1.1 - 1)) ∧ ((w64 (d78.1.1 - 1)) : Int) < d78.2.2.2.1.length)) then
(d78.2.2.2.1[(w64 (d78.1.1 - 1)).toNat]?).bind fun e80 =>
some ((((e80.1 : Int) == d78.2.2.1.1.2.1), (d78.1.1, (d78.1.2.1, ()))), (((d78.2.1.1.1, (d78.2.1.1.2.1, (d78.2.1.1.2.2.1, (d78.2.1.1.2.2.2.1, (d78.2.1.1.2.2.2.2.1, ()))))), ()), (((d78.2.2.1.1.1, (d78.2.2.1.1.2.1, (d78.2.2.1.1.2.2.1, (d78.2.2.1.1.2.2.2.1, (d78.2.2.1.1.2.2.2.2.1, ()))))), ()), (d78.2.2.2.1, (d78.2.2.2.2.1, (d78.2.2.2.2.2.1, ()))))))
else none)
else (some ((false, (d78.1.1, (d78.1.2.1, ()))), (((d78.2.1.1.1, (d78.2.1.1.2.1, (d78.2.1.1.2.2.1, (d78.2.1.1.2.2.2.1, (d78.2.1.1.2.2.2.2.1, ()))))), ()), (((d78.2.2.1.1.1, (d78.2.2.1.1.2.1, (d78.2.2.1.1.2.2.1, (d78.2.2.1.1.2.2.2.1, (d78.2.2.1.1.2.2.2.2.1, ()))))), ()), (d78.2.2.2.1, (d78.2.2.2.2.1, (d78.2.2.2.2.2.1, ())))))))) : Option ((Bool × Int × Int × Unit) × Y19)).bind fun v81 =>
bif v81.1.1 then (some (.inr ((), (((v81.2.1.1.1, (v81.2.1.1.2.1, (v81.2.1.1.2.2.1, (v81.2.1.1.2.2.2.1, (v81.2.1.1.2.2.2.2.1, ()))))), ()), (((v81.2.2.1.1.1, (v81.2.2.1.1.2.1, (v81.2.2.1.1.2.2.1, (v81.2.2.1.1.2.2.2.1, (v81.1.2.1, ()))))), ()), (v81.2.2.2.1, (v81.2.2.2.2.1, (v81.2.2.2.2.2.1, ()))))))))
else (some (.inl (((w64 (v81.1.2.1 - 1)), (v81.1.2.2.1, ())), (((v81.2.2.1.1.1, (v81.2.2.1.1.2.1, (v81.2.2.1.1.2.2.1, (v81.2.2.1.1.2.2.2.1, (v81.2.2.1.1.2.2.2.2.1, ()))))), ()), (((v81.2.1.1.1, (v81.2.1.1.2.1, (v81.2.1.1.2.2.1, (v81.2.1.1.2.2.2.1, (v81.2.1.1.2.2.2.2.1, ()))))), ()), (v81.2.2.2.1, (v81.2.2.2.2.1, (v81.2.2.2.2.2.1, ())))))))))
else (some (.inr ((), (((v.2.2.1.1.1, (v.2.2.1.1.2.1, (v.2.2.1.1.2.2.1, (v.2.2.1.1.2.2.2.1, (v.2.2.1.1.2.2.2.2.1, ()))))), ()), (((v.2.1.1.1, (v.2.1.1.2.1, (v.2.1.1.2.2.1, (v.2.1.1.2.2.2.1, (v.2.1.1.2.2.2.2.1, ()))))), ()), (v.2.2.2.1, (v.2.2.2.2.1, (v.2.2.2.2.2.1, ()))))))))

/- pagewatch/pagewatchref33.Appended -/
def i53 : Abs.Sg := ⟨[0, 1, 2], (.dat (.int .i64) (.dat Z3 (.dat Z4 .nil))), .nil⟩

def o53 : Abs.Sg := ⟨[6], (.st (.ptr (0, 0) 8 0 0) .nil), (.box 8 (.dat Z3 .nil) .nil)⟩

def m53 (v : ((Int × Y7 × Y9 × Unit) × (Unit))) : Option ((Unit) × ((Y7 × Unit) × Unit)) :=
(m80 ((v.1.2.1, ()), ())).bind fun u68 =>
(m88 ((v.1.1, (v.1.2.1, (v.1.2.2.1, (4, ())))), ())).bind fun u69 =>
bif (!u69.1.1) then (some ((), (((u68.2.1.1.1, (u68.2.1.1.2.1, (u68.2.1.1.2.2.1, (u68.2.1.1.2.2.2.1, (u68.2.2.1, (u68.2.1.1.2.2.2.2.1, (u68.2.2.2.1, (u68.2.2.2.2.1, ())))))))), ()), ())))
else (let x70 := (decide ((v.1.2.2.1.2.2.2.1 : Int) > v.1.2.1.2.1))
bif x70 then ((m89 (((u68.2.1.1.1, (u68.2.1.1.2.1, (u68.2.1.1.2.2.1, (u68.2.1.1.2.2.2.1, (u68.2.2.1, (u68.2.1.1.2.2.2.2.1, (u68.2.2.2.1, (u68.2.2.2.2.1, ())))))))), (v.1.2.2.1.2.2.2.1, ())), ())).bind fun u71 =>
some ((), ((u71.2.1.1, ()), ())))
else (((bif ((v.1.2.1.2.2.2.1 : Int) != 2) then (some ((true, (v.1.1, ())), (((0, (0, (0, (0, (0, ()))))), ()), (((u68.2.1.1.1, (u68.2.1.1.2.1, (u68.2.1.1.2.2.1, (u68.2.1.1.2.2.2.1, (u68.2.1.1.2.2.2.2.1, ()))))), ()), ((v.1.2.2.1, ()), (u68.2.2.1, (u68.2.2.2.1, (u68.2.2.2.2.1, ()))))))))
else (bif ((v.1.2.2.1.2.2.2.1 : Int) != v.1.2.1.2.1) then (some ((true, (v.1.1, ())), (((0, (0, (0, (0, (0, ()))))), ()), (((u68.2.1.1.1, (u68.2.1.1.2.1, (u68.2.1.1.2.2.1, (u68.2.1.1.2.2.2.1, (u68.2.1.1.2.2.2.2.1, ()))))), ()), ((v.1.2.2.1, ()), (u68.2.2.1, (u68.2.2.2.1, (u68.2.2.2.2.1, ()))))))))
else (bif (!v.1.2.2.1.2.2.2.2.2.2.2.2.1) then (some ((true, (v.1.1, ())), (((0, (0, (0, (0, (0, ()))))), ()), (((u68.2.1.1.1, (u68.2.1.1.2.1, (u68.2.1.1.2.2.1, (u68.2.1.1.2.2.2.1, (u68.2.1.1.2.2.2.2.1, ()))))), ()), ((v.1.2.2.1, ()), (u68.2.2.1, (u68.2.2.2.1, (u68.2.2.2.2.1, ()))))))))
else ((m45 ((v.1.2.2.1.2.2.2.2.1, (0, ((v.1.2.1.2.2.2.2.1.length : Int), ()))), ())).bind fun u72 =>
some (((!u72.1.1), (v.1.1, ())), (((0, (0, (0, (0, (0, ()))))), ()), (((u68.2.1.1.1, (u68.2.1.1.2.1, (u68.2.1.1.2.2.1, (u68.2.1.1.2.2.2.1, (u68.2.1.1.2.2.2.2.1, ()))))), ()), ((v.1.2.2.1, ()), (u68.2.2.1, (u68.2.2.2.1, (u68.2.2.2.2.1, ()))))))))))) : Option ((Bool × Int × Unit) × (Y11 × Y11 × (Y9 × Unit) × Y2 × (List Bool) × (List Int) × Unit))).bind fun v73 =>
bif v73.1.1 then (some ((), (((v73.2.2.1.1.1, (v73.2.2.1.1.2.1, (v73.2.2.1.1.2.2.1, (v73.2.2.1.1.2.2.2.1, (v73.2.2.2.2.1, (v73.2.2.1.1.2.2.2.2.1, (v73.2.2.2.2.2.1, (v73.2.2.2.2.2.2.1, ())))))))), ()), ())))
else (bif (decide ((0 : Int) ≤ v73.2.2.2.1.1.2.1 ∧ (v73.2.2.2.1.1.2.1 : Int) < v73.2.2.2.2.2.2.1.length)) then
(v73.2.2.2.2.2.2.1[v73.2.2.2.1.1.2.1.toNat]?).bind fun e74 =>
let x75 := (if (v73.2.2.2.1.1.2.2.2.2.1 : Int) > e74 then v73.2.2.2.1.1.2.2.2.2.1 else e74)
bif (decide ((0 : Int) ≤ v73.2.2.2.1.1.2.1 ∧ (v73.2.2.2.1.1.2.1 : Int) < v73.2.2.2.2.2.2.1.length)) then
bif (decide (v73.2.2.2.1.1.2.1.toNat < v73.2.2.2.2.2.2.1.length)) then
(loopT l53_0_10 ((((v73.2.2.2.2.1.length : Nat) : Int), (v73.1.2.1, ())), (((v73.2.2.1.1.1, (v73.2.2.1.1.2.1, (v73.2.2.1.1.2.2.1, (v73.2.2.1.1.2.2.2.1, (v73.2.2.1.1.2.2.2.2.1, ()))))), ()), (((v73.2.1.1.1, (v73.2.1.1.2.1, (v73.2.1.1.2.2.1, (v73.2.1.1.2.2.2.1, (v73.2.1.1.2.2.2.2.1, ()))))), ()), (v73.2.2.2.2.1, (v73.2.2.2.2.2.1, ((v73.2.2.2.2.2.2.1.set v73.2.2.2.1.1.2.1.toNat x75), ()))))))).bind fun d82 =>
some ((), (((d82.2.2.1.1.1, (d82.2.2.1.1.2.1, (d82.2.2.1.1.2.2.1, (d82.2.2.1.1.2.2.2.1, (d82.2.2.2.1, (d82.2.2.1.1.2.2.2.2.1, (d82.2.2.2.2.1, (d82.2.2.2.2.2.1, ())))))))), ()), ()))
else none
else none
else none)))

def sp53 : Abs.Spec := ⟨0, i53, o53, m53⟩

def an53 : Nat → Abs.FAn
  | 0 => Abs.FAn.mk (fun
    | 18 => some ⟨[105, 6, 7, 8, 0], (.dat .bool (.st (.ptr (0, 0) 8 0 0) (.st (.ptr (1, 0) 8 0 0) (.dat (.int .i64) (.dat (.int .i64) .nil))))), (.box 8 (.agg (.dat (.int .i64) (.dat (.int .i64) (.dat (.int .i64) (.dat (.int .i64) (.st .nil (.dat (.int .i64) (.st .nil (.st .nil .nil)))))))) .nil) (.box 8 (.agg (.dat (.int .i64) (.dat (.int .i64) (.dat (.int .i64) (.dat (.int .i64) (.st (.own Z1 (2, 0)) (.dat (.int .i64) (.st (.own .bool (3, 0)) (.st (.own (.int .i64) (4, 0)) .nil)))))))) .nil) (.arr Z1 false (.arr .bool false (.arr (.int .i64) false .nil)))))⟩
    | 6 => some ⟨[51, 6, 7, 0, 5], (.dat .bool (.st (.ptr (0, 0) 8 0 0) (.st (.ptr (1, 0) 8 0 0) (.dat (.int .i64) (.st (.ptr (2, 0) 9 0 0) .nil))))), (.box 8 (.agg (.dat (.int .i64) (.dat (.int .i64) (.dat (.int .i64) (.dat (.int .i64) (.st .nil (.dat (.int .i64) (.st .nil (.st .nil .nil)))))))) .nil) (.box 8 (.agg (.dat (.int .i64) (.dat (.int .i64) (.dat (.int .i64) (.dat (.int .i64) (.st (.own Z1 (3, 0)) (.dat (.int .i64) (.st (.own .bool (4, 0)) (.st (.own (.int .i64) (5, 0)) .nil)))))))) .nil) (.box 9 (.dat Z4 .nil) (.arr Z1 false (.arr .bool false (.arr (.int .i64) false .nil))))))⟩
    | _ => none) (fun
    | 15 => some (⟨[9, 8, 7, 6, 0, 10], (.dat (.int .i64) (.dat (.int .i64) (.st (.ptr (0, 0) 8 0 0) (.st (.ptr (1, 0) 8 0 0) (.dat (.int .i64) (.dat (.int .i64) .nil)))))), (.box 8 (.agg (.dat (.int .i64) (.dat (.int .i64) (.dat (.int .i64) (.dat (.int .i64) (.st (.own Z1 (2, 0)) (.dat (.int .i64) (.st (.own .bool (3, 0)) (.st (.own (.int .i64) (4, 0)) .nil)))))))) .nil) (.box 8 (.agg (.dat (.int .i64) (.dat (.int .i64) (.dat (.int .i64) (.dat (.int .i64) (.st .nil (.dat (.int .i64) (.st .nil (.st .nil .nil)))))))) .nil) (.arr Z1 false (.arr .bool false (.arr (.int .i64) false .nil)))))⟩, none)
    | _ => none) (fun
    | 10 => some ⟨⟨[8, 7, 6, 0], (.dat (.int .i64) (.st (.ptr (0, 0) 8 0 0) (.st (.ptr (1, 0) 8 0 0) (.dat (.int .i64) .nil)))), (.box 8 (.agg (.dat (.int .i64) (.dat (.int .i64) (.dat (.int .i64) (.dat (.int .i64) (.st (.own Z1 (2, 0)) (.dat (.int .i64) (.st (.own .bool (3, 0)) (.st (.own (.int .i64) (4, 0)) .nil)))))))) .nil) (.box 8 (.agg (.dat (.int .i64) (.dat (.int .i64) (.dat (.int .i64) (.dat (.int .i64) (.st .nil (.dat (.int .i64) (.st .nil (.st .nil .nil)))))))) .nil) (.arr Z1 false (.arr .bool false (.arr (.int .i64) false .nil)))))⟩, (.one (.exit 0) ⟨[6, 7], (.st (.ptr (0, 0) 8 0 0) (.st (.ptr (1, 0) 8 0 0) .nil)), (.box 8 (.agg (.dat (.int .i64) (.dat (.int .i64) (.dat (.int .i64) (.dat (.int .i64) (.st .nil (.dat (.int .i64) (.st .nil (.st .nil .nil)))))))) .nil) (.box 8 (.agg (.dat (.int .i64) (.dat (.int .i64) (.dat (.int .i64) (.dat (.int .i64) (.st (.own Z1 (2, 0)) (.dat (.int .i64) (.st (.own .bool (3, 0)) (.st (.own (.int .i64) (4, 0)) .nil)))))))) .nil) (.arr Z1 false (.arr .bool false (.arr (.int .i64) false .nil)))))⟩)⟩
    | 14 => some ⟨⟨[10, 9, 8, 7, 6, 0], (.dat (.int .i64) (.dat (.int .i64) (.dat (.int .i64) (.st (.ptr (0, 0) 8 0 0) (.st (.ptr (1, 0) 8 0 0) (.dat (.int .i64) .nil)))))), (.box 8 (.agg (.dat (.int .i64) (.dat (.int .i64) (.dat (.int .i64) (.dat (.int .i64) (.st (.own Z1 (2, 0)) (.dat (.int .i64) (.st (.own .bool (3, 0)) (.st (.own (.int .i64) (4, 0)) .nil)))))))) .nil) (.box 8 (.agg (.dat (.int .i64) (.dat (.int .i64) (.dat (.int .i64) (.dat (.int .i64) (.st .nil (.dat (.int .i64) (.st .nil (.st .nil .nil)))))))) .nil) (.arr Z1 false (.arr .bool false (.arr (.int .i64) false .nil)))))⟩, (.one (.exit 2) ⟨[6, 7, 8, 0, 9], (.st (.ptr (0, 0) 8 0 0) (.st (.ptr (1, 0) 8 0 0) (.dat (.int .i64) (.dat (.int .i64) (.dat (.int .i64) .nil))))), (.box 8 (.agg (.dat (.int .i64) (.dat (.int .i64) (.dat (.int .i64) (.dat (.int .i64) (.st .nil (.dat (.int .i64) (.st .nil (.st .nil .nil)))))))) .nil) (.box 8 (.agg (.dat (.int .i64) (.dat (.int .i64) (.dat (.int .i64) (.dat (.int .i64) (.st (.own Z1 (2, 0)) (.dat (.int .i64) (.st (.own .bool (3, 0)) (.st (.own (.int .i64) (4, 0)) .nil)))))))) .nil) (.arr Z1 false (.arr .bool false (.arr (.int .i64) false .nil)))))⟩)⟩
    | _ => none) (fun _ _ => 0)
  | _ => {}

theorem ok53 : Abs.SpecOK Try.prog 53 sp53 :=
  Abs.specOC_of (C := ctab) (mv := mvtab) ctab_ok (n := 12) (an := an53) (T := Abs.tabOf [(80, sp80), (88, sp88), (89, sp89), (45, sp45), (29, sp29)]) good foll (Abs.tabOf_ok _ (by simp only [List.forall_mem_cons]; exact ⟨ok80, ok88, ok89, ok45, ok29, fun _ h => by cases h⟩)) rfl (by intro v; kernel_rfl)

/- pagewatch/pagewatchref34.Deliver -/
def i105 : Abs.Sg := ⟨[0, 1], (.dat Z8 (.dat (.int .i64) .nil)), .nil⟩

def o105 : Abs.Sg := ⟨[4, 5], (.st (.ptr (0, 0) 4 0 0) (.dat (.int .i64) .nil)), (.box 4 (.agg (.st (.own Z3 (1, 0)) (.dat (.row Z4) (.st (.own .bool (2, 0)) (.st (.own Z12 (3, 0)) .nil)))) .nil) (.arr Z3 false (.arr .bool false (.arr Z12 false .nil))))⟩

def m105 (v : Y22) : Option ((Int × Unit) × ((((List Y9) × Unit) × Unit) × (List Y7) × (List Bool) × (List (Int × Int × Unit)) × Unit)) :=
(m136 ((v.1.1, (v.1.2.1, ())), ())).bind fun u43 =>
bif ((u43.1.1 : Int) != 0) then (bif ((u43.1.1 : Int) != 0) then (some ((u43.1.1, ()), ((([], ()), ()), ([], ([], ([], ()))))))
else ((m115 ((v.1.1, ()), ())).bind fun u44 =>
bif (decide ((0 : Int) ≤ v.1.2.1 ∧ (v.1.2.1 : Int) < u44.2.2.2.1.length)) then
(u44.2.2.2.1[v.1.2.1.toNat]?).bind fun e45 =>
Abs.rowAt v.1.1.2.2.1 e45.2.2.1 fun e46 _ =>
bif e46 then (some ((0, ()), ((([], ()), ()), ([], ([], ([], ()))))))
else ((m113 ((v.1.1.2.2.2.1, (e45.2.1, (e45.2.2.1, ()))), ())).bind fun u47 =>
bif u47.1.1 then (some ((0, ()), ((([], ()), ()), ([], ([], ([], ()))))))
else (none))
else none))
else ((m115 ((v.1.1, ()), ())).bind fun u48 =>
bif (decide ((0 : Int) ≤ v.1.2.1)) then
bif (decide ((0 : Int) ≤ v.1.2.1)) then
bif (decide (0 ≤ v.1.2.1.toNat ∧ v.1.2.1.toNat = v.1.2.1.toNat ∧ v.1.2.1.toNat ≤ u48.2.2.2.1.length)) then
bif (decide ((0 : Int) ≤ (w64 (v.1.2.1 + 1)))) then
bif (decide ((w64 (v.1.2.1 + 1)).toNat ≤ u48.2.2.2.1.length ∧ u48.2.2.2.1.length ≤ u48.2.2.2.1.length)) then
bif (decide ((w64 (v.1.2.1 + 1)).toNat + (u48.2.2.2.1.length - (w64 (v.1.2.1 + 1)).toNat) ≤ u48.2.2.2.1.length)) then
bif (u48.2.2.2.1.take v.1.2.1.toNat).isEmpty then (bif (decide ((u48.2.2.2.1.take v.1.2.1.toNat).length + ((u48.2.2.2.1.drop (w64 (v.1.2.1 + 1)).toNat).take (u48.2.2.2.1.length - (w64 (v.1.2.1 + 1)).toNat)).length ≤ 4294967296)) then
let x49 := ((u48.2.2.2.1.take v.1.2.1.toNat) ++ ((u48.2.2.2.1.drop (w64 (v.1.2.1 + 1)).toNat).take (u48.2.2.2.1.length - (w64 (v.1.2.1 + 1)).toNat)))
(m115 ((v.1.1, ()), ())).bind fun u50 =>
bif (decide ((0 : Int) ≤ v.1.2.1 ∧ (v.1.2.1 : Int) < u50.2.2.2.1.length)) then
(u50.2.2.2.1[v.1.2.1.toNat]?).bind fun e51 =>
Abs.rowAt v.1.1.2.2.1 e51.2.2.1 fun e52 _ =>
bif e52 then (some ((0, ()), (((x49, ()), ()), (u48.2.2.1, (u48.2.2.2.2.1, (u48.2.2.2.2.2.1, ()))))))
else ((m113 ((v.1.1.2.2.2.1, (e51.2.1, (e51.2.2.1, ()))), ())).bind fun u53 =>
bif u53.1.1 then (some ((0, ()), (((x49, ()), ()), (u48.2.2.1, (u48.2.2.2.2.1, (u48.2.2.2.2.2.1, ()))))))
else (bif (decide ((0 : Int) ≤ e51.2.2.1 ∧ (e51.2.2.1 : Int) < u48.2.2.1.length)) then
(u48.2.2.1[e51.2.2.1.toNat]?).bind fun e54 =>
bif ((e51.1 : Int) == 1) then ((m34 (((v.1.1.1.length : Int), (e54, (e51, ()))), ())).bind fun u55 =>
bif (decide ((0 : Int) ≤ e51.2.2.1 ∧ (e51.2.2.1 : Int) < u48.2.2.1.length)) then
bif (decide (e51.2.2.1.toNat < u48.2.2.1.length)) then
bif u55.1.1 then (bif (decide (x49.length + ([(u55.2.2.1.1.1, (u55.2.2.1.1.2.1, (u55.2.2.1.1.2.2.1, (u55.2.2.1.1.2.2.2.1, (u55.2.2.1.1.2.2.2.2.1, (u55.2.2.1.1.2.2.2.2.2.1, (u55.2.2.1.1.2.2.2.2.2.2.1, ([], (u55.2.2.1.1.2.2.2.2.2.2.2.1, ())))))))))] : List Y9).length ≤ 4294967296)) then
let x56 := (x49 ++ ([(u55.2.2.1.1.1, (u55.2.2.1.1.2.1, (u55.2.2.1.1.2.2.1, (u55.2.2.1.1.2.2.2.1, (u55.2.2.1.1.2.2.2.2.1, (u55.2.2.1.1.2.2.2.2.2.1, (u55.2.2.1.1.2.2.2.2.2.2.1, ([], (u55.2.2.1.1.2.2.2.2.2.2.2.1, ())))))))))] : List Y9))
some ((0, ()), (((x56, ()), ()), ((u48.2.2.1.set e51.2.2.1.toNat u55.2.1.1), (u48.2.2.2.2.1, (u48.2.2.2.2.2.1, ())))))
else none)
else (some ((0, ()), (((x49, ()), ()), ((u48.2.2.1.set e51.2.2.1.toNat u55.2.1.1), (u48.2.2.2.2.1, (u48.2.2.2.2.2.1, ()))))))
else none
else none)
else (bif ((e51.1 : Int) == 2) then ((m37 (((v.1.1.1.length : Int), (e54, (e51, ()))), ())).bind fun u57 =>
bif (decide ((0 : Int) ≤ e51.2.2.1 ∧ (e51.2.2.1 : Int) < u48.2.2.1.length)) then
bif (decide (e51.2.2.1.toNat < u48.2.2.1.length)) then
some ((0, ()), (((x49, ()), ()), ((u48.2.2.1.set e51.2.2.1.toNat u57.2.1.1), (u48.2.2.2.2.1, (u48.2.2.2.2.2.1, ())))))
else none
else none)
else (bif ((e51.1 : Int) == 3) then ((m52 (((v.1.1.1.length : Int), (e54, (e51, ()))), ())).bind fun u58 =>
bif (decide ((0 : Int) ≤ e51.2.2.1 ∧ (e51.2.2.1 : Int) < u48.2.2.1.length)) then
bif (decide (e51.2.2.1.toNat < u48.2.2.1.length)) then
bif u58.1.1 then (bif (decide (x49.length + ([(u58.2.2.1.1.1, (u58.2.2.1.1.2.1, (u58.2.2.1.1.2.2.1, (u58.2.2.1.1.2.2.2.1, (u58.2.2.1.1.2.2.2.2.1, (u58.2.2.1.1.2.2.2.2.2.1, (u58.2.2.1.1.2.2.2.2.2.2.1, ([], (u58.2.2.1.1.2.2.2.2.2.2.2.1, ())))))))))] : List Y9).length ≤ 4294967296)) then
let x59 := (x49 ++ ([(u58.2.2.1.1.1, (u58.2.2.1.1.2.1, (u58.2.2.1.1.2.2.1, (u58.2.2.1.1.2.2.2.1, (u58.2.2.1.1.2.2.2.2.1, (u58.2.2.1.1.2.2.2.2.2.1, (u58.2.2.1.1.2.2.2.2.2.2.1, ([], (u58.2.2.1.1.2.2.2.2.2.2.2.1, ())))))))))] : List Y9))
some ((0, ()), (((x59, ()), ()), ((u48.2.2.1.set e51.2.2.1.toNat u58.2.1.1), (u48.2.2.2.2.1, (u48.2.2.2.2.2.1, ())))))
else none)
else (some ((0, ()), (((x49, ()), ()), ((u48.2.2.1.set e51.2.2.1.toNat u58.2.1.1), (u48.2.2.2.2.1, (u48.2.2.2.2.2.1, ()))))))
else none
else none)
else (bif ((e51.1 : Int) == 4) then ((m53 (((v.1.1.1.length : Int), (e54, (e51, ()))), ())).bind fun u60 =>
bif (decide ((0 : Int) ≤ e51.2.2.1 ∧ (e51.2.2.1 : Int) < u48.2.2.1.length)) then
bif (decide (e51.2.2.1.toNat < u48.2.2.1.length)) then
some ((0, ()), (((x49, ()), ()), ((u48.2.2.1.set e51.2.2.1.toNat u60.2.1.1), (u48.2.2.2.2.1, (u48.2.2.2.2.2.1, ())))))
else none
else none)
else (bif (decide ((0 : Int) ≤ e51.2.2.1 ∧ (e51.2.2.1 : Int) < u48.2.2.1.length)) then
bif (decide (e51.2.2.1.toNat < u48.2.2.1.length)) then
some ((0, ()), (((x49, ()), ()), ((u48.2.2.1.set e51.2.2.1.toNat e54), (u48.2.2.2.2.1, (u48.2.2.2.2.2.1, ())))))
else none
else none))))
else none))
else none
else none)
else (bif ((u48.2.2.2.1.drop (w64 (v.1.2.1 + 1)).toNat).take (u48.2.2.2.1.length - (w64 (v.1.2.1 + 1)).toNat)).isEmpty then ((m115 ((v.1.1, ()), ())).bind fun u61 =>
bif (decide ((0 : Int) ≤ v.1.2.1 ∧ (v.1.2.1 : Int) < u61.2.2.2.1.length)) then
(u61.2.2.2.1[v.1.2.1.toNat]?).bind fun e62 =>
Abs.rowAt v.1.1.2.2.1 e62.2.2.1 fun e63 _ =>
bif e63 then (some ((0, ()), ((((u48.2.2.2.1.take v.1.2.1.toNat), ()), ()), (u48.2.2.1, (u48.2.2.2.2.1, (u48.2.2.2.2.2.1, ()))))))
else ((m113 ((v.1.1.2.2.2.1, (e62.2.1, (e62.2.2.1, ()))), ())).bind fun u64 =>
bif u64.1.1 then (some ((0, ()), ((((u48.2.2.2.1.take v.1.2.1.toNat), ()), ()), (u48.2.2.1, (u48.2.2.2.2.1, (u48.2.2.2.2.2.1, ()))))))
else (bif (decide ((0 : Int) ≤ e62.2.2.1 ∧ (e62.2.2.1 : Int) < u48.2.2.1.length)) then
(u48.2.2.1[e62.2.2.1.toNat]?).bind fun e65 =>
bif ((e62.1 : Int) == 1) then ((m34 (((v.1.1.1.length : Int), (e65, (e62, ()))), ())).bind fun u66 =>
bif (decide ((0 : Int) ≤ e62.2.2.1 ∧ (e62.2.2.1 : Int) < u48.2.2.1.length)) then
bif (decide (e62.2.2.1.toNat < u48.2.2.1.length)) then
bif u66.1.1 then (bif (u48.2.2.2.1.take v.1.2.1.toNat).isEmpty then (bif (decide ((u48.2.2.2.1.take v.1.2.1.toNat).length + ([(u66.2.2.1.1.1, (u66.2.2.1.1.2.1, (u66.2.2.1.1.2.2.1, (u66.2.2.1.1.2.2.2.1, (u66.2.2.1.1.2.2.2.2.1, (u66.2.2.1.1.2.2.2.2.2.1, (u66.2.2.1.1.2.2.2.2.2.2.1, ([], (u66.2.2.1.1.2.2.2.2.2.2.2.1, ())))))))))] : List Y9).length ≤ 4294967296)) then
let x67 := ((u48.2.2.2.1.take v.1.2.1.toNat) ++ ([(u66.2.2.1.1.1, (u66.2.2.1.1.2.1, (u66.2.2.1.1.2.2.1, (u66.2.2.1.1.2.2.2.1, (u66.2.2.1.1.2.2.2.2.1, (u66.2.2.1.1.2.2.2.2.2.1, (u66.2.2.1.1.2.2.2.2.2.2.1, ([], (u66.2.2.1.1.2.2.2.2.2.2.2.1, ())))))))))] : List Y9))
some ((0, ()), (((x67, ()), ()), ((u48.2.2.1.set e62.2.2.1.toNat u66.2.1.1), (u48.2.2.2.2.1, (u48.2.2.2.2.2.1, ())))))
else none)
else (bif (decide ((u48.2.2.2.1.take v.1.2.1.toNat).length + ([(u66.2.2.1.1.1, (u66.2.2.1.1.2.1, (u66.2.2.1.1.2.2.1, (u66.2.2.1.1.2.2.2.1, (u66.2.2.1.1.2.2.2.2.1, (u66.2.2.1.1.2.2.2.2.2.1, (u66.2.2.1.1.2.2.2.2.2.2.1, ([], (u66.2.2.1.1.2.2.2.2.2.2.2.1, ())))))))))] : List Y9).length ≤ 4294967296)) then
let x68 := ((u48.2.2.2.1.take v.1.2.1.toNat) ++ ([(u66.2.2.1.1.1, (u66.2.2.1.1.2.1, (u66.2.2.1.1.2.2.1, (u66.2.2.1.1.2.2.2.1, (u66.2.2.1.1.2.2.2.2.1, (u66.2.2.1.1.2.2.2.2.2.1, (u66.2.2.1.1.2.2.2.2.2.2.1, ([], (u66.2.2.1.1.2.2.2.2.2.2.2.1, ())))))))))] : List Y9))
some ((0, ()), (((x68, ()), ()), ((u48.2.2.1.set e62.2.2.1.toNat u66.2.1.1), (u48.2.2.2.2.1, (u48.2.2.2.2.2.1, ())))))
else none))
else (some ((0, ()), ((((u48.2.2.2.1.take v.1.2.1.toNat), ()), ()), ((u48.2.2.1.set e62.2.2.1.toNat u66.2.1.1), (u48.2.2.2.2.1, (u48.2.2.2.2.2.1, ()))))))
else none
else none)
else (bif ((e62.1 : Int) == 2) then ((m37 (((v.1.1.1.length : Int), (e65, (e62, ()))), ())).bind fun u69 =>
bif (decide ((0 : Int) ≤ e62.2.2.1 ∧ (e62.2.2.1 : Int) < u48.2.2.1.length)) then
bif (decide (e62.2.2.1.toNat < u48.2.2.1.length)) then
some ((0, ()), ((((u48.2.2.2.1.take v.1.2.1.toNat), ()), ()), ((u48.2.2.1.set e62.2.2.1.toNat u69.2.1.1), (u48.2.2.2.2.1, (u48.2.2.2.2.2.1, ())))))
else none
else none)
else (bif ((e62.1 : Int) == 3) then ((m52 (((v.1.1.1.length : Int), (e65, (e62, ()))), ())).bind fun u70 =>
bif (decide ((0 : Int) ≤ e62.2.2.1 ∧ (e62.2.2.1 : Int) < u48.2.2.1.length)) then
bif (decide (e62.2.2.1.toNat < u48.2.2.1.length)) then
bif u70.1.1 then (bif (u48.2.2.2.1.take v.1.2.1.toNat).isEmpty then (bif (decide ((u48.2.2.2.1.take v.1.2.1.toNat).length + ([(u70.2.2.1.1.1, (u70.2.2.1.1.2.1, (u70.2.2.1.1.2.2.1, (u70.2.2.1.1.2.2.2.1, (u70.2.2.1.1.2.2.2.2.1, (u70.2.2.1.1.2.2.2.2.2.1, (u70.2.2.1.1.2.2.2.2.2.2.1, ([], (u70.2.2.1.1.2.2.2.2.2.2.2.1, ())))))))))] : List Y9).length ≤ 4294967296)) then
let x71 := ((u48.2.2.2.1.take v.1.2.1.toNat) ++ ([(u70.2.2.1.1.1, (u70.2.2.1.1.2.1, (u70.2.2.1.1.2.2.1, (u70.2.2.1.1.2.2.2.1, (u70.2.2.1.1.2.2.2.2.1, (u70.2.2.1.1.2.2.2.2.2.1, (u70.2.2.1.1.2.2.2.2.2.2.1, ([], (u70.2.2.1.1.2.2.2.2.2.2.2.1, ())))))))))] : List Y9))
some ((0, ()), (((x71, ()), ()), ((u48.2.2.1.set e62.2.2.1.toNat u70.2.1.1), (u48.2.2.2.2.1, (u48.2.2.2.2.2.1, ())))))
else none)
else (bif (decide ((u48.2.2.2.1.take v.1.2.1.toNat).length + ([(u70.2.2.1.1.1, (u70.2.2.1.1.2.1, (u70.2.2.1.1.2.2.1, (u70.2.2.1.1.2.2.2.1, (u70.2.2.1.1.2.2.2.2.1, (u70.2.2.1.1.2.2.2.2.2.1, (u70.2.2.1.1.2.2.2.2.2.2.1, ([], (u70.2.2.1.1.2.2.2.2.2.2.2.1, ())))))))))] : List Y9).length ≤ 4294967296)) then
let x72 := ((u48.2.2.2.1.take v.1.2.1.toNat) ++ ([(u70.2.2.1.1.1, (u70.2.2.1.1.2.1, (u70.2.2.1.1.2.2.1, (u70.2.2.1.1.2.2.2.1, (u70.2.2.1.1.2.2.2.2.1, (u70.2.2.1.1.2.2.2.2.2.1, (u70.2.2.1.1.2.2.2.2.2.2.1, ([], (u70.2.2.1.1.2.2.2.2.2.2.2.1, ())))))))))] : List Y9))
some ((0, ()), (((x72, ()), ()), ((u48.2.2.1.set e62.2.2.1.toNat u70.2.1.1), (u48.2.2.2.2.1, (u48.2.2.2.2.2.1, ())))))
else none))
else (some ((0, ()), ((((u48.2.2.2.1.take v.1.2.1.toNat), ()), ()), ((u48.2.2.1.set e62.2.2.1.toNat u70.2.1.1), (u48.2.2.2.2.1, (u48.2.2.2.2.2.1, ()))))))
else none
else none)
else (bif ((e62.1 : Int) == 4) then ((m53 (((v.1.1.1.length : Int), (e65, (e62, ()))), ())).bind fun u73 =>
bif (decide ((0 : Int) ≤ e62.2.2.1 ∧ (e62.2.2.1 : Int) < u48.2.2.1.length)) then
bif (decide (e62.2.2.1.toNat < u48.2.2.1.length)) then
some ((0, ()), ((((u48.2.2.2.1.take v.1.2.1.toNat), ()), ()), ((u48.2.2.1.set e62.2.2.1.toNat u73.2.1.1), (u48.2.2.2.2.1, (u48.2.2.2.2.2.1, ())))))
else none
else none)
else (bif (decide ((0 : Int) ≤ e62.2.2.1 ∧ (e62.2.2.1 : Int) < u48.2.2.1.length)) then
bif (decide (e62.2.2.1.toNat < u48.2.2.1.length)) then
some ((0, ()), ((((u48.2.2.2.1.take v.1.2.1.toNat), ()), ()), ((u48.2.2.1.set e62.2.2.1.toNat e65), (u48.2.2.2.2.1, (u48.2.2.2.2.2.1, ())))))
else none
else none))))
else none))
else none)
else (bif (decide ((u48.2.2.2.1.take v.1.2.1.toNat).length + ((u48.2.2.2.1.drop (w64 (v.1.2.1 + 1)).toNat).take (u48.2.2.2.1.length - (w64 (v.1.2.1 + 1)).toNat)).length ≤ 4294967296)) then
let x74 := ((u48.2.2.2.1.take v.1.2.1.toNat) ++ ((u48.2.2.2.1.drop (w64 (v.1.2.1 + 1)).toNat).take (u48.2.2.2.1.length - (w64 (v.1.2.1 + 1)).toNat)))
(m115 ((v.1.1, ()), ())).bind fun u75 =>
bif (decide ((0 : Int) ≤ v.1.2.1 ∧ (v.1.2.1 : Int) < u75.2.2.2.1.length)) then
(u75.2.2.2.1[v.1.2.1.toNat]?).bind fun e76 =>
Abs.rowAt v.1.1.2.2.1 e76.2.2.1 fun e77 _ =>
bif e77 then (some ((0, ()), (((x74, ()), ()), (u48.2.2.1, (u48.2.2.2.2.1, (u48.2.2.2.2.2.1, ()))))))
else ((m113 ((v.1.1.2.2.2.1, (e76.2.1, (e76.2.2.1, ()))), ())).bind fun u78 =>
bif u78.1.1 then (some ((0, ()), (((x74, ()), ()), (u48.2.2.1, (u48.2.2.2.2.1, (u48.2.2.2.2.2.1, ()))))))
else (bif (decide ((0 : Int) ≤ e76.2.2.1 ∧ (e76.2.2.1 : Int) < u48.2.2.1.length)) then
(u48.2.2.1[e76.2.2.1.toNat]?).bind fun e79 =>
bif ((e76.1 : Int) == 1) then ((m34 (((v.1.1.1.length : Int), (e79, (e76, ()))), ())).bind fun u80 =>
bif (decide ((0 : Int) ≤ e76.2.2.1 ∧ (e76.2.2.1 : Int) < u48.2.2.1.length)) then
bif (decide (e76.2.2.1.toNat < u48.2.2.1.length)) then
bif u80.1.1 then (bif (decide (x74.length + ([(u80.2.2.1.1.1, (u80.2.2.1.1.2.1, (u80.2.2.1.1.2.2.1, (u80.2.2.1.1.2.2.2.1, (u80.2.2.1.1.2.2.2.2.1, (u80.2.2.1.1.2.2.2.2.2.1, (u80.2.2.1.1.2.2.2.2.2.2.1, ([], (u80.2.2.1.1.2.2.2.2.2.2.2.1, ())))))))))] : List Y9).length ≤ 4294967296)) then
let x81 := (x74 ++ ([(u80.2.2.1.1.1, (u80.2.2.1.1.2.1, (u80.2.2.1.1.2.2.1, (u80.2.2.1.1.2.2.2.1, (u80.2.2.1.1.2.2.2.2.1, (u80.2.2.1.1.2.2.2.2.2.1, (u80.2.2.1.1.2.2.2.2.2.2.1, ([], (u80.2.2.1.1.2.2.2.2.2.2.2.1, ())))))))))] : List Y9))
some ((0, ()), (((x81, ()), ()), ((u48.2.2.1.set e76.2.2.1.toNat u80.2.1.1), (u48.2.2.2.2.1, (u48.2.2.2.2.2.1, ())))))
else none)
else (some ((0, ()), (((x74, ()), ()), ((u48.2.2.1.set e76.2.2.1.toNat u80.2.1.1), (u48.2.2.2.2.1, (u48.2.2.2.2.2.1, ()))))))
else none
else none)
else (bif ((e76.1 : Int) == 2) then ((m37 (((v.1.1.1.length : Int), (e79, (e76, ()))), ())).bind fun u82 =>
bif (decide ((0 : Int) ≤ e76.2.2.1 ∧ (e76.2.2.1 : Int) < u48.2.2.1.length)) then
bif (decide (e76.2.2.1.toNat < u48.2.2.1.length)) then
some ((0, ()), (((x74, ()), ()), ((u48.2.2.1.set e76.2.2.1.toNat u82.2.1.1), (u48.2.2.2.2.1, (u48.2.2.2.2.2.1, ())))))
else none
else none)
else (bif ((e76.1 : Int) == 3) then ((m52 (((v.1.1.1.length : Int), (e79, (e76, ()))), ())).bind fun u83 =>
bif (decide ((0 : Int) ≤ e76.2.2.1 ∧ (e76.2.2.1 : Int) < u48.2.2.1.length)) then
bif (decide (e76.2.2.1.toNat < u48.2.2.1.length)) then
bif u83.1.1 then (bif (decide (x74.length + ([(u83.2.2.1.1.1, (u83.2.2.1.1.2.1, (u83.2.2.1.1.2.2.1, (u83.2.2.1.1.2.2.2.1, (u83.2.2.1.1.2.2.2.2.1, (u83.2.2.1.1.2.2.2.2.2.1, (u83.2.2.1.1.2.2.2.2.2.2.1, ([], (u83.2.2.1.1.2.2.2.2.2.2.2.1, ())))))))))] : List Y9).length ≤ 4294967296)) then
let x84 := (x74 ++ ([(u83.2.2.1.1.1, (u83.2.2.1.1.2.1, (u83.2.2.1.1.2.2.1, (u83.2.2.1.1.2.2.2.1, (u83.2.2.1.1.2.2.2.2.1, (u83.2.2.1.1.2.2.2.2.2.1, (u83.2.2.1.1.2.2.2.2.2.2.1, ([], (u83.2.2.1.1.2.2.2.2.2.2.2.1, ())))))))))] : List Y9))
some ((0, ()), (((x84, ()), ()), ((u48.2.2.1.set e76.2.2.1.toNat u83.2.1.1), (u48.2.2.2.2.1, (u48.2.2.2.2.2.1, ())))))
else none)
else (some ((0, ()), (((x74, ()), ()), ((u48.2.2.1.set e76.2.2.1.toNat u83.2.1.1), (u48.2.2.2.2.1, (u48.2.2.2.2.2.1, ()))))))
else none
else none)
else (bif ((e76.1 : Int) == 4) then ((m53 (((v.1.1.1.length : Int), (e79, (e76, ()))), ())).bind fun u85 =>
bif (decide ((0 : Int) ≤ e76.2.2.1 ∧ (e76.2.2.1 : Int) < u48.2.2.1.length)) then
bif (decide (e76.2.2.1.toNat < u48.2.2.1.length)) then
some ((0, ()), (((x74, ()), ()), ((u48.2.2.1.set e76.2.2.1.toNat u85.2.1.1), (u48.2.2.2.2.1, (u48.2.2.2.2.2.1, ())))))
else none
else none)
else (bif (decide ((0 : Int) ≤ e76.2.2.1 ∧ (e76.2.2.1 : Int) < u48.2.2.1.length)) then
bif (decide (e76.2.2.1.toNat < u48.2.2.1.length)) then
some ((0, ()), (((x74, ()), ()), ((u48.2.2.1.set e76.2.2.1.toNat e79), (u48.2.2.2.2.1, (u48.2.2.2.2.2.1, ())))))
else none
else none))))
else none))
else none
else none))
else none
else none
else none
else none
else none
else none)

def sp105 : Abs.Spec := ⟨0, i105, o105, m105⟩

def an105 : Nat → Abs.FAn
  | 0 => Abs.FAn.mk (fun _ => none) (fun _ => none) (fun _ => none) (fun
    | 1, 2 => 1
    | _, _ => 0)
  | _ => {}

theorem ok105 : Abs.SpecOK Try.prog 105 sp105 :=
  Abs.specOC_of (C := ctab) (mv := mvtab) ctab_ok (n := 12) (an := an105) (T := Abs.tabOf [(136, sp136), (115, sp115), (113, sp113), (34, sp34), (37, sp37), (52, sp52), (53, sp53)]) good foll (Abs.tabOf_ok _ (by simp only [List.forall_mem_cons]; exact ⟨ok136, ok115, ok113, ok34, ok37, ok52, ok53, fun _ h => by cases h⟩)) rfl (by intro v; kernel_rfl)

/- warnings: indexAddr: size -/

def l65_0_1 (v : ((Unit) × (((Unit) × Unit) × (Y5 × Unit) × Unit))) : Option (((Unit) × (((Unit) × Unit) × (Y5 × Unit) × Unit)) ⊕ ((Unit) × (((Unit) × Unit) × (Y5 × Unit) × Unit))) :=
let x13 := (decide (((v.2.2.1.1.2.1.length : Int) : Int) > 0))
bif x13 then ((m105 ((v.2.2.1.1, (0, ())), ())).bind fun u14 =>
bif ((u14.1.1 : Int) != 0) then (some (.inr ((), (((), ()), ((v.2.2.1.1, ()), ())))))
else (some (.inl ((), (((), ()), (((u14.2.2.1, (u14.2.1.1.1, (u14.2.2.2.1, (u14.2.2.2.2.1, ())))), ()), ()))))))
else (some (.inr ((), (((), ()), ((v.2.2.1.1, ()), ())))))

/- pagewatch/pagewatchref34.Flush -/
def i65 : Abs.Sg := ⟨[0], (.dat Z8 .nil), .nil⟩

def o65 : Abs.Sg := ⟨[2], (.st (.ptr (0, 0) 4 0 0) .nil), (.box 4 (.dat Z8 .nil) .nil)⟩

def m65 (v : ((Y5 × Unit) × (Unit))) : Option ((Unit) × ((Y5 × Unit) × Unit)) :=
(loopT l65_0_1 ((), (((), ()), ((v.1.1, ()), ())))).bind fun d15 =>
some ((), ((d15.2.2.1.1, ()), ()))

def sp65 : Abs.Spec := ⟨0, i65, o65, m65⟩

def an65 : Nat → Abs.FAn
  | 0 => Abs.FAn.mk (fun _ => none) (fun _ => none) (fun
    | 1 => some ⟨⟨[2, 1], (.st (.ptr (0, 0) 4 0 0) (.st (.ptr (1, 0) 4 0 0) .nil)), (.box 4 (.agg (.st .nil (.st .nil (.st .nil (.st .nil .nil)))) .nil) (.box 4 (.dat Z8 .nil) .nil))⟩, (.one (.exit 0) ⟨[2, 1], (.st (.ptr (0, 0) 4 0 0) (.st (.ptr (1, 0) 4 0 0) .nil)), (.box 4 (.agg (.st .nil (.st .nil (.st .nil (.st .nil .nil)))) .nil) (.box 4 (.dat Z8 .nil) .nil))⟩)⟩
    | _ => none) (fun _ _ => 0)
  | _ => {}

theorem ok65 : Abs.SpecOK Try.prog 65 sp65 :=
  Abs.specOC_of (C := ctab) (mv := mvtab) ctab_ok (n := 12) (an := an65) (T := Abs.tabOf [(105, sp105)]) good foll (Abs.tabOf_ok _ (by simp only [List.forall_mem_cons]; exact ⟨ok105, fun _ h => by cases h⟩)) rfl (by intro v; kernel_rfl)

def o3 : Abs.Sg := ⟨[2], (.dat .bool .nil), .nil⟩

def l69_0_4 (v : ((Int × Y2 × Y2 × Unit) × (Unit))) : Option (((Int × Y2 × Y2 × Unit) × (Unit)) ⊕ (Y16 ⊕ ((Unit) × (Unit)))) :=
let x35 := (decide ((v.1.1 : Int) < (v.1.2.2.1.length : Int)))
bif x35 then (Abs.rowAt v.1.2.2.1 v.1.1 fun e36 _ =>
Abs.rowAt v.1.2.1 v.1.1 fun e37 _ =>
let x38 := (!(((e36.1 : Int) == e37.1) && ((((e36.2.1.1 : Int) == e37.2.1.1) && (((e36.2.1.2.1 : Int) == e37.2.1.2.1) && (((e36.2.1.2.2.1 : Int) == e37.2.1.2.2.1) && (((e36.2.1.2.2.2.1 : Int) == e37.2.1.2.2.2.1) && (((e36.2.1.2.2.2.2.1 : Int) == e37.2.1.2.2.2.2.1) && (((e36.2.1.2.2.2.2.2.1 : Int) == e37.2.1.2.2.2.2.2.1) && (((e36.2.1.2.2.2.2.2.2.1 : Int) == e37.2.1.2.2.2.2.2.2.1) && (((e36.2.1.2.2.2.2.2.2.2.1 : Int) == e37.2.1.2.2.2.2.2.2.2.1) && (((e36.2.1.2.2.2.2.2.2.2.2.1 : Int) == e37.2.1.2.2.2.2.2.2.2.2.1) && ((((e36.2.1.2.2.2.2.2.2.2.2.2.1.1 : Int) == e37.2.1.2.2.2.2.2.2.2.2.2.1.1) && (((e36.2.1.2.2.2.2.2.2.2.2.2.1.2.1 : Int) == e37.2.1.2.2.2.2.2.2.2.2.2.1.2.1) && (((e36.2.1.2.2.2.2.2.2.2.2.2.1.2.2.1 : Int) == e37.2.1.2.2.2.2.2.2.2.2.2.1.2.2.1) && (((e36.2.1.2.2.2.2.2.2.2.2.2.1.2.2.2.1 : Int) == e37.2.1.2.2.2.2.2.2.2.2.2.1.2.2.2.1) && (((e36.2.1.2.2.2.2.2.2.2.2.2.1.2.2.2.2.1 : Int) == e37.2.1.2.2.2.2.2.2.2.2.2.1.2.2.2.2.1) && (((e36.2.1.2.2.2.2.2.2.2.2.2.1.2.2.2.2.2.1 : Int) == e37.2.1.2.2.2.2.2.2.2.2.2.1.2.2.2.2.2.1) && true)))))) && ((((e36.2.1.2.2.2.2.2.2.2.2.2.2.1.1 : Int) == e37.2.1.2.2.2.2.2.2.2.2.2.2.1.1) && (((e36.2.1.2.2.2.2.2.2.2.2.2.2.1.2.1 : Int) == e37.2.1.2.2.2.2.2.2.2.2.2.2.1.2.1) && (((e36.2.1.2.2.2.2.2.2.2.2.2.2.1.2.2.1 : Int) == e37.2.1.2.2.2.2.2.2.2.2.2.2.1.2.2.1) && (((e36.2.1.2.2.2.2.2.2.2.2.2.2.1.2.2.2.1 : Int) == e37.2.1.2.2.2.2.2.2.2.2.2.2.1.2.2.2.1) && (((e36.2.1.2.2.2.2.2.2.2.2.2.2.1.2.2.2.2.1 : Int) == e37.2.1.2.2.2.2.2.2.2.2.2.2.1.2.2.2.2.1) && true))))) && true))))))))))) && true)))
bif x38 then (some (.inr (.inl ((false, ()), ()))))
else (some (.inl (((w64 (v.1.1 + 1)), (v.1.2.1, (v.1.2.2.1, ()))), ()))))
else (some (.inr (.inr ((), ()))))

/- pagewatch/pagewatchref32.SameLog -/
def i69 : Abs.Sg := ⟨[0, 1], (.dat (.row Z1) (.dat (.row Z1) .nil)), .nil⟩

def o69 : Abs.Sg := ⟨[4], (.dat .bool .nil), .nil⟩

def m69 (v : ((Y2 × Y2 × Unit) × (Unit))) : Option Y16 :=
let x34 := (((v.1.1.length : Int) : Int) != (v.1.2.1.length : Int))
bif x34 then (some ((false, ()), ()))
else ((loopT l69_0_4 ((0, (v.1.2.1, (v.1.1, ()))), ())).bind fun d39 =>
sumE d39 (fun d40 => (some ((d40.1.1, ()), ()))) (fun d41 => (some ((true, ()), ()))))

def sp69 : Abs.Spec := ⟨0, i69, o69, m69⟩

def an69 : Nat → Abs.FAn
  | 0 => Abs.FAn.mk (fun _ => none) (fun _ => none) (fun
    | 4 => some ⟨⟨[5, 1, 0], (.dat (.int .i64) (.dat (.row Z1) (.dat (.row Z1) .nil))), .nil⟩, (.more .ret ⟨[4], (.dat .bool .nil), .nil⟩ (.one (.exit 0) ⟨[], .nil, .nil⟩))⟩
    | _ => none) (fun _ _ => 0)
  | _ => {}

theorem ok69 : Abs.SpecOK Try.prog 69 sp69 :=
  Abs.specOC_of (C := ctab) (mv := mvtab) ctab_ok (n := 12) (an := an69) (T := Abs.tabOf []) good foll (Abs.tabOf_ok _ (fun _ h => by cases h)) rfl (by intro v; kernel_rfl)

end
end Go.Proofs.Ytfbikpbejkgegaa
