/- Lemmas for the statement of the last text of this claim. -/
import Derived.Test.YtcelhemfoehedaaGreatPxR
import Derived.Test.YtcelhemfoehedaaGreatChecked
import Derived.Test.YtcelhemfoehedaaGreatPxQ
import Derived.ProofKit
set_option linter.unusedSimpArgs false
set_option linter.unusedVariables false
namespace Go.Bnd
open Go Go.Abs
abbrev Step := Int × Bool × List (Int × Int × Unit) × Unit

abbrev Pol := ByteArray × List Step × Int × Unit

abbrev Team := ByteArray × List Int × Unit

abbrev StT := Int × Int × List Int × Unit

abbrev PgT := Int × Int × Int × Int × Int × Int × Int × Int × Int × Int × Int × List StT × List Int × List Int × Unit

/-! ### Waits -/
def SOK (s : Step) : Prop := 0 ≤ s.1 ∧ s.1 ≤ 900

def POK (p : Pol) : Prop := (0 ≤ p.2.2.1 ∧ p.2.2.1 ≤ 2) ∧ (1 ≤ p.2.1.length ∧ p.2.1.length ≤ 3) ∧ ∀ s ∈ p.2.1, SOK s

def dflt : Step := (0, false, [], ())

def wt (l : List Step) (k : Nat) : Int := (l.getD (k % l.length) dflt).1

def S (l : List Step) : Nat → Int
  | 0 => 0
  | k + 1 => S l k + wt l k

theorem wt_get {l : List Step} {k : Nat} (h : 0 < l.length) : ∃ s, l[k % l.length]? = some s ∧ s ∈ l ∧ s.1 = wt l k := by
  have hk : k % l.length < l.length := Nat.mod_lt _ h
  refine ⟨l[k % l.length], List.getElem?_eq_getElem hk, List.getElem_mem hk, ?_⟩
  simp [wt, List.getD_eq_getElem?_getD, List.getElem?_eq_getElem hk]

theorem wt_bound {l : List Step} (h : 0 < l.length) (hs : ∀ s ∈ l, SOK s) (k : Nat) : 0 ≤ wt l k ∧ wt l k ≤ 900 := by
  obtain ⟨s, _, hm, he⟩ := wt_get (k := k) h
  have := hs s hm
  rw [← he]
  exact this

theorem S_bound {l : List Step} (h : 0 < l.length) (hs : ∀ s ∈ l, SOK s) : ∀ k, 0 ≤ S l k ∧ S l k ≤ 900 * k := by
  intro k
  induction k with
  | zero => simp [S]
  | succ k ih =>
    have := wt_bound h hs k
    simp only [S]
    omega

theorem S_mono {l : List Step} (h : 0 < l.length) (hs : ∀ s ∈ l, SOK s) (k : Nat) : ∀ d, S l k ≤ S l (k + d) := by
  intro d
  induction d with
  | zero => exact Int.le_refl _
  | succ d ih =>
    have := wt_bound h hs (k + d)
    rw [← Nat.add_assoc]
    simp only [S]
    omega

def cnt (p : Pol) : Nat := p.2.1.length * (p.2.2.1.toNat + 1)

theorem cnt_le {p : Pol} (hp : POK p) : 1 ≤ cnt p ∧ cnt p ≤ 9 ∧ (cnt p : Int) = (p.2.1.length : Int) * (p.2.2.1 + 1) := by
  obtain ⟨⟨a1, a2⟩, ⟨b1, b2⟩, _⟩ := hp
  have h1 : p.2.2.1.toNat + 1 ≤ 3 := by omega
  refine ⟨Nat.mul_pos b1 (Nat.succ_pos _), Nat.le_trans (Nat.mul_le_mul b2 h1) (by omega), ?_⟩
  unfold cnt
  rw [Int.natCast_mul]
  congr 1
  omega

theorem tmod_nat (i n : Nat) : (i : Int).tmod (n : Int) = ((i % n : Nat) : Int) := by
  rw [Int.tmod_eq_emod_of_nonneg (by omega)]; simp

/-- What is left of the waits. -/
def rest (p : Pol) (n : Nat) : Int := S p.2.1 (cnt p) - S p.2.1 n

theorem rest_bound {p : Pol} (hp : POK p) {n : Nat} (hn : n ≤ cnt p) : 0 ≤ rest p n ∧ rest p n ≤ 8100 := by
  obtain ⟨c1, c2, c3⟩ := cnt_le hp
  have h0 : 0 < p.2.1.length := hp.2.1.1
  have a := S_bound h0 hp.2.2 (cnt p)
  have b := S_bound h0 hp.2.2 n
  have c := S_mono h0 hp.2.2 n (cnt p - n)
  rw [show n + (cnt p - n) = cnt p by omega] at c
  unfold rest
  omega

theorem rest_step {p : Pol} (n : Nat) : rest p n = wt p.2.1 n + rest p (n + 1) := by
  unfold rest
  simp only [S]
  omega

/-! ### Sets -/
def setL (l : List Int) : Prop := l.Pairwise (· < ·) ∧ ∀ x ∈ l, 0 ≤ x ∧ x < 32

theorem set_nil : setL [] := ⟨List.Pairwise.nil, fun x h => by cases h⟩

theorem set_one {x : Int} (h0 : 0 ≤ x) (h1 : x < 32) : setL [x] := ⟨List.pairwise_singleton _ _, fun y h => by simp only [List.mem_singleton] at h; subst h; exact ⟨h0, h1⟩⟩

theorem set_sub {l l' : List Int} (h : setL l) (hs : l'.Sublist l) : setL l' := ⟨h.1.sublist hs, fun x hx => h.2 x (hs.subset hx)⟩

/-- A set with one more number: what is done when the rest is l, and whether the number was laid. -/
def withR (x : Int) : Bool → List Int → List Int
  | true, [] => []
  | false, [] => [x]
  | true, y :: l => bif decide (y ≠ x) then y :: withR x true l else withR x true l
  | false, y :: l => bif decide (y ≥ x) then (bif decide (y ≠ x) then x :: y :: withR x true l else x :: withR x true l) else y :: withR x false l

theorem withR_true {x : Int} : ∀ {l : List Int}, (∀ y ∈ l, x < y) → withR x true l = l
  | [], _ => rfl
  | y :: l, h => by
    have hy := h y (List.mem_cons_self ..)
    unfold withR
    rw [decide_eq_true (show y ≠ x by omega), withR_true fun z hz => h z (List.mem_cons_of_mem _ hz)]
    rfl

theorem withR_mem {x : Int} : ∀ {d : Bool} {l : List Int} {y : Int}, y ∈ withR x d l → y = x ∨ y ∈ l
  | true, [], y, h => by cases h
  | false, [], y, h => by unfold withR at h; simp only [List.mem_singleton] at h; exact .inl h
  | true, z :: l, y, h => by
    unfold withR at h
    cases hd : decide (z ≠ x)
    · rw [hd] at h
      rcases withR_mem h with h | h
      · exact .inl h
      · exact .inr (List.mem_cons_of_mem _ h)
    · rw [hd] at h
      rcases List.mem_cons.1 h with h | h
      · exact .inr (h ▸ List.mem_cons_self ..)
      · rcases withR_mem h with h | h
        · exact .inl h
        · exact .inr (List.mem_cons_of_mem _ h)
  | false, z :: l, y, h => by
    unfold withR at h
    cases hd : decide (z ≥ x)
    · rw [hd] at h
      rcases List.mem_cons.1 h with h | h
      · exact .inr (h ▸ List.mem_cons_self ..)
      · rcases withR_mem h with h | h
        · exact .inl h
        · exact .inr (List.mem_cons_of_mem _ h)
    · rw [hd] at h
      cases he : decide (z ≠ x)
      · rw [he] at h
        rcases List.mem_cons.1 h with h | h
        · exact .inl h
        · rcases withR_mem h with h | h
          · exact .inl h
          · exact .inr (List.mem_cons_of_mem _ h)
      · rw [he] at h
        rcases List.mem_cons.1 h with h | h
        · exact .inl h
        · rcases List.mem_cons.1 h with h | h
          · exact .inr (h ▸ List.mem_cons_self ..)
          · rcases withR_mem h with h | h
            · exact .inl h
            · exact .inr (List.mem_cons_of_mem _ h)

theorem withR_up {x : Int} : ∀ {l : List Int}, l.Pairwise (· < ·) → (withR x false l).Pairwise (· < ·)
  | [], _ => List.pairwise_singleton _ _
  | y :: l, h => by
    obtain ⟨h1, h2⟩ := List.pairwise_cons.1 h
    unfold withR
    by_cases hy : y ≥ x
    · rw [decide_eq_true hy]
      by_cases he : y = x
      · subst he
        rw [decide_eq_false (by simp), withR_true h1]
        exact h
      · rw [decide_eq_true he, withR_true fun z hz => by have := h1 z hz; omega]
        refine List.pairwise_cons.2 ⟨fun z hz => ?_, h⟩
        rcases List.mem_cons.1 hz with hz | hz
        · subst hz; omega
        · have := h1 z hz; omega
    · rw [decide_eq_false hy]
      refine List.pairwise_cons.2 ⟨fun z hz => ?_, withR_up h2⟩
      rcases withR_mem hz with hz | hz
      · omega
      · exact h1 z hz

theorem with_set {x : Int} {l : List Int} (h : setL l) (h0 : 0 ≤ x) (h1 : x < 32) : setL (withR x false l) :=
  ⟨withR_up h.1, fun y hy => by
    rcases withR_mem hy with e | e
    · subst e; exact ⟨h0, h1⟩
    · exact h.2 y e⟩

/-! ### Starts -/
/-- Starts that are right behind the instant at and the step k. -/
def SL (nx : Int) : Int → Int → List StT → Prop
  | _, _, [] => True
  | at', k, s :: r => at' ≤ s.2.1 ∧ (s.1 = -1 ∨ k < s.1 ∧ 0 ≤ s.1 ∧ s.1 < nx) ∧ setL s.2.2.1 ∧ SL nx s.2.1 (max k s.1) r

def lastAt (at' : Int) (l : List StT) : Int := l.foldl (fun _ s => s.2.1) at'

def topK (k : Int) (l : List StT) : Int := l.foldl (fun k s => max k s.1) k

theorem SL_mono {nx nx' : Int} (h : nx ≤ nx') : ∀ {l : List StT} {at' k : Int}, SL nx at' k l → SL nx' at' k l
  | [], _, _, _ => trivial
  | s :: r, at', k, h1 => ⟨h1.1, by
    rcases h1.2.1 with e | e
    · exact .inl e
    · exact .inr ⟨e.1, e.2.1, by omega⟩, h1.2.2.1, SL_mono h h1.2.2.2⟩

theorem SL_snoc {nx : Int} {s : StT} : ∀ {l : List StT} {at' k : Int}, SL nx at' k l → lastAt at' l ≤ s.2.1 → (s.1 = -1 ∨ topK k l < s.1 ∧ 0 ≤ s.1 ∧ s.1 < nx) → setL s.2.2.1 → SL nx at' k (l ++ [s])
  | [], _, _, _, h2, h3, h4 => ⟨h2, h3, h4, trivial⟩
  | _ :: _, _, _, h1, h2, h3, h4 => ⟨h1.1, h1.2.1, h1.2.2.1, SL_snoc h1.2.2.2 h2 h3 h4⟩

theorem SL_top {nx : Int} (h0 : 0 ≤ nx) : ∀ {l : List StT} {at' k : Int}, SL nx at' k l → k < nx → topK k l < nx
  | [], _, _, _, h => h
  | s :: r, at', k, h1, h => SL_top h0 (l := r) h1.2.2.2 (by
    show max k s.1 < nx
    rcases h1.2.1 with e | e
    · rw [e]; omega
    · omega)

theorem lastAt_snoc (at' : Int) (l : List StT) (s : StT) : lastAt at' (l ++ [s]) = s.2.1 := by unfold lastAt; rw [List.foldl_append]; rfl

theorem topK_snoc (k : Int) (l : List StT) (s : StT) : topK k (l ++ [s]) = max (topK k l) s.1 := by unfold topK; rw [List.foldl_append]; rfl

theorem SL_sets {nx : Int} : ∀ {l : List StT} {at' k : Int}, SL nx at' k l → ∀ s ∈ l, setL s.2.2.1
  | [], _, _, _, s, hs => by cases hs
  | x :: r, at', k, h, s, hs => by
    rcases List.mem_cons.1 hs with e | e
    · subst e; exact h.2.2.1
    · exact SL_sets (l := r) h.2.2.2 s e

theorem SL_at {nx : Int} {s : StT} : ∀ {l : List StT} {at' k : Int} {i : Nat}, SL nx at' k l → l[i]? = some s → lastAt at' (l.take i) ≤ s.2.1 ∧ (s.1 = -1 ∨ topK k (l.take i) < s.1 ∧ 0 ≤ s.1 ∧ s.1 < nx) ∧ setL s.2.2.1
  | [], _, _, i, _, h => by simp at h
  | x :: r, at', k, 0, h1, h2 => by
    simp only [List.getElem?_cons_zero, Option.some.injEq] at h2
    subst h2
    exact ⟨h1.1, h1.2.1, h1.2.2.1⟩
  | x :: r, at', k, i + 1, h1, h2 => by
    simp only [List.getElem?_cons_succ] at h2
    exact SL_at (l := r) h1.2.2.2 h2

theorem topK_ge (k : Int) (l : List StT) : k ≤ topK k l := by
  unfold topK
  induction l generalizing k with
  | nil => exact Int.le_refl _
  | cons s r ih => exact Int.le_trans (show k ≤ max k s.1 by omega) (ih (max k s.1))

theorem take_snoc {A : Type} {l : List A} {i : Nat} {e : A} (h : l[i]? = some e) : l.take (i + 1) = l.take i ++ [e] := by rw [List.take_add_one, h]; rfl

/-! ### Pages -/
abbrev pId (p : PgT) : Int := p.1

abbrev pPol (p : PgT) : Int := p.2.1

abbrev pStart (p : PgT) : Int := p.2.2.1

abbrev pNext (p : PgT) : Int := p.2.2.2.1

abbrev pDue (p : PgT) : Int := p.2.2.2.2.1

abbrev pState (p : PgT) : Int := p.2.2.2.2.2.1

abbrev pBy (p : PgT) : Int := p.2.2.2.2.2.2.1

abbrev pUntil (p : PgT) : Int := p.2.2.2.2.2.2.2.1

abbrev pLast (p : PgT) : Int := p.2.2.2.2.2.2.2.2.1

abbrev pSn (p : PgT) : Int := p.2.2.2.2.2.2.2.2.2.1

abbrev pHd (p : PgT) : Int := p.2.2.2.2.2.2.2.2.2.2.1

abbrev pSts (p : PgT) : List StT := p.2.2.2.2.2.2.2.2.2.2.2.1

abbrev pDec (p : PgT) : List Int := p.2.2.2.2.2.2.2.2.2.2.2.2.1

abbrev pSeen (p : PgT) : List Int := p.2.2.2.2.2.2.2.2.2.2.2.2.2.1

end Go.Bnd

namespace Go.Bnd
open Go Go.Abs
/-- A page that is right, of a policy, with n steps begun. -/
structure PG (ps : List Pol) (pol : Pol) (n : Nat) (p : PgT) : Prop where
  id : 1 ≤ pId p ∧ pId p ≤ 999999
  pol0 : 0 ≤ pPol p
  polAt : ps[(pPol p).toNat]? = some pol
  pok : POK pol
  start : 0 ≤ pStart p ∧ pStart p ≤ 8000000000
  next : pNext p = n
  nle : n ≤ cnt pol
  state : 0 ≤ pState p ∧ pState p ≤ 4
  by' : -1 ≤ pBy p ∧ pBy p ≤ 31
  last : pStart p ≤ pLast p ∧ pLast p ≤ 9000000000
  due : 0 ≤ pDue p ∧ pDue p ≤ 9000000000
  unt : 0 ≤ pUntil p ∧ pUntil p ≤ 9000000000
  sn : 0 ≤ pSn p ∧ pSn p ≤ 4
  hd : 0 ≤ pHd p ∧ pHd p ≤ 4
  sts : SL (pNext p) (pStart p) (-1) (pSts p)
  stl : lastAt (pStart p) (pSts p) ≤ pLast p
  stn : ((pSts p).length : Int) ≤ n + pHd p
  dec : setL (pDec p)
  seen : (pSeen p).Nodup ∧ (pSeen p).length ≤ 64 ∧ ∀ x ∈ pSeen p, 1 ≤ x
  op : pState p = 0 → pLast p ≤ pDue p ∧ pDue p + rest pol n ≤ 9000000000
  sno : pState p = 2 → pLast p ≤ pUntil p ∧ pUntil p + rest pol n ≤ 9000000000

/-- When a page has ended at the latest. -/
def lat (pol : Pol) (n : Nat) (p : PgT) : Int := if pState p = 0 then pDue p + rest pol n else if pState p = 2 then pUntil p + rest pol n else pLast p

/-- How many steps are left. -/
def left (pol : Pol) (n : Nat) (p : PgT) : Nat := if pState p = 0 then 2 * (cnt pol - n) + 1 else if pState p = 2 then 2 * (cnt pol - n) + 2 else 0

theorem PG.few {ps : List Pol} {pol : Pol} {n : Nat} {p : PgT} (h : PG ps pol n p) : (pSts p).length ≤ 13 := by
  have a := h.stn; have b := h.hd; have c := h.nle; have d := (cnt_le h.pok).2.1
  omega

theorem PG.top {ps : List Pol} {pol : Pol} {n : Nat} {p : PgT} (h : PG ps pol n p) : topK (-1) (pSts p) < n := by
  have := SL_top (by rw [h.next]; omega) h.sts (by rw [h.next]; omega)
  rw [h.next] at this
  exact this

def wake (p : PgT) : PgT := (pId p, pPol p, pStart p, pNext p, pUntil p, 0, pBy p, pUntil p, max (pUntil p) (pLast p), pSn p, pHd p, pSts p, pDec p, pSeen p, ())

def ended (p : PgT) : PgT := (pId p, pPol p, pStart p, pNext p, pDue p, 3, pBy p, pUntil p, max (pDue p) (pLast p), pSn p, pHd p, pSts p, pDec p, pSeen p, ())

def begun (p : PgT) (l : List Int) (w : Int) : PgT := (pId p, pPol p, pStart p, pNext p + 1, (if l.length = 0 then pDue p else pDue p + w), pState p, pBy p, pUntil p, max (pDue p) (pLast p), pSn p, pHd p, pSts p ++ [(pNext p, pDue p, l, ())], [], pSeen p, ())

theorem PG.wake {ps : List Pol} {pol : Pol} {n : Nat} {p : PgT} (h : PG ps pol n p) (hs : pState p = 2) : PG ps pol n (wake p) ∧ lat pol n (Bnd.wake p) ≤ lat pol n p ∧ left pol n (Bnd.wake p) < left pol n p ∧ pLast (Bnd.wake p) = pUntil p := by
  obtain ⟨s1, s2⟩ := h.sno hs
  have hm : max (pUntil p) (pLast p) = pUntil p := by omega
  have hu := h.unt
  refine ⟨⟨h.id, h.pol0, h.polAt, h.pok, h.start, h.next, h.nle, ⟨by show (0:Int) ≤ 0; omega, by show (0:Int) ≤ 4; omega⟩, h.by', ⟨?_, ?_⟩, hu, hu, h.sn, h.hd, h.sts, ?_, h.stn, h.dec, h.seen, fun _ => ⟨?_, s2⟩, fun e => ?_⟩, ?_, ?_, hm⟩
  · show pStart p ≤ max (pUntil p) (pLast p); have := h.last.1; omega
  · show max (pUntil p) (pLast p) ≤ _; omega
  · show lastAt (pStart p) (pSts p) ≤ max (pUntil p) (pLast p); have := h.stl; omega
  · show max (pUntil p) (pLast p) ≤ pUntil p; omega
  · have e : (0 : Int) = 2 := e; omega
  · unfold lat
    rw [if_pos (show pState (Bnd.wake p) = 0 from rfl), if_neg (by omega), if_pos hs]
    exact Int.le_refl _
  · unfold left
    rw [if_pos (show pState (Bnd.wake p) = 0 from rfl), if_neg (by omega), if_pos hs]
    omega

theorem PG.ended {ps : List Pol} {pol : Pol} {n : Nat} {p : PgT} (h : PG ps pol n p) (hs : pState p = 0) : PG ps pol n (ended p) ∧ lat pol n (Bnd.ended p) ≤ lat pol n p ∧ left pol n (Bnd.ended p) < left pol n p ∧ pLast (Bnd.ended p) = pDue p := by
  obtain ⟨s1, s2⟩ := h.op hs
  have hm : max (pDue p) (pLast p) = pDue p := by omega
  have hu := h.due
  have hr := rest_bound h.pok h.nle
  refine ⟨⟨h.id, h.pol0, h.polAt, h.pok, h.start, h.next, h.nle, ⟨by show (0:Int) ≤ 3; omega, by show (3:Int) ≤ 4; omega⟩, h.by', ⟨?_, ?_⟩, hu, h.unt, h.sn, h.hd, h.sts, ?_, h.stn, h.dec, h.seen, fun e => ?_, fun e => ?_⟩, ?_, ?_, hm⟩
  · show pStart p ≤ max (pDue p) (pLast p); have := h.last.1; omega
  · show max (pDue p) (pLast p) ≤ _; omega
  · show lastAt (pStart p) (pSts p) ≤ max (pDue p) (pLast p); have := h.stl; omega
  · have e : (3 : Int) = 0 := e; omega
  · have e : (3 : Int) = 2 := e; omega
  · unfold lat
    rw [if_neg (show ¬ pState (Bnd.ended p) = 0 by show ¬ (3 : Int) = 0; omega), if_neg (show ¬ pState (Bnd.ended p) = 2 by show ¬ (3 : Int) = 2; omega), if_pos hs]
    show max (pDue p) (pLast p) ≤ _
    omega
  · unfold left
    rw [if_neg (show ¬ pState (Bnd.ended p) = 0 by show ¬ (3 : Int) = 0; omega), if_neg (show ¬ pState (Bnd.ended p) = 2 by show ¬ (3 : Int) = 2; omega), if_pos hs]
    omega

theorem PG.begun {ps : List Pol} {pol : Pol} {n : Nat} {p : PgT} (h : PG ps pol n p) (hs : pState p = 0) (hn : n < cnt pol) {l : List Int} (hl : setL l) :
    PG ps pol (n + 1) (begun p l (wt pol.2.1 n)) ∧ lat pol (n + 1) (Bnd.begun p l (wt pol.2.1 n)) ≤ lat pol n p ∧ left pol (n + 1) (Bnd.begun p l (wt pol.2.1 n)) < left pol n p ∧ pLast (Bnd.begun p l (wt pol.2.1 n)) = pDue p := by
  obtain ⟨s1, s2⟩ := h.op hs
  have hm : max (pDue p) (pLast p) = pDue p := by omega
  have hu := h.due
  have hr := rest_bound h.pok (show n + 1 ≤ cnt pol by omega)
  have hw := wt_bound (l := pol.2.1) h.pok.2.1.1 h.pok.2.2 n
  have hst := rest_step (p := pol) n
  have hnx := h.next
  have hd : pDue p ≤ pDue (Bnd.begun p l (wt pol.2.1 n)) ∧ pDue (Bnd.begun p l (wt pol.2.1 n)) ≤ pDue p + wt pol.2.1 n := by
    show pDue p ≤ (if l.length = 0 then pDue p else pDue p + wt pol.2.1 n) ∧ (if l.length = 0 then pDue p else pDue p + wt pol.2.1 n) ≤ _
    split <;> omega
  refine ⟨⟨h.id, h.pol0, h.polAt, h.pok, h.start, ?_, by omega, h.state, h.by', ⟨?_, ?_⟩, ⟨by omega, by omega⟩, h.unt, h.sn, h.hd, ?_, ?_, ?_, set_nil, h.seen, fun _ => ⟨?_, ?_⟩, fun e => ?_⟩, ?_, ?_, hm⟩
  · show pNext p + 1 = ((n + 1 : Nat) : Int); omega
  · show pStart p ≤ max (pDue p) (pLast p); have := h.last.1; omega
  · show max (pDue p) (pLast p) ≤ _; omega
  · show SL (pNext p + 1) (pStart p) (-1) (pSts p ++ [(pNext p, pDue p, l, ())])
    refine SL_snoc (SL_mono (by omega) h.sts) ?_ (.inr ⟨?_, ?_, ?_⟩) hl
    · show _ ≤ pDue p; have := h.stl; omega
    · show _ < pNext p; have := h.top; omega
    · show 0 ≤ pNext p; omega
    · show pNext p < pNext p + 1; omega
  · show lastAt (pStart p) (pSts p ++ [(pNext p, pDue p, l, ())]) ≤ max (pDue p) (pLast p)
    rw [lastAt_snoc]
    show pDue p ≤ _
    omega
  · show ((pSts p ++ [(pNext p, pDue p, l, ())]).length : Int) ≤ ((n + 1 : Nat) : Int) + pHd p
    have := h.stn
    rw [List.length_append, List.length_singleton]
    omega
  · show max (pDue p) (pLast p) ≤ _; omega
  · omega
  · exact absurd (show pState p = 2 from e) (by omega)
  · unfold lat
    rw [if_pos (show pState (Bnd.begun p l (wt pol.2.1 n)) = 0 from hs), if_pos hs]
    omega
  · unfold left
    rw [if_pos (show pState (Bnd.begun p l (wt pol.2.1 n)) = 0 from hs), if_pos hs]
    omega

/-- What no step changes. -/
structure SameP (p p' : PgT) : Prop where
  id : pId p' = pId p
  pol : pPol p' = pPol p
  start : pStart p' = pStart p
  sn : pSn p' = pSn p
  hd : pHd p' = pHd p
  seen : pSeen p' = pSeen p

theorem SameP.refl (p : PgT) : SameP p p := ⟨rfl, rfl, rfl, rfl, rfl, rfl⟩

theorem SameP.trans {p q r : PgT} (h : SameP p q) (k : SameP q r) : SameP p r := ⟨k.id.trans h.id, k.pol.trans h.pol, k.start.trans h.start, k.sn.trans h.sn, k.hd.trans h.hd, k.seen.trans h.seen⟩

/-- When something is due. -/
def dueP (p : PgT) : Int := if pState p = 0 then pDue p else pUntil p

abbrev Dues (p : PgT) : Prop := pState p = 0 ∨ pState p = 2

/-! ### Answers -/
abbrev AnT := Int × Int × Int × Int × Int × Int × Unit

/-- What an answer adds: the new number among those seen. -/
def saw (p : PgT) (id : Int) : List Int := pSeen p ++ [id]

theorem PG.saw_ok {ps : List Pol} {pol : Pol} {n : Nat} {p : PgT} (h : PG ps pol n p) {id : Int} (h1 : id ∉ pSeen p) (h2 : (pSeen p).length < 64) (h3 : 1 ≤ id) : (saw p id).Nodup ∧ (saw p id).length ≤ 64 ∧ ∀ x ∈ saw p id, 1 ≤ x := by
  unfold Bnd.saw
  refine ⟨List.nodup_append.2 ⟨h.seen.1, List.pairwise_singleton _ _, fun a ha b hb => ?_⟩, by rw [List.length_append, List.length_singleton]; omega, fun x hx => ?_⟩
  · simp only [List.mem_singleton] at hb
    subst hb
    exact fun e => h1 (e ▸ ha)
  · rcases List.mem_append.1 hx with hx | hx
    · exact h.seen.2.2 x hx
    · simp only [List.mem_singleton] at hx; subst hx; exact h3

/-- A page of which some things are other: the state, who, instants, counts, starts and lists. -/
def page (p : PgT) (due state by' unt last sn hd : Int) (sts : List StT) (dec seen : List Int) : PgT := (pId p, pPol p, pStart p, pNext p, due, state, by', unt, last, sn, hd, sts, dec, seen, ())

theorem PG.put {ps : List Pol} {pol : Pol} {n : Nat} {p : PgT} (h : PG ps pol n p) {due state by' unt last sn hd : Int} {sts : List StT} {dec seen : List Int}
    (h1 : 0 ≤ state ∧ state ≤ 4) (h2 : -1 ≤ by' ∧ by' ≤ 31) (h3 : pLast p ≤ last ∧ last ≤ 9000000000) (h4 : 0 ≤ due ∧ due ≤ 9000000000) (h5 : 0 ≤ unt ∧ unt ≤ 9000000000) (h6 : 0 ≤ sn ∧ sn ≤ 4) (h7 : 0 ≤ hd ∧ hd ≤ 4)
    (h8 : SL (pNext p) (pStart p) (-1) sts ∧ lastAt (pStart p) sts ≤ last ∧ (sts.length : Int) ≤ n + hd) (h9 : setL dec) (h10 : seen.Nodup ∧ seen.length ≤ 64 ∧ ∀ x ∈ seen, 1 ≤ x)
    (h11 : state = 0 → last ≤ due ∧ due + rest pol n ≤ 9000000000) (h12 : state = 2 → last ≤ unt ∧ unt + rest pol n ≤ 9000000000) : PG ps pol n (page p due state by' unt last sn hd sts dec seen) :=
  ⟨h.id, h.pol0, h.polAt, h.pok, h.start, h.next, h.nle, h1, h2, ⟨Int.le_trans h.last.1 h3.1, h3.2⟩, h4, h5, h6, h7, h8.1, h8.2.1, h8.2.2, h9, h10, h11, h12⟩

theorem lat_page (pol : Pol) (n : Nat) (p : PgT) (due state by' unt last sn hd : Int) (sts : List StT) (dec seen : List Int) :
    lat pol n (page p due state by' unt last sn hd sts dec seen) = if state = 0 then due + rest pol n else if state = 2 then unt + rest pol n else last := rfl

end Go.Bnd
