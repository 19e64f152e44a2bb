/- Lemmas for the statement of the last text of this claim. -/
import Derived.Test.YtoihpnpfnechdaaGreatDoorV3AB
set_option linter.unusedSimpArgs false
set_option linter.unusedVariables false
namespace Go.Abs
open Go
/-! ### Types of data -/

/-- A type of data. A struct or an array is a chain of 'cons'. -/
inductive Ty where
  | int (k : IntKind)
  | bool
  | str
  | row (t : Ty)
  | unit
  | cons (a b : Ty)
  deriving DecidableEq

def Ty.den : Ty → Type
  | .int _ => Int
  | .bool => Bool
  | .str => ByteArray
  | .row t => List t.den
  | .unit => Unit
  | .cons a b => a.den × b.den

def Ty.agg : Ty → Bool
  | .unit | .cons .. => true
  | _ => false

/-- The number of cells. -/
def Ty.size : Ty → Nat
  | .unit => 0
  | .cons a b => a.size + b.size
  | _ => 1

/-- An element out of its cells. -/
def wrap (agg : Bool) (cs : List AV) : AV :=
  match agg with
  | true => .agg cs
  | false => match cs with
    | [c] => c
    | _ => .undef

/-- The cells of a datum. -/
def encC : (t : Ty) → t.den → List AV
  | .int k, n => [.int k n]
  | .bool, b => [.bool b]
  | .str, s => [.str s]
  | .row t, l => [.lst (lsz t.size (List.map (fun x => wrap t.agg (encC t x)) l)) (List.map (fun x => wrap t.agg (encC t x)) l) false]
  | .unit, _ => []
  | .cons a b, x => encC a x.1 ++ encC b x.2

def enc (t : Ty) (x : t.den) : AV := wrap t.agg (encC t x)

/-! ### Values -/

inductive SV where
  | undef
  | int (k : IntKind) (n : Int)
  | bool (b : Bool)
  | str (s : ByteArray)
  | nilp
  | nilf
  | row (t : Ty) (l : List t.den) (tight : Bool)
  | own (t : Ty) (g : Nm)
  | part (t : Ty) (g : Nm) (off len : Nat)
  | ptr (g : Nm) (sz i off : Nat)
  | lp (t : Ty) (l : List t.den) (i : Nat) (x : t.den) (h : l[i]? = some x) (off : Nat)
  | clo (f : FuncId) (caps : List SV)
  | fm (l : List (Int × FuncId × List FuncId))
  | fp (g : FuncId)
  | agg (cs : List SV)
  | tup (vs : List SV)

instance : Inhabited SV := ⟨.undef⟩

/-- The lengths of blocks. -/
abbrev Lens := Nm → Nat

def rowAV (t : Ty) (l : List t.den) (tight : Bool) : AV := .lst (lsz t.size (l.map (enc t))) (l.map (enc t)) tight

def d1 (ℓ : Lens) : SV → AV
  | .int k n => .int k n
  | .bool b => .bool b
  | .str s => .str s
  | .nilp => .nilp
  | .nilf => .nilf
  | .row t l tight => rowAV t l tight
  | .own t g => .own g t.size 0 (ℓ g)
  | .part t g off len => .own g t.size off len
  | .ptr g sz i off => .ptr g sz i off
  | .lp t l i _ _ off => .lp t.size (l.map (enc t)) i off
  | .fm l => .fm l
  | .fp g => .fp g
  | _ => .undef
def dC (ℓ : Lens) : SV → AV
  | .clo f cs => .clo f (cs.map (d1 ℓ))
  | v => d1 ℓ v
def dA (ℓ : Lens) : SV → AV
  | .agg cs => .agg (cs.map (dC ℓ))
  | v => dC ℓ v
def dV (ℓ : Lens) : SV → AV
  | .tup vs => .tup (vs.map (dA ℓ))
  | v => dA ℓ v

def SV.cells : SV → List SV
  | .agg cs => cs
  | v => [v]
def SV.isAgg : SV → Bool
  | .agg _ => true
  | _ => false
def okSC : SV → Bool
  | .undef | .agg _ | .tup _ => false
  | _ => true
def okSV : SV → Bool
  | .agg _ => true
  | v => okSC v

/-! ### Memory -/

/-- From which element on a block may be written. -/
inductive Fz where
  | zero
  | all
  | low (k : Nat)

def Fz.n (len : Nat) : Fz → Nat
  | .zero => 0
  | .all => len
  | .low k => len - k

/-- The keys of a map: numbers, or texts. -/
def KeyT : Bool → Type
  | false => Int
  | true => ByteArray
instance (st : Bool) : DecidableEq (KeyT st) := match st with
  | false => inferInstanceAs (DecidableEq Int)
  | true => inferInstanceAs (DecidableEq ByteArray)
def encK : (st : Bool) → KeyT st → AV
  | false, n => .int .i64 n
  | true, s => .str s

inductive SB where
  | box (sz : Nat) (v : SV)
  | arr (t : Ty) (l : List t.den) (z : Fz)
  | mp (st : Bool) (t : Ty) (l : List (KeyT st × t.den))
  | dead (n : Nat)

def SB.len : SB → Nat
  | .arr _ l _ => l.length
  | .dead n => n
  | .mp .. => 0
  | .box .. => 0

abbrev SHeap := List (List SB)

def dB (ℓ : Lens) : SB → Option Blk
  | .box sz v => some ⟨sz, [dA ℓ v], 0, true⟩
  | .arr t l z => some ⟨t.size, l.map (enc t), z.n l.length, false⟩
  | .mp st t l => some ⟨0, l.map fun p => .agg [encK st p.1, enc t p.2], 0, false⟩
  | .dead _ => none

def dH (ℓ : Lens) (H : SHeap) : Heap := H.map fun l => l.map (dB ℓ)

def getS (H : SHeap) (g : Nm) : Option SB :=
  match H[g.1]? with
  | some l => l[g.2]?
  | none => none

def setS (H : SHeap) (g : Nm) (b : SB) : SHeap := H.modify g.1 fun l => l.set g.2 b

def lenS (H : SHeap) : Lens := fun g => match getS H g with
  | some b => b.len
  | none => 0

/-- The lengths are those of the blocks that are there. -/
def Agr (ℓ : Lens) (H : SHeap) : Prop := ∀ g b, getS H g = some b → ℓ g = b.len

abbrev SFr := List (Nat × SV)

def lookS : SFr → Nat → SV
  | [], _ => .undef
  | (s, x) :: r, t => if s = t then x else lookS r t

def insS (s : Nat) (x : SV) : SFr → SFr
  | [] => [(s, x)]
  | (t, y) :: r => if s < t then (s, x) :: (t, y) :: r else if s = t then (s, x) :: r else (t, y) :: insS s x r

structure SSt where
  fr : SFr
  hp : SHeap

def dF (ℓ : Lens) (fr : SFr) : Fr := fr.map fun p => (p.1, dV ℓ p.2)
def dS (ℓ : Lens) (s : SSt) : St := { fr := dF ℓ s.fr, hp := dH ℓ s.hp }

/-! ### Names -/

def refs1S : SV → List Nm
  | .ptr g _ _ _ => [g]
  | .own _ g => [g]
  | .part _ g _ _ => [g]
  | _ => []
def refsCS : SV → List Nm
  | .clo _ cs => cs.flatMap refs1S
  | v => refs1S v
def refsAS : SV → List Nm
  | .agg cs => cs.flatMap refsCS
  | v => refsCS v
def refsVS : SV → List Nm
  | .tup vs => vs.flatMap refsAS
  | v => refsAS v
def seeds1S : SV → List Nm
  | .ptr g _ _ _ => [g]
  | .clo _ cs => cs.flatMap refs1S
  | _ => []
def seedsVS : SV → List Nm
  | .agg cs => cs.flatMap seeds1S
  | v => seeds1S v
def refsBS (H : SHeap) (g : Nm) : List Nm :=
  match getS H g with
  | some (.box _ v) => refsAS v
  | _ => []
def growS (H : SHeap) (l : List Nm) : List Nm := addNew l (l.flatMap (refsBS H))
def reachS (H : SHeap) (l : List Nm) : List Nm := growS H (growS H (growS H (growS H (growS H (addNew [] l)))))
def reachedS (H : SHeap) (m : Nat) (roots : List Nm) : List Nm := outside m (reachS H (addNew (firstNames m) roots))

def ren1S (f : Ren) : SV → SV
  | .ptr g sz i off => match f g with
    | some g' => .ptr g' sz i off
    | none => .undef
  | .own t g => match f g with
    | some g' => .own t g'
    | none => .undef
  | .part t g off len => match f g with
    | some g' => .part t g' off len
    | none => .undef
  | .clo _ _ => .undef
  | .agg _ => .undef
  | .tup _ => .undef
  | v => v
def renCS (f : Ren) : SV → SV
  | .clo fn cs => .clo fn (cs.map (ren1S f))
  | v => ren1S f v
def renAS (f : Ren) : SV → SV
  | .agg cs => .agg (cs.map (renCS f))
  | v => renCS f v
def renVS (f : Ren) : SV → SV
  | .tup vs => .tup (vs.map (renAS f))
  | v => renAS f v
def renBS (f : Ren) : SB → SB
  | .box sz v => .box sz (renAS f v)
  | b => b

/-! ### Trees -/

/-- A result under conditions. -/
inductive Tr (α : Type) : Type 1 where
  | ret (a : α)
  | fail
  | need (g : Bool) (t : Tr α)
  | br (p : Bool) (x y : Tr α)
  | ask {A : Type} (m : Option A) (k : A → Tr α)
  | look {A : Type} (l : List A) (n : Int) (k : (x : A) → l[n.toNat]? = some x → Tr α)
  | cs {A B : Type} (r : A ⊕ B) (f : A → Tr α) (g : B → Tr α)

/-- An element of a list, and what is done with it. -/
def rowAt {A B : Type} (l : List A) (n : Int) (k : (x : A) → l[n.toNat]? = some x → Option B) : Option B :=
  cond (decide (0 ≤ n)) (Option.pbind l[n.toNat]? k) none

def sumE {A B C : Type} (r : A ⊕ B) (f : A → C) (g : B → C) : C :=
  match r with
  | .inl a => f a
  | .inr b => g b

def Tr.mean {α : Type} : Tr α → Option α
  | .ret a => some a
  | .fail => none
  | .need g t => cond g t.mean none
  | .br p x y => cond p x.mean y.mean
  | .ask m k => m.bind fun a => (k a).mean
  | .look l n k => rowAt l n fun x h => (k x h).mean
  | .cs r f g => sumE r (fun a => (f a).mean) (fun b => (g b).mean)

def Tr.bind {α β : Type} (t : Tr α) (k : α → Tr β) : Tr β :=
  match t with
  | .ret a => k a
  | .fail => .fail
  | .need g t => .need g (t.bind k)
  | .br p x y => .br p (x.bind k) (y.bind k)
  | .ask m f => .ask m fun a => (f a).bind k
  | .look l n f => .look l n fun x h => (f x h).bind k
  | .cs r f g => .cs r (fun a => (f a).bind k) (fun b => (g b).bind k)

def Tr.map {α β : Type} (f : α → β) (t : Tr α) : Tr β := t.bind fun a => .ret (f a)

def Tr.of {α : Type} : Option α → Tr α
  | some a => .ret a
  | none => .fail

/-- What is known at once. -/
def Tr.when {α : Type} (b : Bool) (t : Tr α) : Tr α :=
  match b with
  | true => t
  | false => .fail

def Tr.mapM {α β : Type} (f : α → Tr β) : List α → Tr (List β)
  | [] => .ret []
  | a :: r => (f a).bind fun b => (Tr.mapM f r).bind fun bs => .ret (b :: bs)

/-! ### Data out of values, values out of data -/

/-- The cells of a datum. -/
def unC : (t : Ty) → t.den → List SV
  | .int k, n => [.int k n]
  | .bool, b => [.bool b]
  | .str, s => [.str s]
  | .row t, l => [.row t l false]
  | .unit, _ => []
  | .cons a b, x => unC a x.1 ++ unC b x.2

def unT (t : Ty) (x : t.den) : SV :=
  match t.agg with
  | true => .agg (unC t x)
  | false => match unC t x with
    | [c] => c
    | _ => .undef

def castL {t t' : Ty} (l : List t.den) : Option (List t'.den) :=
  if h : t = t' then some (h ▸ l) else match l with
    | [] => some []
    | _ => none

/-- A datum out of the first of some cells. -/
def paC : (t : Ty) → List SV → Option (t.den × List SV)
  | .int k, .int k' n :: r => if k = k' then some (n, r) else none
  | .bool, .bool b :: r => some (b, r)
  | .str, .str s :: r => some (s, r)
  | .row t, .row t' l _ :: r => match castL (t := t') (t' := t) l with
    | some l => some (l, r)
    | none => none
  | .unit, r => some ((), r)
  | .cons a b, r => match paC a r with
    | some (x, r) => match paC b r with
      | some (y, r) => some ((x, y), r)
      | none => none
    | none => none
  | _, _ => none

def paT (t : Ty) (v : SV) : Option t.den :=
  if v.isAgg = t.agg then
    match paC t v.cells with
    | some (x, []) => some x
    | _ => none
  else none

/-! ### Shapes -/

/-- What is known of a value without asking. -/
inductive Stt where
  | undef
  | nilp
  | nilf
  | nil
  | own (t : Ty) (g : Nm)
  | ptr (g : Nm) (sz i off : Nat)
  | clo (f : FuncId) (caps : List (Nm × Nat × Nat × Nat))
  | fm (l : List (Int × FuncId × List FuncId))
  | fp (g : FuncId)
  deriving DecidableEq

/-- The shape of some values. -/
inductive Sh where
  | nil
  | st (x : Stt) (r : Sh)
  | dat (t : Ty) (r : Sh)
  | part (t : Ty) (g : Nm) (r : Sh)
  | eptr (g : Nm) (sz off : Nat) (r : Sh)
  | agg (i r : Sh)

def Sh.den : Sh → Type
  | .nil => Unit
  | .st _ r => r.den
  | .dat t r => t.den × r.den
  | .part _ _ r => (Nat × Nat) × r.den
  | .eptr _ _ _ r => Nat × r.den
  | .agg i r => i.den × r.den

def Stt.un : Stt → SV
  | .undef => .undef
  | .nilp => .nilp
  | .nilf => .nilf
  | .nil => .row .unit [] true
  | .own t g => .own t g
  | .ptr g sz i off => .ptr g sz i off
  | .clo f caps => .clo f (caps.map fun c => .ptr c.1 c.2.1 c.2.2.1 c.2.2.2)
  | .fm l => .fm l
  | .fp g => .fp g

def Sh.un : (s : Sh) → s.den → List SV
  | .nil, _ => []
  | .st x r, v => x.un :: Sh.un r v
  | .dat t r, v => unT t v.1 :: Sh.un r v.2
  | .part t g r, v => .part t g v.1.1 v.1.2 :: Sh.un r v.2
  | .eptr g sz off r, v => .ptr g sz v.1 off :: Sh.un r v.2
  | .agg i r, v => .agg (Sh.un i v.1) :: Sh.un r v.2

def ptrEq (c : Nm × Nat × Nat × Nat) : SV → Bool
  | .ptr g sz i off => decide (c = (g, sz, i, off))
  | _ => false
def ptrsEq : List (Nm × Nat × Nat × Nat) → List SV → Bool
  | [], [] => true
  | c :: r, v :: vs => ptrEq c v && ptrsEq r vs
  | _, _ => false

def Stt.fits : Stt → SV → Bool
  | .undef, v => !v.isAgg
  | .nilp, .nilp => true
  | .nilf, .nilf => true
  | .nil, .row _ [] true => true
  | .own t g, .own t' g' => decide (t = t' ∧ g = g')
  | .ptr g sz i off, .ptr g' sz' i' off' => decide (g = g' ∧ sz = sz' ∧ i = i' ∧ off = off')
  | .clo f caps, .clo f' cs => decide (f = f') && ptrsEq caps cs
  | .fm l, .fm l' => decide (l = l')
  | .fp g, .fp g' => decide (g = g')
  | _, _ => false

def Sh.pa : (s : Sh) → List SV → Option s.den
  | .nil, [] => some ()
  | .st x r, v :: vs => if x.fits v then Sh.pa r vs else none
  | .dat t r, v :: vs => match paT t v, Sh.pa r vs with
    | some a, some b => some (a, b)
    | _, _ => none
  | .part t g r, v :: vs => match v, Sh.pa r vs with
    | .part t' g' off len, some b => if t = t' ∧ g = g' then some ((off, len), b) else none
    | _, _ => none
  | .eptr g sz off r, v :: vs => match v, Sh.pa r vs with
    | .ptr g' sz' i off', some b => if g = g' ∧ sz = sz' ∧ off = off' then some (i, b) else none
    | _, _ => none
  | .agg i r, v :: vs => match v, Sh.pa r vs with
    | .agg cs, some b => match Sh.pa i cs with
      | some a => some (a, b)
      | none => none
    | _, _ => none
  | _, _ => none

/-- The shape of some blocks. -/
inductive Bks where
  | nil
  | box (sz : Nat) (s : Sh) (r : Bks)
  | arr (t : Ty) (frozen : Bool) (r : Bks)
  | mp (st : Bool) (t : Ty) (r : Bks)
  | dead (n : Nat) (r : Bks)

def Bks.den : Bks → Type
  | .nil => Unit
  | .box _ s r => s.den × r.den
  | .arr t _ r => List t.den × r.den
  | .mp st t r => List (KeyT st × t.den) × r.den
  | .dead _ r => r.den

def Bks.len : Bks → Nat
  | .nil => 0
  | .box _ _ r => r.len + 1
  | .arr _ _ r => r.len + 1
  | .mp _ _ r => r.len + 1
  | .dead _ r => r.len + 1

def fzOf (frozen : Bool) : Fz :=
  match frozen with
  | true => .all
  | false => .zero

def Bks.un : (b : Bks) → b.den → SHeap
  | .nil, _ => []
  | .box sz s r, v => [.box sz ((s.un v.1).headD .undef)] :: Bks.un r v.2
  | .arr t z r, v => [.arr t v.1 (fzOf z)] :: Bks.un r v.2
  | .mp st t r, v => [.mp st t v.1] :: Bks.un r v.2
  | .dead n r, v => [.dead n] :: Bks.un r v

/-- The shape of a state. -/
structure Sg where
  slots : List Nat
  sh : Sh
  bk : Bks

abbrev Sg.den (σ : Sg) : Type := σ.sh.den × σ.bk.den

def zipFr : List Nat → List SV → SFr
  | t :: r, v :: vs => (t, v) :: zipFr r vs
  | _, _ => []

def Sg.un (σ : Sg) (v : σ.den) : SSt := { fr := zipFr σ.slots (σ.sh.un v.1), hp := σ.bk.un v.2 }

def fzIs : Bool → Fz → Bool
  | true, .all => true
  | false, .zero => true
  | _, _ => false

def castM {st st' : Bool} {t t' : Ty} (h1 : st' = st) (h2 : t' = t) (l : List (KeyT st' × t'.den)) : List (KeyT st × t.den) := h1 ▸ h2 ▸ l

def Bks.pa : (b : Bks) → SHeap → Option b.den
  | .nil, [] => some ()
  | .box sz s r, [.box sz' v] :: H => if sz = sz' ∧ 0 < sz then (match s.pa [v], Bks.pa r H with
    | some a, some b => some (a, b)
    | _, _ => none) else none
  | .arr t z r, [.arr t' l f] :: H => if h : t' = t then (if fzIs z f = true then (match Bks.pa r H with
    | some b => some (h ▸ l, b)
    | none => none) else none) else none
  | .mp st t r, [.mp st' t' l] :: H => if h : st' = st ∧ t' = t then (match Bks.pa r H with
    | some b => some (castM h.1 h.2 l, b)
    | none => none) else none
  | .dead n r, [.dead n'] :: H => if n = n' then Bks.pa r H else none
  | _, _ => none

/-! ### A state brought into a shape -/

/-- A slice over the call's own memory as a row: its block is no longer written. -/
def pure1S (H : SHeap) : SV → Tr (SV × List Nm)
  | .own t g => match getS H g with
    | some (.arr t' l _) => if h : t' = t then (if 0 < t.size then .ret (.row t (h ▸ l) false, [g]) else .fail) else .fail
    | _ => .fail
  | .part t g off len => match getS H g with
    | some (.arr t' l _) => if h : t' = t then (if 0 < t.size then .need (decide (off + len ≤ l.length)) (.ret (.row t (((h ▸ l : List t.den).drop off).take len) false, [g])) else .fail) else .fail
    | _ => .fail
  | .ptr .. => .fail
  | .clo .. => .fail
  | .lp .. => .fail
  | .fm _ => .fail
  | .fp _ => .fail
  | .agg _ => .fail
  | .tup _ => .fail
  | .row t l _ => .ret (.row t l false, [])
  | v => .ret (v, [])

def pureLS (H : SHeap) : List SV → Tr (List SV × List Nm)
  | [] => .ret ([], [])
  | x :: r => (pure1S H x).bind fun p => (pureLS H r).bind fun q => .ret (p.1 :: q.1, p.2 ++ q.2)

def pureVS (H : SHeap) : SV → Tr (SV × List Nm)
  | .agg cs => (pureLS H cs).bind fun p => .ret (.agg p.1, p.2)
  | .tup _ => .fail
  | v => pure1S H v

def SB.stop : SB → SB
  | .arr t l _ => .arr t l .all
  | b => b

def putAllS (H : SHeap) : List (Nm × SB) → SHeap
  | [] => H
  | (g, b) :: r => putAllS (setS H g b) r

def stopsS (H : SHeap) (l : List Nm) : List (Nm × SB) := l.map fun g => (g, match getS H g with
  | some b => b.stop
  | none => .dead 0)

def stopS (H : SHeap) (l : List Nm) : SHeap := putAllS H (stopsS H l)

def untup : SV → SV
  | .tup _ => .undef
  | v => v

/-- Slices of a value are made rows where its shape says so; a nil slice is made a block of its own. -/
def convL : Sh → List SV → SHeap → Tr (List SV × SHeap)
  | .nil, vs, H => .ret (vs, H)
  | _, [], H => .ret ([], H)
  | .st x r, v :: vs, H => match x, v with
    | .own t _, .row _ [] true => (convL r vs (H ++ [[.arr t [] .zero]])).bind fun q => .ret (.own t (H.length, 0) :: q.1, q.2)
    | .undef, v => (if v.isAgg = false then (convL r vs H).bind fun q => .ret (.undef :: q.1, q.2) else .fail)
    | _, v => (convL r vs H).bind fun q => .ret (v :: q.1, q.2)
  | .dat _ r, v :: vs, H => (pureVS H v).bind fun p => (convL r vs (stopS H p.2)).bind fun q => .ret (p.1 :: q.1, q.2)
  | .part t' _ r, v :: vs, H => match v with
    | .row _ [] true => (convL r vs (H ++ [[.arr t' [] .zero]])).bind fun q => .ret (.part t' (H.length, 0) 0 0 :: q.1, q.2)
    | v => (convL r vs H).bind fun q => .ret ((match v with
    | .own t g => (match getS H g with
      | some b => .part t g 0 b.len
      | none => .own t g)
    | v => v) :: q.1, q.2)
  | .eptr _ _ _ r, v :: vs, H => (convL r vs H).bind fun q => .ret (v :: q.1, q.2)
  | .agg i r, v :: vs, H => match v with
    | .agg cs => (convL i cs H).bind fun p => (convL r vs p.2).bind fun q => .ret (.agg p.1 :: q.1, q.2)
    | v => (convL r vs H).bind fun q => .ret (v :: q.1, q.2)

/-- Compaction; every name has to be there. -/
def tidyS (m : Nat) (s : SSt) : Option SSt :=
  let R := reachedS s.hp m (s.fr.flatMap fun p => refsVS p.2)
  let f := renTo m R
  match (firstNames m ++ R).mapM (fun g => (getS s.hp g).map fun b => [renBS f b]) with
  | some hp => some { fr := s.fr.map fun p => (p.1, renVS f p.2), hp }
  | none => none

/-- The values of boxes brought into shape, one block a group. -/
def convB : Bks → Nat → SHeap → Tr SHeap
  | .nil, _, H => .ret H
  | .box _ s r, j, H => match getS H (j, 0) with
    | some (.box sz v) => if 0 < sz then (convL s [v] H).bind fun p => match p.1 with
      | [v'] => convB r (j + 1) (setS p.2 (j, 0) (.box sz v'))
      | _ => .fail
      else .fail
    | _ => .fail
  | .arr _ z r, j, H => convB r (j + 1) (match z with
    | true => (match getS H (j, 0) with
      | some (.arr ..) => stopS H [(j, 0)]
      | _ => H)
    | false => H)
  | .mp _ _ r, j, H => convB r (j + 1) H
  | .dead _ r, j, H => convB r (j + 1) H

/-- The shapes alone. -/
def Bks.soft : Bks → Bks
  | .nil => .nil
  | .box sz s r => .box sz s r.soft
  | .arr t _ r => .arr t false r.soft
  | .mp st t r => .mp st t r.soft
  | .dead n r => .dead n r.soft

def fit (m : Nat) (σ : Sg) (s : SSt) : Tr σ.den :=
  (convL σ.sh (σ.slots.map fun t => untup (lookS s.fr t)) s.hp).bind fun p =>
  (Tr.of (tidyS m { fr := zipFr σ.slots (p.1.map untup), hp := p.2 })).bind fun s1 =>
  (convB σ.bk.soft 0 s1.hp).bind fun H2 =>
  (Tr.of (tidyS m { fr := s1.fr, hp := H2 })).bind fun s1 =>
  (convB σ.bk 0 s1.hp).bind fun H2 =>
  (Tr.of (tidyS m { fr := s1.fr, hp := H2 })).bind fun s2 =>
  match σ.sh.pa (σ.slots.map (lookS s2.fr)), σ.bk.pa s2.hp with
  | some a, some b => .ret (a, b)
  | _, _ => .fail

theorem look_dF (ℓ : Lens) : ∀ (fr : SFr) (t : Nat), look (dF ℓ fr) t = dV ℓ (lookS fr t) := by
  intro fr
  induction fr with
  | nil => intro t; rfl
  | cons p r ih =>
    intro t
    obtain ⟨s, x⟩ := p
    simp only [dF, List.map_cons, look, lookS]
    split
    · rfl
    · exact ih t

theorem ins_dF (ℓ : Lens) (s : Nat) (x : SV) : ∀ (fr : SFr), dF ℓ (insS s x fr) = ins s (dV ℓ x) (dF ℓ fr) := by
  intro fr
  induction fr with
  | nil => rfl
  | cons p r ih =>
    obtain ⟨t, y⟩ := p
    simp only [dF, List.map_cons, ins, insS] at ih ⊢
    split
    · rfl
    · split
      · rfl
      · simp only [List.map_cons, ih]

theorem get_dH (ℓ : Lens) (H : SHeap) (g : Nm) : get (dH ℓ H) g = (getS H g).bind (dB ℓ) := by
  simp only [get, getS, dH, List.getElem?_map]
  cases H[g.1]? with
  | none => rfl
  | some l =>
    simp only [Option.map_some, List.getElem?_map]
    cases l[g.2]? with
    | none => rfl
    | some b => rfl

theorem dH_setS (ℓ : Lens) (H : SHeap) (g : Nm) (b : SB) : dH ℓ (setS H g b) = set (dH ℓ H) g (dB ℓ b) := by
  simp only [dH, setS, set]
  apply List.ext_getElem?
  intro i
  simp only [List.getElem?_map, List.getElem?_modify]
  cases H[i]? with
  | none => rfl
  | some l =>
    simp only [Option.map_some]
    split
    · simp [List.map_set]
    · rfl

theorem dH_append (ℓ : Lens) (H K : SHeap) : dH ℓ (H ++ K) = dH ℓ H ++ dH ℓ K := List.map_append ..
theorem length_dH (ℓ : Lens) (H : SHeap) : (dH ℓ H).length = H.length := by simp [dH]

theorem getS_setS (H : SHeap) (g g' : Nm) (b : SB) : getS (setS H g b) g' = if g' = g ∧ (getS H g).isSome then some b else getS H g' := by
  obtain ⟨a, c⟩ := g
  obtain ⟨a', c'⟩ := g'
  simp only [getS, setS, List.getElem?_modify, Prod.mk.injEq]
  by_cases ha : a = a'
  · subst ha
    cases hl : H[a]? with
    | none => simp
    | some l =>
      simp only [if_true, Option.map_some, List.getElem?_set, true_and]
      by_cases hc : c = c'
      · subst hc
        by_cases hlt : c < l.length
        · simp [hlt]
        · simp [hlt]
      · simp [hc, Ne.symm hc]
  · have : ¬ a' = a := fun h => ha h.symm
    cases hl : H[a']? <;> simp [ha, this]

theorem getS_append {H K : SHeap} {g : Nm} {b : SB} (h : getS H g = some b) : getS (H ++ K) g = some b := by
  simp only [getS] at h ⊢
  cases hl : H[g.1]? with
  | none => simp [hl] at h
  | some l =>
    rw [hl] at h
    rw [List.getElem?_append_left (List.getElem?_eq_some_iff.1 hl).1, hl]
    exact h

theorem Agr.append {ℓ : Lens} {H K : SHeap} (h : Agr ℓ (H ++ K)) : Agr ℓ H := fun g b hg => h g b (getS_append hg)

theorem Agr.setS {ℓ : Lens} {H : SHeap} {g : Nm} {b b0 : SB} (h0 : getS H g = some b0) (hl : b.len = b0.len) (h : Agr ℓ (setS H g b)) : Agr ℓ H := by
  intro g' x hx
  by_cases e : g' = g
  · subst e
    rw [h0] at hx
    cases hx
    rw [← hl]
    exact h _ b (by rw [getS_setS]; simp [h0])
  · exact h g' x (by rw [getS_setS, if_neg (fun hh => e hh.1)]; exact hx)

theorem lenS_agr (H : SHeap) : Agr (lenS H) H := fun g b h => by simp [lenS, h]

/-! ### Names -/

theorem refs1_d (ℓ : Lens) (v : SV) : refs1 (d1 ℓ v) = refs1S v := by cases v <;> rfl
theorem flatMap_d {f : AV → List Nm} {g : SV → List Nm} {d : SV → AV} (h : ∀ v, f (d v) = g v) (l : List SV) : (l.map d).flatMap f = l.flatMap g := by
  simp only [List.flatMap_map, h]
theorem refsC_d (ℓ : Lens) (v : SV) : refsC (dC ℓ v) = refsCS v := by
  cases v <;> first | rfl | exact flatMap_d (refs1_d ℓ) _
theorem refsV_dA (ℓ : Lens) (v : SV) : refsV (dA ℓ v) = refsAS v := by
  cases v <;> first | rfl | exact flatMap_d (refsC_d ℓ) _ | exact flatMap_d (refs1_d ℓ) _
theorem refsV_d (ℓ : Lens) (v : SV) : refsV (dV ℓ v) = refsVS v := by
  cases v with
  | tup vs =>
    simp only [dV, refsV, refsVS]
    refine flatMap_d (fun v => ?_) vs
    have := refsV_dA ℓ v
    cases v <;> first | rfl | exact this
  | agg cs => exact refsV_dA ℓ (.agg cs)
  | clo f cs => exact refsV_dA ℓ (.clo f cs)
  | _ => rfl

theorem seeds1_d (ℓ : Lens) (v : SV) : seeds1 (dC ℓ v) = seeds1S v := by
  cases v <;> first | rfl | exact flatMap_d (refs1_d ℓ) _
theorem seedsV_d (ℓ : Lens) (v : SV) : seedsV (dA ℓ v) = seedsVS v := by
  cases v with
  | agg cs => exact flatMap_d (seeds1_d ℓ) _
  | clo f cs => exact flatMap_d (refs1_d ℓ) _
  | _ => rfl

theorem refsB_d (ℓ : Lens) (H : SHeap) (g : Nm) : refsB (dH ℓ H) g = refsBS H g := by
  simp only [refsB, refsBS, get_dH]
  cases getS H g with
  | none => rfl
  | some b =>
    cases b with
    | box sz v => simp [dB, refsV_dA]
    | arr t l z => simp [dB]
    | mp st t l => simp [dB]
    | dead n => simp [dB]

theorem grow_d (ℓ : Lens) (H : SHeap) (l : List Nm) : grow (dH ℓ H) l = growS H l := by
  simp only [grow, growS]
  congr 1
  exact congrArg (fun f => l.flatMap f) (funext (refsB_d ℓ H))
theorem reach_d (ℓ : Lens) (H : SHeap) (l : List Nm) : reach (dH ℓ H) l = reachS H l := by simp only [reach, reachS, grow_d]
theorem reached_d (ℓ : Lens) (H : SHeap) (m : Nat) (l : List Nm) : reached (dH ℓ H) m l = reachedS H m l := by simp only [reached, reachedS, reach_d]

/-! ### Names anew -/

/-- The lengths go with the names. -/
def Goes (f : Ren) (ℓ ℓ' : Lens) : Prop := ∀ g g', f g = some g' → ℓ' g' = ℓ g

section
variable {f : Ren} {ℓ ℓ' : Lens}
theorem ren1_d (h : Goes f ℓ ℓ') (v : SV) : ren1 f (d1 ℓ v) = d1 ℓ' (ren1S f v) := by
  cases v with
  | own t g =>
    simp only [d1, ren1, ren1S]
    cases e : f g with
    | none => rfl
    | some g' => simp only [d1, h g g' e]
  | part t g off len =>
    simp only [d1, ren1, ren1S]
    cases e : f g <;> rfl
  | ptr g sz i off =>
    simp only [d1, ren1, ren1S]
    cases e : f g <;> rfl
  | row t l tight => rfl
  | _ => rfl
theorem map_d {F : AV → AV} {G : SV → SV} {d d' : SV → AV} (h : ∀ v, F (d v) = d' (G v)) (l : List SV) : (l.map d).map F = (l.map G).map d' := by
  simp only [List.map_map]
  exact List.map_congr_left fun v _ => h v
theorem renC_d (h : Goes f ℓ ℓ') (v : SV) : renC f (dC ℓ v) = dC ℓ' (renCS f v) := by
  cases v with
  | clo fn cs => simp only [dC, renC, renCS, map_d (ren1_d h)]
  | row t l tight => rfl
  | own t g => exact (ren1_d h (.own t g)).trans (by simp only [renCS, ren1S]; cases f g <;> rfl)
  | part t g off len => exact (ren1_d h (.part t g off len)).trans (by simp only [renCS, ren1S]; cases f g <;> rfl)
  | ptr g sz i off => exact (ren1_d h (.ptr g sz i off)).trans (by simp only [renCS, ren1S]; cases f g <;> rfl)
  | _ => rfl
theorem renA_d (h : Goes f ℓ ℓ') (v : SV) : renA f (dA ℓ v) = dA ℓ' (renAS f v) := by
  cases v with
  | agg cs => simp only [dA, renA, renAS, map_d (renC_d h)]
  | clo fn cs => exact renC_d h (.clo fn cs)
  | row t l tight => rfl
  | own t g => exact (renC_d h (.own t g)).trans (by simp only [renAS, renCS, ren1S]; cases f g <;> rfl)
  | part t g off len => exact (renC_d h (.part t g off len)).trans (by simp only [renAS, renCS, ren1S]; cases f g <;> rfl)
  | ptr g sz i off => exact (renC_d h (.ptr g sz i off)).trans (by simp only [renAS, renCS, ren1S]; cases f g <;> rfl)
  | _ => rfl
theorem renV_d (h : Goes f ℓ ℓ') (v : SV) : renV f (dV ℓ v) = dV ℓ' (renVS f v) := by
  cases v with
  | tup vs => simp only [dV, renV, renVS, map_d (renA_d h)]
  | agg cs => exact renA_d h (.agg cs)
  | clo fn cs => exact renA_d h (.clo fn cs)
  | row t l tight => rfl
  | own t g => exact (renA_d h (.own t g)).trans (by simp only [renVS, renAS, renCS, ren1S]; cases f g <;> rfl)
  | part t g off len => exact (renA_d h (.part t g off len)).trans (by simp only [renVS, renAS, renCS, ren1S]; cases f g <;> rfl)
  | ptr g sz i off => exact (renA_d h (.ptr g sz i off)).trans (by simp only [renVS, renAS, renCS, ren1S]; cases f g <;> rfl)
  | _ => rfl

theorem renB_d (h : Goes f ℓ ℓ') (b : SB) : (dB ℓ b).map (renB f) = dB ℓ' (renBS f b) := by
  cases b with
  | box sz v => simp [dB, renB, renBS, renA_d h]
  | arr t l z => simp [dB, renB, renBS]
  | mp st t l => simp [dB, renB, renBS]
  | dead n => rfl
theorem renBS_len (f : Ren) (b : SB) : (renBS f b).len = b.len := by cases b <;> rfl
end
/-! ### Data -/

theorem enc_cells (t : Ty) (x : t.den) (ℓ : Lens) : (unC t x).map (d1 ℓ) = encC t x ∧ (unC t x).map (dC ℓ) = encC t x := by
  induction t with
  | int k => exact ⟨rfl, rfl⟩
  | bool => exact ⟨rfl, rfl⟩
  | str => exact ⟨rfl, rfl⟩
  | row t ih => exact ⟨rfl, rfl⟩
  | unit => exact ⟨rfl, rfl⟩
  | cons a b iha ihb =>
    simp only [unC, encC, List.map_append]
    exact ⟨by rw [(iha x.1).1, (ihb x.2).1], by rw [(iha x.1).2, (ihb x.2).2]⟩

theorem length_encC (t : Ty) (x : t.den) : (encC t x).length = t.size := by
  induction t with
  | cons a b iha ihb => simp only [encC, List.length_append, Ty.size, iha, ihb]
  | _ => rfl
theorem size_one {t : Ty} (h : t.agg = false) : t.size = 1 := by cases t <;> first | rfl | cases h

theorem cells_enc (t : Ty) (x : t.den) : (enc t x).cells = encC t x := by
  unfold enc wrap
  cases h : t.agg with
  | true => rfl
  | false =>
    have hl := length_encC t x
    rw [size_one h] at hl
    cases t <;> first | rfl | cases h

theorem isAgg_enc (t : Ty) (x : t.den) : (enc t x).isAgg = t.agg := by
  cases t <;> rfl

theorem okV_enc (t : Ty) (x : t.den) : okV (enc t x) = true := by cases t <;> rfl

theorem unT_enc (t : Ty) (x : t.den) (ℓ : Lens) : dA ℓ (unT t x) = enc t x := by
  cases t with
  | unit => rfl
  | cons a b => simp only [unT, Ty.agg, dA, enc, wrap, (enc_cells (.cons a b) x ℓ).2]
  | _ => rfl

theorem cells_unT (t : Ty) (x : t.den) : (unT t x).cells = unC t x := by cases t <;> rfl
theorem isAgg_unT (t : Ty) (x : t.den) : (unT t x).isAgg = t.agg := by cases t <;> rfl

theorem cells_dA (ℓ : Lens) (v : SV) : (dA ℓ v).cells = v.cells.map (dC ℓ) := by
  cases v <;> rfl
theorem isAgg_dA (ℓ : Lens) (v : SV) : (dA ℓ v).isAgg = v.isAgg := by cases v <;> rfl
theorem okV_dA (ℓ : Lens) (v : SV) : okV (dA ℓ v) = okSV v := by cases v <;> rfl

/-! ### Memory of which less is said -/

def HW (H H' : Heap) : Prop := ∀ (Y : XT) (w : World) (ρ : Rho), HR Y w ρ H → HR Y w ρ H' ∧ Stable w (XX ρ H) w (XX ρ H')
def VW (H H' : Heap) (x y : AV) : Prop := ∀ (Y : XT) (w : World) (ρ : Rho) (v : Value), HR Y w ρ H → VR w (XU Y ρ H) ρ v x → VR w (XU Y ρ H') ρ v y

theorem HW.refl (H : Heap) : HW H H := fun _ _ _ h => ⟨h, Stable.refl _ _⟩
theorem HW.trans {A B C : Heap} (h : HW A B) (k : HW B C) : HW A C := fun Y w ρ hr => by
  obtain ⟨h1, h2⟩ := h Y w ρ hr
  obtain ⟨h3, h4⟩ := k Y w ρ h1
  exact ⟨h3, h2.trans h4⟩
theorem HW.vw {H H' : Heap} (h : HW H H') (x : AV) : VW H H' x x := fun Y w ρ _ hr hv => hv.mono ((h Y w ρ hr).2.xu Y) (fun _ _ e => e)
theorem VW.refl (H : Heap) (x : AV) : VW H H x x := fun _ _ _ _ _ h => h
theorem VW.trans {A B C : Heap} {x y z : AV} (hw : HW A B) (h : VW A B x y) (k : VW B C y z) : VW A C x z := fun Y w ρ v hr hv =>
  k Y w ρ v (hw Y w ρ hr).1 (h Y w ρ v hr hv)
theorem VW.undef {H H' : Heap} {x : AV} : VW H H' x .undef := fun _ _ _ _ _ _ => .undef _

/-- Cell by cell. -/
structure CW (H H' : Heap) (x y : AV) : Prop where
  agg : x.isAgg = y.isAgg
  len : x.cells.length = y.cells.length
  cell : ∀ (j : Nat) (u u' : AV), x.cells[j]? = some u → y.cells[j]? = some u' → VW H H' u u'

theorem cells_not {x : AV} (h : x.isAgg = false) : x.cells = [x] := by cases x <;> first | rfl | cases h

theorem CW.of (H H' : Heap) {x y : AV} (hx : x.isAgg = false) (hy : y.isAgg = false) (h : VW H H' x y) : CW H H' x y := by
  refine ⟨by rw [hx, hy], by rw [cells_not hx, cells_not hy]; rfl, fun j u u' h1 h2 => ?_⟩
  rw [cells_not hx] at h1
  rw [cells_not hy] at h2
  cases j with
  | zero => simp at h1 h2; subst h1; subst h2; exact h
  | succ j => simp at h1

theorem CW.vw {H H' : Heap} {x y : AV} (h : CW H H' x y) : VW H H' x y := by
  cases hx : x.isAgg with
  | true =>
    cases x <;> first | cases hx | skip
    rename_i cs
    have hy := h.agg
    cases y <;> first | cases hy | skip
    rename_i cs'
    intro Y w ρ v hr hv
    obtain ⟨as, rfl, hn, h1, hc⟩ := hv.aggInv
    have hl := h.len
    simp only [AV.cells] at hl
    refine .agg _ _ (by omega) h1 (fun i y hy => ?_)
    have hi : i < cs.length := by rw [hl]; exact (List.getElem?_eq_some_iff.1 hy).1
    exact h.cell i cs[i] y (by simp [AV.cells, hi]) hy Y w ρ _ hr (hc i cs[i] (by simp [hi]))
  | false =>
    have hy := h.agg
    rw [hx] at hy
    refine h.cell 0 x y ?_ ?_
    · rw [cells_not hx]; rfl
    · rw [cells_not hy.symm]; rfl

theorem CW.refl (H H' : Heap) (hw : HW H H') (x : AV) : CW H H' x x := ⟨rfl, rfl, fun j u u' h1 h2 => by rw [h1] at h2; cases h2; exact hw.vw u⟩
theorem CW.trans {A B C : Heap} {x y z : AV} (hw : HW A B) (h : CW A B x y) (k : CW B C y z) : CW A C x z := by
  refine ⟨h.agg.trans k.agg, h.len.trans k.len, fun j u u' h1 h2 => ?_⟩
  have hj : j < y.cells.length := by rw [← h.len]; exact (List.getElem?_eq_some_iff.1 h1).1
  exact (h.cell j u _ h1 (List.getElem?_eq_getElem hj)).trans hw (k.cell j _ u' (List.getElem?_eq_getElem hj) h2)

/-- Block by block. -/
theorem HW.pw {H H' : Heap} (h : ∀ g k', get H' g = some k' → ∃ k, get H g = some k ∧ k'.sz = k.sz ∧ k'.box = k.box ∧ k.frz ≤ k'.frz ∧
      (k'.elems = k.elems ∨ (k.box = true ∧ 0 < k.sz ∧ k'.elems.length = k.elems.length ∧ ∀ (i : Nat) (x y : AV), k.elems[i]? = some x → k'.elems[i]? = some y → CW H H x y)))
    (hlen : ∀ i, (H'.getD i []).length = (H.getD i []).length) : HW H H' := by
  intro Y w ρ hr
  have hx : ∀ b o, XX ρ H' b o → XX ρ H b o := by
    rintro b o ⟨g, k', hg, hρ, ho⟩
    obtain ⟨k, hk, h1, _, h4, _⟩ := h g k' hg
    exact ⟨g, k, hk, hρ, Nat.le_trans (by rw [h1]; exact Nat.mul_le_mul_right _ h4) ho⟩
  have hst : Stable w (XX ρ H) w (XX ρ H') := (Stable.refl w _).less fun b o _ e => hx b o e
  refine ⟨⟨fun g k' hg => ?_, fun g g' k k' b hg hg' h1 h2 => ?_, fun g b hb => ?_, hr.lt, fun g k' b o hg hb => ?_, hr.ylt, hr.gl⟩, hst⟩
  · obtain ⟨k, hk, h1, h2, h3, h4⟩ := h g k' hg
    rcases hr.blk g k hk with ⟨a1, a2, a3⟩ | ⟨b, a1, a2⟩
    · rcases h4 with h4 | ⟨h4, _⟩
      · exact .inl ⟨a1, h4.trans a2, h2.trans a3⟩
      · rw [h4] at a3; cases a3
    · refine .inr ⟨b, a1, ?_⟩
      rcases a2 with ⟨a0, cs, T, a2, a3⟩ | ⟨m1, es, cl, m3, m4⟩
      case inr =>
        rcases h4 with h4 | ⟨_, h4, _⟩
        · exact .inr ⟨h1.trans m1, es, cl, m3, by rw [h4, h2]; exact m4.mono (hst.xu Y) (fun _ _ h => h)⟩
        · omega
      refine .inl ⟨by rw [h1]; exact a0, cs, T, a2, ?_⟩
      rcases h4 with h4 | ⟨h4, _, h5, h6⟩
      · rw [h1, h4, h2]
        exact a3.mono (hst.xu Y) (fun _ _ h => h)
      · rw [h1, h2, h4]
        rw [h4] at a3
        refine ElemsAt.mono (hst.xu Y) (fun _ _ h => h) ⟨by rw [h5]; exact a3.1, fun i y hy => ?_⟩
        have hi : i < k.elems.length := by rw [← h5]; exact (List.getElem?_eq_some_iff.1 hy).1
        have hxe := List.getElem?_eq_getElem hi
        have hc := h6 i _ y hxe hy
        obtain ⟨b1, b2⟩ := a3.2 i _ hxe
        refine ⟨by rw [← hc.len]; exact b1, fun j u hu => ?_⟩
        have hj : j < k.elems[i].cells.length := by rw [hc.len]; exact (List.getElem?_eq_some_iff.1 hu).1
        obtain ⟨b3, b4⟩ := b2 j _ (List.getElem?_eq_getElem hj)
        exact ⟨b3, hc.cell j _ u (List.getElem?_eq_getElem hj) hu Y w ρ _ hr b4⟩
  · obtain ⟨x, hx, _⟩ := h g k hg
    obtain ⟨y, hy, _⟩ := h g' k' hg'
    exact hr.inj g g' x y b hx hy h1 h2
  · rw [hlen]; exact hr.dom g b hb
  · obtain ⟨x, hx, _⟩ := h g k' hg
    exact hr.sep g x b o hx hb

theorem HW.less {H H' : Heap} (h : Less H' H) : HW H H' := fun _ _ _ hr => ⟨hr.less h, h.st⟩

theorem HW.grow (H : Heap) (sz : Nat) : HW H (H ++ [[some ⟨sz, [], 0, false⟩]]) := by
  intro Y w ρ hr
  have h1 := HR.more (Y := ⟨Y, 0⟩) hr 1
  obtain ⟨h2, h3⟩ := h1.virt (slot := H.length) (Free.more (Nat.le_refl _) (by omega)) ⟨sz, [], 0, false⟩ rfl rfl
  have e : (H ++ List.replicate 1 []).set H.length [some ⟨sz, [], 0, false⟩] = H ++ [[some ⟨sz, [], 0, false⟩]] := by
    rw [List.set_append_right _ _ (Nat.le_refl _)]
    simp
  rw [e] at h2 h3
  rw [XX_more] at h3
  exact ⟨h2, h3⟩

/-! ### Values of which less is said -/

theorem VW.row {H H' : Heap} (hw : HW H H') {sz : Nat} {xs : List AV} {t : Bool} : VW H H' (.lst sz xs t) (.lst sz xs false) := by
  intro Y w ρ v hr hv
  obtain ⟨a, cap, rfl, h1, h2, hp⟩ := hv.lstInv
  have hp := hp.mono ((hw Y w ρ hr).2.xu Y)
  refine .pur _ _ ?_
  generalize hn : xs.length = n at hp
  cases hp with
  | lst0 a cap sz t ht => exact .lst0 _ _ _ _ (fun e => by cases e)
  | lst b o n cap sz t xs f hn hc ht hsz hx hr => exact .lst b o _ cap sz _ xs f hn hc (fun e => by cases e) hsz hx hr

theorem VW.nil {H H' : Heap} {sz sz' : Nat} {t t' : Bool} (h : t = true ∨ t' = false) : VW H H' (.lst sz [] t) (.lst sz' [] t') := by
  intro Y w ρ v hr hv
  obtain ⟨a, cap, rfl, h1, h2, hp⟩ := hv.lstInv
  refine .pur _ _ (.lst0 _ _ _ _ (fun e => ?_))
  rcases h with h | h
  · exact h2 h
  · rw [h] at e; cases e

theorem VW.virt {H H' : Heap} {sz sz' off : Nat} {g : Nm} : VW H H' (.lst sz [] true) (.own g sz' off 0) := by
  intro Y w ρ v hr hv
  obtain ⟨a, cap, rfl, h1, h2, hp⟩ := hv.lstInv
  have := h2 rfl
  subst this
  exact .own0 _ _ _ _

/-! ### The state -/

variable {nt m : Nat}
theorem Weak.of {s s' : St} (hw : HW s.hp s'.hp) (hf : ∀ t, VW s.hp s'.hp (look s.fr t) (look s'.fr t)) : Weak nt m s s' := by
  intro Y w ρ a hr
  obtain ⟨h1, h2⟩ := hw Y w ρ hr.hp
  exact ⟨ρ, ⟨hr.tsz, hr.dfr.mono (h2.xu Y), fun t => hf t Y w ρ _ hr.hp (hr.fr t), h1⟩, h2, fun _ _ _ e => e⟩

theorem Weak.tidy (s : St) : Weak nt m s (Abs.tidy m s) := fun _ _ _ _ hr => hr.tidy

/-! ### Trees -/

theorem rowAt_bind {A B C : Type} (l : List A) (n : Int) (k : (x : A) → l[n.toNat]? = some x → Option B) (F : B → Option C) : rowAt l n (fun x h => (k x h).bind F) = (rowAt l n k).bind F := by
  unfold rowAt
  cases decide (0 ≤ n) with
  | false => rfl
  | true =>
    simp only [cond_true]
    generalize hh : l[n.toNat]? = o at k
    cases o with
    | none => rfl
    | some x => rfl

theorem Tr.mean_bind_eq {α β : Type} (t : Tr α) (k : α → Tr β) : (t.bind k).mean = t.mean.bind fun a => (k a).mean := by
  induction t with
  | ret a => rfl
  | fail => rfl
  | need g t ih => cases g <;> simp [Tr.bind, Tr.mean, ih]
  | br p x y ihx ihy => cases p <;> simp [Tr.bind, Tr.mean, ihx, ihy]
  | ask m f ih =>
    simp only [Tr.bind, Tr.mean]
    cases m with
    | none => rfl
    | some a => exact ih a
  | look l n f ih =>
    simp only [Tr.bind, Tr.mean, ← rowAt_bind]
    congr 1
    funext x h
    exact ih x h
  | cs r f g ihf ihg =>
    simp only [Tr.bind, Tr.mean]
    cases r with
    | inl a => exact ihf a
    | inr b => exact ihg b

theorem Tr.mean_bind {α β : Type} {t : Tr α} {k : α → Tr β} {b : β} (h : (t.bind k).mean = some b) : ∃ a, t.mean = some a ∧ (k a).mean = some b := by
  rw [Tr.mean_bind_eq] at h
  exact Option.bind_eq_some_iff.1 h

theorem Tr.mean_map {α β : Type} {t : Tr α} {f : α → β} {b : β} (h : (t.map f).mean = some b) : ∃ a, t.mean = some a ∧ f a = b := by
  obtain ⟨a, h1, h2⟩ := Tr.mean_bind h
  exact ⟨a, h1, by simpa [Tr.mean] using h2⟩
theorem Tr.mean_of {α : Type} {o : Option α} {a : α} (h : (Tr.of o).mean = some a) : o = some a := by cases o <;> simp_all [Tr.of, Tr.mean]
theorem Tr.mean_when {α : Type} {b : Bool} {t : Tr α} {a : α} (h : (Tr.when b t).mean = some a) : b = true ∧ t.mean = some a := by cases b <;> simp_all [Tr.when, Tr.mean]
theorem Tr.mean_need {α : Type} {g : Bool} {t : Tr α} {a : α} (h : (Tr.need g t).mean = some a) : g = true ∧ t.mean = some a := by cases g <;> simp_all [Tr.mean]
theorem Tr.mean_ret {α : Type} {a b : α} (h : (Tr.ret a).mean = some b) : a = b := by simpa [Tr.mean] using h
theorem Tr.mean_fail {α : Type} {b : α} (h : (Tr.fail : Tr α).mean = some b) : False := by cases h

theorem Tr.mean_mapM {α β : Type} {f : α → Tr β} : ∀ {l : List α} {l' : List β}, (Tr.mapM f l).mean = some l' → l'.length = l.length ∧ ∀ (i : Nat) (a : α), l[i]? = some a → ∃ b, l'[i]? = some b ∧ (f a).mean = some b := by
  intro l
  induction l with
  | nil => intro l' h; have := Tr.mean_ret h; subst this; exact ⟨rfl, fun i a ha => by simp at ha⟩
  | cons a r ih =>
    intro l' h
    obtain ⟨b, h1, h2⟩ := Tr.mean_bind h
    obtain ⟨bs, h3, h4⟩ := Tr.mean_bind h2
    have := Tr.mean_ret h4
    subst this
    obtain ⟨e1, e2⟩ := ih h3
    refine ⟨by simp [e1], fun i x hx => ?_⟩
    cases i with
    | zero => simp at hx; subst hx; exact ⟨b, rfl, h1⟩
    | succ i => simp at hx; obtain ⟨y, h5, h6⟩ := e2 i x hx; exact ⟨y, by simpa using h5, h6⟩

/-! ### A slice as a row -/

theorem lsz_idem (sz : Nat) (xs : List AV) : lsz (lsz sz xs) xs = lsz sz xs := by cases xs <;> rfl

def IsArr (H : SHeap) (g : Nm) : Prop := ∃ t l z, getS H g = some (.arr t l z)

section
variable {H : SHeap} {ℓ : Lens}
theorem pure1S_spec (ha : Agr ℓ H) {v u : SV} {l : List Nm} (h : (pure1S H v).mean = some (u, l)) :
    pure1 (dH ℓ H) (d1 ℓ v) = some (d1 ℓ u, l) ∧ (∀ g ∈ l, IsArr H g) ∧ v.isAgg = false ∧ u.isAgg = false ∧ dC ℓ v = d1 ℓ v ∧ dC ℓ u = d1 ℓ u := by
  cases v with
  | own t g =>
    simp only [pure1S] at h
    split at h
    · rename_i t' l' z hg
      split at h
      · rename_i ht
        subst ht
        split at h
        case isFalse => exact (Tr.mean_fail h).elim
        rename_i hs0
        have := Tr.mean_ret h
        simp only [Prod.mk.injEq] at this
        obtain ⟨rfl, rfl⟩ := this
        refine ⟨?_, fun g' hg' => ?_, rfl, rfl, rfl, rfl⟩
        · simp only [d1, pure1, get_dH, hg, Option.bind_some, dB]
          have := ha g _ hg
          simp only [SB.len] at this
          rw [if_pos (by simp [this, hs0])]
          have ht : List.take l'.length (List.map (enc t') l') = List.map (enc t') l' := List.take_of_length_le (by simp)
          simp [this, rowAV, ht]
        · simp at hg'; subst hg'; exact ⟨_, _, _, hg⟩
      · exact (Tr.mean_fail h).elim
    · exact (Tr.mean_fail h).elim
  | part t g off len =>
    simp only [pure1S] at h
    split at h
    · rename_i t' l' z hg
      split at h
      · rename_i ht
        subst ht
        split at h
        case isFalse => exact (Tr.mean_fail h).elim
        rename_i hs0
        obtain ⟨h1, h2⟩ := Tr.mean_need h
        have := Tr.mean_ret h2
        simp only [Prod.mk.injEq] at this
        obtain ⟨rfl, rfl⟩ := this
        refine ⟨?_, fun g' hg' => ?_, rfl, rfl, rfl, rfl⟩
        · simp only [d1, pure1, get_dH, hg, Option.bind_some, dB]
          have := of_decide_eq_true h1
          rw [if_pos (by simpa [hs0] using this)]
          simp [rowAV, List.map_take, List.map_drop]
        · simp at hg'; subst hg'; exact ⟨_, _, _, hg⟩
      · exact (Tr.mean_fail h).elim
    · exact (Tr.mean_fail h).elim
  | row t l' tg =>
    have := Tr.mean_ret h
    simp only [Prod.mk.injEq] at this
    obtain ⟨rfl, rfl⟩ := this
    exact ⟨by simp only [d1, rowAV, pure1, lsz_idem], fun g hg => by simp at hg, rfl, rfl, rfl, rfl⟩
  | undef | int k n | bool b | str s | nilp | nilf =>
    have := Tr.mean_ret h
    simp only [Prod.mk.injEq] at this
    obtain ⟨rfl, rfl⟩ := this
    exact ⟨rfl, fun g hg => by simp at hg, rfl, rfl, rfl, rfl⟩
  | _ => exact (Tr.mean_fail h).elim

theorem pureLS_spec (ha : Agr ℓ H) : ∀ {vs us : List SV} {l : List Nm}, (pureLS H vs).mean = some (us, l) → pureL (dH ℓ H) (vs.map (dC ℓ)) = some (us.map (dC ℓ), l) ∧ (∀ g ∈ l, IsArr H g) := by
  intro vs
  induction vs with
  | nil =>
    intro us l h
    have := Tr.mean_ret h
    simp only [Prod.mk.injEq] at this
    obtain ⟨rfl, rfl⟩ := this
    exact ⟨rfl, fun g hg => by simp at hg⟩
  | cons v r ih =>
    intro us l h
    obtain ⟨⟨u, l1⟩, h1, h2⟩ := Tr.mean_bind h
    obtain ⟨⟨us', l2⟩, h3, h4⟩ := Tr.mean_bind h2
    have := Tr.mean_ret h4
    simp only [Prod.mk.injEq] at this
    obtain ⟨rfl, rfl⟩ := this
    obtain ⟨e1, e2, _, _, e3, e4⟩ := pure1S_spec ha h1
    obtain ⟨e5, e6⟩ := ih h3
    refine ⟨?_, fun g hg => ?_⟩
    · simp only [List.map_cons, pureL]
      rw [e3, e1, e5, e4]
    · rcases List.mem_append.1 hg with hg | hg
      · exact e2 g hg
      · exact e6 g hg

theorem pureVS_spec (ha : Agr ℓ H) {v u : SV} {l : List Nm} (h : (pureVS H v).mean = some (u, l)) : pureV (dH ℓ H) (dA ℓ v) = some (dA ℓ u, l) ∧ (∀ g ∈ l, IsArr H g) := by
  have other : (pure1S H v).mean = some (u, l) → pureV (dH ℓ H) (dA ℓ v) = some (dA ℓ u, l) ∧ (∀ g ∈ l, IsArr H g) := by
    intro h
    obtain ⟨e1, e2, e3, e4, e5, e6⟩ := pure1S_spec ha h
    have hv : dA ℓ v = dC ℓ v := by cases v <;> first | rfl | cases e3
    have hu : dA ℓ u = dC ℓ u := by cases u <;> first | rfl | cases e4
    rw [hv, hu, e5, e6]
    refine ⟨?_, e2⟩
    rw [← e1]
    cases v <;> first | rfl | cases e3
  cases v with
  | agg cs =>
    obtain ⟨⟨us, l'⟩, h1, h2⟩ := Tr.mean_bind h
    have := Tr.mean_ret h2
    simp only [Prod.mk.injEq] at this
    obtain ⟨rfl, rfl⟩ := this
    obtain ⟨e1, e2⟩ := pureLS_spec ha h1
    exact ⟨by simp only [dA, pureV, e1], e2⟩
  | tup vs => exact (Tr.mean_fail h).elim
  | _ => exact other h

/-! ### Blocks that are no longer written -/

theorem dH_putAllS (ℓ : Lens) : ∀ (wr : List (Nm × SB)) (H : SHeap), dH ℓ (putAllS H wr) = putAll (dH ℓ H) (wr.map fun p => (p.1, dB ℓ p.2)) := by
  intro wr
  induction wr with
  | nil => intro H; rfl
  | cons p r ih =>
    intro H
    obtain ⟨g, b⟩ := p
    simp only [putAllS, List.map_cons, putAll, ih, dH_setS]

theorem dB_stop (ℓ : Lens) (t : Ty) (l : List t.den) (z : Fz) : dB ℓ (SB.stop (.arr t l z)) = (dB ℓ (.arr t l z)).map Blk.stop := by
  simp only [SB.stop, dB, Option.map_some, Blk.stop, Fz.n, List.length_map]
  congr 2
  cases z <;> simp only [Fz.n] <;> omega

theorem stopsS_spec {l : List Nm} (h : ∀ g ∈ l, IsArr H g) : (stopsS H l).map (fun p => (p.1, dB ℓ p.2)) = stops (dH ℓ H) l := by
  simp only [stopsS, stops, List.map_map]
  refine List.map_congr_left fun g hg => ?_
  obtain ⟨t, x, z, e⟩ := h g hg
  simp only [Function.comp, e, get_dH, Option.bind_some, dB_stop]

theorem dH_stopS {l : List Nm} (h : ∀ g ∈ l, IsArr H g) : dH ℓ (stopS H l) = putAll (dH ℓ H) (stops (dH ℓ H) l) := by
  rw [stopS, dH_putAllS, stopsS_spec h]

/-- What is written keeps its length. -/
def LenOK (H : SHeap) (wr : List (Nm × SB)) : Prop := ∀ p ∈ wr, ∀ b, getS H p.1 = some b → p.2.len = b.len

theorem getS_putAllS : ∀ (wr : List (Nm × SB)) (H : SHeap) (g : Nm) (b : SB), getS H g = some b → LenOK H wr → ∃ b', getS (putAllS H wr) g = some b' ∧ b'.len = b.len := by
  intro wr
  induction wr with
  | nil => intro H g b h _; exact ⟨b, h, rfl⟩
  | cons p r ih =>
    intro H g b h hl
    obtain ⟨a, c⟩ := p
    simp only [putAllS]
    have hl' : LenOK (setS H a c) r := by
      intro p hp x hx
      rw [getS_setS] at hx
      split at hx
      · rename_i hh
        cases hx
        cases hb : getS H a with
        | none => rw [hb] at hh; simp at hh
        | some y =>
          rw [hl p (by simp [hp]) y (by rw [hh.1]; exact hb), hl (a, c) (by simp) y hb]
      · exact hl p (by simp [hp]) x hx
    by_cases e : g = a
    · subst e
      have hs : getS (setS H g c) g = some c := by rw [getS_setS]; simp [h]
      obtain ⟨b', h1, h2⟩ := ih (setS H g c) g c hs hl'
      exact ⟨b', h1, h2.trans (hl (g, c) (by simp) b h)⟩
    · have hs : getS (setS H a c) g = some b := by rw [getS_setS, if_neg (fun hh => e hh.1)]; exact h
      exact ih (setS H a c) g b hs hl'

theorem Agr.putAllS {wr : List (Nm × SB)} (hl : LenOK H wr) (h : Agr ℓ (putAllS H wr)) : Agr ℓ H := by
  intro g b hg
  obtain ⟨b', h1, h2⟩ := getS_putAllS wr H g b hg hl
  rw [h g b' h1, h2]

theorem stop_len (b : SB) : b.stop.len = b.len := by cases b <;> rfl

theorem stopsS_len (l : List Nm) : LenOK H (stopsS H l) := by
  intro p hp b hb
  simp only [stopsS, List.mem_map] at hp
  obtain ⟨g, _, rfl⟩ := hp
  simp only at hb
  simp only [hb, stop_len]

theorem Agr.stopS {l : List Nm} (h : Agr ℓ (stopS H l)) : Agr ℓ H := h.putAllS (stopsS_len l)

theorem HW.stopS {l : List Nm} (h : ∀ g ∈ l, IsArr H g) : HW (dH ℓ H) (dH ℓ (stopS H l)) := by
  rw [dH_stopS h]
  exact HW.less (Less.stops l _ (Less.refl _))

/-- Behind the stops a slice is a row. -/
theorem pureV_cw {H : Heap} {x u : AV} {l : List Nm} (h : pureV H x = some (u, l)) : CW H (putAll H (stops H l)) x u := by
  have one : ∀ {x u : AV} {m : List Nm}, pure1 H x = some (u, m) → (∀ g ∈ m, g ∈ l) → VW H (putAll H (stops H l)) x u ∧ x.isAgg = false ∧ u.isAgg = false := by
    intro x u m hp hm
    refine ⟨fun Y w ρ v hr hv => ?_, ?_, ?_⟩
    · have hless : Less (putAll H (stops H l)) H := Less.stops l H (Less.refl H)
      exact .pur _ _ (pure1_rel hr hv hp (Shut.mono (Shut.of_less hr hless (fun g hg k hk k' hk' => stops_frz H g hk l H hg k' hk')) hm))
    · cases x <;> first | rfl | simp [pure1] at hp
    · cases x with
      | own g sz off len =>
        simp only [pure1] at hp
        split at hp
        · split at hp
          · cases hp; rfl
          · cases hp
        · cases hp
      | _ => first | (simp [pure1] at hp; done) | (simp only [pure1, Option.some.injEq, Prod.mk.injEq] at hp; rw [← hp.1]; rfl)
  cases x with
  | agg cs =>
    simp only [pureV] at h
    split at h
    · rename_i ys m hy
      simp only [Option.some.injEq, Prod.mk.injEq] at h
      obtain ⟨rfl, rfl⟩ := h
      obtain ⟨e1, e2⟩ := pureL_get cs ys m hy
      refine ⟨rfl, e1.symm, fun j a b h1 h2 => ?_⟩
      obtain ⟨u, m', h3, h4, h5⟩ := e2 j a h1
      simp only [AV.cells] at h2
      rw [h2] at h3
      cases h3
      exact (one h4 h5).1
    · cases h
  | tup vs => simp [pureV] at h
  | _ =>
    have h' := h
    simp only [pureV] at h'
    obtain ⟨e1, e2, e3⟩ := one h' (fun _ h => h)
    exact CW.of _ _ e2 e3 e1

end
/-- Two lists, one by one. -/
inductive F2 {α β : Type} (R : α → β → Prop) : List α → List β → Prop where
  | nil : F2 R [] []
  | cons {a : α} {b : β} {l : List α} {m : List β} (h : R a b) (t : F2 R l m) : F2 R (a :: l) (b :: m)

theorem F2.imp {α β : Type} {R S : α → β → Prop} (h : ∀ a b, R a b → S a b) {l : List α} {m : List β} (k : F2 R l m) : F2 S l m := by
  induction k with
  | nil => exact .nil
  | cons h1 _ ih => exact .cons (h _ _ h1) ih
theorem F2.refl {α : Type} {R : α → α → Prop} (h : ∀ a, R a a) : ∀ l, F2 R l l
  | [] => .nil
  | a :: l => .cons (h a) (F2.refl h l)
theorem F2.length {α β : Type} {R : α → β → Prop} {l : List α} {m : List β} (k : F2 R l m) : l.length = m.length := by
  induction k with
  | nil => rfl
  | cons _ _ ih => simp [ih]
theorem F2.get {α β : Type} {R : α → β → Prop} {l : List α} {m : List β} (k : F2 R l m) : ∀ (i : Nat) (a : α) (b : β), l[i]? = some a → m[i]? = some b → R a b := by
  induction k with
  | nil => intro i a b h; simp at h
  | cons h _ ih =>
    intro i x y h1 h2
    cases i with
    | zero => simp at h1 h2; subst h1; subst h2; exact h
    | succ i => exact ih i x y (by simpa using h1) (by simpa using h2)

structure CV (ℓ : Lens) (H H' : SHeap) (v v' : SV) : Prop where
  a : CW (dH ℓ H) (dH ℓ H') (dA ℓ v) (dA ℓ v')
  c : VW (dH ℓ H) (dH ℓ H') (dC ℓ v) (dC ℓ v')

section
variable {ℓ : Lens} {A B C H H' : SHeap} {v v' : SV}
theorem CV.refl (hw : HW (dH ℓ H) (dH ℓ H')) (v : SV) : CV ℓ H H' v v := ⟨CW.refl _ _ hw _, hw.vw _⟩
theorem CV.then (hw : HW (dH ℓ A) (dH ℓ B)) (hw' : HW (dH ℓ B) (dH ℓ C)) (h : CV ℓ A B v v') : CV ℓ A C v v' := ⟨h.a.trans hw (CW.refl _ _ hw' _), h.c.trans hw (hw'.vw _)⟩
theorem CV.behind (hw : HW (dH ℓ A) (dH ℓ B)) (h : CV ℓ B C v v') : CV ℓ A C v v' := ⟨(CW.refl _ _ hw _).trans hw h.a, (hw.vw _).trans hw h.c⟩

/-- What a conversion gives. -/
structure Conv (ℓ : Lens) (vs vs' : List SV) (H H' : SHeap) : Prop where
  agr : Agr ℓ H
  hw : HW (dH ℓ H) (dH ℓ H')
  vals : F2 (CV ℓ H H') vs vs'
  box : ∀ g sz v, getS H g = some (.box sz v) → getS H' g = some (.box sz v)

theorem Conv.refl (h : Agr ℓ H) (vs : List SV) : Conv ℓ vs vs H H := ⟨h, HW.refl _, F2.refl (fun v => CV.refl (HW.refl _) v) vs, fun _ _ _ h => h⟩

theorem Conv.cons {vs vs' : List SV} {v' : SV} (h1 : Agr ℓ B → Agr ℓ A ∧ HW (dH ℓ A) (dH ℓ B) ∧ CV ℓ A B v v' ∧ ∀ g sz v, getS A g = some (.box sz v) → getS B g = some (.box sz v)) (h : Conv ℓ vs vs' B C) : Conv ℓ (v :: vs) (v' :: vs') A C := by
  obtain ⟨a1, a2, a3, a4⟩ := h1 h.agr
  exact ⟨a1, a2.trans h.hw, .cons (a3.then a2 h.hw) (h.vals.imp fun _ _ k => k.behind a2), fun g sz v e => h.box g sz v (a4 g sz v e)⟩

theorem Conv.same {vs vs' : List SV} (h : Conv ℓ vs vs' A C) (v : SV) : Conv ℓ (v :: vs) (v :: vs') A C :=
  h.cons fun ha => ⟨ha, HW.refl _, CV.refl (HW.refl _) v, fun _ _ _ e => e⟩

theorem CV.undef (hw : HW (dH ℓ H) (dH ℓ H')) (h : v.isAgg = false) : CV ℓ H H' v .undef :=
  ⟨CW.of _ _ (by rw [isAgg_dA]; exact h) rfl VW.undef, VW.undef⟩

theorem getS_box_stopS {l : List Nm} (h : ∀ g ∈ l, IsArr H g) {g : Nm} {sz : Nat} {v : SV} (hg : getS H g = some (.box sz v)) : getS (stopS H l) g = some (.box sz v) := by
  have key : ∀ (wr : List (Nm × SB)) (K : SHeap), (∀ p ∈ wr, p.1 ≠ g) → getS K g = some (.box sz v) → getS (putAllS K wr) g = some (.box sz v) := by
    intro wr
    induction wr with
    | nil => intro K _ hk; exact hk
    | cons p r ih =>
      intro K hp hk
      obtain ⟨a, c⟩ := p
      refine ih _ (fun q hq => hp q (by simp [hq])) ?_
      rw [getS_setS, if_neg (fun hh => hp (a, c) (by simp) hh.1.symm)]
      exact hk
  refine key _ _ (fun p hp e => ?_) hg
  simp only [stopsS, List.mem_map] at hp
  obtain ⟨g', hg', rfl⟩ := hp
  simp only at e
  subst e
  obtain ⟨t, l', z, e⟩ := h _ hg'
  rw [hg] at e
  cases e

theorem getS_new (H : SHeap) (b : SB) : getS (H ++ [[b]]) (H.length, 0) = some b := by simp [getS]

theorem pureVS_one (h : v.isAgg = false) (ht : ∀ vs, v ≠ .tup vs) : pureVS H v = pure1S H v := by
  cases v <;> first | rfl | cases h | exact absurd rfl (ht _)

theorem convL_spec : ∀ (sh : Sh) (vs : List SV) (H : SHeap) (vs' : List SV) (H' : SHeap), (convL sh vs H).mean = some (vs', H') → Agr ℓ H' → Conv ℓ vs vs' H H' := by
  intro sh
  induction sh with
  | nil =>
    intro vs H vs' H' h ha
    have := Tr.mean_ret h
    simp only [Prod.mk.injEq] at this
    obtain ⟨rfl, rfl⟩ := this
    exact .refl ha _
  | st x r ih =>
    intro vs H vs' H' h ha
    cases vs with
    | nil =>
      have := Tr.mean_ret h
      simp only [Prod.mk.injEq] at this
      obtain ⟨rfl, rfl⟩ := this
      exact .refl ha _
    | cons v vs =>
      have plain : ∀ {K : SHeap} {u : SV}, ((convL r vs K).bind fun q => .ret (u :: q.1, q.2)).mean = some (vs', H') → ∃ us, vs' = u :: us ∧ Conv ℓ vs us K H' := by
        intro K u hk
        obtain ⟨q, h1, h2⟩ := Tr.mean_bind hk
        have := Tr.mean_ret h2
        simp only [Prod.mk.injEq] at this
        obtain ⟨rfl, rfl⟩ := this
        exact ⟨q.1, rfl, ih _ _ _ _ h1 ha⟩
      simp only [convL] at h
      split at h
      · rename_i t g t'
        obtain ⟨us, rfl, hc⟩ := plain h
        refine hc.cons fun hb => ⟨hb.append, ?_, ?_, fun _ _ _ e => getS_append e⟩
        · rw [dH_append]; exact HW.grow _ _
        · have hl := hb _ _ (getS_new H (.arr t [] .zero))
          have : VW (dH ℓ H) (dH ℓ (H ++ [[.arr t [] .zero]])) (dA ℓ (.row t' [] true)) (dA ℓ (.own t (H.length, 0))) := by
            simp only [dA, dC, d1, rowAV, hl, SB.len, List.map_nil, List.length_nil]
            exact VW.virt
          exact ⟨CW.of _ _ rfl rfl this, this⟩
      · split at h
        · obtain ⟨us, rfl, hc⟩ := plain h
          refine hc.cons fun hb => ⟨hb, HW.refl _, ?_, fun _ _ _ e => e⟩
          exact .undef (HW.refl _) (by assumption)
        · exact (Tr.mean_fail h).elim
      · obtain ⟨us, rfl, hc⟩ := plain h
        exact hc.same _
  | dat t r ih =>
    intro vs H vs' H' h ha
    cases vs with
    | nil =>
      have := Tr.mean_ret h
      simp only [Prod.mk.injEq] at this
      obtain ⟨rfl, rfl⟩ := this
      exact .refl ha _
    | cons v vs =>
      simp only [convL] at h
      obtain ⟨⟨u, l⟩, h1, h2⟩ := Tr.mean_bind h
      obtain ⟨q, h3, h4⟩ := Tr.mean_bind h2
      have := Tr.mean_ret h4
      simp only [Prod.mk.injEq] at this
      obtain ⟨rfl, rfl⟩ := this
      refine (ih _ _ _ _ h3 ha).cons fun hb => ?_
      have ha0 := hb.stopS
      obtain ⟨e1, e2⟩ := pureVS_spec ha0 h1
      have hcw := pureV_cw e1
      rw [← dH_stopS e2] at hcw
      refine ⟨ha0, HW.stopS e2, ⟨hcw, ?_⟩, fun g sz v e => getS_box_stopS e2 e⟩
      cases v with
      | agg cs =>
        obtain ⟨p, h5, h6⟩ := Tr.mean_bind h1
        have := Tr.mean_ret h6
        simp only [Prod.mk.injEq] at this
        rw [← this.1]
        exact VW.undef
      | tup vs => exact (Tr.mean_fail h1).elim
      | _ =>
        rw [pureVS_one rfl (fun _ e => by cases e)] at h1
        obtain ⟨f1, _, f3, f4, f5, f6⟩ := pure1S_spec ha0 h1
        have := hcw.vw
        cases u <;> first | exact this | cases f4
  | part t g r ih =>
    intro vs H vs' H' h ha
    cases vs with
    | nil =>
      have := Tr.mean_ret h
      simp only [Prod.mk.injEq] at this
      obtain ⟨rfl, rfl⟩ := this
      exact .refl ha _
    | cons v vs =>
      simp only [convL] at h
      split at h
      · rename_i t'
        obtain ⟨q, h3, h4⟩ := Tr.mean_bind h
        have := Tr.mean_ret h4
        simp only [Prod.mk.injEq] at this
        obtain ⟨rfl, rfl⟩ := this
        refine (ih _ _ _ _ h3 ha).cons fun hb => ⟨hb.append, ?_, ?_, fun _ _ _ e => getS_append e⟩
        · rw [dH_append]; exact HW.grow _ _
        · have : VW (dH ℓ H) (dH ℓ (H ++ [[.arr t [] .zero]])) (dA ℓ (.row t' [] true)) (dA ℓ (.part t (H.length, 0) 0 0)) := by
            simp only [dA, dC, d1, rowAV, List.map_nil]
            exact VW.virt
          exact ⟨CW.of _ _ rfl rfl this, this⟩
      obtain ⟨q, h3, h4⟩ := Tr.mean_bind h
      have := Tr.mean_ret h4
      simp only [Prod.mk.injEq] at this
      obtain ⟨rfl, rfl⟩ := this
      have hc := ih _ _ _ _ h3 ha
      split
      · rename_i t g hne
        split
        · rename_i b hb
          refine hc.cons fun ha' => ⟨ha', HW.refl _, ?_, fun _ _ _ e => e⟩
          have e : d1 ℓ (.own t g) = d1 ℓ (.part t g 0 b.len) := by simp only [d1, ha' g b hb]
          have : VW (dH ℓ H) (dH ℓ H) (d1 ℓ (.own t g)) (d1 ℓ (.part t g 0 b.len)) := by rw [e]; exact VW.refl _ _
          exact ⟨CW.of _ _ rfl rfl this, this⟩
        · exact hc.same _
      · exact hc.same _
  | eptr g sz off r ih =>
    intro vs H vs' H' h ha
    cases vs with
    | nil =>
      have := Tr.mean_ret h
      simp only [Prod.mk.injEq] at this
      obtain ⟨rfl, rfl⟩ := this
      exact .refl ha _
    | cons v vs =>
      simp only [convL] at h
      obtain ⟨q, h3, h4⟩ := Tr.mean_bind h
      have := Tr.mean_ret h4
      simp only [Prod.mk.injEq] at this
      obtain ⟨rfl, rfl⟩ := this
      exact (ih _ _ _ _ h3 ha).same _
  | agg i r ihi ih =>
    intro vs H vs' H' h ha
    cases vs with
    | nil =>
      have := Tr.mean_ret h
      simp only [Prod.mk.injEq] at this
      obtain ⟨rfl, rfl⟩ := this
      exact .refl ha _
    | cons v vs =>
      simp only [convL] at h
      split at h
      · rename_i cs
        obtain ⟨p, h1, h2⟩ := Tr.mean_bind h
        obtain ⟨q, h3, h4⟩ := Tr.mean_bind h2
        have := Tr.mean_ret h4
        simp only [Prod.mk.injEq] at this
        obtain ⟨rfl, rfl⟩ := this
        refine (ih _ _ _ _ h3 ha).cons fun hb => ?_
        have hc := ihi _ _ _ _ h1 hb
        refine ⟨hc.agr, hc.hw, ⟨⟨rfl, ?_, fun j u u' e1 e2 => ?_⟩, VW.undef⟩, hc.box⟩
        · simp only [dA, AV.cells, List.length_map]; exact hc.vals.length
        · simp only [dA, AV.cells, List.getElem?_map] at e1 e2
          obtain ⟨a, b1, rfl⟩ := Option.map_eq_some_iff.1 e1
          obtain ⟨a', b2, rfl⟩ := Option.map_eq_some_iff.1 e2
          exact (hc.vals.get j a a' b1 b2).c
      · obtain ⟨q, h3, h4⟩ := Tr.mean_bind h
        have := Tr.mean_ret h4
        simp only [Prod.mk.injEq] at this
        obtain ⟨rfl, rfl⟩ := this
        exact (ih _ _ _ _ h3 ha).same _

end
section
variable {ℓ ℓ' : Lens} {A B C H H' K : SHeap} {v v' : SV}
theorem HW.box {H K : Heap} (hw : HW H K) {g : Nm} {sz : Nat} {x y : AV} (h1 : get H g = some ⟨sz, [x], 0, true⟩) (h2 : get K g = some ⟨sz, [x], 0, true⟩) (hc : CW H K x y) (h0 : 0 < sz) :
    HW H (set K g (some ⟨sz, [y], 0, true⟩)) := by
  intro Y w ρ hr
  obtain ⟨hk, hst⟩ := hw Y w ρ hr
  rcases hr.blk g _ h1 with ⟨_, a2, _⟩ | ⟨b, hρ, ⟨a0, cs, T, hcs, he⟩ | ⟨a2, _⟩⟩
  · cases a2
  · have hw1 := hk.write (w1 := w) (k1 := ⟨sz, [y], 0, true⟩) h2 hρ a0 rfl rfl rfl rfl (fun _ _ => rfl) hcs hcs rfl (fun _ _ => rfl) rfl (Nat.le_refl _) ⟨he.1, fun i z hz => by
      cases i with
      | succ i => simp at hz
      | zero =>
        simp at hz
        subst hz
        obtain ⟨b1, b2⟩ := he.2 0 x rfl
        refine ⟨by rw [← hc.len]; exact b1, fun j u hu => ?_⟩
        have hj : j < x.cells.length := by rw [hc.len]; exact (List.getElem?_eq_some_iff.1 hu).1
        obtain ⟨b3, b4⟩ := b2 j _ (List.getElem?_eq_getElem hj)
        exact ⟨b3, hc.cell j _ u (List.getElem?_eq_getElem hj) hu Y w ρ _ hr b4⟩⟩
    exact ⟨hw1.1, hst.trans hw1.2⟩
  · simp only at a2; omega

theorem convB_spec : ∀ (bk : Bks) (j : Nat) (H H' : SHeap), (convB bk j H).mean = some H' → Agr ℓ H' → Agr ℓ H ∧ HW (dH ℓ H) (dH ℓ H') := by
  intro bk
  induction bk with
  | nil => intro j H H' h ha; have := Tr.mean_ret h; subst this; exact ⟨ha, HW.refl _⟩
  | box sz s r ih =>
    intro j H H' h ha
    simp only [convB] at h
    split at h
    · rename_i sz' v hg
      split at h
      case isFalse => exact (Tr.mean_fail h).elim
      rename_i hsz0
      obtain ⟨⟨l, K⟩, h1, h2⟩ := Tr.mean_bind h
      simp only at h2
      split at h2
      · rename_i v'
        obtain ⟨a1, a2⟩ := ih _ _ _ h2 ha
        -- the box is there still
        have hkeep : ∀ ha' : Agr ℓ K, getS K (j, 0) = some (.box sz' v) := fun ha' => (convL_spec (ℓ := ℓ) s [v] H _ K h1 ha').box _ _ _ hg
        have hagr : Agr ℓ K := by
          cases hk : getS K (j, 0) with
          | none =>
            intro g b hb
            refine a1 g b ?_
            rw [getS_setS, if_neg (fun hh => by rw [hk] at hh; simp at hh)]
            exact hb
          | some b0 =>
            -- whatever it is, its length is that of a box
            have hb0 := (convL_spec (ℓ := lenS K) s [v] H _ K h1 (lenS_agr K)).box _ _ _ hg
            exact Agr.setS (b := .box sz' v') hb0 rfl a1
        have hc := convL_spec (ℓ := ℓ) s [v] H _ K h1 hagr
        have hv : CV ℓ H K v v' := by
          have := hc.vals
          cases this with
          | cons h _ => exact h
        refine ⟨hc.agr, (HW.box hc.hw (g := (j, 0)) (sz := sz') ?_ ?_ hv.a hsz0).trans ?_⟩
        · rw [get_dH, hg]; rfl
        · rw [get_dH, hc.box _ _ _ hg]; rfl
        · rw [dH_setS] at a2; exact a2
      · exact (Tr.mean_fail h2).elim
    · exact (Tr.mean_fail h).elim
  | arr t z r ih =>
    intro j H H' h ha
    simp only [convB] at h
    obtain ⟨a1, a2⟩ := ih _ _ _ h ha
    cases z with
    | false => exact ⟨a1, a2⟩
    | true =>
      simp only at a1 a2
      split at a1
      · rename_i t' l z hg
        have hs : ∀ g ∈ [((j, 0) : Nm)], IsArr H g := fun g hg' => by simp at hg'; subst hg'; exact ⟨_, _, _, hg⟩
        rw [hg] at a2
        exact ⟨a1.stopS, (HW.stopS hs).trans a2⟩
      · rename_i hn
        split at a2
        · rename_i t' l z hg; exact absurd hg (hn _ _ _)
        · exact ⟨a1, a2⟩
  | mp st t r ih =>
    intro j H H' h ha
    exact ih _ _ _ h ha
  | dead n r ih =>
    intro j H H' h ha
    exact ih _ _ _ h ha

/-! ### Compaction -/

theorem mapM_get {α β : Type} {f : α → Option β} {l : List α} {l' : List β} (h : l.mapM f = some l') {i : Nat} {a : α} (ha : l[i]? = some a) : ∃ b, l'[i]? = some b ∧ f a = some b := (mapM_some _ _ _ h).2 i a ha

set_option maxHeartbeats 4000000 in
theorem tidyS_spec {m : Nat} {s s' : SSt} (h : tidyS m s = some s') (ha : Agr ℓ s.hp) (ha' : Agr ℓ' s'.hp) : Abs.tidy m (dS ℓ s) = dS ℓ' s' := by
  unfold tidyS at h
  simp only at h
  split at h
  · rename_i hp hm
    simp only [Option.some.injEq] at h
    subst h
    have hroots : ((dS ℓ s).fr.flatMap fun p => refsV p.2) = s.fr.flatMap fun p => refsVS p.2 := by
      simp only [dS, dF, List.flatMap_map, refsV_d]
    have hR : reached (dS ℓ s).hp m ((dS ℓ s).fr.flatMap fun p => refsV p.2) = reachedS s.hp m (s.fr.flatMap fun p => refsVS p.2) := by
      rw [hroots]; exact reached_d ℓ s.hp m _
    unfold Abs.tidy
    simp only
    rw [hR]
    generalize reachedS s.hp m (s.fr.flatMap fun p => refsVS p.2) = R at hm ⊢
    have hgoes : Goes (renTo m R) ℓ ℓ' := by
      intro g g' hg
      have key : ∀ i, (firstNames m ++ R)[i]? = some g → g' = (i, 0) → ℓ' g' = ℓ g := by
        intro i hi e
        obtain ⟨b, h1, h2⟩ := mapM_get hm hi
        obtain ⟨b0, h3, rfl⟩ := Option.map_eq_some_iff.1 h2
        subst e
        rw [ha' (i, 0) (renBS (renTo m R) b0) (by simp [getS, h1]), ha g b0 h3, renBS_len]
      unfold renTo at hg
      split at hg
      · rename_i hlt
        split at hg
        · rename_i h0
          cases hg
          refine key g.1 ?_ (by rw [← h0])
          rw [List.getElem?_append_left (by simpa [firstNames] using hlt)]
          simp [firstNames, hlt, ← h0]
        · cases hg
      · cases hi : idxOf g R 0 with
        | none => simp [hi] at hg
        | some i =>
          simp [hi] at hg
          obtain ⟨_, hR⟩ := idxOf_spec g R 0 i hi
          refine key (m + i) ?_ hg.symm
          rw [List.getElem?_append_right (by simp [firstNames])]
          simpa [firstNames] using hR
    simp only [dS, dF, List.map_map]
    congr 1
    · refine List.map_congr_left fun p _ => ?_
      simp only [Function.comp, renV_d hgoes]
    · unfold packH
      simp only [dH]
      apply List.ext_getElem?
      intro i
      simp only [List.getElem?_map]
      cases hi : (firstNames m ++ R)[i]? with
      | none =>
        have : hp[i]? = none := by
          rw [List.getElem?_eq_none_iff, (mapM_some _ _ _ hm).1]
          exact List.getElem?_eq_none_iff.1 hi
        rw [this]; rfl
      | some g =>
        obtain ⟨b, h1, h2⟩ := mapM_get hm hi
        obtain ⟨b0, h3, rfl⟩ := Option.map_eq_some_iff.1 h2
        rw [h1]
        simp only [Option.map_some, List.map_cons, List.map_nil]
        rw [show get (List.map (fun l => List.map (dB ℓ) l) s.hp) g = _ from get_dH ℓ s.hp g, h3, Option.bind_some, renB_d hgoes]
  · cases h

/-! ### Out of the shape -/

theorem castL_spec {t t' : Ty} {l : List t.den} {l' : List t'.den} (h : castL l = some l') (tight : Bool) : rowAV t l tight = rowAV t' l' tight := by
  unfold castL at h
  split at h
  · rename_i e; subst e; cases h; rfl
  · split at h
    · cases h; rfl
    · cases h

theorem paC_spec : ∀ (t : Ty) (cs : List SV) (x : t.den) (r : List SV), paC t cs = some (x, r) → ∃ pre, cs = pre ++ r ∧ F2 (fun c c' => CV ℓ H H c c') pre (unC t x) := by
  intro t
  induction t with
  | int k =>
    intro cs x r h
    cases cs with
    | nil => cases h
    | cons c cs =>
      cases c <;> first | (cases h; done) | skip
      simp only [paC] at h
      split at h
      · rename_i e; subst e; cases h; exact ⟨[_], rfl, .cons (CV.refl (HW.refl _) _) .nil⟩
      · cases h
  | bool =>
    intro cs x r h
    cases cs with
    | nil => cases h
    | cons c cs =>
      cases c <;> first | (cases h; done) | skip
      cases h
      exact ⟨[_], rfl, .cons (CV.refl (HW.refl _) _) .nil⟩
  | str =>
    intro cs x r h
    cases cs with
    | nil => cases h
    | cons c cs =>
      cases c <;> first | (cases h; done) | skip
      cases h
      exact ⟨[_], rfl, .cons (CV.refl (HW.refl _) _) .nil⟩
  | row t ih =>
    intro cs x r h
    cases cs with
    | nil => cases h
    | cons c cs =>
      cases c <;> first | cases h | skip
      rename_i t' l tg
      simp only [paC] at h
      split at h
      · rename_i l' hl
        cases h
        refine ⟨[_], rfl, .cons ?_ .nil⟩
        have hv : VW (dH ℓ H) (dH ℓ H) (rowAV t' l tg) (rowAV t x false) := by
          rw [← castL_spec hl false]
          exact VW.row (HW.refl _)
        exact ⟨CW.of _ _ rfl rfl hv, hv⟩
      · cases h
  | unit => intro cs x r h; cases h; exact ⟨[], rfl, .nil⟩
  | cons a b iha ihb =>
    intro cs x r h
    simp only [paC] at h
    split at h
    · rename_i y r1 h1
      split at h
      · rename_i z r2 h2
        cases h
        obtain ⟨p1, rfl, f1⟩ := iha _ _ _ h1
        obtain ⟨p2, rfl, f2⟩ := ihb _ _ _ h2
        refine ⟨p1 ++ p2, by simp, ?_⟩
        simp only [unC]
        have app : ∀ {l m : List SV}, F2 (fun c c' => CV ℓ H H c c') l m → F2 (fun c c' => CV ℓ H H c c') (l ++ p2) (m ++ unC b z) := by
          intro l m f
          induction f with
          | nil => exact f2
          | cons h _ ih => exact .cons h ih
        exact app f1
      · cases h
    · cases h

theorem paT_spec {t : Ty} {v : SV} {x : t.den} (h : paT t v = some x) : CV ℓ H H v (unT t x) := by
  unfold paT at h
  split at h
  · rename_i hagg
    split at h
    · rename_i y hy
      cases h
      obtain ⟨pre, h1, h2⟩ := paC_spec (ℓ := ℓ) (H := H) t _ _ _ hy
      rw [List.append_nil] at h1
      subst h1
      have hu : (unT t x).cells = unC t x := cells_unT t x
      have ha : v.isAgg = (unT t x).isAgg := by rw [hagg, isAgg_unT]
      refine ⟨⟨by rw [isAgg_dA, isAgg_dA, ha], ?_, fun j u u' e1 e2 => ?_⟩, ?_⟩
      · rw [cells_dA, cells_dA, hu, List.length_map, List.length_map]; exact h2.length
      · rw [cells_dA] at e1 e2
        rw [List.getElem?_map] at e1 e2
        rw [hu] at e2
        obtain ⟨a, b1, rfl⟩ := Option.map_eq_some_iff.1 e1
        obtain ⟨a', b2, rfl⟩ := Option.map_eq_some_iff.1 e2
        exact (h2.get j a a' b1 b2).c
      · cases hv : v.isAgg with
        | true =>
          rw [hv] at ha
          have e : dC ℓ (unT t x) = .undef := by
            generalize unT t x = z at ha
            cases z <;> first | rfl | cases ha
          rw [e]; exact VW.undef
        | false =>
          rw [hv] at ha
          have e1 : v.cells = [v] := by cases v <;> first | rfl | cases hv
          have e2 : (unT t x).cells = [unT t x] := by
            generalize unT t x = z at ha
            cases z <;> first | rfl | cases ha
          rw [e1, ← hu, e2] at h2
          cases h2 with
          | cons h _ => exact h.c
    · cases h
  · cases h

theorem ptrsEq_spec : ∀ (caps : List (Nm × Nat × Nat × Nat)) (cs : List SV), ptrsEq caps cs = true → cs = caps.map fun c => .ptr c.1 c.2.1 c.2.2.1 c.2.2.2 := by
  intro caps
  induction caps with
  | nil => intro cs h; cases cs with
    | nil => rfl
    | cons _ _ => cases h
  | cons c r ih =>
    intro cs h
    cases cs with
    | nil => cases h
    | cons v vs =>
      simp only [ptrsEq, Bool.and_eq_true] at h
      obtain ⟨h1, h2⟩ := h
      rw [ih vs h2]
      cases v <;> first | (cases h1; done) | skip
      simp only [ptrEq, decide_eq_true_eq] at h1
      subst h1
      rfl

theorem fits_spec {x : Stt} {v : SV} (h : x.fits v = true) : CV ℓ H H v x.un := by
  have eq : v = x.un → CV ℓ H H v x.un := fun e => by rw [← e]; exact CV.refl (HW.refl _) v
  cases x with
  | undef => exact CV.undef (HW.refl _) (by simpa [Stt.fits] using h)
  | nil =>
    cases v <;> first | (cases h; done) | skip
    rename_i t l tg
    cases l <;> first | (cases h; done) | skip
    cases tg <;> first | (cases h; done) | skip
    have : dC ℓ (.row t [] true) = dC ℓ (.row .unit [] true) := rfl
    refine ⟨CW.of _ _ rfl rfl ?_, ?_⟩
    · exact VW.refl _ _
    · exact VW.refl _ _
  | nilp => cases v <;> first | (cases h; done) | exact eq rfl
  | nilf => cases v <;> first | (cases h; done) | exact eq rfl
  | own t g =>
    cases v <;> first | (cases h; done) | skip
    simp only [Stt.fits, decide_eq_true_eq] at h
    obtain ⟨rfl, rfl⟩ := h
    exact eq rfl
  | ptr g sz i off =>
    cases v <;> first | (cases h; done) | skip
    simp only [Stt.fits, decide_eq_true_eq] at h
    obtain ⟨rfl, rfl, rfl, rfl⟩ := h
    exact eq rfl
  | clo f caps =>
    cases v <;> first | (cases h; done) | skip
    simp only [Stt.fits, Bool.and_eq_true, decide_eq_true_eq] at h
    obtain ⟨rfl, h2⟩ := h
    exact eq (by rw [ptrsEq_spec _ _ h2]; rfl)
  | fm l =>
    cases v <;> first | (cases h; done) | skip
    simp only [Stt.fits, decide_eq_true_eq] at h
    subst h
    exact eq rfl
  | fp g =>
    cases v <;> first | (cases h; done) | skip
    simp only [Stt.fits, decide_eq_true_eq] at h
    subst h
    exact eq rfl

theorem pa_spec : ∀ (s : Sh) (vs : List SV) (x : s.den), s.pa vs = some x → F2 (CV ℓ H H) vs (s.un x) := by
  intro s
  induction s with
  | nil => intro vs x h; cases vs with
    | nil => exact .nil
    | cons _ _ => cases h
  | st y r ih =>
    intro vs x h
    cases vs with
    | nil => cases h
    | cons v vs =>
      replace h : (if y.fits v = true then r.pa vs else none) = (some x : Option r.den) := h
      split at h
      · rename_i hf; exact .cons (fits_spec hf) (ih _ _ h)
      · cases h
  | dat t r ih =>
    intro vs x h
    cases vs with
    | nil => cases h
    | cons v vs =>
      simp only [Sh.pa] at h
      split at h
      · rename_i a b h1 h2; cases h; exact .cons (paT_spec h1) (ih _ _ h2)
      · cases h
  | part t g r ih =>
    intro vs x h
    cases vs with
    | nil => cases h
    | cons v vs =>
      simp only [Sh.pa] at h
      split at h
      · rename_i t' g' off len b h2
        split at h
        · rename_i e; obtain ⟨rfl, rfl⟩ := e; cases h; exact .cons (CV.refl (HW.refl _) _) (ih _ _ h2)
        · cases h
      · cases h
  | eptr g sz off r ih =>
    intro vs x h
    cases vs with
    | nil => cases h
    | cons v vs =>
      simp only [Sh.pa] at h
      split at h
      · rename_i g' sz' i off' b h2
        split at h
        · rename_i e; obtain ⟨rfl, rfl, rfl⟩ := e; cases h; exact .cons (CV.refl (HW.refl _) _) (ih _ _ h2)
        · cases h
      · cases h
  | agg i r ihi ih =>
    intro vs x h
    cases vs with
    | nil => cases h
    | cons v vs =>
      simp only [Sh.pa] at h
      split at h
      · rename_i cs b h2
        split at h
        · rename_i a h1
          cases h
          have f := ihi _ _ h1
          refine .cons ⟨⟨rfl, ?_, fun j u u' e1 e2 => ?_⟩, VW.undef⟩ (ih _ _ h2)
          · simp only [dA, AV.cells, List.length_map]; exact f.length
          · simp only [dA, AV.cells, List.getElem?_map] at e1 e2
            obtain ⟨p, b1, rfl⟩ := Option.map_eq_some_iff.1 e1
            obtain ⟨q, b2, rfl⟩ := Option.map_eq_some_iff.1 e2
            exact (f.get j p q b1 b2).c
        · cases h
      · cases h

end
section
variable {ℓ : Lens} {H H0 : SHeap}
/-- Two blocks of which the second says less. -/
def RB (ℓ : Lens) (H : SHeap) (b b' : SB) : Prop := b = b' ∨ ∃ sz v v', b = .box sz v ∧ b' = .box sz v' ∧ CV ℓ H H v v' ∧ 0 < sz
def RG (ℓ : Lens) (H : SHeap) (l l' : List SB) : Prop := ∃ b b', l = [b] ∧ l' = [b'] ∧ RB ℓ H b b'

theorem RB.len {b b' : SB} (h : RB ℓ H b b') : b.len = b'.len := by
  rcases h with rfl | ⟨sz, v, v', rfl, rfl, _⟩ <;> rfl

theorem F2.getR {α β : Type} {R : α → β → Prop} {l : List α} {m : List β} (k : F2 R l m) {i : Nat} {b : β} (h : m[i]? = some b) : ∃ a, l[i]? = some a ∧ R a b := by
  have hi : i < l.length := by rw [k.length]; exact (List.getElem?_eq_some_iff.1 h).1
  exact ⟨l[i], List.getElem?_eq_getElem hi, k.get i _ _ (List.getElem?_eq_getElem hi) h⟩
theorem F2.getL {α β : Type} {R : α → β → Prop} {l : List α} {m : List β} (k : F2 R l m) {i : Nat} {a : α} (h : l[i]? = some a) : ∃ b, m[i]? = some b ∧ R a b := by
  have hi : i < m.length := by rw [← k.length]; exact (List.getElem?_eq_some_iff.1 h).1
  exact ⟨m[i], List.getElem?_eq_getElem hi, k.get i _ _ h (List.getElem?_eq_getElem hi)⟩

theorem groups_agr {H' : SHeap} (h : F2 (RG ℓ H0) H H') (ha : Agr ℓ H') : Agr ℓ H := by
  intro g b hg
  simp only [getS] at hg
  cases hl : H[g.1]? with
  | none => simp [hl] at hg
  | some l =>
    rw [hl] at hg
    obtain ⟨l', h1, b1, b2, rfl, rfl, h2⟩ := h.getL hl
    cases hc : g.2 with
    | succ c => rw [hc] at hg; simp at hg
    | zero =>
      rw [hc] at hg
      simp at hg
      subst hg
      rw [ha g b2 (by simp [getS, h1, hc]), h2.len]

theorem groups_hw {H' : SHeap} (h : F2 (RG ℓ H) H H') : HW (dH ℓ H) (dH ℓ H') := by
  refine HW.pw (fun g k' hg => ?_) (fun i => ?_)
  · rw [get_dH] at hg
    obtain ⟨b', h1, h2⟩ := Option.bind_eq_some_iff.1 hg
    simp only [getS] at h1
    cases hl : H'[g.1]? with
    | none => simp [hl] at h1
    | some l' =>
      rw [hl] at h1
      obtain ⟨l, h3, b1, b2, rfl, rfl, h4⟩ := h.getR hl
      cases hc : g.2 with
      | succ c => rw [hc] at h1; simp at h1
      | zero =>
        rw [hc] at h1
        simp at h1
        subst h1
        have hb : getS H g = some b1 := by simp [getS, h3, hc]
        rcases h4 with rfl | ⟨sz, v, v', rfl, rfl, hv, h0⟩
        · exact ⟨k', by rw [get_dH, hb]; exact h2, rfl, rfl, Nat.le_refl _, .inl rfl⟩
        · simp only [dB, Option.some.injEq] at h2
          subst h2
          refine ⟨⟨sz, [dA ℓ v], 0, true⟩, by rw [get_dH, hb]; rfl, rfl, rfl, Nat.le_refl _, .inr ⟨rfl, h0, rfl, fun i x y h5 h6 => ?_⟩⟩
          cases i with
          | succ i => simp at h5
          | zero => simp at h5 h6; subst h5; subst h6; exact hv.a
  · simp only [dH, List.getD_eq_getElem?_getD, List.getElem?_map]
    cases hl : H[i]? with
    | none =>
      have : H'[i]? = none := by rw [List.getElem?_eq_none_iff, ← h.length]; exact List.getElem?_eq_none_iff.1 hl
      rw [this]
    | some l =>
      obtain ⟨l', h1, b1, b2, rfl, rfl, _⟩ := h.getL hl
      rw [h1]; rfl

theorem bks_spec : ∀ (bk : Bks) (H : SHeap) (x : bk.den), bk.pa H = some x → F2 (RG ℓ H0) H (bk.un x) := by
  intro bk
  induction bk with
  | nil => intro H x h; cases H with
    | nil => exact .nil
    | cons _ _ => cases h
  | box sz s r ih =>
    intro H x h
    cases H with
    | nil => cases h
    | cons g H' =>
    cases g with
    | nil => cases h
    | cons b bs =>
    cases bs with
    | cons _ _ => cases b <;> cases h
    | nil =>
    cases b <;> first | (cases h; done) | skip
    rename_i sz' v
    replace h : (if sz = sz' ∧ 0 < sz then (match s.pa [v], r.pa H' with
      | some a, some b => some (a, b)
      | _, _ => none) else none) = (some x : Option (s.den × r.den)) := h
    split at h
    · rename_i e
      obtain ⟨e, h0⟩ := e
      subst e
      split at h
      · rename_i a b h1 h2
        cases h
        have f := pa_spec (ℓ := ℓ) (H := H0) s _ _ h1
        refine .cons ⟨_, _, rfl, rfl, .inr ⟨sz, v, _, rfl, rfl, ?_, h0⟩⟩ (ih _ _ h2)
        simp only
        generalize s.un a = us at f
        cases f with
        | cons h t => exact h
      · cases h
    · cases h
  | arr t z r ih =>
    intro H x h
    cases H with
    | nil => cases h
    | cons g H' =>
    cases g with
    | nil => cases h
    | cons b bs =>
    cases bs with
    | cons _ _ => cases b <;> cases h
    | nil =>
    cases b <;> first | (cases h; done) | skip
    rename_i t' l f
    replace h : (if e : t' = t then (if fzIs z f = true then (match r.pa H' with
      | some b => some (e ▸ l, b)
      | none => none) else none) else none) = (some x : Option (List t.den × r.den)) := h
    split at h
    · rename_i e
      subst e
      split at h
      · rename_i hz
        split at h
        · rename_i b h2
          cases h
          refine .cons ⟨_, _, rfl, rfl, .inl ?_⟩ (ih _ _ h2)
          congr 1
          cases z <;> cases f <;> first | rfl | cases hz
        · cases h
      · cases h
    · cases h
  | mp st t r ih =>
    intro H x h
    cases H with
    | nil => cases h
    | cons g H' =>
    cases g with
    | nil => cases h
    | cons b bs =>
    cases bs with
    | cons _ _ => cases b <;> cases h
    | nil =>
    cases b <;> first | (cases h; done) | skip
    rename_i st' t' l
    replace h : (if e : st' = st ∧ t' = t then (match r.pa H' with
      | some b => some (castM e.1 e.2 l, b)
      | none => none) else none) = (some x : Option (List (KeyT st × t.den) × r.den)) := h
    split at h
    · rename_i e
      obtain ⟨e1, e2⟩ := e
      subst e1
      subst e2
      split at h
      · rename_i b h2
        cases h
        exact .cons ⟨_, _, rfl, rfl, .inl rfl⟩ (ih _ _ h2)
      · cases h
    · cases h
  | dead n r ih =>
    intro H x h
    cases H with
    | nil => cases h
    | cons g H' =>
    cases g with
    | nil => cases h
    | cons b bs =>
    cases bs with
    | cons _ _ => cases b <;> cases h
    | nil =>
    cases b <;> first | (cases h; done) | skip
    rename_i n'
    replace h : (if n = n' then r.pa H' else none) = (some x : Option r.den) := h
    split at h
    · rename_i e
      subst e
      exact .cons ⟨_, _, rfl, rfl, .inl rfl⟩ (ih _ _ h)
    · cases h

/-! ### Frames -/

theorem dV_untup (v : SV) : dV ℓ (untup v) = dA ℓ v := by cases v <;> rfl
theorem VW.untup {A B : SHeap} (hw : HW (dH ℓ A) (dH ℓ B)) (v : SV) : VW (dH ℓ A) (dH ℓ B) (dV ℓ v) (dA ℓ v) := by
  cases v with
  | tup vs => exact VW.undef
  | _ => exact hw.vw _

theorem look_zip : ∀ (slots : List Nat) (ws : List SV) (t : Nat), lookS (zipFr slots ws) t = .undef ∨ ∃ (i : Nat) (w : SV), slots[i]? = some t ∧ ws[i]? = some w ∧ lookS (zipFr slots ws) t = w := by
  intro slots
  induction slots with
  | nil => intro ws t; exact .inl rfl
  | cons s r ih =>
    intro ws t
    cases ws with
    | nil => exact .inl rfl
    | cons w ws =>
      simp only [zipFr, lookS]
      by_cases e : s = t
      · subst e
        rw [if_pos rfl]
        exact .inr ⟨0, w, rfl, rfl, rfl⟩
      · rw [if_neg e]
        rcases ih ws t with h | ⟨i, w', h1, h2, h3⟩
        · exact .inl h
        · exact .inr ⟨i + 1, w', by simpa using h1, by simpa using h2, h3⟩

theorem dV_un (s : Sh) : ∀ (x : s.den), ∀ w ∈ s.un x, dV ℓ w = dA ℓ w := by
  induction s with
  | nil => intro x w h; cases h
  | st y r ih =>
    intro x w h
    rcases List.mem_cons.1 h with rfl | h
    · cases y <;> rfl
    · exact ih _ _ h
  | dat t r ih =>
    intro x w h
    rcases List.mem_cons.1 h with rfl | h
    · cases t <;> rfl
    · exact ih _ _ h
  | part t g r ih =>
    intro x w h
    rcases List.mem_cons.1 h with rfl | h
    · rfl
    · exact ih _ _ h
  | eptr g sz off r ih =>
    intro x w h
    rcases List.mem_cons.1 h with rfl | h
    · rfl
    · exact ih _ _ h
  | agg i r ihi ih =>
    intro x w h
    rcases List.mem_cons.1 h with rfl | h
    · rfl
    · exact ih _ _ h

/-- A state brought into a shape. -/
theorem fit_spec {nt m : Nat} {σ : Sg} {s : SSt} {v : σ.den} (h : (fit m σ s).mean = some v) {ℓ2 : Lens} (ha : Agr ℓ2 (σ.un v).hp) : ∃ ℓ, Agr ℓ s.hp ∧ Weak nt m (dS ℓ s) (dS ℓ2 (σ.un v)) := by
  unfold fit at h
  obtain ⟨⟨vs', K⟩, h1, h⟩ := Tr.mean_bind h
  obtain ⟨s1, h2, h⟩ := Tr.mean_bind h
  obtain ⟨H2, h3, h⟩ := Tr.mean_bind h
  obtain ⟨s1b, h4, h⟩ := Tr.mean_bind h
  obtain ⟨H3, h3b, h⟩ := Tr.mean_bind h
  obtain ⟨s2, h4b, h⟩ := Tr.mean_bind h
  have h2 := Tr.mean_of h2
  have h4 := Tr.mean_of h4
  have h4b := Tr.mean_of h4b
  split at h
  · rename_i a b h5 h6
    have := Tr.mean_ret h
    subst this
    have hb := bks_spec (ℓ := ℓ2) (H0 := s2.hp) _ _ _ h6
    have ha2 : Agr ℓ2 s2.hp := groups_agr hb ha
    have e4b := tidyS_spec h4b (lenS_agr H3) ha2
    obtain ⟨a1b, hw3b⟩ := convB_spec (ℓ := lenS H3) _ _ _ _ h3b (lenS_agr H3)
    have e4 := tidyS_spec h4 (lenS_agr H2) a1b
    obtain ⟨a1, hw3⟩ := convB_spec (ℓ := lenS H2) _ _ _ _ h3 (lenS_agr H2)
    have e2 := tidyS_spec h2 (lenS_agr K) a1
    have hc := convL_spec (ℓ := lenS K) _ _ _ _ _ h1 (lenS_agr K)
    refine ⟨lenS K, hc.agr, ?_⟩
    -- the frame is narrowed, its values are converted
    have w1 : Weak nt m (dS (lenS K) s) (dS (lenS K) { fr := zipFr σ.slots (vs'.map untup), hp := K }) := by
      refine Weak.of hc.hw (fun t => ?_)
      simp only [dS, look_dF]
      rcases look_zip σ.slots (vs'.map untup) t with e | ⟨i, w, i1, i2, i3⟩
      · rw [e]; exact VW.undef
      · rw [i3]
        rw [List.getElem?_map] at i2
        obtain ⟨w0, i4, rfl⟩ := Option.map_eq_some_iff.1 i2
        rw [dV_untup]
        have i5 : (σ.slots.map fun t => untup (lookS s.fr t))[i]? = some (untup (lookS s.fr t)) := by rw [List.getElem?_map, i1]; rfl
        have hv := (hc.vals.get i _ _ i5 i4).a.vw
        refine VW.trans (B := dH (lenS K) s.hp) (HW.refl _) (VW.untup (HW.refl _) (lookS s.fr t)) ?_
        have : dA (lenS K) (untup (lookS s.fr t)) = dA (lenS K) (lookS s.fr t) := by cases lookS s.fr t <;> rfl
        rw [← this]
        exact hv
    have w2 : Weak nt m (dS (lenS K) { fr := zipFr σ.slots (vs'.map untup), hp := K }) (dS (lenS H2) s1) := by
      rw [← e2]; exact Weak.tidy _
    have w3 : Weak nt m (dS (lenS H2) s1) (dS (lenS H2) { fr := s1.fr, hp := H2 }) := Weak.of hw3 fun t => hw3.vw _
    have w4a : Weak nt m (dS (lenS H2) { fr := s1.fr, hp := H2 }) (dS (lenS H3) s1b) := by
      rw [← e4]; exact Weak.tidy _
    have w4b : Weak nt m (dS (lenS H3) s1b) (dS (lenS H3) { fr := s1b.fr, hp := H3 }) := Weak.of hw3b fun t => hw3b.vw _
    have w4 : Weak nt m (dS (lenS H3) { fr := s1b.fr, hp := H3 }) (dS ℓ2 s2) := by
      rw [← e4b]; exact Weak.tidy _
    have w5 : Weak nt m (dS ℓ2 s2) (dS ℓ2 (σ.un (a, b))) := by
      have hwb := groups_hw (bks_spec (ℓ := ℓ2) (H0 := s2.hp) _ _ _ h6)
      refine Weak.of hwb (fun t => ?_)
      simp only [dS, look_dF, Sg.un]
      rcases look_zip σ.slots (σ.sh.un a) t with e | ⟨i, w, i1, i2, i3⟩
      · rw [e]; exact VW.undef
      · rw [i3]
        have i5 : (σ.slots.map (lookS s2.fr))[i]? = some (lookS s2.fr t) := by rw [List.getElem?_map, i1]; rfl
        have hv := (pa_spec (ℓ := ℓ2) (H := s2.hp) _ _ _ h5).get i _ _ i5 i2
        rw [dV_un _ _ w (List.mem_of_getElem? i2)]
        exact VW.trans (HW.refl _) (VW.untup (HW.refl _) _) (hv.a.vw.trans (HW.refl _) (hwb.vw _))
    exact (((((w1.trans w2).trans w3).trans w4a).trans w4b).trans w4).trans w5
  · exact (Tr.mean_fail h).elim

end
/-! ### Operands -/

def svC1 : Value → SV
  | .bool b => .bool b
  | .int k n => .int k n
  | .string s => .str s
  | .pointer none => .nilp
  | .nilFunc => .nilf
  | .slice none 0 0 => .row .unit [] true
  | _ => .undef
def svC : Value → SV
  | .agg cs => if (cs.toList.map svC1).all okSC then .agg (cs.toList.map svC1) else .undef
  | v => svC1 v

def evS (fr : SFr) : Operand → SV
  | .tmp t => lookS fr t
  | .const v => svC v
  | .global _ => .undef
  | .func f => .clo f []

structure SRes where
  val : SV
  rd : List Nm := []
  wr : List (Nm × SB) := []
  new : List SB := []

def val1 (v : SV) : SRes := { val := v }

/-! ### Types -/

def tyOf (P : Program) : Nat → TypeId → Option Ty
  | 0, _ => none
  | d + 1, t =>
    match P.underlying t with
    | some (.int k) => some (.int k)
    | some .bool => some .bool
    | some .string => some .str
    | some (.slice e) => (tyOf P d e).map .row
    | some (.struct fs) => fs.toList.foldr (fun f r => match tyOf P d f.type, r with
      | some a, some b => some (.cons a b)
      | _, _ => none) (some .unit)
    | some (.array n e) => match tyOf P d e with
      | some a => some ((List.replicate n a).foldr .cons .unit)
      | none => none
    | _ => none

/-! ### Operations -/

def isOne : SV → Bool
  | .agg _ | .tup _ => false
  | _ => true
def isCap : SV → Bool
  | .agg _ | .tup _ | .clo .. => false
  | _ => true
def notTup : SV → Bool
  | .tup _ => false
  | _ => true

def ofCellsS (agg : Bool) (cs : List SV) : Option SV :=
  match agg with
  | true => some (.agg cs)
  | false => match cs with
    | [c] => if isOne c = true then some c else none
    | _ => none

def loadAtS (size : Nat) (agg : Bool) (x : SV) (off : Nat) : Option SV :=
  if off + size ≤ x.cells.length then
    (if off = 0 ∧ size = x.cells.length ∧ x.isAgg = agg then (if notTup x = true then some x else none) else ofCellsS agg ((x.cells.drop off).take size))
  else none

def opLoadS (P : Program) (t : TypeId) (p : SV) (H : SHeap) : Tr SRes :=
  match tsize P t, tagg P t with
  | some size, some agg =>
    match p with
    | .ptr g sz i off =>
      match getS H g with
      | some (.box sz' v) => .when (decide (sz' = sz ∧ i = 0 ∧ 0 < sz)) ((Tr.of (loadAtS size agg v off)).map fun u => { val := u, rd := [g] })
      | some (.arr t' l _) => .when (decide (t'.size = sz ∧ 0 < sz)) (.ask l[i]? fun x => (Tr.of (loadAtS size agg (unT t' x) off)).map fun u => { val := u, rd := [g] })
      | _ => .fail
    | .lp t' _ _ x _ off => (Tr.of (loadAtS size agg (unT t' x) off)).map val1
    | .fp g => .when (decide (size = 1 ∧ agg = false)) (.ret (val1 (.clo g [])))
    | _ => .fail
  | _, _ => .fail

def spliceS (cs : List SV) (off : Nat) (new : List SV) : List SV := cs.take off ++ new ++ cs.drop (off + new.length)

/-- All rows may not be appended to. -/
def slack1 : SV → Bool
  | .row _ _ tight => !tight
  | .agg _ => false
  | _ => true
def slack : SV → Bool
  | .agg cs => cs.all slack1
  | v => slack1 v

def fzNeed (z : Fz) (len i : Nat) (t : Tr SRes) : Tr SRes :=
  match z with
  | .zero => t
  | z => .need (decide (z.n len ≤ i)) t

def opStoreS (P : Program) (t : TypeId) (p v : SV) (H : SHeap) : Tr SRes :=
  match tsize P t with
  | some size =>
    match p with
    | .ptr g sz i off =>
      match getS H g with
      | some (.box sz' x) =>
        .when (decide (sz' = sz ∧ i = 0 ∧ v.cells.length = size ∧ off + size ≤ sz ∧ okSV v = true ∧ 0 < sz)) (
          if off = 0 ∧ size = sz then .ret { val := .tup [], rd := [g], wr := [(g, .box sz' v)] }
          else if x.isAgg = true then .ret { val := .tup [], rd := [g], wr := [(g, .box sz' (.agg (spliceS x.cells off v.cells)))] }
          else .fail)
      | some (.arr t' l z) =>
        (pureVS H v).bind fun ul =>
          .when (decide (t'.size = sz ∧ ul.1.cells.length = size ∧ off + size ≤ sz ∧ ¬ g ∈ ul.2 ∧ okSV ul.1 = true ∧ slack ul.1 = true ∧ 0 < sz)) (
            fzNeed z l.length i (
              if off = 0 ∧ size = sz then
                .need (decide (i < l.length)) ((Tr.of (paT t' ul.1)).bind fun y =>
                  .ret { val := .tup [], rd := g :: ul.2, wr := stopsS H ul.2 ++ [(g, .arr t' (l.set i y) z)] })
              else
                .ask l[i]? fun x => .when t'.agg ((Tr.of (paT t' (.agg (spliceS (unC t' x) off ul.1.cells)))).bind fun y =>
                  .ret { val := .tup [], rd := g :: ul.2, wr := stopsS H ul.2 ++ [(g, .arr t' (l.set i y) z)] })))
      | _ => .fail
    | _ => .fail
  | none => .fail

def opFieldAddrS (P : Program) (t : TypeId) (p : SV) (f : Nat) : Option SV :=
  match fieldOf P t f with
  | some (o, ft) =>
    if tsize P ft = none ∨ tsize P ft = some 0 then none else
    match p with
    | .ptr g sz i off => if 0 < sz then some (.ptr g sz i (off + o)) else none
    | .lp t l i x h off => some (.lp t l i x h (off + o))
    | _ => none
  | none => none

def partOfS (P : Program) (t : TypeId) (cs : List SV) (off : Nat) : Option SV :=
  match tsize P t, tagg P t with
  | some size, some agg => if off + size ≤ cs.length then ofCellsS agg ((cs.drop off).take size) else none
  | _, _ => none

def opFieldS (P : Program) (t : TypeId) (x : SV) (f : Nat) : Option SV :=
  match fieldOf P t f, x with
  | some (o, ft), .agg cs => partOfS P ft cs o
  | _, _ => none

def opIndexAddrS (P : Program) (t : TypeId) (x i : SV) (H : SHeap) : Tr SV :=
  match P.underlying t, i with
  | some (.slice e), .int _ n =>
    match x with
    | .own t' g => match getS H g with
      | some b => .when (decide (tsize P e = some t'.size ∧ 0 < t'.size)) (.need (decide (0 ≤ n ∧ n < b.len)) (.ret (.ptr g t'.size n.toNat 0)))
      | none => .fail
    | .part t' g off len => .when (decide (tsize P e = some t'.size ∧ 0 < t'.size)) (.need (decide (0 ≤ n ∧ n < len)) (.ret (.ptr g t'.size (off + n.toNat) 0)))
    | .row t' l _ => .when (decide (tsize P e = some t'.size)) (.look l n fun x h => .ret (.lp t' l n.toNat x h 0))
    | _ => .fail
  | some (.array len e), .int _ n =>
    match x with
    | .ptr g sz j off => match tsize P e with
      | some es => .when (decide (0 < sz)) (.need (decide (0 ≤ n ∧ n < len)) (.ret (.ptr g sz j (off + n.toNat * es))))
      | none => .fail
    | _ => .fail
  | _, _ => .fail

def opIndexS (P : Program) (t : TypeId) (x i : SV) : Tr SV :=
  match P.underlying t, x, i with
  | some (.array len e), .agg cs, .int _ n =>
    match tsize P e with
    | some es => .need (decide (0 ≤ n ∧ n < len)) (Tr.of (partOfS P e cs (n.toNat * es)))
    | none => .fail
  | some .string, .str s, .int _ n => .need (decide (0 ≤ n ∧ n < s.size)) (.ret (.int .u8 ((s[n.toNat]?.getD 0).toNat : Nat)))
  | _, _, _ => .fail

/-- The elements of an array. -/
def arrL (P : Program) (e : TypeId) (ty : Ty) (cs : List SV) (es : Nat) : Nat → Nat → Option (List ty.den)
  | 0, _ => some []
  | n + 1, i => match partOfS P e cs (i * es), arrL P e ty cs es n (i + 1) with
    | some v, some r => if slack v = true then (paT ty v).map fun x => x :: r else none
    | _, _ => none

/-- An element of an array, whose place is not known. -/
def opIndexVS (P : Program) (t : TypeId) (x i : SV) : Tr SV :=
  match P.underlying t, x, i with
  | some (.array len e), .agg cs, .int _ n =>
    match tsize P e, tyOf P 12 e with
    | some es, some ty => (Tr.of (arrL P e ty cs es len 0)).bind fun l => .look l n fun x _ => .ret (unT ty x)
    | _, _ => .fail
  | _, _, _ => opIndexS P t x i

def opIndex3S (P : Program) (t : TypeId) (x i : SV) : Operand → Tr SV
  | .const _ => opIndexS P t x i
  | _ => opIndexVS P t x i

/-- A function out of a map of functions. -/
def fmAtS (l : List (Int × FuncId × List FuncId)) (n : Int) (k : SV → Bool → Tr SV) : Tr SV :=
  match l with
  | [] => k .nilf false
  | (m, f, gs) :: r => .br (n == m) (k (.clo f (gs.map .fp)) true) (fmAtS r n k)

def opLookupS (P : Program) (t : TypeId) (m k : SV) (ok : Bool) : Tr SV :=
  match P.underlying t, m, k with
  | some (.map kt et), .fm l, .int .i64 n =>
    match P.underlying kt, tzero P et with
    | some (.int .i64), some .nilf => fmAtS l n fun v b => .ret (if ok then .tup [v, .bool b] else v)
    | _, _ => .fail
  | _, _, _ => .fail

/-- A type of the values of a map. -/
def okTy : Ty → Bool
  | .int _ | .bool | .str | .row _ => true
  | _ => false

def mpGet {κ α : Type} [DecidableEq κ] (n : κ) : List (κ × α) → Option α
  | [] => none
  | p :: r => if n = p.1 then some p.2 else mpGet n r

def mpSet {κ α : Type} [DecidableEq κ] (n : κ) (x : α) : List (κ × α) → List (κ × α)
  | [] => [(n, x)]
  | p :: r => if n = p.1 then (p.1, x) :: r else p :: mpSet n x r

def binI (op : BinOp) (k : IntKind) (a b : Int) : Tr SV :=
  match op with
  | .add => .ret (.int k (k.wrap (a + b)))
  | .sub => .ret (.int k (k.wrap (a - b)))
  | .mul => .ret (.int k (k.wrap (a * b)))
  | .quo => .need (decide (b ≠ 0)) (.ret (.int k (k.wrap (a.tdiv b))))
  | .rem => .need (decide (b ≠ 0)) (.ret (.int k (a.tmod b)))
  | .eql => .ret (.bool (a == b))
  | .neq => .ret (.bool (a != b))
  | .lss => .ret (.bool (decide (a < b)))
  | .leq => .ret (.bool (decide (a ≤ b)))
  | .gtr => .ret (.bool (decide (a > b)))
  | .geq => .ret (.bool (decide (a ≥ b)))
  | .and => .ret (.int k (bitI .and k a b))
  | .or => .ret (.int k (bitI .or k a b))
  | .xor => .ret (.int k (bitI .xor k a b))
  | _ => .fail

/-- Shifts: the count may be of another kind. -/
def shiftI (op : BinOp) (k : IntKind) (a b : Int) : Tr SV :=
  match op with
  | .shl => .need (decide (0 ≤ b)) (.ret (.int k (shlI k a b)))
  | .shr => .need (decide (0 ≤ b)) (.ret (.int k (shrI k a b)))
  | _ => .fail
def isShift : BinOp → Bool
  | .shl | .shr => true
  | _ => false

def binS (op : BinOp) (a b : ByteArray) : Tr SV :=
  match op with
  | .add => .need (decide (a.size + b.size ≤ 4294967296)) (.ret (.str (a ++ b)))
  | .eql => .ret (.bool (a.toList == b.toList))
  | .neq => .ret (.bool (!(a.toList == b.toList)))
  | .lss => .ret (.bool (Op.bytesLess a.toList b.toList))
  | .leq => .ret (.bool (Op.bytesLess a.toList b.toList || a.toList == b.toList))
  | .gtr => .ret (.bool (!(Op.bytesLess a.toList b.toList || a.toList == b.toList)))
  | .geq => .ret (.bool (!(Op.bytesLess a.toList b.toList)))
  | _ => .fail

def eqFieldsS (P : Program) (eq : TypeId → SV → SV → Option Bool) (xs ys : List SV) : List Field → Option Bool
  | [] => some true
  | f :: r =>
    if f.name = "_" then none else
    match partOfS P f.type xs f.offset, partOfS P f.type ys f.offset with
    | some a, some b => match eq f.type a b, eqFieldsS P eq xs ys r with
      | some c, some d => some (c && d)
      | _, _ => none
    | _, _ => none

def eqElemsS (P : Program) (eq : TypeId → SV → SV → Option Bool) (e : TypeId) (size : Nat) (xs ys : List SV) : Nat → Nat → Option Bool
  | 0, _ => some true
  | n + 1, i =>
    match partOfS P e xs (i * size), partOfS P e ys (i * size) with
    | some a, some b => match eq e a b, eqElemsS P eq e size xs ys n (i + 1) with
      | some c, some d => some (c && d)
      | _, _ => none
    | _, _ => none

def eqAS (P : Program) : Nat → TypeId → SV → SV → Option Bool
  | 0, _, _, _ => none
  | d + 1, t, x, y =>
    match P.underlying t, x, y with
    | some .bool, .bool a, .bool b => some (a == b)
    | some (.int _), .int k a, .int k' b => if k = k' then some (a == b) else none
    | some .string, .str a, .str b => some (a == b)
    | some (.struct fs), .agg xs, .agg ys => if P.stoodInHeld t then none else eqFieldsS P (eqAS P d) xs ys fs.toList
    | some (.array n e), .agg xs, .agg ys =>
      match tsize P e with
      | some size => eqElemsS P (eqAS P d) e size xs ys n 0
      | none => none
    | _, _, _ => none

def opEqlS (P : Program) (t : TypeId) (x y : SV) : Option Bool :=
  match x, y with
  | .bool a, .bool b => eqAS P 8 t (.bool a) (.bool b)
  | .agg xs, .agg ys => if P.eqGuardType P.depth t then none else eqAS P 8 t (.agg xs) (.agg ys)
  | _, _ => none

def opBinS (P : Program) (op : BinOp) (t : TypeId) (x y : SV) : Tr SV :=
  match x, y with
  | .int k a, .int k' b => match isShift op with
    | true => shiftI op k a b
    | false => .when (decide (k = k')) (binI op k a b)
  | .str a, .str b => binS op a b
  | x, y => match op with
    | .eql => (Tr.of (opEqlS P t x y)).map .bool
    | .neq => (Tr.of (opEqlS P t x y)).map fun b => .bool (!b)
    | _ => .fail

/-- A row that is not empty against nil. -/
def nilCmpS (P : Program) (op : BinOp) (t : TypeId) (l : Nat) (oy : Operand) : Tr SV :=
  match op, P.underlying t, oy with
  | .eql, some (.slice _), .const (.slice none 0 0) => .need (decide (0 < l)) (.ret (.bool false))
  | _, _, _ => .fail
def opBin3S (P : Program) (op : BinOp) (t : TypeId) (x y : SV) (oy : Operand) : Tr SV :=
  match x with
  | .row _ l _ => nilCmpS P op t l.length oy
  | x => opBinS P op t x y

def opUnS (op : UnOp) (x : SV) : Option SV :=
  match op, x with
  | .neg, .int k n => some (.int k (k.wrap (0 - n)))
  | .not, .bool b => some (.bool !b)
  | _, _ => none

def opConvertS (P : Program) (src dst : TypeId) (x : SV) : Option SV :=
  match P.underlying src, P.underlying dst, x with
  | some (.int _), some (.int k), .int _ n => some (.int k (k.wrap n))
  | some .string, some .string, .str s => some (.str s)
  | _, _, _ => none

def boundS (o : Option SV) (dflt : Nat) : Tr Nat :=
  match o with
  | none => .ret dflt
  | some (.int _ n) => .need (decide (0 ≤ n)) (.ret n.toNat)
  | some _ => .fail

def opSliceS (P : Program) (t : TypeId) (x : SV) (lo hi mx : Option SV) (H : SHeap) : Tr SRes :=
  match P.underlying t, x with
  | some .string, .str s =>
    match mx with
    | none => (boundS lo 0).bind fun l => (boundS hi s.size).bind fun h => .need (decide (l ≤ h ∧ h ≤ s.size)) (.ret { val := .str (s.extract l h) })
    | some _ => .fail
  | some (.slice e), .row t' xs tight =>
    .when (decide (tsize P e = some t'.size)) (
      match mx with
      | none => (boundS lo 0).bind fun l => (boundS hi xs.length).bind fun h => .need (decide (l ≤ h ∧ h ≤ xs.length)) (.ret { val := .row t' ((xs.drop l).take (h - l)) (tight && hi.isNone) })
      | some m => (boundS lo 0).bind fun l => (boundS hi xs.length).bind fun h => (boundS (some m) 0).bind fun m =>
        .when hi.isSome (.need (decide (l ≤ h ∧ h = m ∧ m ≤ xs.length)) (.ret { val := .row t' ((xs.drop l).take (h - l)) true })))
  | some (.slice e), .own t' g =>
    match getS H g with
    | some (.arr t2 l2 _) =>
      if h2 : t2 = t' then
      .when (decide (tsize P e = some t'.size)) (
        match mx with
        | none => match lo, hi with
          | none, none => .ret { val := .own t' g }
          | lo, hi => (boundS lo 0).bind fun l => (boundS hi l2.length).bind fun h => .need (decide (l ≤ h ∧ h ≤ l2.length)) (.ret { val := .part t' g l (h - l) })
        | some m => (boundS lo 0).bind fun l => (boundS hi l2.length).bind fun h => (boundS (some m) 0).bind fun m =>
          .when (hi.isSome && decide (0 < t'.size)) (.need (decide (l ≤ h ∧ h = m ∧ m ≤ l2.length))
            (.ret { val := .row t' (((h2 ▸ l2 : List t'.den).drop l).take (h - l)) true, rd := [g], wr := stopsS H [g] })))
      else .fail
    | _ => .fail
  | some (.slice e), .part t' g off len =>
    .when (decide (tsize P e = some t'.size)) (
      match mx with
      | none => (boundS lo 0).bind fun l => (boundS hi len).bind fun h => .need (decide (l ≤ h ∧ h ≤ len)) (.ret { val := .part t' g (off + l) (h - l) })
      | some _ => .fail)
  | _, _ => .fail

def fillAS (place : Nat → Option (Nat × Nat)) (cells : List SV) : List (Nat × SV) → Option (List SV)
  | [] => some cells
  | (i, v) :: rest =>
    match place i with
    | none => none
    | some (off, size) => if v.cells.length = size ∧ off + size ≤ cells.length ∧ okSV v = true then fillAS place (spliceS cells off v.cells) rest else none

def szero (P : Program) (t : TypeId) : Option SV :=
  match P.info? t with
  | some i => match i.zero with
    | some z => some (svC z)
    | none => none
  | none => none

def opBuildS (P : Program) (t : TypeId) (parts : List (Nat × SV)) : Option SV :=
  match szero P t, P.underlying t with
  | some (.agg z), some (.struct fs) =>
    if !(fs.toList.all fun f => (tsize P f.type).isSome) then none else
    (fillAS (fun i => match fs[i]? with
      | some f => (tsize P f.type).map fun s => (f.offset, s)
      | none => none) z parts).map .agg
  | some (.agg z), some (.array _ e) =>
    match tsize P e with
    | some s => (fillAS (fun i => some (i * s, s)) z parts).map .agg
    | none => none
  | _, _ => none

/-- The zero of the elements of a slice. -/
def dzero (P : Program) (e : TypeId) (t : Ty) : Option t.den := (szero P e).bind (paT t)

def fillSS (H : SHeap) (size : Nat) (t : Ty) (es : List t.den) (l : List Nm) : List (Nat × SV) → Tr (List t.den × List Nm)
  | [] => .ret (es, l)
  | (i, v) :: rest => (pureVS H v).bind fun p => .when (decide (p.1.cells.length = size ∧ p.1.isAgg = t.agg ∧ okSV p.1 = true ∧ slack p.1 = true)) (
      (Tr.of (paT t p.1)).bind fun y => .need (decide (i < es.length)) (fillSS H size t (es.set i y) (l ++ p.2) rest))

def opBuildSliceS (P : Program) (t : TypeId) (len : Nat) (parts : List (Nat × SV)) (H : SHeap) (slot : Nat) : Tr SRes :=
  match telem P t with
  | some e =>
    match tsize P e, tagg P e, tyOf P 12 e with
    | some size, some agg, some ty =>
      .when (decide (len * size ≤ 65536 ∧ 0 < size ∧ ty.size = size ∧ ty.agg = agg)) (
        (Tr.of (dzero P e ty)).bind fun z =>
        (fillSS H size ty (List.replicate len z) [] parts).bind fun p => .ret { val := .own ty (slot, 0), rd := p.2, wr := stopsS H p.2, new := [.arr ty p.1 .zero] })
    | _, _, _ => .fail
  | none => .fail

def opMakeSliceS (P : Program) (t : TypeId) (l c : SV) (slot : Nat) : Tr SRes :=
  match telem P t, l, c with
  | some e, .int _ n, .int _ m =>
    match tsize P e, tbytes P e, tyOf P 12 e with
    | some size, some bytes, some ty =>
      .when (decide (bytes ≤ 32768 ∧ 0 < size ∧ ty.size = size)) ((Tr.of (dzero P e ty)).bind fun z => .need (decide (0 ≤ n ∧ n ≤ m ∧ m ≤ 4294967296))
        (.ret { val := .own ty (slot, 0), new := [.arr ty (List.replicate n.toNat z) .zero] }))
    | _, _, _ => .fail
  | _, _, _ => .fail

/-- The elements that are appended. -/
def srcOfS (H : SHeap) (ty : Ty) : SV → Tr (List ty.den × List Nm)
  | .row t l _ => (Tr.of (castL (t := t) (t' := ty) l)).map fun l => (l, [])
  | .own t g => match getS H g with
    | some (.arr t' l _) => .when (decide (t' = t ∧ 0 < t'.size)) ((Tr.of (castL (t := t') (t' := ty) l)).map fun l => (l, [g]))
    | _ => .fail
  | .part t g off len => match getS H g with
    | some (.arr t' l _) => .when (decide (t' = t ∧ 0 < t'.size)) (.need (decide (off + len ≤ l.length)) ((Tr.of (castL (t := t') (t' := ty) l)).map fun l => ((l.drop off).take len, [g])))
    | _ => .fail
  | _ => .fail

def Fz.grow (z : Fz) (n : Nat) : Fz :=
  match z with
  | .zero => .zero
  | .all => .low n
  | .low k => .low (k + n)

def opAppendS (P : Program) (t : TypeId) (s x : SV) (H : SHeap) (slot : Nat) : Tr SRes :=
  match telem P t with
  | some e =>
    match tsize P e, tbytes P e, tzero P e, tyOf P 12 e with
    | some size, some bytes, some z, some ty =>
      .when (decide (0 < size ∧ bytes ≤ 32768 ∧ z.cells.length = size ∧ okV z = true ∧ ty.size = size)) (
        (srcOfS H ty x).bind fun q =>
        match s with
        | .row t' l true => (Tr.of (castL (t := t') (t' := ty) l)).bind fun l => .br l.isEmpty
            (.need (decide (l.length + q.1.length ≤ 4294967296)) (.ret { val := .own ty (slot, 0), rd := q.2, new := [.arr ty (l ++ q.1) .zero] }))
            (.br q.1.isEmpty (.ret { val := .row ty l true, rd := q.2 })
              (.need (decide (l.length + q.1.length ≤ 4294967296)) (.ret { val := .own ty (slot, 0), rd := q.2, new := [.arr ty (l ++ q.1) .zero] })))
        | .own t' g => match getS H g with
          | some (.arr t2 l z) => if h : t2 = ty then .when (decide (t' = ty)) (.need (decide (l.length + q.1.length ≤ 4294967296))
              (.ret { val := .own ty (slot, 0), rd := g :: q.2, wr := [(g, .dead l.length)], new := [.arr ty ((h ▸ l : List ty.den) ++ q.1) (z.grow q.1.length)] })) else .fail
          | _ => .fail
        | .part t' g off len => match getS H g with
          | some (.arr t2 l z) => if h : t2 = ty then .when (decide (t' = ty)) (match z with
            | .zero => .need (decide (off = 0 ∧ len ≤ l.length ∧ len + q.1.length ≤ 4294967296))
              (.ret { val := .own ty (slot, 0), rd := g :: q.2, wr := [(g, .dead l.length)], new := [.arr ty ((h ▸ l : List ty.den).take len ++ q.1) .zero] })
            | z => .need (decide (off = 0 ∧ len = l.length ∧ l.length + q.1.length ≤ 4294967296))
              (.ret { val := .own ty (slot, 0), rd := g :: q.2, wr := [(g, .dead l.length)], new := [.arr ty ((h ▸ l : List ty.den) ++ q.1) (z.grow q.1.length)] })) else .fail
          | _ => .fail
        | _ => .fail)
    | _, _, _, _ => .fail
  | none => .fail

/-- Elements laid over those of a list. -/
def spliceL {α : Type} (l : List α) (off : Nat) (new : List α) : List α := l.take off ++ new ++ l.drop (off + new.length)

def opCopyS (P : Program) (t : TypeId) (d x : SV) (H : SHeap) : Tr SRes :=
  match telem P t with
  | some e =>
    match tsize P e, tyOf P 12 e with
    | some size, some ty => .when (decide (0 < size ∧ ty.size = size)) ((srcOfS H ty x).bind fun q =>
        match d with
        | .own t' g => match getS H g with
          | some (.arr t2 l .zero) => if h : t2 = ty then .when (decide (t' = ty)) (.ret { val := .int .i64 (min q.1.length l.length : Nat), rd := g :: q.2, wr := [(g, .arr ty (spliceL (h ▸ l : List ty.den) 0 (q.1.take l.length)) .zero)] }) else .fail
          | _ => .fail
        | .part t' g off len => match getS H g with
          | some (.arr t2 l .zero) => if h : t2 = ty then .when (decide (t' = ty)) (.need (decide (off + len ≤ l.length)) (.ret { val := .int .i64 (min q.1.length len : Nat), rd := g :: q.2, wr := [(g, .arr ty (spliceL (h ▸ l : List ty.den) off (q.1.take len)) .zero)] })) else .fail
          | _ => .fail
        | _ => .fail)
    | _, _ => .fail
  | none => .fail

def opClearS (P : Program) (t : TypeId) (d : SV) (H : SHeap) : Tr SRes :=
  match telem P t with
  | some e =>
    match tsize P e, tyOf P 12 e with
    | some size, some ty => .when (decide (0 < size ∧ ty.size = size)) ((Tr.of (dzero P e ty)).bind fun z =>
        match d with
        | .own t' g => match getS H g with
          | some (.arr t2 l .zero) => if h : t2 = ty then .when (decide (t' = ty)) (.ret { val := .tup [], rd := [g], wr := [(g, .arr ty (spliceL (h ▸ l : List ty.den) 0 (List.replicate l.length z)) .zero)] }) else .fail
          | _ => .fail
        | .part t' g off len => match getS H g with
          | some (.arr t2 l .zero) => if h : t2 = ty then .when (decide (t' = ty)) (.need (decide (off + len ≤ l.length)) (.ret { val := .tup [], rd := [g], wr := [(g, .arr ty (spliceL (h ▸ l : List ty.den) off (List.replicate len z)) .zero)] })) else .fail
          | _ => .fail
        | _ => .fail)
    | _, _ => .fail
  | none => .fail

def opLenS (P : Program) (t : TypeId) (x : SV) (H : SHeap) : Option SV :=
  match P.underlying t with
  | some (.array n _) => some (.int .i64 n)
  | some (.slice _) => match x with
    | .row _ xs _ => some (.int .i64 xs.length)
    | .own _ g => match getS H g with
      | some b => some (.int .i64 b.len)
      | none => none
    | .part _ _ _ len => some (.int .i64 len)
    | _ => none
  | some .string => match x with
    | .str s => some (.int .i64 s.size)
    | _ => none
  | _ => none

def minS : SV → List SV → Option SV
  | x, [] => if isOne x = true then some x else none
  | .int k a, .int k' b :: r => if k = k' then minS (.int k (if b < a then b else a)) r else none
  | _, _ => none

def maxS : SV → List SV → Option SV
  | x, [] => if isOne x = true then some x else none
  | .int k a, .int k' b :: r => if k = k' then maxS (.int k (if b > a then b else a)) r else none
  | _, _ => none

/-! ### Calls -/

abbrev SOut := SV × List SB × List SB
abbrev SCall := List SV → List SB → Tr SOut

def lend1S (H : SHeap) (share : Bool) (f : Ren) (x : SV) : Tr SV :=
  match x with
  | .own t g => if share then (match f g with
      | some g' => .ret (.own t g')
      | none => .fail)
    else (pure1S H (.own t g)).map (·.1)
  | .part t g off len => if share then (match f g with
      | some g' => .ret (.part t g' off len)
      | none => .fail)
    else (pure1S H (.part t g off len)).map (·.1)
  | .row t l _ => .ret (.row t l false)
  | .agg _ => .fail
  | .tup _ => .fail
  | x => .ret (renCS f x)
def lendVS (H : SHeap) (share : Bool) (f : Ren) : SV → Tr SV
  | .agg cs => (Tr.mapM (lend1S H share f) cs).map .agg
  | v => lend1S H share f v

def lentNamesS : SV → List Nm
  | .agg cs => cs.flatMap fun c => match c with
    | .own _ g => [g]
    | .part _ g _ _ => [g]
    | _ => []
  | .own _ g => [g]
  | .part _ g _ _ => [g]
  | _ => []

/-- No part of the value leads to memory. -/
def scalS (v : SV) : Bool := scal (dV (fun _ => 0) v)

def SB.alive : SB → Bool
  | .dead _ => false
  | _ => true

def lensEq : List SB → List SB → Bool
  | .box .. :: r, .box .. :: r' => lensEq r r'
  | b :: r, b' :: r' => decide (b'.len = b.len) && lensEq r r'
  | [], [] => true
  | _, _ => false

def opCallS (share : Bool) (call : SCall) (args : List SV) (H : SHeap) (slot : Nat) : Tr SRes :=
  let lent := if share then [] else args.flatMap lentNamesS
  let R := reachS H (args.flatMap (if share then fun v => seedsVS v ++ lentNamesS v else seedsVS))
  let f : Ren := fun g => (idxOf g R 0).map fun i => (i, 0)
  if lent.any (fun g => R.contains g) || !args.all notTup then .fail else
  (Tr.mapM (lendVS H share f) args).bind fun args' =>
  match R.mapM (fun g => (getS H g).bind fun b => if b.alive = true then some (renBS f b) else none) with
  | some sub =>
    (call args' sub).bind fun out =>
      .need (lensEq sub out.2.1) (.when (out.2.2.all SB.alive) (
        let b := renBack R slot
        .ret { val := renVS b out.1, rd := R ++ lent,
               wr := (R.zip out.2.1).map (fun p => (p.1, renBS b p.2)) ++ (if scalS out.1 && out.2.2.isEmpty && R.isEmpty then [] else stopsS H lent),
               new := out.2.2.map (renBS b) }))
  | none => .fail

/-! ### An operation -/

def partsOfS (fr : SFr) (ps : Array (Nat × Operand)) : List (Nat × SV) := ps.toList.map fun p => (p.1, evS fr p.2)

def pickS (c : Bool) (a b : SV) : Tr SV :=
  match a, b with
  | .bool p, .bool q => .ret (.bool (cond c p q))
  | a, b => .br c (.ret a) (.ret b)

def opBoxS (P : Program) (t : TypeId) (v : SV) (slot : Nat) : Tr SRes :=
  match tsize P t with
  | some size => .when (decide (v.cells.length = size ∧ okSV v = true ∧ 0 < size)) (.ret { val := .ptr (slot, 0) size 0 0, new := [.box size v] })
  | none => .fail

def opAssignS (P : Program) (fr : SFr) (t : TypeId) (x : Operand) (slot : Nat) : Tr SRes :=
  match x with
  | .const (.slice none 0 0) =>
    match telem P t with
    | some e => match tsize P e, tyOf P 12 e with
      | some size, some ty => .when (decide (ty.size = size)) (.ret { val := .own ty (slot, 0), new := [.arr ty [] .zero] })
      | _, _ => .fail
    | none => .fail
  | x => .ret { val := evS fr x }

def opLookupMS (P : Program) (t : TypeId) (m k : SV) (ok : Bool) (H : SHeap) : Tr SRes :=
  match mpTy P t, m, k with
  | some (false, et), .ptr g 0 0 0, .int .i64 n => match getS H g, szero P et with
    | some (.mp false ty l), some z => .when (okTy ty) ((Tr.of (paT ty z)).bind fun z =>
        .ret { val := if ok then .tup [unT ty ((mpGet (κ := KeyT false) n l).getD z), .bool (mpGet (κ := KeyT false) n l).isSome] else unT ty ((mpGet (κ := KeyT false) n l).getD z), rd := [g] })
    | _, _ => .fail
  | some (true, et), .ptr g 0 0 0, .str n => match getS H g, szero P et with
    | some (.mp true ty l), some z => .when (okTy ty) ((Tr.of (paT ty z)).bind fun z =>
        .ret { val := if ok then .tup [unT ty ((mpGet (κ := KeyT true) n l).getD z), .bool (mpGet (κ := KeyT true) n l).isSome] else unT ty ((mpGet (κ := KeyT true) n l).getD z), rd := [g] })
    | _, _ => .fail
  | _, _, _ => .fail

def opMapUpdateS (P : Program) (t : TypeId) (m k v : SV) (H : SHeap) : Tr SRes :=
  match mpTy P t, m, k with
  | some (false, _), .ptr g 0 0 0, .int .i64 n => match getS H g with
    | some (.mp false ty l) => .when (okTy ty) ((pureVS H v).bind fun ul => .when (decide (¬ g ∈ ul.2 ∧ slack ul.1 = true)) ((Tr.of (paT ty ul.1)).bind fun x => .ret { val := .tup [], rd := g :: ul.2, wr := stopsS H ul.2 ++ [(g, .mp false ty (mpSet (κ := KeyT false) n x l))] }))
    | _ => .fail
  | some (true, _), .ptr g 0 0 0, .str n => match getS H g with
    | some (.mp true ty l) => .when (okTy ty) ((pureVS H v).bind fun ul => .when (decide (¬ g ∈ ul.2 ∧ slack ul.1 = true)) ((Tr.of (paT ty ul.1)).bind fun x => .ret { val := .tup [], rd := g :: ul.2, wr := stopsS H ul.2 ++ [(g, .mp true ty (mpSet (κ := KeyT true) n x l))] }))
    | _ => .fail
  | _, _, _ => .fail

def opMakeMapS (P : Program) (t : TypeId) (slot : Nat) : Tr SRes :=
  match mpTy P t with
  | some (st, et) => match tyOf P 12 et with
    | some ty => .ret { val := .ptr (slot, 0) 0 0 0, new := [.mp st ty []] }
    | none => .fail
  | none => .fail

def stepOpS (P : Program) (N : FuncId → Note) (call : FuncId → SCall) (o : Oper) (fr : SFr) (H : SHeap) (slot : Nat) : Tr SRes :=
  let ev := evS fr
  match o.op with
  | .move x => .ret { val := ev x }
  | .assign x => opAssignS P fr o.type x slot
  | .pick c a b => match ev c with
    | .bool p => (pickS p (ev a) (ev b)).map val1
    | _ => .fail
  | .alloc t => match szero P t with
    | some z => opBoxS P t z slot
    | none => .fail
  | .box t x => opBoxS P t (ev x) slot
  | .build t ps => (Tr.of (opBuildS P t (partsOfS fr ps))).map val1
  | .buildSlice t n ps => opBuildSliceS P t n (partsOfS fr ps) H slot
  | .load t a => opLoadS P t (ev a) H
  | .store t a x => opStoreS P t (ev a) (ev x) H
  | .nilCheck x => match ev x with
    | .ptr g sz i off => .when (decide (0 < sz)) (.ret { val := .ptr g sz i off })
    | .lp t l i x h off => .ret { val := .lp t l i x h off }
    | _ => .fail
  | .binOp op t x y _ => (opBin3S P op t (ev x) (ev y) y).map val1
  | .unOp op _ x => (Tr.of (opUnS op (ev x))).map val1
  | .convert a b x => (Tr.of (opConvertS P a b (ev x))).map val1
  | .makeFunc (.func f) first caps => if first.isEmpty then .when (caps.toList.all fun c => isCap (ev c)) (.ret { val := .clo f (caps.toList.map ev) }) else .fail
  | .makeSlice t l c => opMakeSliceS P t (ev l) (ev c) slot
  | .slice t x lo hi mx => opSliceS P t (ev x) (lo.map ev) (hi.map ev) (mx.map ev) H
  | .fieldAddr t x f => (Tr.of (opFieldAddrS P t (ev x) f)).map val1
  | .field t x f => (Tr.of (opFieldS P t (ev x) f)).map val1
  | .indexAddr t x i => (opIndexAddrS P t (ev x) (ev i) H).map val1
  | .index t x i => (opIndex3S P t (ev x) (ev i) i).map val1
  | .lookup t m k ok => match ev m with
    | .ptr g sz i off => opLookupMS P t (.ptr g sz i off) (ev k) ok H
    | m => (opLookupS P t m (ev k) ok).map val1
  | .mapUpdate t m k v => opMapUpdateS P t (ev m) (ev k) (ev v) H
  | .makeMap t none => opMakeMapS P t slot
  | .extract x i => match ev x with
    | .tup vs => match vs[i]? with
      | some v => .when (notTup v) (.ret { val := v })
      | none => .fail
    | _ => .fail
  | .call c => match c.callee with
    | .value f => match ev f with
      | .clo fn caps => .when (caps.all isCap) (opCallS (N fn).share (call fn) (c.args.toList.map ev ++ caps) H slot)
      | _ => .fail
    | .builtin .len => match c.args.toList, c.argTypes.toList with
      | [x], [t] => (Tr.of (opLenS P t (ev x) H)).map val1
      | _, _ => .fail
    | .builtin .append => match c.args.toList, c.argTypes.toList with
      | [s, x], [t, t'] => .when (decide (t = t')) (opAppendS P t (ev s) (ev x) H slot)
      | _, _ => .fail
    | .builtin .copy => match c.args.toList, c.argTypes.toList with
      | [d, x], [t, _] => opCopyS P t (ev d) (ev x) H
      | _, _ => .fail
    | .builtin .clear => match c.args.toList, c.argTypes.toList with
      | [d], [t] => opClearS P t (ev d) H
      | _, _ => .fail
    | .builtin .min => match c.args.toList.map ev with
      | x :: r => (Tr.of (minS x r)).map val1
      | [] => .fail
    | .builtin .max => match c.args.toList.map ev with
      | x :: r => (Tr.of (maxS x r)).map val1
      | [] => .fail
    | _ => .fail
  | _ => .fail

/-! ### A region -/

def newGroupS (H : SHeap) (slot : Nat) (mk : Bool) (new : List SB) : Option SHeap :=
  match mk with
  | true => match H[slot]? with
    | some [] => if new.all SB.alive = true then some (H.set slot new) else none
    | _ => none
  | false => match new with
    | [] => some H
    | _ => none

def putDstS (fr : SFr) : Option Nat → SV → SFr
  | some d, v => insS d v fr
  | none, _ => fr

/-- The names of a result. -/
def resN (r : SRes) : Res := { val := .undef, rd := r.rd, wr := r.wr.map fun p => (p.1, none) }

structure SEnv where
  P : Program
  N : FuncId → Note
  nt : Nat
  locs : List Nat
  pairs : Nat → List (Nat × Nat)
  keep : Nat

/-- A slot whose value has been asked for. -/
def setLit (x : SV) (d : Nat) : SFr → SFr
  | [] => []
  | (s, y) :: r => if s = d then (s, x) :: r else (s, y) :: setLit x d r

def stepIS (E : SEnv) (call : Nat → FuncId → SCall) (ops : Array Oper) (base i : Nat) (s : SSt) : Tr (SSt × Option SRes) :=
  match ops[i]? with
  | none => .ret (s, none)
  | some o =>
    .when (dstOk E.nt o.dst) (
      let skip (fr : SFr) : Tr (SSt × Option SRes) := .ret ({ s with fr := putDstS fr o.dst (.tup []) }, none)
      let doit (fr : SFr) : Tr (SSt × Option SRes) := (stepOpS E.P E.N (call i) o fr s.hp (slotOf ops base i)).bind fun r =>
        match newGroupS (putAllS s.hp r.wr) (slotOf ops base i) (makes o.op) r.new with
        | some H => .ret ({ fr := putDstS fr o.dst r.val, hp := H }, some r)
        | none => .fail
      match o.guard with
      | none => doit s.fr
      | some (j, want) =>
        match (ops[j]?).bind (·.dst) with
        | some d => match lookS s.fr d with
          | .bool b => match want with
            | true => .br b (doit (setLit (.bool true) d s.fr)) (skip (setLit (.bool false) d s.fr))
            | false => .br b (skip (setLit (.bool true) d s.fr)) (doit (setLit (.bool false) d s.fr))
          | .tup [] => skip s.fr
          | _ => .fail
        | none => .fail)

def runLS (E : SEnv) (call : Nat → FuncId → SCall) (ops : Array Oper) (base : Nat) : List Nat → SSt → Tr (SSt × List (Option SRes))
  | [], s => .ret (s, [])
  | i :: r, s => (stepIS E call ops base i s).bind fun p => (runLS E call ops base r p.1).bind fun q => .ret (q.1, p.2 :: q.2)

def clearS (locs : List Nat) (fr : SFr) : SFr := fr.filter fun p => locs.contains p.1

def runRegionS (E : SEnv) (call : Nat → FuncId → SCall) (id : Nat) (ops : Array Oper) (draw : Bool) (s : SSt) : Tr SSt :=
  (runLS E call ops s.hp.length (List.range ops.size) { s with hp := s.hp ++ List.replicate (nMakes ops) [] }).bind fun p =>
    if draw && !((E.pairs id).all fun q => apart3 ops s.hp.length q.1 q.2 ((p.2.getD q.1 none).map resN) ((p.2.getD q.2 none).map resN)) then .fail
    else .ret { p.1 with fr := clearS E.locs p.1.fr }

/-! ### Code -/

/-- The number of the first region of a piece of code. -/
def firstId : Code → Nat
  | .region id _ _ => id
  | .seq a _ => firstId a
  | .cond _ a _ => firstId a
  | .block _ b => firstId b
  | .loop b => firstId b
  | .scope b => firstId b
  | _ => 0

def exEq : Ex → Ex → Bool
  | .normal, .normal => true
  | .exit a, .exit b => a == b
  | .ret, .ret => true
  | _, _ => false

/-- The ways in which a piece of code is left, with the shape of each. -/
inductive Outs where
  | one (e : Ex) (σ : Sg)
  | more (e : Ex) (σ : Sg) (r : Outs)

def Outs.den : Outs → Type
  | .one _ σ => σ.den
  | .more _ σ r => σ.den ⊕ r.den

def dN (ℓ : Lens) (b : SB) : Blk := match dB ℓ b with
  | some k => k
  | none => ⟨0, [], 0, false⟩

def dW (ℓ : Lens) (wr : List (Nm × SB)) : List (Nm × Option Blk) := wr.map fun p => (p.1, dB ℓ p.2)

def dR (ℓ : Lens) (r : SRes) : Res := { val := dV ℓ r.val, rd := r.rd, wr := dW ℓ r.wr, new := r.new.map (dN ℓ) }

/-- The lengths of the new blocks. -/
def NewOK (ℓ : Lens) (slot : Nat) (new : List SB) : Prop := ∀ (k : Nat) (b : SB), new[k]? = some b → ℓ (slot, k) = b.len

theorem svC1_d (ℓ : Lens) (v : Value) : d1 ℓ (svC1 v) = cv1 v ∧ dC ℓ (svC1 v) = cv1 v ∧ dA ℓ (svC1 v) = cv1 v ∧ dV ℓ (svC1 v) = cv1 v := by
  cases v with
  | pointer p => cases p <;> exact ⟨rfl, rfl, rfl, rfl⟩
  | slice a n c =>
    cases a with
    | some _ => exact ⟨rfl, rfl, rfl, rfl⟩
    | none =>
      cases n with
      | succ n => exact ⟨rfl, rfl, rfl, rfl⟩
      | zero => cases c <;> exact ⟨rfl, rfl, rfl, rfl⟩
  | _ => exact ⟨rfl, rfl, rfl, rfl⟩

theorem okSC_svC1 (v : Value) : okSC (svC1 v) = okC (cv1 v) := by
  cases v with
  | pointer p => cases p <;> rfl
  | slice a n c =>
    cases a with
    | some _ => rfl
    | none =>
      cases n with
      | succ n => rfl
      | zero => cases c <;> rfl
  | _ => rfl

theorem svC_d (ℓ : Lens) (v : Value) : dA ℓ (svC v) = cv v ∧ dV ℓ (svC v) = cv v := by
  cases v with
  | agg cs =>
    have e : (cs.toList.map svC1).all okSC = (cs.toList.map cv1).all okC := by
      simp only [List.all_map]
      congr 1
      funext v
      exact okSC_svC1 v
    simp only [svC, cv, e]
    split
    · have : List.map (dC ℓ) (cs.toList.map svC1) = cs.toList.map cv1 := by
        simp only [List.map_map]
        exact List.map_congr_left fun v _ => (svC1_d ℓ v).2.1
      exact ⟨by simp only [dA, this], by simp only [dV, dA, this]⟩
    · exact ⟨rfl, rfl⟩
  | _ => first | exact ⟨(svC1_d ℓ _).2.2.1, (svC1_d ℓ _).2.2.2⟩ | exact ⟨rfl, rfl⟩

theorem dV_int (ℓ : Lens) (k : IntKind) (n : Int) : dV ℓ (.int k n) = .int k n := rfl
theorem dV_bool (ℓ : Lens) (b : Bool) : dV ℓ (.bool b) = .bool b := rfl
theorem dV_str (ℓ : Lens) (s : ByteArray) : dV ℓ (.str s) = .str s := rfl
theorem dV_row (ℓ : Lens) (t : Ty) (l : List t.den) (b : Bool) : dV ℓ (.row t l b) = rowAV t l b := rfl
theorem dV_own (ℓ : Lens) (t : Ty) (g : Nm) : dV ℓ (.own t g) = .own g t.size 0 (ℓ g) := rfl
theorem dV_part (ℓ : Lens) (t : Ty) (g : Nm) (off len : Nat) : dV ℓ (.part t g off len) = .own g t.size off len := rfl
theorem dV_ptr (ℓ : Lens) (g : Nm) (sz i off : Nat) : dV ℓ (.ptr g sz i off) = .ptr g sz i off := rfl
theorem dV_lp (ℓ : Lens) (t : Ty) (l : List t.den) (i : Nat) (x : t.den) (h : l[i]? = some x) (off : Nat) : dV ℓ (.lp t l i x h off) = .lp t.size (l.map (enc t)) i off := rfl
theorem dV_clo (ℓ : Lens) (f : FuncId) (cs : List SV) : dV ℓ (.clo f cs) = .clo f (cs.map (d1 ℓ)) := rfl
theorem dV_agg (ℓ : Lens) (cs : List SV) : dV ℓ (.agg cs) = .agg (cs.map (dC ℓ)) := rfl
theorem dV_tup (ℓ : Lens) (vs : List SV) : dV ℓ (.tup vs) = .tup (vs.map (dA ℓ)) := rfl

theorem evS_d (ℓ : Lens) (fr : SFr) (x : Operand) : dV ℓ (evS fr x) = evO (dF ℓ fr) x := by
  cases x with
  | tmp t => exact (look_dF ℓ fr t).symm
  | const v => exact (svC_d ℓ v).2
  | global g => rfl
  | func f => rfl

theorem isOne_d {v : SV} (h : isOne v = true) (ℓ : Lens) : dV ℓ v = dC ℓ v ∧ dA ℓ v = dC ℓ v := by cases v <;> first | exact ⟨rfl, rfl⟩ | cases h
theorem notTup_d {v : SV} (h : notTup v = true) (ℓ : Lens) : dV ℓ v = dA ℓ v := by cases v <;> first | rfl | cases h

/-! ### Parts of values -/

theorem ofCellsS_spec {agg : Bool} {cs : List SV} {u : SV} (h : ofCellsS agg cs = some u) (ℓ : Lens) : ofCells agg (cs.map (dC ℓ)) = some (dV ℓ u) := by
  cases agg with
  | true => cases h; rfl
  | false =>
    cases cs with
    | nil => cases h
    | cons c r =>
      cases r with
      | cons _ _ => cases h
      | nil =>
        simp only [ofCellsS] at h
        split at h
        · rename_i h1; cases h; rw [(isOne_d h1 ℓ).1]; rfl
        · cases h

theorem loadAtS_spec {size off : Nat} {agg : Bool} {x u : SV} (h : loadAtS size agg x off = some u) (ℓ : Lens) : loadAt size agg (dA ℓ x) off = some (dV ℓ u) := by
  unfold loadAtS at h
  unfold loadAt
  rw [cells_dA, List.length_map, isAgg_dA]
  split at h
  · rename_i h1
    rw [if_pos h1]
    split at h
    · rename_i h2
      rw [if_pos h2]
      split at h
      · rename_i h3; cases h; rw [notTup_d h3]
      · cases h
    · rename_i h2
      rw [if_neg h2, ← List.map_drop, ← List.map_take]
      exact ofCellsS_spec h ℓ
  · cases h

theorem partOfS_spec {P : Program} {t : TypeId} {cs : List SV} {off : Nat} {u : SV} (h : partOfS P t cs off = some u) (ℓ : Lens) : partOf P t (cs.map (dC ℓ)) off = some (dV ℓ u) := by
  unfold partOfS at h
  unfold partOf
  split at h
  · rename_i size agg h1 h2
    simp only [h1, h2, List.length_map]
    split at h
    · rename_i h3
      rw [if_pos h3, ← List.map_drop, ← List.map_take]
      exact ofCellsS_spec h ℓ
    · cases h
  · cases h

section
variable {P : Program} {H : SHeap} {ℓ : Lens}
theorem opLoadS_spec {t : TypeId} {p : SV} {r : SRes} (h : (opLoadS P t p H).mean = some r) : opLoad P t (dV ℓ p) (dH ℓ H) = some (dR ℓ r) ∧ r.wr = [] := by
  unfold opLoadS at h
  unfold opLoad
  split at h
  · rename_i size agg h1 h2
    simp only [h1, h2]
    cases p with
    | ptr g sz i off =>
      simp only at h
      simp only [dV_ptr, get_dH]
      split at h
      · rename_i sz' v hg
        obtain ⟨h3, h4⟩ := Tr.mean_when h
        obtain ⟨rfl, rfl, h0⟩ := of_decide_eq_true h3
        obtain ⟨u, h5, rfl⟩ := Tr.mean_map h4
        have := loadAtS_spec (Tr.mean_of h5) ℓ
        simp [hg, dB, this, dR, dW, h0]
      · rename_i t' l z hg
        obtain ⟨h3, h4⟩ := Tr.mean_when h
        have h3 := of_decide_eq_true h3
        simp only [Tr.mean] at h4
        obtain ⟨x, h5, h6⟩ := Option.bind_eq_some_iff.1 h4
        obtain ⟨u, h7, rfl⟩ := Tr.mean_map h6
        have := loadAtS_spec (Tr.mean_of h7) ℓ
        rw [unT_enc] at this
        simp [hg, dB, h3, h5, this, dR, dW]
      · exact (Tr.mean_fail h).elim
    | lp t' l i x hx off =>
      simp only at h
      obtain ⟨u, h7, rfl⟩ := Tr.mean_map h
      have := loadAtS_spec (Tr.mean_of h7) ℓ
      rw [unT_enc] at this
      simp [dV_lp, hx, cells_enc, length_encC, this, dR, dW, val1]
    | fp g =>
      simp only at h
      obtain ⟨h3, h4⟩ := Tr.mean_when h
      have h3 := of_decide_eq_true h3
      have := Tr.mean_ret h4; subst this
      simp only [show dV ℓ (.fp g) = .fp g from rfl]
      rw [if_pos h3]
      exact ⟨rfl, rfl⟩
    | _ => exact (Tr.mean_fail h).elim
  · exact (Tr.mean_fail h).elim

/-- A datum out of cells of which none may be appended to is just that. -/
theorem paC_exact : ∀ (t : Ty) (cs : List SV) (x : t.den) (r : List SV), paC t cs = some (x, r) → (∀ c ∈ cs, slack1 c = true) → ∃ pre, cs = pre ++ r ∧ pre.map (dC ℓ) = encC t x := by
  intro t
  induction t with
  | int k =>
    intro cs x r h _
    cases cs with
    | nil => cases h
    | cons c cs =>
      cases c <;> first | (cases h; done) | skip
      simp only [paC] at h
      split at h
      · rename_i e; subst e; cases h; exact ⟨[_], rfl, rfl⟩
      · cases h
  | bool =>
    intro cs x r h _
    cases cs with
    | nil => cases h
    | cons c cs => cases c <;> first | (cases h; done) | skip
                   cases h; exact ⟨[_], rfl, rfl⟩
  | str =>
    intro cs x r h _
    cases cs with
    | nil => cases h
    | cons c cs => cases c <;> first | (cases h; done) | skip
                   cases h; exact ⟨[_], rfl, rfl⟩
  | row t ih =>
    intro cs x r h hs
    cases cs with
    | nil => cases h
    | cons c cs =>
      have hc := hs c (by simp)
      cases c <;> first | cases h | skip
      rename_i t' l tg
      cases tg with
      | true => cases hc
      | false =>
        simp only [paC] at h
        split at h
        · rename_i l' hl
          cases h
          exact ⟨[_], rfl, by simp only [List.map_cons, List.map_nil, dC, d1, castL_spec hl false]; rfl⟩
        · cases h
  | unit => intro cs x r h _; cases h; exact ⟨[], rfl, rfl⟩
  | cons a b iha ihb =>
    intro cs x r h hs
    simp only [paC] at h
    split at h
    · rename_i y r1 h1
      split at h
      · rename_i z r2 h2
        cases h
        obtain ⟨p1, rfl, f1⟩ := iha _ _ _ h1 hs
        obtain ⟨p2, rfl, f2⟩ := ihb _ _ _ h2 (fun c hc => hs c (by simp at hc ⊢; right; exact hc))
        exact ⟨p1 ++ p2, by simp, by rw [List.map_append, f1, f2]; rfl⟩
      · cases h
    · cases h

theorem paT_exact {t : Ty} {v : SV} {x : t.den} (h : paT t v = some x) (hs : slack v = true) : dA ℓ v = enc t x := by
  unfold paT at h
  split at h
  · rename_i hagg
    split at h
    · rename_i y hy
      cases h
      have hsl : ∀ c ∈ v.cells, slack1 c = true := by
        cases v with
        | agg cs => simpa [slack, SV.cells] using hs
        | _ => intro c hc; simp [SV.cells] at hc; subst hc; exact hs
      obtain ⟨pre, h1, h2⟩ := paC_exact (ℓ := ℓ) t _ _ _ hy hsl
      rw [List.append_nil] at h1
      subst h1
      rw [← cells_dA] at h2
      unfold enc wrap
      rw [← h2, ← hagg, ← isAgg_dA ℓ]
      generalize dA ℓ v = z
      cases z <;> rfl
    · cases h
  · cases h

theorem spliceS_d (cs : List SV) (off : Nat) (new : List SV) : (spliceS cs off new).map (dC ℓ) = splice (cs.map (dC ℓ)) off (new.map (dC ℓ)) := by
  simp [spliceS, splice, List.map_take, List.map_drop]

theorem LenOK.append {wr wr' : List (Nm × SB)} (h : LenOK H wr) (k : LenOK H wr') : LenOK H (wr ++ wr') := by
  intro p hp
  rcases List.mem_append.1 hp with hp | hp
  · exact h p hp
  · exact k p hp
theorem LenOK.nil : LenOK H [] := fun p hp => by simp at hp
theorem LenOK.one {g : Nm} {b b0 : SB} (h : getS H g = some b0) (hl : b.len = b0.len) : LenOK H [(g, b)] := by
  intro p hp x hx
  simp at hp
  subst hp
  rw [h] at hx
  cases hx
  exact hl

theorem set_map_enc {t : Ty} (l : List t.den) (i : Nat) (y : t.den) : (l.map (enc t)).set i (enc t y) = (l.set i y).map (enc t) := by rw [List.map_set]

theorem fzNeed_spec {z : Fz} {len i : Nat} {t : Tr SRes} {r : SRes} (h : (fzNeed z len i t).mean = some r) : z.n len ≤ i ∧ t.mean = some r := by
  cases z with
  | zero => exact ⟨Nat.zero_le _, h⟩
  | all => obtain ⟨h1, h2⟩ := Tr.mean_need h; exact ⟨of_decide_eq_true h1, h2⟩
  | low k => obtain ⟨h1, h2⟩ := Tr.mean_need h; exact ⟨of_decide_eq_true h1, h2⟩

theorem okSV_notTup {v : SV} (h : okSV v = true) : notTup v = true := by cases v <;> first | rfl | cases h

theorem opStoreS_spec (ha : Agr ℓ H) {t : TypeId} {p v : SV} {r : SRes} (h : (opStoreS P t p v H).mean = some r) : opStore P t (dV ℓ p) (dV ℓ v) (dH ℓ H) = some (dR ℓ r) ∧ LenOK H r.wr ∧ r.new = [] := by
  unfold opStoreS at h
  unfold opStore
  split at h
  · rename_i size h1
    simp only [h1]
    cases p with
    | ptr g sz i off =>
      simp only at h
      simp only [dV_ptr, get_dH]
      split at h
      · rename_i sz' x hg
        obtain ⟨h2, h3⟩ := Tr.mean_when h
        obtain ⟨rfl, rfl, h4, h5, h6, h0⟩ := of_decide_eq_true h2
        have hv : dV ℓ v = dA ℓ v := notTup_d (okSV_notTup h6) ℓ
        have hc : (dA ℓ v).cells.length = size ∧ off + size ≤ sz' ∧ okV (dA ℓ v) = true := ⟨by rw [cells_dA, List.length_map]; exact h4, h5, by rw [okV_dA]; exact h6⟩
        simp only [hg, Option.bind_some, dB, true_and, Nat.le_refl, h0, if_true, List.getElem?_cons_zero, show dV ℓ v = dA ℓ v from hv]
        rw [if_pos hc]
        split at h3
        · rename_i he
          have := Tr.mean_ret h3
          subst this
          refine ⟨?_, LenOK.one hg rfl, rfl⟩
          unfold newElem
          rw [if_pos he]
          rfl
        · rename_i he
          split at h3
          · rename_i hx
            have := Tr.mean_ret h3
            subst this
            refine ⟨?_, LenOK.one hg rfl, rfl⟩
            unfold newElem
            rw [if_neg he, isAgg_dA, if_pos hx]
            simp only [cells_dA, ← spliceS_d]
            rfl
          · exact (Tr.mean_fail h3).elim
      · rename_i t' l z hg
        obtain ⟨⟨u, m⟩, h2, h3⟩ := Tr.mean_bind h
        obtain ⟨h4, h5⟩ := Tr.mean_when h3
        obtain ⟨rfl, c1, c2, c3, c4, c5, h0⟩ := of_decide_eq_true h4
        obtain ⟨c6, h6⟩ := fzNeed_spec h5
        obtain ⟨e1, e2⟩ := pureVS_spec ha h2
        have hv : dV ℓ v = dA ℓ v := by
          cases v <;> first | rfl | exact (Tr.mean_fail h2).elim
        have hcc : (dA ℓ u).cells.length = size ∧ off + size ≤ t'.size ∧ ¬ g ∈ m ∧ okV (dA ℓ u) = true := ⟨by rw [cells_dA, List.length_map]; exact c1, c2, c3, by rw [okV_dA]; exact c4⟩
        have hwr : ∀ y : t'.den, LenOK H (stopsS H m ++ [(g, .arr t' (l.set i y) z)]) := fun y => (stopsS_len m).append (LenOK.one hg (by simp [SB.len]))
        have hdw : ∀ y : t'.den, dW ℓ (stopsS H m ++ [(g, .arr t' (l.set i y) z)]) = stops (dH ℓ H) m ++ [(g, some ⟨t'.size, (l.set i y).map (enc t'), z.n l.length, false⟩)] := fun y => by
          rw [← stopsS_spec e2]
          simp only [dW, List.map_append, List.map_cons, List.map_nil, dB, List.length_set]
        simp only [hg, Option.bind_some, dB, true_and, show dV ℓ v = dA ℓ v from hv, e1, Bool.false_eq_true, if_false]
        rw [if_pos ⟨c6, h0⟩]
        split at h6
        · rename_i he
          obtain ⟨c7, h7⟩ := Tr.mean_need h6
          obtain ⟨y, h8, h9⟩ := Tr.mean_bind h7
          have := Tr.mean_ret h9
          subst this
          have hi := of_decide_eq_true c7
          have hy := paT_exact (ℓ := ℓ) (Tr.mean_of h8) c5
          refine ⟨?_, hwr y, rfl⟩
          simp only [List.getElem?_map, List.getElem?_eq_getElem hi, Option.map_some]
          rw [if_pos hcc]
          unfold newElem
          rw [if_pos he]
          simp only [dR, hdw, hy, set_map_enc, dV_tup, List.map_nil]
        · rename_i he
          simp only [Tr.mean] at h6
          obtain ⟨x, h7, h8⟩ := Option.bind_eq_some_iff.1 h6
          obtain ⟨h9, h10⟩ := Tr.mean_when h8
          obtain ⟨y, h11, h12⟩ := Tr.mean_bind h10
          have := Tr.mean_ret h12
          subst this
          have hx : dA ℓ (SV.agg (spliceS (unC t' x) off u.cells)) = .agg (splice (enc t' x).cells off (dA ℓ u).cells) := by
            rw [cells_enc, cells_dA, ← (enc_cells t' x ℓ).2, ← spliceS_d]
            rfl
          have hsl : slack (SV.agg (spliceS (unC t' x) off u.cells)) = true := by
            simp only [slack, List.all_eq_true]
            intro c hc
            have h1 : ∀ c ∈ unC t' x, slack1 c = true := by
              have : ∀ (t : Ty) (x : t.den), ∀ c ∈ unC t x, slack1 c = true := by
                intro t
                induction t with
                | cons a b iha ihb => intro x c hc; simp only [unC, List.mem_append] at hc; exact hc.elim (iha _ c) (ihb _ c)
                | unit => intro x c hc; cases hc
                | _ => intro x c hc; simp [unC] at hc; subst hc; rfl
              exact this t' x
            have h2 : ∀ c ∈ u.cells, slack1 c = true := by
              cases u with
              | agg cs => simpa [slack, SV.cells] using c5
              | _ => intro c hc; simp [SV.cells] at hc; subst hc; exact c5
            simp only [spliceS, List.mem_append] at hc
            rcases hc with (hc | hc) | hc
            · exact h1 c (List.mem_of_mem_take hc)
            · exact h2 c hc
            · exact h1 c (List.mem_of_mem_drop hc)
          have hy := paT_exact (ℓ := ℓ) (Tr.mean_of h11) hsl
          refine ⟨?_, hwr y, rfl⟩
          simp only [List.getElem?_map, h7, Option.map_some]
          rw [if_pos hcc]
          unfold newElem
          rw [if_neg he, isAgg_enc, if_pos h9, ← hx, hy]
          simp only [dR, hdw, set_map_enc, dV_tup, List.map_nil]
      · exact (Tr.mean_fail h).elim
    | _ => exact (Tr.mean_fail h).elim
  · exact (Tr.mean_fail h).elim

end
section
variable {P : Program} {H : SHeap} {ℓ : Lens}
theorem rowAt_some {A B : Type} {l : List A} {n : Int} {k : (x : A) → l[n.toNat]? = some x → Option B} {b : B} (h : rowAt l n k = some b) : 0 ≤ n ∧ n < l.length ∧ ∃ x, ∃ hx : l[n.toNat]? = some x, k x hx = some b := by
  unfold rowAt at h
  cases hn : decide (0 ≤ n) with
  | false => rw [hn] at h; cases h
  | true =>
    rw [hn] at h
    have h0 := of_decide_eq_true hn
    obtain ⟨x, hx, hk⟩ := Option.pbind_eq_some_iff.1 (show Option.pbind l[n.toNat]? k = some b from h)
    have := (List.getElem?_eq_some_iff.1 hx).1
    exact ⟨h0, by omega, x, hx, hk⟩

theorem opFieldAddrS_spec {t : TypeId} {p u : SV} {f : Nat} (h : opFieldAddrS P t p f = some u) : opFieldAddr P t (dV ℓ p) f = some (dV ℓ u) := by
  unfold opFieldAddrS at h
  unfold opFieldAddr
  split at h
  · rename_i o ft hf
    simp only [hf]
    split at h
    · cases h
    · rename_i hs
      rw [if_neg hs]
      cases p with
      | ptr g sz i off =>
        by_cases h0 : 0 < sz
        · simp only [if_pos h0] at h
          cases h
          simp only [dV_ptr, if_pos h0]
        · simp only [if_neg h0] at h
          cases h
      | lp t l i x hx off => cases h; rfl
      | _ => cases h
  · cases h

theorem opFieldS_spec {t : TypeId} {p u : SV} {f : Nat} (h : opFieldS P t p f = some u) : opField P t (dV ℓ p) f = some (dV ℓ u) := by
  unfold opFieldS at h
  split at h
  · rename_i o ft cs hf
    simp only [dV_agg, opField, hf]
    exact partOfS_spec h ℓ
  · cases h

theorem lsz_pos {sz : Nat} {xs : List AV} (h : 0 < xs.length) : lsz sz xs = sz := by
  cases xs with
  | nil => simp at h
  | cons _ _ => rfl

theorem opIndexAddrS_spec (ha : Agr ℓ H) {t : TypeId} {x i u : SV} (h : (opIndexAddrS P t x i H).mean = some u) : opIndexAddr P t (dV ℓ x) (dV ℓ i) = some (dV ℓ u) := by
  unfold opIndexAddrS at h
  split at h
  · rename_i e k n hu
    unfold opIndexAddr
    simp only [dV_int, hu]
    cases x with
    | own t' g =>
      simp only at h
      split at h
      · rename_i b hb
        obtain ⟨h1, h2⟩ := Tr.mean_when h
        obtain ⟨h3, h4⟩ := Tr.mean_need h2
        have := Tr.mean_ret h4
        subst this
        obtain ⟨h5, h6⟩ := of_decide_eq_true h3
        obtain ⟨h1, h7⟩ := of_decide_eq_true h1
        simp only [dV_own, ha g b hb]
        rw [if_pos ⟨h1, h5, h6, h7⟩]
        simp only [dV_ptr, Nat.zero_add]
      · exact (Tr.mean_fail h).elim
    | part t' g off len =>
      obtain ⟨h1, h2⟩ := Tr.mean_when h
      obtain ⟨h3, h4⟩ := Tr.mean_need h2
      have := Tr.mean_ret h4
      subst this
      obtain ⟨h5, h6⟩ := of_decide_eq_true h3
      obtain ⟨h1, h7⟩ := of_decide_eq_true h1
      simp only [dV_part]
      rw [if_pos ⟨h1, h5, h6, h7⟩]
      rfl
    | row t' l tg =>
      obtain ⟨h1, h2⟩ := Tr.mean_when h
      simp only [Tr.mean] at h2
      obtain ⟨h3, h4, y, hy, h5⟩ := rowAt_some h2
      have h5 := Option.some.inj h5
      subst h5
      have hl : lsz t'.size (l.map (enc t')) = t'.size := lsz_pos (by simp; omega)
      simp only [dV_row, rowAV, hl]
      rw [if_pos ⟨h3, by simpa using h4, of_decide_eq_true h1⟩]
      rfl
    | _ => exact (Tr.mean_fail h).elim
  · rename_i len e k n hu
    unfold opIndexAddr
    simp only [dV_int, hu]
    cases x with
    | ptr g sz j off =>
      simp only at h
      simp only [dV_ptr]
      split at h
      · rename_i es he
        obtain ⟨h0, h⟩ := Tr.mean_when h
        obtain ⟨h3, h4⟩ := Tr.mean_need h
        have := Tr.mean_ret h4
        subst this
        simp only [he]
        rw [if_pos ⟨(of_decide_eq_true h3).1, (of_decide_eq_true h3).2, of_decide_eq_true h0⟩]
        rfl
      · exact (Tr.mean_fail h).elim
    | _ => exact (Tr.mean_fail h).elim
  · exact (Tr.mean_fail h).elim

theorem fmAtS_spec {n : Int} {k : SV → Bool → Tr SV} {u : SV} : ∀ (l : List (Int × FuncId × List FuncId)), (fmAtS l n k).mean = some u → ∃ v b, (k v b).mean = some u ∧ dV ℓ v = (fmAt l n).1 ∧ notTup v = true ∧ b = (fmAt l n).2 := by
  intro l
  induction l with
  | nil => intro h; exact ⟨_, _, h, rfl, rfl, rfl⟩
  | cons p r ih =>
    intro h
    obtain ⟨m, f, gs⟩ := p
    simp only [fmAtS, Tr.mean] at h
    by_cases hn : n = m
    · rw [show (n == m) = true by simpa using hn, cond_true] at h
      refine ⟨_, _, h, ?_, rfl, ?_⟩
      · simp only [dV_clo, fmAt, if_pos hn, List.map_map]
        rfl
      · simp only [fmAt, if_pos hn]
    · rw [show (n == m) = false by simpa using hn, cond_false] at h
      simp only [fmAt, if_neg hn]
      exact ih h

theorem opLookupS_spec {t : TypeId} {m k u : SV} {ok : Bool} (h : (opLookupS P t m k ok).mean = some u) : opLookup P t (dV ℓ m) (dV ℓ k) ok = some (dV ℓ u) := by
  unfold opLookupS at h
  split at h
  · rename_i kt et l n hu
    split at h
    · rename_i hkt hz
      obtain ⟨v, b, h1, h2, h3, h4⟩ := fmAtS_spec (ℓ := ℓ) l h
      have := Tr.mean_ret h1; subst this
      simp only [show dV ℓ (.fm l) = .fm l from rfl, dV_int, opLookup, hu, hkt, hz]
      cases ok
      · simp only [Bool.false_eq_true, if_false, h2]
      · simp only [if_true, dV_tup, List.map_cons, List.map_nil, ← h2, ← h4, notTup_d h3]
        rfl
    · exact (Tr.mean_fail h).elim
  · exact (Tr.mean_fail h).elim

theorem opIndexS_spec {t : TypeId} {x i u : SV} (h : (opIndexS P t x i).mean = some u) : opIndex P t (dV ℓ x) (dV ℓ i) = some (dV ℓ u) := by
  unfold opIndexS at h
  split at h
  · rename_i len e cs k n hu
    simp only [opIndex, dV_agg, dV_int, hu]
    split at h
    · rename_i es he
      obtain ⟨h3, h4⟩ := Tr.mean_need h
      simp only [he]
      rw [if_pos (of_decide_eq_true h3)]
      exact partOfS_spec (Tr.mean_of h4) ℓ
    · exact (Tr.mean_fail h).elim
  · rename_i s k n hu
    obtain ⟨h3, h4⟩ := Tr.mean_need h
    have := Tr.mean_ret h4
    subst this
    obtain ⟨h5, h6⟩ := of_decide_eq_true h3
    have hlt : n.toNat < s.size := by omega
    simp only [opIndex, dV_str, dV_int, hu, h5, if_true]
    have : s[n.toNat]? = some s[n.toNat] := by simp [hlt]
    simp [this]
  · exact (Tr.mean_fail h).elim

theorem arrL_spec {e : TypeId} {ty : Ty} {cs : List SV} {es : Nat} : ∀ (n i : Nat) (l : List ty.den), arrL P e ty cs es n i = some l → ∀ (k : Nat) (x : ty.den), l[k]? = some x → k < n ∧ partOf P e (cs.map (dC ℓ)) ((i + k) * es) = some (dV ℓ (unT ty x)) := by
  intro n
  induction n with
  | zero => intro i l h k x hx; cases h; simp at hx
  | succ n ih =>
    intro i l h k x hx
    simp only [arrL] at h
    split at h
    · rename_i v r h1 h2
      split at h
      · rename_i hs
        obtain ⟨y, h3, rfl⟩ := Option.map_eq_some_iff.1 h
        cases k with
        | zero =>
          simp only [List.getElem?_cons_zero, Option.some.injEq] at hx
          subst hx
          refine ⟨Nat.succ_pos n, ?_⟩
          rw [Nat.add_zero, partOfS_spec h1 ℓ]
          have hv : dV ℓ v = dA ℓ v := by
            cases v <;> first | rfl | (exfalso; cases ty <;> simp [paT, paC, SV.cells, SV.isAgg, Ty.agg] at h3)
          have hu : dV ℓ (unT ty y) = dA ℓ (unT ty y) := by cases ty <;> rfl
          rw [hv, paT_exact h3 hs, hu, unT_enc]
        | succ k =>
          simp only [List.getElem?_cons_succ] at hx
          obtain ⟨a1, a2⟩ := ih _ _ h2 k x hx
          exact ⟨Nat.succ_lt_succ a1, by rw [show i + (k + 1) = i + 1 + k by omega]; exact a2⟩
      · cases h
    · cases h

theorem opIndexVS_spec {t : TypeId} {x i u : SV} (h : (opIndexVS P t x i).mean = some u) : opIndex P t (dV ℓ x) (dV ℓ i) = some (dV ℓ u) := by
  unfold opIndexVS at h
  split at h
  · rename_i len e cs k n hu
    split at h
    · rename_i es ty he hty
      obtain ⟨l, h1, h2⟩ := Tr.mean_bind h
      have h1 := Tr.mean_of h1
      simp only [Tr.mean] at h2
      obtain ⟨h3, h4, y, hy, h5⟩ := rowAt_some h2
      have h5 := Option.some.inj h5
      subst h5
      obtain ⟨a1, a2⟩ := arrL_spec (ℓ := ℓ) _ _ _ h1 _ _ hy
      simp only [opIndex, dV_agg, dV_int, hu, he]
      rw [if_pos ⟨h3, by omega⟩]
      rw [Nat.zero_add] at a2
      exact a2
    · exact (Tr.mean_fail h).elim
  · exact opIndexS_spec h

theorem opIndex3S_spec {t : TypeId} {x i u : SV} {oi : Operand} (h : (opIndex3S P t x i oi).mean = some u) : opIndex P t (dV ℓ x) (dV ℓ i) = some (dV ℓ u) := by
  unfold opIndex3S at h
  split at h
  · exact opIndexS_spec h
  · exact opIndexVS_spec h

theorem binI_spec {op : BinOp} {k : IntKind} {a b : Int} {u : SV} (h : (binI op k a b).mean = some u) : opBin op (.int k a) (.int k b) = some (dV ℓ u) := by
  unfold binI at h
  split at h <;> first
    | (have := Tr.mean_ret h; subst this; simp [opBin, dV_int, dV_bool]; done)
    | (obtain ⟨h1, h2⟩ := Tr.mean_need h; have := Tr.mean_ret h2; subst this; have h1 := of_decide_eq_true h1; simp [opBin, dV_int, h1]; done)
    | exact (Tr.mean_fail h).elim

theorem shiftI_spec {op : BinOp} {k k' : IntKind} {a b : Int} {u : SV} (h : (shiftI op k a b).mean = some u) : opBin op (.int k a) (.int k' b) = some (dV ℓ u) := by
  unfold shiftI at h
  split at h <;> first
    | (obtain ⟨h1, h2⟩ := Tr.mean_need h; have := Tr.mean_ret h2; subst this; have h1 := of_decide_eq_true h1; simp [opBin, dV_int, h1]; done)
    | exact (Tr.mean_fail h).elim

theorem binS_spec {op : BinOp} {a b : ByteArray} {u : SV} (h : (binS op a b).mean = some u) : opBin op (.str a) (.str b) = some (dV ℓ u) := by
  unfold binS at h
  split at h <;> first
    | (have := Tr.mean_ret h; subst this; simp [opBin, dV_str, dV_bool]; done)
    | (obtain ⟨h1, h2⟩ := Tr.mean_need h; have := Tr.mean_ret h2; subst this; have h1 := of_decide_eq_true h1; simp [opBin, dV_str, h1]; done)
    | exact (Tr.mean_fail h).elim

theorem eqFieldsS_spec {eq : TypeId → SV → SV → Option Bool} {eq' : TypeId → AV → AV → Option Bool} (he : ∀ t x y b, eq t x y = some b → eq' t (dV ℓ x) (dV ℓ y) = some b) (xs ys : List SV) :
    ∀ (fs : List Field) (b : Bool), eqFieldsS P eq xs ys fs = some b → eqFields P eq' (xs.map (dC ℓ)) (ys.map (dC ℓ)) fs = some b := by
  intro fs
  induction fs with
  | nil => intro b h; exact h
  | cons f r ih =>
    intro b h
    simp only [eqFieldsS] at h
    simp only [eqFields]
    split at h
    · cases h
    · rename_i hn
      rw [if_neg hn]
      split at h
      · rename_i x y h1 h2
        simp only [partOfS_spec h1 ℓ, partOfS_spec h2 ℓ]
        split at h
        · rename_i c d h3 h4
          simp only [he _ _ _ _ h3, ih _ h4]
          exact h
        · cases h
      · cases h

theorem eqElemsS_spec {eq : TypeId → SV → SV → Option Bool} {eq' : TypeId → AV → AV → Option Bool} (he : ∀ t x y b, eq t x y = some b → eq' t (dV ℓ x) (dV ℓ y) = some b) (e : TypeId) (size : Nat) (xs ys : List SV) :
    ∀ (n i : Nat) (b : Bool), eqElemsS P eq e size xs ys n i = some b → eqElems P eq' e size (xs.map (dC ℓ)) (ys.map (dC ℓ)) n i = some b := by
  intro n
  induction n with
  | zero => intro i b h; exact h
  | succ n ih =>
    intro i b h
    simp only [eqElemsS] at h
    simp only [eqElems]
    split at h
    · rename_i x y h1 h2
      simp only [partOfS_spec h1 ℓ, partOfS_spec h2 ℓ]
      split at h
      · rename_i c d h3 h4
        simp only [he _ _ _ _ h3, ih _ _ h4]
        exact h
      · cases h
    · cases h

theorem eqAS_spec : ∀ (d : Nat) (t : TypeId) (x y : SV) (b : Bool), eqAS P d t x y = some b → eqA P d t (dV ℓ x) (dV ℓ y) = some b := by
  intro d
  induction d with
  | zero => intro t x y b h; cases h
  | succ d ih =>
    intro t x y b h
    unfold eqAS at h
    split at h
    · rename_i hu; simp only [eqA, dV_bool, hu]; exact h
    · rename_i hu; simp only [eqA, dV_int, hu]; exact h
    · rename_i hu; simp only [eqA, dV_str, hu]; exact h
    · rename_i fs xs ys hu
      simp only [eqA, dV_agg, hu]
      split at h
      · cases h
      · rename_i hs
        rw [if_neg hs]
        exact eqFieldsS_spec ih xs ys _ _ h
    · rename_i n e xs ys hu
      simp only [eqA, dV_agg, hu]
      split at h
      · rename_i size he
        simp only [he]
        exact eqElemsS_spec ih e size xs ys n 0 b h
      · cases h
    · cases h

theorem opEqlS_spec {t : TypeId} {x y : SV} {b : Bool} (h : opEqlS P t x y = some b) : opEql P t (dV ℓ x) (dV ℓ y) = some b := by
  unfold opEqlS at h
  split at h
  · simp only [opEql, dV_bool]
    exact eqAS_spec (ℓ := ℓ) 8 t _ _ b h
  · simp only [opEql, dV_agg]
    split at h
    · cases h
    · rename_i hg
      rw [if_neg hg]
      exact eqAS_spec (ℓ := ℓ) 8 t _ _ b h
  · cases h

theorem opBinS_spec {op : BinOp} {t : TypeId} {x y u : SV} (h : (opBinS P op t x y).mean = some u) : opBin2 P op t (dV ℓ x) (dV ℓ y) = some (dV ℓ u) := by
  unfold opBinS at h
  split at h
  · rename_i k a k' b
    split at h
    · have := shiftI_spec (ℓ := ℓ) (k' := k') h
      simp only [opBin2, dV_int, this]
    · obtain ⟨h1, h2⟩ := Tr.mean_when h
      have h1 := of_decide_eq_true h1
      subst h1
      have := binI_spec (ℓ := ℓ) h2
      simp only [opBin2, dV_int, this]
  · rename_i a b
    have := binS_spec (ℓ := ℓ) h
    simp only [opBin2, dV_str, this]
  · rename_i hn1 hn2
    have hx : ∀ z b, opEqlS P t x y = some b → opBin z (dV ℓ x) (dV ℓ y) = none := by
      intro z b hb
      unfold opEqlS at hb
      split at hb
      · rfl
      · rfl
      · cases hb
    split at h
    · obtain ⟨b, h1, rfl⟩ := Tr.mean_map h
      have h1 := Tr.mean_of h1
      simp only [opBin2, hx _ b h1, opEqlS_spec (ℓ := ℓ) h1, Option.map_some, dV_bool]
    · obtain ⟨b, h1, rfl⟩ := Tr.mean_map h
      have h1 := Tr.mean_of h1
      simp only [opBin2, hx _ b h1, opEqlS_spec (ℓ := ℓ) h1, Option.map_some, dV_bool]
    · exact (Tr.mean_fail h).elim

theorem opBin3S_spec {op : BinOp} {t : TypeId} {x y u : SV} {oy : Operand} (h : (opBin3S P op t x y oy).mean = some u) : opBin3 P op t (dV ℓ x) (dV ℓ y) oy = some (dV ℓ u) := by
  unfold opBin3S at h
  split at h
  · rename_i ty l tight
    unfold nilCmpS at h
    split at h
    · rename_i e ht
      obtain ⟨h1, h2⟩ := Tr.mean_need h
      have := Tr.mean_ret h2
      subst this
      have h1 := of_decide_eq_true h1
      cases l with
      | nil => simp at h1
      | cons a r =>
        have e1 : opBin2 P .eql t (dV ℓ (.row ty (a :: r) tight)) (dV ℓ y) = none := by
          simp only [opBin2, dV, dA, dC, d1, rowAV, opBin, opEql, Option.map_none]
        simp only [opBin3, e1]
        simp only [nilCmp, ht, dV, dA, dC, d1, rowAV, List.map_cons]
    · exact (Tr.mean_fail h).elim
  · simp only [opBin3, opBinS_spec (ℓ := ℓ) h]


theorem opUnS_spec {op : UnOp} {x u : SV} (h : opUnS op x = some u) : opUn op (dV ℓ x) = some (dV ℓ u) := by
  unfold opUnS at h
  split at h
  · cases h; rfl
  · cases h; rfl
  · cases h

theorem opConvertS_spec {a b : TypeId} {x u : SV} (h : opConvertS P a b x = some u) : opConvert P a b (dV ℓ x) = some (dV ℓ u) := by
  unfold opConvertS at h
  split at h
  · rename_i h1 h2; cases h; simp only [opConvert, dV_int, h1, h2]
  · rename_i h1 h2; cases h; simp only [opConvert, dV_str, h1, h2]
  · cases h

theorem boundS_spec {o : Option SV} {d r : Nat} (h : (boundS o d).mean = some r) : bound (o.map (dV ℓ)) d = some r := by
  unfold boundS at h
  split at h
  · have := Tr.mean_ret h; subst this; rfl
  · obtain ⟨h1, h2⟩ := Tr.mean_need h
    have := Tr.mean_ret h2; subst this
    simp only [Option.map_some, dV_int, bound]
    rw [if_pos (of_decide_eq_true h1)]
  · exact (Tr.mean_fail h).elim

theorem opSliceS_spec (ha : Agr ℓ H) {t : TypeId} {x : SV} {lo hi mx : Option SV} {r : SRes} (h : (opSliceS P t x lo hi mx H).mean = some r) :
    opSlice P t (dV ℓ x) (lo.map (dV ℓ)) (hi.map (dV ℓ)) (mx.map (dV ℓ)) (dH ℓ H) = some (dR ℓ r) ∧ LenOK H r.wr ∧ r.new = [] := by
  unfold opSliceS at h
  split at h
  · rename_i s hu
    simp only [opSlice, dV_str, hu]
    cases mx with
    | some _ => exact (Tr.mean_fail h).elim
    | none =>
      obtain ⟨l, h1, h⟩ := Tr.mean_bind h
      obtain ⟨hh, h2, h⟩ := Tr.mean_bind h
      obtain ⟨h3, h⟩ := Tr.mean_need h
      have := Tr.mean_ret h; subst this
      refine ⟨?_, LenOK.nil, rfl⟩
      simp only [Option.map_none, boundS_spec (ℓ := ℓ) h1, boundS_spec (ℓ := ℓ) h2]
      rw [if_pos (of_decide_eq_true h3)]
      rfl
  · rename_i e t' xs tight hu
    obtain ⟨h0, h⟩ := Tr.mean_when h
    have h0 := of_decide_eq_true h0
    have hsz : ((tsize P e).isSome && (decide (tsize P e = some (lsz t'.size (xs.map (enc t')))) || (xs.map (enc t')).isEmpty)) = true := by
      rw [h0]
      cases xs with
      | nil => simp
      | cons y ys => simp [lsz]
    have hlz : ∀ l k, lsz (lsz t'.size (xs.map (enc t'))) (((xs.map (enc t')).drop l).take k) = lsz t'.size (((xs.drop l).take k).map (enc t')) := by
      intro l k
      rw [← List.map_drop, ← List.map_take]
      cases xs with
      | nil => simp [lsz]
      | cons y ys => rfl
    simp only [opSlice, dV_row, rowAV, hu]
    rw [if_pos hsz]
    simp only [List.length_map]
    cases mx with
    | none =>
      obtain ⟨l, h1, h⟩ := Tr.mean_bind h
      obtain ⟨hh, h2, h⟩ := Tr.mean_bind h
      obtain ⟨h3, h⟩ := Tr.mean_need h
      have := Tr.mean_ret h; subst this
      refine ⟨?_, LenOK.nil, rfl⟩
      simp only [Option.map_none, boundS_spec (ℓ := ℓ) h1, boundS_spec (ℓ := ℓ) h2]
      rw [if_pos (of_decide_eq_true h3), hlz]
      simp only [dR, dV_row, rowAV, List.map_drop, List.map_take, dW, List.map_nil, Option.isNone_map]
    | some m =>
      obtain ⟨l, h1, h⟩ := Tr.mean_bind h
      obtain ⟨hh, h2, h⟩ := Tr.mean_bind h
      obtain ⟨mm, h4, h⟩ := Tr.mean_bind h
      obtain ⟨h5, h⟩ := Tr.mean_when h
      obtain ⟨h3, h⟩ := Tr.mean_need h
      have := Tr.mean_ret h; subst this
      obtain ⟨c1, rfl, c3⟩ := of_decide_eq_true h3
      refine ⟨?_, LenOK.nil, rfl⟩
      have h4' := boundS_spec (ℓ := ℓ) h4
      simp only [Option.map_some] at h4'
      simp only [Option.map_some, boundS_spec (ℓ := ℓ) h1, boundS_spec (ℓ := ℓ) h2, h4']
      rw [if_pos ⟨c1, Nat.le_refl _, c3, by simpa using h5⟩, hlz]
      simp only [dR, dV_row, rowAV, List.map_drop, List.map_take, dW, List.map_nil, beq_self_eq_true]
  · rename_i e t' g hu
    split at h
    · rename_i t2 l2 z hg
      split at h
      · rename_i ht
        subst ht
        obtain ⟨h0, h⟩ := Tr.mean_when h
        have h0 := of_decide_eq_true h0
        have hlen : ℓ g = l2.length := ha g _ hg
        simp only [opSlice, dV_own, hu]
        rw [if_pos h0]
        simp only [hlen]
        cases mx with
        | none =>
          have gen : ∀ (lo hi : Option SV), ((boundS lo 0).bind fun l => (boundS hi l2.length).bind fun h => Tr.need (decide (l ≤ h ∧ h ≤ l2.length)) (.ret { val := SV.part t2 g l (h - l) })).mean = some r →
              (match (none : Option AV), bound (lo.map (dV ℓ)) 0, bound (hi.map (dV ℓ)) l2.length with
              | none, some l, some h => if l ≤ h ∧ h ≤ l2.length then some { val := AV.own g t2.size (0 + l) (h - l) } else none
              | some m, some l, some h => match bound (some m) 0, get (dH ℓ H) g with
                | some m, some b => if l ≤ h ∧ h ≤ m ∧ m ≤ l2.length ∧ 0 + l2.length ≤ b.elems.length ∧ b.box = false ∧ b.sz = t2.size ∧ (hi.map (dV ℓ)).isSome = true ∧ 0 < t2.size then
                    some { val := .lst (lsz t2.size ((b.elems.drop (0 + l)).take (h - l))) ((b.elems.drop (0 + l)).take (h - l)) (h == m), rd := [g], wr := stops (dH ℓ H) [g] } else none
                | _, _ => none
              | _, _, _ => none) = some (dR ℓ r) ∧ LenOK H r.wr ∧ r.new = [] := by
            intro lo hi h
            obtain ⟨l, h1, h⟩ := Tr.mean_bind h
            obtain ⟨hh, h2, h⟩ := Tr.mean_bind h
            obtain ⟨h3, h⟩ := Tr.mean_need h
            have := Tr.mean_ret h; subst this
            refine ⟨?_, LenOK.nil, rfl⟩
            simp only [boundS_spec (ℓ := ℓ) h1, boundS_spec (ℓ := ℓ) h2]
            rw [if_pos (of_decide_eq_true h3)]
            simp only [dR, dV_part, dW, List.map_nil, Nat.zero_add]
          simp only at h
          split at h
          · have := Tr.mean_ret h; subst this
            refine ⟨?_, LenOK.nil, rfl⟩
            simp [bound, dR, dV_own, hlen, dW]
          · exact gen lo hi h
        | some m =>
          obtain ⟨l, h1, h⟩ := Tr.mean_bind h
          obtain ⟨hh, h2, h⟩ := Tr.mean_bind h
          obtain ⟨mm, h4, h⟩ := Tr.mean_bind h
          obtain ⟨h5, h⟩ := Tr.mean_when h
          obtain ⟨h3, h⟩ := Tr.mean_need h
          have := Tr.mean_ret h; subst this
          obtain ⟨c1, rfl, c3⟩ := of_decide_eq_true h3
          have hs : ∀ g' ∈ [g], IsArr H g' := fun g' hg' => by simp at hg'; subst hg'; exact ⟨_, _, _, hg⟩
          refine ⟨?_, stopsS_len _, rfl⟩
          have h4' := boundS_spec (ℓ := ℓ) h4
          simp only [Option.map_some] at h4'
          simp only [Option.map_some, boundS_spec (ℓ := ℓ) h1, boundS_spec (ℓ := ℓ) h2, h4', get_dH, hg, Option.bind_some, dB]
          simp only [Bool.and_eq_true, decide_eq_true_eq] at h5
          rw [if_pos (by simp [c1, c3, h5])]
          simp only [dR, dV_row, rowAV, List.map_drop, List.map_take, dW, stopsS_spec hs, List.map_nil, Nat.zero_add, beq_self_eq_true]
      · exact (Tr.mean_fail h).elim
    · exact (Tr.mean_fail h).elim
  · rename_i e t' g off len hu
    obtain ⟨h0, h⟩ := Tr.mean_when h
    have h0 := of_decide_eq_true h0
    simp only [opSlice, dV_part, hu]
    rw [if_pos h0]
    cases mx with
    | some _ => exact (Tr.mean_fail h).elim
    | none =>
      obtain ⟨l, h1, h⟩ := Tr.mean_bind h
      obtain ⟨hh, h2, h⟩ := Tr.mean_bind h
      obtain ⟨h3, h⟩ := Tr.mean_need h
      have := Tr.mean_ret h; subst this
      refine ⟨?_, LenOK.nil, rfl⟩
      simp only [Option.map_none, boundS_spec (ℓ := ℓ) h1, boundS_spec (ℓ := ℓ) h2]
      rw [if_pos (of_decide_eq_true h3)]
      rfl
  · exact (Tr.mean_fail h).elim

end
section
variable {P : Program} {H : SHeap} {ℓ : Lens}
theorem fillAS_spec {place : Nat → Option (Nat × Nat)} : ∀ (ps : List (Nat × SV)) (cells r : List SV), fillAS place cells ps = some r → fillA place (cells.map (dC ℓ)) (ps.map fun p => (p.1, dV ℓ p.2)) = some (r.map (dC ℓ)) := by
  intro ps
  induction ps with
  | nil => intro cells r h; cases h; rfl
  | cons p ps ih =>
    intro cells r h
    obtain ⟨i, v⟩ := p
    simp only [fillAS] at h
    simp only [List.map_cons, fillA]
    split at h
    · cases h
    · rename_i off size hp
      simp only [hp]
      split at h
      · rename_i hc
        obtain ⟨h1, h2, h3⟩ := hc
        rw [notTup_d (okSV_notTup h3)]
        rw [if_pos ⟨by rw [cells_dA, List.length_map]; exact h1, by simpa using h2, by rw [okV_dA]; exact h3⟩]
        have := ih _ _ h
        rw [spliceS_d, ← cells_dA] at this
        exact this
      · cases h

theorem szero_spec {t : TypeId} {v : SV} (h : szero P t = some v) : ∃ z, tzero P t = some (cv z) ∧ v = svC z := by
  unfold szero at h
  unfold tzero
  split at h
  · rename_i i hi
    split at h
    · rename_i z hz
      cases h
      exact ⟨z, by simp only [hi, hz], rfl⟩
    · cases h
  · cases h

theorem partsOfS_d (fr : SFr) (ps : Array (Nat × Operand)) : (partsOfS fr ps).map (fun p => (p.1, dV ℓ p.2)) = partsOf (dF ℓ fr) ps := by
  simp only [partsOfS, partsOf, List.map_map]
  refine List.map_congr_left fun p _ => ?_
  simp only [Function.comp, evS_d]

theorem opBuildS_spec {t : TypeId} {ps : List (Nat × SV)} {u : SV} (h : opBuildS P t ps = some u) : opBuild P t (ps.map fun p => (p.1, dV ℓ p.2)) = some (dV ℓ u) := by
  unfold opBuildS at h
  split at h
  · rename_i z fs hz hu
    obtain ⟨zv, h1, h2⟩ := szero_spec hz
    have hcv : cv zv = .agg (z.map (dC ℓ)) := by rw [← (svC_d ℓ zv).1, ← h2]; rfl
    simp only [opBuild, h1, hcv, hu]
    split at h
    · cases h
    · rename_i hs
      rw [if_neg hs]
      obtain ⟨r, h3, rfl⟩ := Option.map_eq_some_iff.1 h
      exact congrArg (Option.map AV.agg) (fillAS_spec (ℓ := ℓ) _ _ _ h3)
  · rename_i z n e hz hu
    obtain ⟨zv, h1, h2⟩ := szero_spec hz
    have hcv : cv zv = .agg (z.map (dC ℓ)) := by rw [← (svC_d ℓ zv).1, ← h2]; rfl
    simp only [opBuild, h1, hcv, hu]
    split at h
    · rename_i s hs
      simp only [hs]
      obtain ⟨r, h3, rfl⟩ := Option.map_eq_some_iff.1 h
      exact congrArg (Option.map AV.agg) (fillAS_spec (ℓ := ℓ) _ _ _ h3)
    · cases h
  · cases h

/-! ### Zeros -/

theorem paC_nt : ∀ (t : Ty) (cs : List SV) (x : t.den) (r : List SV), paC t cs = some (x, r) → ∃ pre, cs = pre ++ r ∧ pre.map (fun c => nt1 (dC ℓ c)) = encC t x := by
  intro t
  induction t with
  | int k =>
    intro cs x r h
    cases cs with
    | nil => cases h
    | cons c cs =>
      cases c <;> first | (cases h; done) | skip
      simp only [paC] at h
      split at h
      · rename_i e; subst e; cases h; exact ⟨[_], rfl, rfl⟩
      · cases h
  | bool =>
    intro cs x r h
    cases cs with
    | nil => cases h
    | cons c cs => cases c <;> first | (cases h; done) | skip
                   cases h; exact ⟨[_], rfl, rfl⟩
  | str =>
    intro cs x r h
    cases cs with
    | nil => cases h
    | cons c cs => cases c <;> first | (cases h; done) | skip
                   cases h; exact ⟨[_], rfl, rfl⟩
  | row t ih =>
    intro cs x r h
    cases cs with
    | nil => cases h
    | cons c cs =>
      cases c <;> first | cases h | skip
      rename_i t' l tg
      simp only [paC] at h
      split at h
      · rename_i l' hl
        cases h
        refine ⟨[_], rfl, ?_⟩
        have := castL_spec hl false
        simp only [List.map_cons, List.map_nil, dC, d1]
        show [nt1 (rowAV t' l tg)] = _
        rw [show nt1 (rowAV t' l tg) = rowAV t' l false from rfl, this]
        rfl
      · cases h
  | unit => intro cs x r h; cases h; exact ⟨[], rfl, rfl⟩
  | cons a b iha ihb =>
    intro cs x r h
    simp only [paC] at h
    split at h
    · rename_i y r1 h1
      split at h
      · rename_i z r2 h2
        cases h
        obtain ⟨p1, rfl, f1⟩ := iha _ _ _ h1
        obtain ⟨p2, rfl, f2⟩ := ihb _ _ _ h2
        exact ⟨p1 ++ p2, by simp, by rw [List.map_append, f1, f2]; rfl⟩
      · cases h
    · cases h

theorem dzero_spec {e : TypeId} {t : Ty} {x : t.den} (h : dzero P e t = some x) : tzeroP P e = some (enc t x) := by
  unfold dzero at h
  obtain ⟨v, h1, h2⟩ := Option.bind_eq_some_iff.1 h
  obtain ⟨zv, h3, rfl⟩ := szero_spec h1
  unfold tzeroP
  rw [h3, Option.map_some, ← (svC_d (fun _ => 0) zv).1]
  congr 1
  generalize svC zv = v at h2
  unfold paT at h2
  split at h2
  · rename_i hagg
    split at h2
    · rename_i y hy
      cases h2
      obtain ⟨pre, e1, e2⟩ := paC_nt (ℓ := fun _ => 0) t _ _ _ hy
      rw [List.append_nil] at e1
      subst e1
      unfold enc wrap
      rw [← e2, ← hagg]
      cases v <;> first | rfl | (simp [SV.isAgg, SV.cells, dA, ntV]; done)
    · cases h2
  · cases h2

theorem fillSS_spec (ha : Agr ℓ H) {size : Nat} {t : Ty} : ∀ (ps : List (Nat × SV)) (es : List t.den) (l : List Nm) (r : List t.den × List Nm), (fillSS H size t es l ps).mean = some r → (∀ g ∈ l, IsArr H g) →
    fillS (dH ℓ H) size t.agg (es.map (enc t)) l (ps.map fun p => (p.1, dV ℓ p.2)) = some (r.1.map (enc t), r.2) ∧ (∀ g ∈ r.2, IsArr H g) := by
  intro ps
  induction ps with
  | nil => intro es l r h hl; have := Tr.mean_ret h; subst this; exact ⟨rfl, hl⟩
  | cons p ps ih =>
    intro es l r h hl
    obtain ⟨i, v⟩ := p
    simp only [fillSS] at h
    obtain ⟨⟨u, m⟩, h1, h2⟩ := Tr.mean_bind h
    obtain ⟨h3, h4⟩ := Tr.mean_when h2
    obtain ⟨c1, c2, c3, c4⟩ := of_decide_eq_true h3
    obtain ⟨y, h5, h6⟩ := Tr.mean_bind h4
    obtain ⟨h7, h8⟩ := Tr.mean_need h6
    obtain ⟨e1, e2⟩ := pureVS_spec ha h1
    have hv : dV ℓ v = dA ℓ v := by cases v <;> first | rfl | exact (Tr.mean_fail h1).elim
    have hy := paT_exact (ℓ := ℓ) (Tr.mean_of h5) c4
    simp only [List.map_cons, fillS, hv, e1]
    rw [if_pos ⟨by rw [cells_dA, List.length_map]; exact c1, by rw [isAgg_dA]; exact c2, by simpa using of_decide_eq_true h7, by rw [okV_dA]; exact c3⟩, hy, set_map_enc]
    exact ih _ _ _ h8 (fun g hg => (List.mem_append.1 hg).elim (hl g) (e2 g))

theorem NewOK.one {slot : Nat} {b : SB} {new : List SB} (h : NewOK ℓ slot (b :: new)) : ℓ (slot, 0) = b.len := h 0 b rfl

theorem opBuildSliceS_spec (ha : Agr ℓ H) {t : TypeId} {n : Nat} {ps : List (Nat × SV)} {slot : Nat} {r : SRes} (h : (opBuildSliceS P t n ps H slot).mean = some r) (hn : NewOK ℓ slot r.new) :
    opBuildSlice P t n (ps.map fun p => (p.1, dV ℓ p.2)) (dH ℓ H) slot = some (dR ℓ r) ∧ LenOK H r.wr := by
  unfold opBuildSliceS at h
  unfold opBuildSlice
  split at h
  · rename_i e he
    simp only [he]
    split at h
    · rename_i size agg ty h1 h2 h3
      obtain ⟨h4, hA⟩ := Tr.mean_when h
      obtain ⟨c1, c2, c3, c4⟩ := of_decide_eq_true h4
      clear h h4
      subst c3
      subst c4
      obtain ⟨z, h5, h⟩ := Tr.mean_bind hA
      obtain ⟨⟨es, l⟩, h6, h⟩ := Tr.mean_bind h
      have := Tr.mean_ret h; subst this
      obtain ⟨e1, e2⟩ := fillSS_spec ha _ _ _ _ h6 (fun g hg => by simp at hg)
      rw [List.map_replicate] at e1
      simp only [h1, h2, dzero_spec (Tr.mean_of h5)]
      rw [if_pos ⟨c1, c2, by rw [cells_enc, length_encC], okV_enc ty z⟩]
      simp only [e1]
      refine ⟨?_, stopsS_len _⟩
      have hl := hn.one
      have hlen : ∀ (ps : List (Nat × SV)) (es : List ty.den) (l : List Nm) (r : List ty.den × List Nm), (fillSS H ty.size ty es l ps).mean = some r → r.1.length = es.length := by
        intro ps
        induction ps with
        | nil => intro es l r h; have := Tr.mean_ret h; subst this; rfl
        | cons p ps ih =>
          intro es l r h
          obtain ⟨i, v⟩ := p
          simp only [fillSS] at h
          obtain ⟨_, _, h⟩ := Tr.mean_bind h
          obtain ⟨_, h⟩ := Tr.mean_when h
          obtain ⟨_, _, h⟩ := Tr.mean_bind h
          obtain ⟨_, h⟩ := Tr.mean_need h
          rw [ih _ _ _ h, List.length_set]
      have hl2 := hlen _ _ _ _ h6
      simp only [List.length_replicate] at hl2
      simp only [SB.len] at hl
      have hw : dW ℓ (stopsS H l) = stops (dH ℓ H) l := stopsS_spec e2
      simp only [dR, dV_own, hl, hl2, hw, List.map_cons, List.map_nil, dN, dB, Fz.n]
    · exact (Tr.mean_fail h).elim
  · exact (Tr.mean_fail h).elim

theorem opMakeSliceS_spec {t : TypeId} {l c : SV} {slot : Nat} {r : SRes} (h : (opMakeSliceS P t l c slot).mean = some r) (hn : NewOK ℓ slot r.new) :
    opMakeSlice P t (dV ℓ l) (dV ℓ c) slot = some (dR ℓ r) ∧ LenOK H r.wr := by
  unfold opMakeSliceS at h
  split at h
  · rename_i e k n k' m he
    split at h
    · rename_i size bytes ty h1 h2 h3
      obtain ⟨h4, hA⟩ := Tr.mean_when h
      obtain ⟨c1, c2, c3⟩ := of_decide_eq_true h4
      clear h h4
      subst c3
      obtain ⟨z, h5, h⟩ := Tr.mean_bind hA
      obtain ⟨h6, h⟩ := Tr.mean_need h
      have := Tr.mean_ret h; subst this
      obtain ⟨d1, d2, d3⟩ := of_decide_eq_true h6
      have hl := hn.one
      simp only [SB.len, List.length_replicate] at hl
      simp only [opMakeSlice, he, dV_int, h1, h2, dzero_spec (Tr.mean_of h5)]
      rw [if_pos ⟨d1, d2, d3, c1, c2, by rw [cells_enc, length_encC], okV_enc ty z⟩]
      refine ⟨?_, LenOK.nil⟩
      simp only [dR, dV_own, hl, dW, List.map_nil, List.map_cons, dN, dB, Fz.n, List.map_replicate]
    · exact (Tr.mean_fail h).elim
  · exact (Tr.mean_fail h).elim

theorem castL_map {t t' : Ty} {l : List t.den} {l' : List t'.den} (h : castL l = some l') : l.map (enc t) = l'.map (enc t') ∧ (t' = t ∨ l' = []) := by
  unfold castL at h
  split at h
  · rename_i e; subst e; cases h; exact ⟨rfl, .inl rfl⟩
  · split at h
    · cases h; exact ⟨rfl, .inr rfl⟩
    · cases h

theorem srcOfS_spec (ha : Agr ℓ H) {ty : Ty} {x : SV} {q : List ty.den × List Nm} (h : (srcOfS H ty x).mean = some q) : ∃ sz, srcOf (dH ℓ H) (dV ℓ x) = some (sz, q.1.map (enc ty), q.2) ∧ (sz = ty.size ∨ q.1.map (enc ty) = []) := by
  unfold srcOfS at h
  split at h
  · rename_i t l tg
    obtain ⟨l', h1, rfl⟩ := Tr.mean_map h
    obtain ⟨e1, e2⟩ := castL_map (Tr.mean_of h1)
    simp only [dV_row, rowAV, srcOf, e1]
    refine ⟨_, rfl, ?_⟩
    cases l' with
    | nil => exact .inr rfl
    | cons y ys =>
      rcases e2 with rfl | e2
      · exact .inl rfl
      · cases e2
  · rename_i t g
    split at h
    · rename_i t' l z hg
      obtain ⟨h0, hA⟩ := Tr.mean_when h
      obtain ⟨h0, hps⟩ := of_decide_eq_true h0
      subst h0
      obtain ⟨l', h1, rfl⟩ := Tr.mean_map hA
      obtain ⟨e1, e2⟩ := castL_map (Tr.mean_of h1)
      have hl : ℓ g = l.length := ha g _ hg
      simp only [dV_own, srcOf, get_dH, hg, Option.bind_some, dB, hl]
      refine ⟨t'.size, ?_, ?_⟩
      · rw [if_pos (by simp [hps])]
        simp only [List.drop_zero]
        rw [List.take_of_length_le (by simp), e1]
      · rcases e2 with rfl | e2
        · exact .inl rfl
        · exact .inr (by rw [e2]; rfl)
    · exact (Tr.mean_fail h).elim
  · rename_i t g off len
    split at h
    · rename_i t' l z hg
      obtain ⟨h0, hA⟩ := Tr.mean_when h
      obtain ⟨h0, hps⟩ := of_decide_eq_true h0
      subst h0
      obtain ⟨h2, hB⟩ := Tr.mean_need hA
      obtain ⟨l', h1, rfl⟩ := Tr.mean_map hB
      obtain ⟨e1, e2⟩ := castL_map (Tr.mean_of h1)
      simp only [dV_part, srcOf, get_dH, hg, Option.bind_some, dB]
      refine ⟨t'.size, ?_, ?_⟩
      · rw [if_pos (by simpa [hps] using of_decide_eq_true h2)]
        simp only [e1, List.map_drop, List.map_take]
      · rcases e2 with rfl | e2
        · exact .inl rfl
        · exact .inr (by rw [e2]; simp)
    · exact (Tr.mean_fail h).elim
  · exact (Tr.mean_fail h).elim

theorem fz_grow (z : Fz) (a b : Nat) : (z.grow b).n (a + b) = z.n a := by
  cases z <;> simp only [Fz.grow, Fz.n] <;> omega
theorem fz_le (z : Fz) (a : Nat) : z.n a ≤ a := by
  cases z <;> simp only [Fz.n] <;> omega

theorem opAppendS_spec (ha : Agr ℓ H) {t : TypeId} {s x : SV} {slot : Nat} {r : SRes} (h : (opAppendS P t s x H slot).mean = some r) (hn : NewOK ℓ slot r.new) :
    opAppend P t (dV ℓ s) (dV ℓ x) (dH ℓ H) slot = some (dR ℓ r) ∧ LenOK H r.wr := by
  unfold opAppendS at h
  unfold opAppend
  split at h
  · rename_i e he
    simp only [he]
    split at h
    · rename_i size bytes z ty h1 h2 h3 h4
      obtain ⟨h5, hA⟩ := Tr.mean_when h
      obtain ⟨c1, c2, c3, c4, c5⟩ := of_decide_eq_true h5
      clear h h5
      subst c5
      obtain ⟨⟨ys, m⟩, h6, h⟩ := Tr.mean_bind hA
      obtain ⟨sz, e1, e2⟩ := srcOfS_spec ha h6
      simp only [h1, h2, h3, e1]
      rw [if_pos ⟨c1, c2, c3, c4, e2⟩]
      simp only at h
      -- a block that grows
      have grown : ∀ (g : Nm) (l : List ty.den) (len : Nat) (z zz : Fz), getS H g = some (.arr ty l z) → len ≤ l.length → z.n l.length ≤ len → zz.n (len + ys.length) = z.n l.length → len + ys.length ≤ 4294967296 →
          r = { val := .own ty (slot, 0), rd := g :: m, wr := [(g, .dead l.length)], new := [.arr ty (l.take len ++ ys) zz] } →
          (if True ∧ True ∧ True ∧ len ≤ (l.map (enc ty)).length ∧ True ∧ z.n l.length ≤ len ∧ len + (ys.map (enc ty)).length ≤ 4294967296 then
            some ({ val := .own (slot, 0) ty.size 0 (len + (ys.map (enc ty)).length), rd := g :: m, wr := [(g, none)], new := [⟨ty.size, (l.map (enc ty)).take len ++ ys.map (enc ty), z.n l.length, false⟩] } : Res) else none) = some (dR ℓ r) ∧ LenOK H r.wr := by
        intro g l len z zz hg hlen hz hzz hle hr
        subst hr
        have hl := hn.one
        have htl : (l.take len).length = len := by simp; omega
        simp only [SB.len, List.length_append, htl] at hl
        rw [if_pos ⟨trivial, trivial, trivial, by simpa using hlen, trivial, hz, by simpa using hle⟩]
        refine ⟨?_, LenOK.one hg rfl⟩
        simp only [dR, dV_own, hl, dW, List.map_cons, List.map_nil, dB, dN, List.map_append, List.length_append, htl, hzz, List.length_map, List.map_take]
      split at h
      · rename_i t' l
        obtain ⟨l', h7, h⟩ := Tr.mean_bind h
        obtain ⟨f1, f2⟩ := castL_map (Tr.mean_of h7)
        have key : ((l' = [] ∨ ys ≠ []) ∧ (Tr.need (decide (l'.length + ys.length ≤ 4294967296)) (.ret ({ val := .own ty (slot, 0), rd := m, new := [.arr ty (l' ++ ys) .zero] } : SRes))).mean = some r) ∨ (l' ≠ [] ∧ ys = [] ∧ ({ val := .row ty l' true, rd := m } : SRes) = r) := by
          have h : cond l'.isEmpty _ _ = some r := h
          cases hle : l'.isEmpty
          · rw [hle] at h
            have h : cond ys.isEmpty _ _ = some r := h
            cases hye : ys.isEmpty
            · rw [hye] at h
              exact .inl ⟨.inr (fun e => by subst e; cases hye), h⟩
            · rw [hye] at h
              exact .inr ⟨(fun e => by subst e; cases hle), List.isEmpty_iff.1 hye, Tr.mean_ret h⟩
          · rw [hle] at h
            exact .inl ⟨.inl (List.isEmpty_iff.1 hle), h⟩
        clear h
        rcases key with ⟨hc, h⟩ | ⟨hln, hy, hr⟩
        · obtain ⟨h8, h⟩ := Tr.mean_need h
          have := Tr.mean_ret h; subst this
          have h8 := of_decide_eq_true h8
          have hl := hn.one
          simp only [SB.len, List.length_append] at hl
          simp only [dV_row, rowAV, f1]
          rw [if_neg (by
            rintro ⟨a, b⟩
            rcases hc with hc | hc
            · exact b (by rw [hc]; rfl)
            · exact hc (List.map_eq_nil_iff.1 a)), if_pos]
          · refine ⟨?_, LenOK.nil⟩
            simp only [dR, dV_own, hl, dW, List.map_cons, List.map_nil, dB, dN, List.map_append, Fz.n, List.length_map]
          · refine ⟨trivial, ?_, ?_, ?_⟩
            · cases l' with
              | nil => exact .inr rfl
              | cons y ys =>
                rcases f2 with rfl | f2
                · exact .inl rfl
                · cases f2
            · rcases hc with hc | hc
              · exact .inl (by rw [hc]; rfl)
              · exact .inr (by simpa using List.length_pos_iff.2 hc)
            · simpa using h8
        · subst hy hr
          simp only [dV_row, rowAV, f1]
          cases l' with
          | nil => exact absurd rfl hln
          | cons y ys =>
            rw [if_pos ⟨rfl, fun e => by cases e⟩, if_pos (by
              rcases f2 with rfl | f2
              · rfl
              · cases f2)]
            exact ⟨by simp only [dR, dV_row, rowAV, dW, List.map_nil]; rfl, LenOK.nil⟩
      · rename_i t' g
        split at h
        · rename_i t2 l z hg
          split at h
          · rename_i ht
            subst ht
            obtain ⟨h7, h⟩ := Tr.mean_when h
            have h7 := of_decide_eq_true h7
            subst h7
            obtain ⟨h8, h⟩ := Tr.mean_need h
            have := Tr.mean_ret h
            have hlen : ℓ g = l.length := ha g _ hg
            simp only [dV_own, get_dH, hg, Option.bind_some, dB, hlen]
            exact grown g l l.length z (z.grow ys.length) hg (Nat.le_refl _) (fz_le z _) (fz_grow z _ _) (of_decide_eq_true h8) (by rw [List.take_length]; exact this.symm)
          · exact (Tr.mean_fail h).elim
        · exact (Tr.mean_fail h).elim
      · rename_i t' g off len
        split at h
        · rename_i t2 l z hg
          split at h
          · rename_i ht
            subst ht
            obtain ⟨h7, h⟩ := Tr.mean_when h
            have h7 := of_decide_eq_true h7
            subst h7
            split at h
            · obtain ⟨h8, h⟩ := Tr.mean_need h
              have := Tr.mean_ret h
              obtain ⟨rfl, h8, h9⟩ := of_decide_eq_true h8
              simp only [dV_part, get_dH, hg, Option.bind_some, dB]
              exact grown g l len .zero .zero hg h8 (Nat.zero_le _) rfl h9 this.symm
            · obtain ⟨h8, h⟩ := Tr.mean_need h
              have := Tr.mean_ret h
              obtain ⟨rfl, rfl, h9⟩ := of_decide_eq_true h8
              simp only [dV_part, get_dH, hg, Option.bind_some, dB]
              exact grown g l l.length z (z.grow ys.length) hg (Nat.le_refl _) (fz_le z _) (fz_grow z _ _) h9 (by rw [List.take_length]; exact this.symm)
          · exact (Tr.mean_fail h).elim
        · exact (Tr.mean_fail h).elim
      · exact (Tr.mean_fail h).elim
    · exact (Tr.mean_fail h).elim
  · exact (Tr.mean_fail h).elim


/-! ### copy, clear -/

theorem spliceL_map {α β : Type} (f : α → β) (l : List α) (off : Nat) (new : List α) : (spliceL l off new).map f = (l.map f).take off ++ new.map f ++ (l.map f).drop (off + (new.map f).length) := by
  simp [spliceL, List.map_append, List.map_take, List.map_drop]
theorem spliceL_length {α : Type} {l : List α} {off : Nat} {new : List α} (h : off + new.length ≤ l.length) : (spliceL l off new).length = l.length := by
  simp [spliceL]; omega

theorem midS {g : Nm} {ty : Ty} {l : List ty.den} {off : Nat} {new : List ty.den} {v : SV} {rd : List Nm} (hg : getS H g = some (.arr ty l .zero)) (hle : off + new.length ≤ l.length) :
    dR ℓ ({ val := v, rd := rd, wr := [(g, .arr ty (spliceL l off new) .zero)] } : SRes) = ({ val := dV ℓ v, rd := rd, wr := [(g, some ⟨ty.size, splice (l.map (enc ty)) off (new.map (enc ty)), 0, false⟩)] } : Res) ∧ LenOK H [(g, .arr ty (spliceL l off new) .zero)] := by
  refine ⟨?_, LenOK.one hg (spliceL_length hle)⟩
  simp only [dR, dW, List.map_cons, List.map_nil, dB, spliceL_map, Fz.n, splice]

theorem opCopyS_spec (ha : Agr ℓ H) {t : TypeId} {d x : SV} {r : SRes} (h : (opCopyS P t d x H).mean = some r) : opCopy P t (dV ℓ d) (dV ℓ x) (dH ℓ H) = some (dR ℓ r) ∧ LenOK H r.wr := by
  unfold opCopyS at h
  unfold opCopy
  split at h
  · rename_i e he
    simp only [he]
    split at h
    · rename_i size ty h1 h2
      obtain ⟨h3, hA⟩ := Tr.mean_when h
      obtain ⟨c1, c2⟩ := of_decide_eq_true h3
      clear h h3
      subst c2
      obtain ⟨⟨ys, m⟩, h4, h⟩ := Tr.mean_bind hA
      obtain ⟨sz, e1, e2⟩ := srcOfS_spec ha h4
      simp only [h1, e1]
      simp only at h
      split at h
      · rename_i t' g
        split at h
        · rename_i t2 l hg
          split at h
          · rename_i ht
            subst ht
            obtain ⟨h5, h⟩ := Tr.mean_when h
            have h5 := of_decide_eq_true h5
            subst h5
            have := Tr.mean_ret h; subst this
            have hlen : ℓ g = l.length := ha g _ hg
            have hle : 0 + (ys.take l.length).length ≤ l.length := by simp; omega
            obtain ⟨m1, m2⟩ := midS (ℓ := ℓ) (v := .int .i64 (min ys.length l.length : Nat)) (rd := g :: m) hg hle
            simp only [dV_own, get_dH, hg, Option.bind_some, dB, hlen]
            rw [if_pos ⟨trivial, trivial, c1, by simp, trivial, Nat.le_refl _, e2⟩, m1]
            exact ⟨by simp only [List.map_take, List.length_map, dV_int, Fz.n], m2⟩
          · exact (Tr.mean_fail h).elim
        · exact (Tr.mean_fail h).elim
      · rename_i t' g off len
        split at h
        · rename_i t2 l hg
          split at h
          · rename_i ht
            subst ht
            obtain ⟨h5, h⟩ := Tr.mean_when h
            have h5 := of_decide_eq_true h5
            subst h5
            obtain ⟨h6, h⟩ := Tr.mean_need h
            have h6 := of_decide_eq_true h6
            have := Tr.mean_ret h; subst this
            have hle : off + (ys.take len).length ≤ l.length := by simp; omega
            obtain ⟨m1, m2⟩ := midS (ℓ := ℓ) (v := .int .i64 (min ys.length len : Nat)) (rd := g :: m) hg hle
            simp only [dV_part, get_dH, hg, Option.bind_some, dB]
            rw [if_pos ⟨trivial, trivial, c1, by simpa using h6, trivial, Nat.zero_le _, e2⟩, m1]
            exact ⟨by simp only [List.map_take, List.length_map, dV_int, Fz.n], m2⟩
          · exact (Tr.mean_fail h).elim
        · exact (Tr.mean_fail h).elim
      · exact (Tr.mean_fail h).elim
    · exact (Tr.mean_fail h).elim
  · exact (Tr.mean_fail h).elim

theorem opClearS_spec (ha : Agr ℓ H) {t : TypeId} {d : SV} {r : SRes} (h : (opClearS P t d H).mean = some r) : opClear P t (dV ℓ d) (dH ℓ H) = some (dR ℓ r) ∧ LenOK H r.wr := by
  unfold opClearS at h
  unfold opClear
  split at h
  · rename_i e he
    simp only [he]
    split at h
    · rename_i size ty h1 h2
      obtain ⟨h3, hA⟩ := Tr.mean_when h
      obtain ⟨c1, c2⟩ := of_decide_eq_true h3
      clear h h3
      subst c2
      obtain ⟨z, h4, h⟩ := Tr.mean_bind hA
      have z1 := dzero_spec (Tr.mean_of h4)
      have z2 : (enc ty z).cells.length = ty.size := by rw [cells_enc, length_encC]
      have z3 : okV (enc ty z) = true := okV_enc ty z
      simp only [h1, z1]
      split at h
      · rename_i t' g
        split at h
        · rename_i t2 l hg
          split at h
          · rename_i ht
            subst ht
            obtain ⟨h5, h⟩ := Tr.mean_when h
            have h5 := of_decide_eq_true h5
            subst h5
            have := Tr.mean_ret h; subst this
            have hlen : ℓ g = l.length := ha g _ hg
            have hle : 0 + (List.replicate l.length z).length ≤ l.length := by simp
            obtain ⟨m1, m2⟩ := midS (ℓ := ℓ) (v := .tup []) (rd := [g]) hg hle
            simp only [dV_own, get_dH, hg, Option.bind_some, dB, hlen]
            rw [if_pos ⟨trivial, trivial, c1, by simp, trivial, Nat.le_refl _, z2, z3⟩, m1]
            exact ⟨by simp only [List.map_replicate, List.length_map, dV_tup, List.map_nil, Fz.n], m2⟩
          · exact (Tr.mean_fail h).elim
        · exact (Tr.mean_fail h).elim
      · rename_i t' g off len
        split at h
        · rename_i t2 l hg
          split at h
          · rename_i ht
            subst ht
            obtain ⟨h5, h⟩ := Tr.mean_when h
            have h5 := of_decide_eq_true h5
            subst h5
            obtain ⟨h6, h⟩ := Tr.mean_need h
            have h6 := of_decide_eq_true h6
            have := Tr.mean_ret h; subst this
            have hle : off + (List.replicate len z).length ≤ l.length := by simp; omega
            obtain ⟨m1, m2⟩ := midS (ℓ := ℓ) (v := .tup []) (rd := [g]) hg hle
            simp only [dV_part, get_dH, hg, Option.bind_some, dB]
            rw [if_pos ⟨trivial, trivial, c1, by simpa using h6, trivial, Nat.zero_le _, z2, z3⟩, m1]
            exact ⟨by simp only [List.map_replicate, List.length_map, dV_tup, List.map_nil, Fz.n], m2⟩
          · exact (Tr.mean_fail h).elim
        · exact (Tr.mean_fail h).elim
      · exact (Tr.mean_fail h).elim
    · exact (Tr.mean_fail h).elim
  · exact (Tr.mean_fail h).elim

theorem opLenS_spec (ha : Agr ℓ H) {t : TypeId} {x u : SV} (h : opLenS P t x H = some u) : opLen P t (dV ℓ x) = some (dV ℓ u) := by
  unfold opLenS at h
  unfold opLen
  split at h
  · rename_i hu; cases h; simp only [hu]; rfl
  · rename_i hu
    simp only [hu]
    cases x with
    | row t l b => cases h; simp [dV_row, rowAV, dV_int]
    | own t g =>
      simp only at h
      split at h
      · rename_i b hb
        cases h
        simp only [dV_own, dV_int, ha g b hb]
      · cases h
    | part t g off len => cases h; simp only [dV_part, dV_int]
    | _ => cases h
  · rename_i hu
    simp only [hu]
    cases x with
    | str s => cases h; rfl
    | _ => cases h
  · cases h

theorem minS_spec : ∀ (r : List SV) (x u : SV), minS x r = some u → minA (dV ℓ x) (r.map (dV ℓ)) = some (dV ℓ u) := by
  intro r
  induction r with
  | nil =>
    intro x u h
    unfold minS at h
    split at h
    · cases h; rfl
    · cases h
  | cons y r ih =>
    intro x u h
    unfold minS at h
    split at h
    · rename_i e; cases e
    · rename_i e
      cases e
      split at h
      · rename_i e; subst e
        simp only [List.map_cons, dV_int, minA, if_true]
        exact ih _ _ h
      · cases h
    · cases h

theorem maxS_spec : ∀ (r : List SV) (x u : SV), maxS x r = some u → maxA (dV ℓ x) (r.map (dV ℓ)) = some (dV ℓ u) := by
  intro r
  induction r with
  | nil =>
    intro x u h
    unfold maxS at h
    split at h
    · cases h; rfl
    · cases h
  | cons y r ih =>
    intro x u h
    unfold maxS at h
    split at h
    · rename_i e; cases e
    · rename_i e
      cases e
      split at h
      · rename_i e; subst e
        simp only [List.map_cons, dV_int, maxA, if_true]
        exact ih _ _ h
      · cases h
    · cases h

end
/-- The lengths of the blocks that are handed over. -/
def SubAgr (ℓ : Lens) (sub : List SB) : Prop := ∀ (j : Nat) (b : SB), sub[j]? = some b → ℓ (j, 0) = b.len

def dO (ℓ : Lens) (out : SOut) : Out := (dV ℓ out.1, out.2.1.map (dB ℓ), out.2.2.map (dN ℓ))

/-- The call is the model's. -/
def CallOK (P : Program) (f : FuncId) (c : SCall) : Prop := ∀ (args : List SV) (sub : List SB) (out : SOut), (c args sub).mean = some out →
  ∀ ℓ0 ℓ' : Lens, SubAgr ℓ0 sub → SubAgr ℓ' (out.2.1 ++ out.2.2) → Entered P f ∧ Contract P f (args.map (dV ℓ0)) (sub.map (dN ℓ0)) (dO ℓ' out)

open Classical in
/-- One call alone is told. -/
noncomputable def only (f : FuncId) (args : List AV) (sub : List Blk) (out : Out) : CL := fun f' args' sub' => if f' = f ∧ args' = args ∧ sub' = sub then some out else none

theorem only_self (f : FuncId) (args : List AV) (sub : List Blk) (out : Out) : only f args sub out f args sub = some out := by simp [only]

theorem only_sound {P : Program} {f : FuncId} {args : List AV} {sub : List Blk} {out : Out} (h : Entered P f ∧ Contract P f args sub out) : Sound P (only f args sub out) := by
  intro f' args' sub' out' h'
  unfold only at h'
  split at h'
  · rename_i e
    obtain ⟨rfl, rfl, rfl⟩ := e
    cases h'
    exact h
  · cases h'

theorem none_sound {P : Program} : Sound P (fun _ _ _ => none) := fun _ _ _ _ h => by cases h

section
variable {P : Program} {H : SHeap} {ℓ ℓ0 ℓ' : Lens}
theorem dN_alive {b : SB} (h : b.alive = true) : dB ℓ b = some (dN ℓ b) := by cases b <;> first | rfl | cases h

theorem pure1S_row {v u : SV} {l : List Nm} (h : (pure1S H v).mean = some (u, l)) : (∀ ℓ ℓ' : Lens, dC ℓ u = dC ℓ' u) ∧ isOne u = true := by
  cases v with
  | own t g =>
    simp only [pure1S] at h
    split at h
    · split at h
      · split at h
        · have := Tr.mean_ret h; cases this; exact ⟨fun _ _ => rfl, rfl⟩
        · exact (Tr.mean_fail h).elim
      · exact (Tr.mean_fail h).elim
    · exact (Tr.mean_fail h).elim
  | part t g off len =>
    simp only [pure1S] at h
    split at h
    · split at h
      · split at h
        · obtain ⟨_, h⟩ := Tr.mean_need h
          have := Tr.mean_ret h; cases this; exact ⟨fun _ _ => rfl, rfl⟩
        · exact (Tr.mean_fail h).elim
      · exact (Tr.mean_fail h).elim
    · exact (Tr.mean_fail h).elim
  | row t l' tg => have := Tr.mean_ret h; cases this; exact ⟨fun _ _ => rfl, rfl⟩
  | undef | int k n | bool b | str s | nilp | nilf => have := Tr.mean_ret h; cases this; exact ⟨fun _ _ => rfl, rfl⟩
  | _ => exact (Tr.mean_fail h).elim

theorem lend1S_spec (ha : Agr ℓ H) {share : Bool} {f : Ren} (hg : Goes f ℓ ℓ0) {v u : SV} (h : (lend1S H share f v).mean = some u) :
    lend1 (dH ℓ H) share f (dC ℓ v) = some (dC ℓ0 u) ∧ isOne v = true ∧ isOne u = true ∧ (share = false → ∀ g ∈ lentNamesS v, IsArr H g) := by
  have own : ∀ (w : SV), (match share with | true => False | false => True) → w.isAgg = false → dC ℓ w = d1 ℓ w → ((pure1S H w).map (·.1)).mean = some u →
      (pure1 (dH ℓ H) (dC ℓ w)).map (·.1) = some (dC ℓ0 u) ∧ isOne u = true ∧ ∃ l, (pure1S H w).mean = some (u, l) := by
    intro w _ _ hd hm
    obtain ⟨⟨u', l⟩, h1, rfl⟩ := Tr.mean_map hm
    obtain ⟨e1, _, _, _, _, e2⟩ := pure1S_spec ha h1
    obtain ⟨e3, e4⟩ := pure1S_row h1
    refine ⟨?_, e4, l, h1⟩
    rw [hd, e1, Option.map_some]
    simp only
    rw [← e2, e3 ℓ ℓ0]
  cases v with
  | own t g =>
    cases share with
    | true =>
      simp only [lend1S, if_true] at h
      split at h
      · rename_i g' hgg
        have := Tr.mean_ret h; subst this
        exact ⟨by simp only [dC, d1, lend1, if_true, hgg, hg g g' hgg], rfl, rfl, fun e => by cases e⟩
      · exact (Tr.mean_fail h).elim
    | false =>
      simp only [lend1S, Bool.false_eq_true, if_false] at h
      obtain ⟨e1, e2, l, e3⟩ := own _ trivial rfl rfl h
      refine ⟨e1, rfl, e2, fun _ g' hg' => ?_⟩
      simp [lentNamesS] at hg'
      subst hg'
      simp only [pure1S] at e3
      split at e3
      · rename_i hq; exact ⟨_, _, _, hq⟩
      · exact (Tr.mean_fail e3).elim
  | part t g off len =>
    cases share with
    | true =>
      simp only [lend1S, if_true] at h
      split at h
      · rename_i g' hgg
        have := Tr.mean_ret h; subst this
        exact ⟨by simp only [dC, d1, lend1, if_true, hgg], rfl, rfl, fun e => by cases e⟩
      · exact (Tr.mean_fail h).elim
    | false =>
      simp only [lend1S, Bool.false_eq_true, if_false] at h
      obtain ⟨e1, e2, l, e3⟩ := own _ trivial rfl rfl h
      refine ⟨e1, rfl, e2, fun _ g' hg' => ?_⟩
      simp [lentNamesS] at hg'
      subst hg'
      simp only [pure1S] at e3
      split at e3
      · rename_i hq; exact ⟨_, _, _, hq⟩
      · exact (Tr.mean_fail e3).elim
  | row t l tg =>
    have := Tr.mean_ret h; subst this
    refine ⟨?_, rfl, rfl, fun _ g' hg' => by simp [lentNamesS] at hg'⟩
    simp only [dC, d1, rowAV, lend1, lsz_idem]
  | agg cs => exact (Tr.mean_fail h).elim
  | tup vs => exact (Tr.mean_fail h).elim
  | ptr g sz i off =>
    have := Tr.mean_ret h; subst this
    refine ⟨?_, rfl, ?_, fun _ g' hg' => by simp [lentNamesS] at hg'⟩
    · rw [← renC_d hg]; rfl
    · simp only [renCS, ren1S]; cases f g <;> rfl
  | clo fn cs =>
    have := Tr.mean_ret h; subst this
    exact ⟨by rw [← renC_d hg]; rfl, rfl, rfl, fun _ g' hg' => by simp [lentNamesS] at hg'⟩
  | _ =>
    have := Tr.mean_ret h; subst this
    exact ⟨by rw [← renC_d hg]; rfl, rfl, rfl, fun _ g' hg' => by simp [lentNamesS] at hg'⟩

theorem flatMap_same {α β : Type} {l : List α} {f g : α → List β} (h : ∀ a ∈ l, f a = g a) : l.flatMap f = l.flatMap g := by
  induction l with
  | nil => rfl
  | cons a r ih => rw [List.flatMap_cons, List.flatMap_cons, h a (by simp), ih (fun x hx => h x (by simp [hx]))]

theorem mapM_of {α β : Type} {f : α → Option β} : ∀ {l : List α} {m : List β}, m.length = l.length → (∀ (i : Nat) (a : α), l[i]? = some a → ∃ b, m[i]? = some b ∧ f a = some b) → l.mapM f = some m := by
  intro l
  induction l with
  | nil =>
    intro m hl _
    cases m with
    | nil => rfl
    | cons _ _ => cases hl
  | cons a r ih =>
    intro m hl h
    cases m with
    | nil => cases hl
    | cons b m =>
      obtain ⟨b', h1, h2⟩ := h 0 a rfl
      cases h1
      rw [List.mapM_cons, h2, ih (by simpa using hl) (fun i x hx => h (i + 1) x (by simpa using hx))]
      rfl

theorem lendVS_spec (ha : Agr ℓ H) {share : Bool} {f : Ren} (hg : Goes f ℓ ℓ0) {v u : SV} (hv : notTup v = true) (h : (lendVS H share f v).mean = some u) :
    lendV (dH ℓ H) share f (dV ℓ v) = some (dV ℓ0 u) ∧ (share = false → ∀ g ∈ lentNamesS v, IsArr H g) := by
  have one : (lend1S H share f v).mean = some u → v.isAgg = false → lendV (dH ℓ H) share f (dV ℓ v) = some (dV ℓ0 u) ∧ (share = false → ∀ g ∈ lentNamesS v, IsArr H g) := by
    intro h hagg
    obtain ⟨e1, e2, e3, e4⟩ := lend1S_spec ha hg h
    rw [(isOne_d e2 ℓ).1, (isOne_d e3 ℓ0).1]
    refine ⟨?_, e4⟩
    rw [← e1]
    cases v <;> first | rfl | cases hagg
  cases v with
  | agg cs =>
    obtain ⟨us, h1, rfl⟩ := Tr.mean_map h
    obtain ⟨e1, e2⟩ := Tr.mean_mapM h1
    refine ⟨?_, fun hs g hgm => ?_⟩
    · simp only [dV_agg, lendV]
      rw [mapM_of (m := us.map (dC ℓ0)) (by simp [e1]) (fun i a hi => ?_)]
      · rfl
      · rw [List.getElem?_map] at hi
        obtain ⟨c, h2, rfl⟩ := Option.map_eq_some_iff.1 hi
        obtain ⟨b, h3, h4⟩ := e2 i c h2
        exact ⟨dC ℓ0 b, by rw [List.getElem?_map, h3]; rfl, (lend1S_spec ha hg h4).1⟩
    · simp only [lentNamesS, List.mem_flatMap] at hgm
      obtain ⟨c, hc, hgc⟩ := hgm
      obtain ⟨i, hi⟩ := List.getElem?_of_mem hc
      obtain ⟨b, h3, h4⟩ := e2 i c hi
      refine (lend1S_spec ha hg h4).2.2.2 hs g ?_
      cases c <;> first | exact hgc | (simp at hgc; done)
  | tup vs => cases hv
  | _ => exact one h rfl

theorem lentNames_d {v : SV} (hv : notTup v = true) : lentNames (dV ℓ v) = lentNamesS v := by
  cases v with
  | agg cs =>
    simp only [dV_agg, lentNames, lentNamesS, List.flatMap_map]
    congr 1
    funext c
    cases c <;> rfl
  | tup vs => cases hv
  | _ => rfl

theorem scal_d (v : SV) : scal (dV ℓ v) = scalS v := by
  have h1 : ∀ c, scal1 (d1 ℓ c) = scal1 (d1 (fun _ => 0) c) := fun c => by cases c <;> rfl
  have hC : ∀ c, scal1 (dC ℓ c) = scal1 (dC (fun _ => 0) c) := fun c => by cases c <;> rfl
  have hA : ∀ c, scalA (dA ℓ c) = scalA (dA (fun _ => 0) c) := fun c => by
    cases c with
    | agg cs => simp only [dA, scalA, List.all_map]; congr 1; funext c; exact hC c
    | _ => rfl
  unfold scalS
  cases v with
  | tup vs => simp only [dV, scal, List.all_map]; congr 1; funext c; exact hA c
  | agg cs => exact hA (.agg cs)
  | _ => rfl

theorem lensEq_spec : ∀ (a b : List SB), lensEq a b = true → b.length = a.length ∧ ∀ (i : Nat) (x y : SB), a[i]? = some x → b[i]? = some y → y.len = x.len := by
  intro a
  induction a with
  | nil =>
    intro b h
    cases b with
    | nil => exact ⟨rfl, fun i x y h => by simp at h⟩
    | cons _ _ => simp [lensEq] at h
  | cons x r ih =>
    intro b h
    cases b with
    | nil => cases x <;> simp [lensEq] at h
    | cons y r' =>
      have key : y.len = x.len ∧ lensEq r r' = true := by
        unfold lensEq at h
        split at h
        · rename_i e1 e2; cases e1; cases e2; exact ⟨rfl, h⟩
        · rename_i e1 e2; cases e1; cases e2; simpa using h
        · rename_i e1 e2; cases e1
        · cases h
      obtain ⟨h1, h2⟩ := ih r' key.2
      refine ⟨by simp [h1], fun i u w e1 e2 => ?_⟩
      cases i with
      | zero => simp at e1 e2; subst e1; subst e2; exact key.1
      | succ i => exact h2 i u w (by simpa using e1) (by simpa using e2)

theorem renBS_alive (f : Ren) (b : SB) : (renBS f b).alive = b.alive := by cases b <;> rfl

theorem opCallS_spec (ha : Agr ℓ H) {f : FuncId} {share : Bool} {call : SCall} (hc : CallOK P f call) {args : List SV} {slot : Nat} {r : SRes} (h : (opCallS share call args H slot).mean = some r) (hn : NewOK ℓ slot r.new) :
    ∃ c : CL, Sound P c ∧ opCall share (c f) (args.map (dV ℓ)) (dH ℓ H) slot = some (dR ℓ r) ∧ LenOK H r.wr := by
  unfold opCallS at h
  simp only at h
  generalize hlent : (if share = true then [] else args.flatMap lentNamesS) = lent at h
  generalize hR : reachS H (args.flatMap (if share = true then fun v => seedsVS v ++ lentNamesS v else seedsVS)) = R at h
  split at h
  · exact (Tr.mean_fail h).elim
  · rename_i hcond
    simp only [Bool.or_eq_true, not_or, Bool.not_eq_true, Bool.not_eq_false', Bool.not_eq_eq_eq_not, Bool.not_true, Bool.not_false] at hcond
    obtain ⟨hdis, hnt⟩ := hcond
    have hnt : ∀ v ∈ args, notTup v = true := by simpa using hnt
    obtain ⟨args', h1, h⟩ := Tr.mean_bind h
    split at h
    · rename_i sub hsub
      obtain ⟨out, h2, h⟩ := Tr.mean_bind h
      obtain ⟨h3, h⟩ := Tr.mean_need h
      obtain ⟨h4, h⟩ := Tr.mean_when h
      have := Tr.mean_ret h; subst this
      obtain ⟨L1, L2⟩ := lensEq_spec _ _ h3
      have hal : ∀ b ∈ out.2.2, b.alive = true := by simpa using h4
      obtain ⟨S1, S2⟩ := mapM_some _ _ _ hsub
      let f0 : Ren := fun g => (idxOf g R 0).map fun i => (i, 0)
      let l0 : Lens := fun g => match R[g.1]? with
        | some g' => ℓ g'
        | none => 0
      let b := renBack R slot
      let l1 : Lens := fun g => match b g with
        | some g' => ℓ g'
        | none => 0
      have hg0 : Goes f0 ℓ l0 := by
        intro g g' e
        obtain ⟨i, hi, rfl⟩ := Option.map_eq_some_iff.1 e
        obtain ⟨_, hR⟩ := idxOf_spec g R 0 i hi
        simp only [Nat.sub_zero] at hR
        show (match R[i]? with | some g' => ℓ g' | none => 0) = ℓ g
        rw [hR]
      have hg1 : Goes b l1 ℓ := by
        intro g g' e
        show ℓ g' = (match b g with | some g' => ℓ g' | none => 0)
        rw [e]
      have hsub0 : SubAgr l0 sub := by
        intro j x hj
        have hjR : j < R.length := by rw [← S1]; exact (List.getElem?_eq_some_iff.1 hj).1
        obtain ⟨y, e1, e2⟩ := S2 j R[j] (List.getElem?_eq_getElem hjR)
        rw [hj] at e1
        cases e1
        obtain ⟨b0, e3, e4⟩ := Option.bind_eq_some_iff.1 e2
        split at e4
        · cases e4
          show (match R[j]? with | some g' => ℓ g' | none => 0) = _
          rw [List.getElem?_eq_getElem hjR, renBS_len]
          exact ha _ _ e3
        · cases e4
      have hlenR : out.2.1.length = R.length := by rw [L1, S1]
      have hout : SubAgr l1 (out.2.1 ++ out.2.2) := by
        intro j x hj
        rcases Nat.lt_or_ge j R.length with hlt | hge
        · rw [List.getElem?_append_left (by omega)] at hj
          have hb : b (j, 0) = some R[j] := by simp [b, renBack, hlt]
          show (match b (j, 0) with | some g' => ℓ g' | none => 0) = _
          rw [hb]
          have hjs : j < sub.length := by omega
          obtain ⟨y, e1, e2⟩ := S2 j R[j] (List.getElem?_eq_getElem hlt)
          obtain ⟨b0, e3, e4⟩ := Option.bind_eq_some_iff.1 e2
          split at e4
          · cases e4
            rw [L2 j _ x e1 hj, renBS_len]
            exact ha _ _ e3
          · cases e4
        · rw [List.getElem?_append_right (by omega), hlenR] at hj
          have hb : b (j, 0) = some (slot, j - R.length) := by simp [b, renBack, Nat.not_lt.2 hge]
          show (match b (j, 0) with | some g' => ℓ g' | none => 0) = _
          rw [hb]
          simp only
          rw [hn (j - R.length) (renBS b x) (by simp only [List.getElem?_map, hj]; rfl), renBS_len]
      have hcall := hc args' sub out h2 l0 l1 hsub0 hout
      refine ⟨only f (args'.map (dV l0)) (sub.map (dN l0)) (dO l1 out), only_sound hcall, ?_, ?_⟩
      · -- the abstract call
        unfold opCall
        simp only
        have elent : (if share = true then [] else (args.map (dV ℓ)).flatMap lentNames) = lent := by
          rw [← hlent]
          split
          · rfl
          · rw [List.flatMap_map]
            exact flatMap_same fun v hv => lentNames_d (hnt v hv)
        have eR : reach (dH ℓ H) ((args.map (dV ℓ)).flatMap (if share = true then fun v => seedsV v ++ lentNames v else seedsV)) = R := by
          rw [← hR, reach_d, List.flatMap_map]
          congr 1
          refine flatMap_same fun v hv => ?_
          have hs : seedsV (dV ℓ v) = seedsVS v := by rw [notTup_d (hnt v hv)]; exact seedsV_d ℓ v
          split
          · simp only [hs, lentNames_d (hnt v hv)]
          · exact hs
        rw [elent, eR]
        obtain ⟨M1, M2⟩ := Tr.mean_mapM h1
        have eargs : (args.map (dV ℓ)).mapM (lendV (dH ℓ H) share f0) = some (args'.map (dV l0)) := by
          refine mapM_of (by simp [M1]) (fun i a hi => ?_)
          rw [List.getElem?_map] at hi
          obtain ⟨v, e1, rfl⟩ := Option.map_eq_some_iff.1 hi
          obtain ⟨u, e2, e3⟩ := M2 i v e1
          exact ⟨dV l0 u, by rw [List.getElem?_map, e2]; rfl, (lendVS_spec ha hg0 (hnt v (List.mem_of_getElem? e1)) e3).1⟩
        have esub : R.mapM (fun g => (get (dH ℓ H) g).map (renB f0)) = some (sub.map (dN l0)) := by
          refine mapM_of (by simp [S1]) (fun i g hi => ?_)
          obtain ⟨y, e1, e2⟩ := S2 i g hi
          obtain ⟨b0, e3, e4⟩ := Option.bind_eq_some_iff.1 e2
          split at e4
          · rename_i hb0
            cases e4
            refine ⟨dN l0 (renBS f0 b0), by rw [List.getElem?_map, e1]; rfl, ?_⟩
            rw [get_dH, e3, Option.bind_some, renB_d hg0]
            exact dN_alive (by rw [renBS_alive]; exact hb0)
          · cases e4
        rw [if_neg (by simpa using hdis)]
        show (match (args.map (dV ℓ)).mapM (lendV (dH ℓ H) share f0), R.mapM (fun g => (get (dH ℓ H) g).map (renB f0)) with
          | some args', some sub => _
          | _, _ => none) = _
        rw [eargs, esub]
        simp only [only_self, dO]
        rw [if_pos (by simpa using hlenR)]
        have harr : ∀ g ∈ lent, IsArr H g := by
          intro g hg
          rw [← hlent] at hg
          split at hg
          · cases hg
          · rename_i hs
            obtain ⟨v, hv, hgv⟩ := List.mem_flatMap.1 hg
            obtain ⟨i, hi⟩ := List.getElem?_of_mem hv
            obtain ⟨u, e2, e3⟩ := M2 i v hi
            exact (lendVS_spec ha hg0 (hnt v hv) e3).2 (by simpa using hs) g hgv
        have ewr : ((R.zip (out.2.1.map (dB l1))).map fun p => (p.1, p.2.map (renB (renBack R slot)))) = dW ℓ ((R.zip out.2.1).map fun p => (p.1, renBS (renBack R slot) p.2)) := by
          simp only [dW, List.map_map, List.zip_map_right]
          refine List.map_congr_left fun p _ => ?_
          simp only [Function.comp, Prod.map, id]
          exact congrArg (Prod.mk p.1) (renB_d hg1 p.2)
        have enew : (out.2.2.map (dN l1)).map (renB (renBack R slot)) = (out.2.2.map (renBS (renBack R slot))).map (dN ℓ) := by
          simp only [List.map_map]
          refine List.map_congr_left fun x hx => ?_
          have e := renB_d hg1 x
          rw [dN_alive (hal x hx), Option.map_some, dN_alive (by rw [renBS_alive]; exact hal x hx)] at e
          exact Option.some.inj e
        have eval : renV (renBack R slot) (dV l1 out.1) = dV ℓ (renVS (renBack R slot) out.1) := renV_d hg1 out.1
        have ewr2 : (if (scalS out.1 && out.2.2.isEmpty && R.isEmpty) = true then [] else stops (dH ℓ H) lent) = dW ℓ (if (scalS out.1 && out.2.2.isEmpty && R.isEmpty) = true then [] else stopsS H lent) := by
          split
          · rfl
          · exact (stopsS_spec harr).symm
        simp only [dR, eval, ewr, enew, scal_d, List.isEmpty_map, ewr2]
        simp only [dW, List.map_append]
      · -- lengths
        refine LenOK.append ?_ ?_
        · intro p hp x hx
          simp only [List.mem_map] at hp
          obtain ⟨⟨g, y⟩, hz, rfl⟩ := hp
          obtain ⟨i, hi⟩ := List.getElem?_of_mem hz
          rw [List.getElem?_zip_eq_some] at hi
          obtain ⟨i1, i2⟩ := hi
          obtain ⟨z, e1, e2⟩ := S2 i g i1
          obtain ⟨b0, e3, e4⟩ := Option.bind_eq_some_iff.1 e2
          split at e4
          · cases e4
            simp only at hx
            rw [e3] at hx
            cases hx
            simp only [renBS_len]
            rw [L2 i _ y e1 i2, renBS_len]
          · cases e4
        · split
          · exact LenOK.nil
          · exact stopsS_len _
    · exact (Tr.mean_fail h).elim

theorem pickS_spec {c : Bool} {a b u : SV} (h : (pickS c a b).mean = some u) : boolIte c (dV ℓ a) (dV ℓ b) = dV ℓ u := by
  unfold pickS at h
  split at h
  · have := Tr.mean_ret h; subst this
    simp only [dV_bool, boolIte]
    cases c <;> rfl
  · rename_i hn
    have key : boolIte c (dV ℓ a) (dV ℓ b) = if c then dV ℓ a else dV ℓ b := by
      unfold boolIte
      split
      · rename_i p q e1 e2
        cases a <;> first | (cases e1; done) | skip
        cases b <;> first | (cases e2; done) | skip
        exact absurd rfl (hn _ _ rfl)
      · rfl
    rw [key]
    cases c with
    | true => have := Tr.mean_ret (show (Tr.ret a).mean = some u from h); subst this; rfl
    | false => have := Tr.mean_ret (show (Tr.ret b).mean = some u from h); subst this; rfl

theorem okTy_enc {ty : Ty} (h : okTy ty = true) (x : ty.den) : okV (enc ty x) = true ∧ dV ℓ (unT ty x) = enc ty x ∧ dA ℓ (unT ty x) = enc ty x := by
  cases ty with
  | row t => exact ⟨rfl, rfl, rfl⟩
  | int k => exact ⟨rfl, rfl, rfl⟩
  | bool => exact ⟨rfl, rfl, rfl⟩
  | str => exact ⟨rfl, rfl, rfl⟩
  | _ => cases h
theorem okTy_pa {ty : Ty} (h : okTy ty = true) {v : SV} {x : ty.den} (hx : paT ty v = some x) : ntV (dV ℓ v) = enc ty x := by
  unfold paT at hx
  split at hx
  · split at hx
    · rename_i y hy
      cases hx
      cases ty with
      | int k => cases v <;> simp [SV.cells, paC] at hy <;> first | (obtain ⟨rfl, hy⟩ := hy; cases hy; rfl) | (rename_i ha; simp [SV.isAgg, Ty.agg] at ha)
      | bool => cases v <;> simp [SV.cells, paC] at hy <;> first | (cases hy; rfl) | (rename_i ha; simp [SV.isAgg, Ty.agg] at ha)
      | str => cases v <;> simp [SV.cells, paC] at hy <;> first | (cases hy; rfl) | (rename_i ha; simp [SV.isAgg, Ty.agg] at ha)
      | row t =>
        cases v with
        | row t' l' tight =>
          simp only [SV.cells, paC] at hy
          split at hy
          · rename_i l hl
            cases hy
            unfold castL at hl
            split at hl
            · rename_i ht
              subst ht
              cases hl
              rfl
            · split at hl
              · cases hl
                rfl
              · cases hl
          · cases hy
        | agg cs => rename_i ha; simp [SV.isAgg, Ty.agg] at ha
        | _ => simp [SV.cells, paC] at hy
      | _ => cases h
    · cases hx
  · cases hx

theorem keyEq_enc {st : Bool} (a b : KeyT st) : keyEq (encK st a) (encK st b) = decide (a = b) := by
  cases st with
  | false => exact (show ((show Int from a) == (show Int from b)) = _ from rfl)
  | true =>
    simp only [encK, keyEq]
    by_cases h : a = b
    · subst h; rw [decide_eq_true rfl]; exact ba_rfl a
    · rw [decide_eq_false h]
      exact Bool.eq_false_iff.2 fun e => h (ba_eq e)

theorem mpFind_map {st : Bool} {ty : Ty} (n : KeyT st) : ∀ l : List (KeyT st × ty.den), mpFind (encK st n) (l.map fun p => AV.agg [encK st p.1, enc ty p.2]) = (mpGet n l).map (enc ty)
  | [] => rfl
  | p :: r => by
    simp only [List.map_cons, mpFind, mpGet, keyEq_enc, decide_eq_true_eq]
    split
    · rfl
    · exact mpFind_map n r

theorem mpPut_map {st : Bool} {ty : Ty} (n : KeyT st) (x : ty.den) : ∀ l : List (KeyT st × ty.den), mpPut (encK st n) (enc ty x) (l.map fun p => AV.agg [encK st p.1, enc ty p.2]) = (mpSet n x l).map fun p => AV.agg [encK st p.1, enc ty p.2]
  | [] => rfl
  | p :: r => by
    simp only [List.map_cons, mpPut, mpSet, keyEq_enc, decide_eq_true_eq]
    split
    · rename_i h; rw [h]; rfl
    · simp only [List.map_cons, mpPut_map n x r]

theorem keysOk_map {st : Bool} {ty : Ty} : ∀ l : List (KeyT st × ty.den), keysOk st (l.map fun p => AV.agg [encK st p.1, enc ty p.2]) = true
  | [] => rfl
  | p :: r => by
    simp only [List.map_cons, keysOk, Bool.and_eq_true]
    exact ⟨by cases st <;> rfl, keysOk_map r⟩

theorem mpBlk_d {g : Nm} {st : Bool} {ty : Ty} {l : List (KeyT st × ty.den)} (hg : getS H g = some (.mp st ty l)) : mpBlk (dH ℓ H) (.ptr g 0 0 0) = some (g, ⟨0, l.map fun p => AV.agg [encK st p.1, enc ty p.2], 0, false⟩) := by
  simp only [mpBlk, get_dH, hg, Option.bind_some, dB, if_true]

theorem lookupS_spec {t et : TypeId} {g : Nm} {st ok : Bool} {n : KeyT st} {ty : Ty} {l : List (KeyT st × ty.den)} {z : SV} {r : SRes} (ht : mpTy P t = some (st, et)) (hg : getS H g = some (.mp st ty l)) (hz : szero P et = some z)
    (h : (Tr.when (okTy ty) ((Tr.of (paT ty z)).bind fun z => .ret { val := if ok then .tup [unT ty ((mpGet n l).getD z), .bool (mpGet n l).isSome] else unT ty ((mpGet n l).getD z), rd := [g] })).mean = some r) :
    opLookupM P t (.ptr g 0 0 0) (encK st n) ok (dH ℓ H) = some (dR ℓ r) ∧ LenOK H r.wr := by
  obtain ⟨h1, h⟩ := Tr.mean_when h
  obtain ⟨x, h2, h⟩ := Tr.mean_bind h
  have := Tr.mean_ret h; subst this
  refine ⟨?_, LenOK.nil⟩
  obtain ⟨zv, h3, rfl⟩ := szero_spec hz
  have h4 : ntV (cv zv) = enc ty x := by rw [← (svC_d ℓ zv).2]; exact okTy_pa h1 (Tr.mean_of h2)
  have h5 := fun y => okTy_enc (ℓ := ℓ) h1 y
  have h6 : (Option.map (enc ty) (mpGet n l)).getD (enc ty x) = enc ty ((mpGet n l).getD x) := by cases mpGet n l <;> rfl
  have h7 : (Option.map (enc ty) (mpGet n l)).isSome = (mpGet n l).isSome := by cases mpGet n l <;> rfl
  have h8 : keyIs st (encK st n) = true := by cases st <;> rfl
  simp only [opLookupM, ht, mpBlk_d hg, tzeroP, h3, Option.map_some, h4, mpFind_map, h6, h7]
  rw [if_pos ⟨h8, keysOk_map l⟩]
  cases ok with
  | true => simp only [if_true, dR, dV_tup, List.map_cons, List.map_nil, (h5 _).2.2, dW]; rfl
  | false => simp only [Bool.false_eq_true, if_false, dR, (h5 _).2.1, dW, List.map_nil]

theorem opLookupMS_spec {t : TypeId} {m k : SV} {ok : Bool} {r : SRes} (h : (opLookupMS P t m k ok H).mean = some r) : opLookupM P t (dV ℓ m) (dV ℓ k) ok (dH ℓ H) = some (dR ℓ r) ∧ LenOK H r.wr := by
  unfold opLookupMS at h
  split at h
  · rename_i et g n ht
    split at h
    · rename_i ty l z hg hz
      exact lookupS_spec (st := false) (n := n) ht hg hz h
    · exact (Tr.mean_fail h).elim
  · rename_i et g n ht
    split at h
    · rename_i ty l z hg hz
      exact lookupS_spec (st := true) (n := n) ht hg hz h
    · exact (Tr.mean_fail h).elim
  · exact (Tr.mean_fail h).elim

theorem updateS_spec (ha : Agr ℓ H) {t et : TypeId} {g : Nm} {st : Bool} {n : KeyT st} {ty : Ty} {l : List (KeyT st × ty.den)} {v : SV} {r : SRes} (ht : mpTy P t = some (st, et)) (hg : getS H g = some (.mp st ty l))
    (h : (Tr.when (okTy ty) ((pureVS H v).bind fun ul => .when (decide (¬ g ∈ ul.2 ∧ slack ul.1 = true)) ((Tr.of (paT ty ul.1)).bind fun x => .ret { val := .tup [], rd := g :: ul.2, wr := stopsS H ul.2 ++ [(g, .mp st ty (mpSet n x l))] }))).mean = some r) :
    opMapUpdate P t (.ptr g 0 0 0) (encK st n) (dV ℓ v) (dH ℓ H) = some (dR ℓ r) ∧ LenOK H r.wr := by
  obtain ⟨h1, h⟩ := Tr.mean_when h
  obtain ⟨⟨u, m⟩, h0, h⟩ := Tr.mean_bind h
  obtain ⟨h3, h⟩ := Tr.mean_when h
  obtain ⟨c3, c5⟩ := of_decide_eq_true h3
  obtain ⟨x, h2, h⟩ := Tr.mean_bind h
  have := Tr.mean_ret h; subst this
  obtain ⟨e1, e2⟩ := pureVS_spec ha h0
  have hv : dV ℓ v = dA ℓ v := by
    cases v <;> first | rfl | exact (Tr.mean_fail h0).elim
  refine ⟨?_, (stopsS_len m).append (LenOK.one hg rfl)⟩
  have h8 : keyIs st (encK st n) = true := by cases st <;> rfl
  obtain ⟨h5, _⟩ := okTy_enc (ℓ := ℓ) h1 x
  have hx := paT_exact (ℓ := ℓ) (Tr.mean_of h2) c5
  have hdw : dW ℓ (stopsS H m ++ [(g, .mp st ty (mpSet n x l))]) = stops (dH ℓ H) m ++ [(g, some ⟨0, (mpSet n x l).map fun p => AV.agg [encK st p.1, enc ty p.2], 0, false⟩)] := by
    rw [← stopsS_spec e2]
    simp only [dW, List.map_append, List.map_cons, List.map_nil, dB]
  simp only [opMapUpdate, ht, mpBlk_d hg, hv, e1, mpPut_map, hx]
  rw [if_pos ⟨h8, keysOk_map l⟩]
  simp only [Bool.false_eq_true, if_false]
  rw [if_pos ⟨h5, c3⟩]
  simp only [dR, hdw, List.map_nil]
  rfl

theorem opMapUpdateS_spec (ha : Agr ℓ H) {t : TypeId} {m k v : SV} {r : SRes} (h : (opMapUpdateS P t m k v H).mean = some r) : opMapUpdate P t (dV ℓ m) (dV ℓ k) (dV ℓ v) (dH ℓ H) = some (dR ℓ r) ∧ LenOK H r.wr := by
  unfold opMapUpdateS at h
  split at h
  · rename_i et g n ht
    split at h
    · rename_i ty l hg
      exact updateS_spec (st := false) (n := n) ha ht hg h
    · exact (Tr.mean_fail h).elim
  · rename_i et g n ht
    split at h
    · rename_i ty l hg
      exact updateS_spec (st := true) (n := n) ha ht hg h
    · exact (Tr.mean_fail h).elim
  · exact (Tr.mean_fail h).elim

theorem opBoxS_spec {t : TypeId} {v : SV} {slot : Nat} {r : SRes} (h : (opBoxS P t v slot).mean = some r) : opBox P t (dV ℓ v) slot = some (dR ℓ r) ∧ LenOK H r.wr := by
  unfold opBoxS at h
  unfold opBox
  split at h
  · rename_i size hs
    obtain ⟨h1, h⟩ := Tr.mean_when h
    obtain ⟨c1, c2, c3⟩ := of_decide_eq_true h1
    have := Tr.mean_ret h; subst this
    simp only [hs, notTup_d (okSV_notTup c2)]
    rw [if_pos ⟨by rw [cells_dA, List.length_map]; exact c1, by rw [okV_dA]; exact c2, c3⟩]
    exact ⟨rfl, LenOK.nil⟩
  · exact (Tr.mean_fail h).elim

theorem opAssignS_spec {fr : SFr} {t : TypeId} {x : Operand} {slot : Nat} {r : SRes} (h : (opAssignS P fr t x slot).mean = some r) (hn : NewOK ℓ slot r.new) : opAssign P (dF ℓ fr) t x slot = some (dR ℓ r) ∧ LenOK H r.wr := by
  unfold opAssignS at h
  split at h
  · unfold opAssign
    split at h
    · rename_i e he
      split at h
      · rename_i size ty h1 h2
        obtain ⟨h3, h⟩ := Tr.mean_when h
        have h3 := of_decide_eq_true h3
        have := Tr.mean_ret h; subst this
        have hl := hn.one
        simp only [SB.len, List.length_nil] at hl
        simp only [he, h1]
        refine ⟨?_, LenOK.nil⟩
        simp only [dR, dV_own, hl, h3, dW, List.map_nil, List.map_cons, dN, dB, Fz.n]
      · exact (Tr.mean_fail h).elim
    · exact (Tr.mean_fail h).elim
  · rename_i hx
    have := Tr.mean_ret h; subst this
    refine ⟨?_, LenOK.nil⟩
    have e : opAssign P (dF ℓ fr) t x slot = some { val := evO (dF ℓ fr) x } := by
      unfold opAssign
      split
      · exact absurd rfl hx
      · rfl
    rw [e]
    simp only [dR, evS_d, dW, List.map_nil]

theorem isCap_d {v : SV} (h : isCap v = true) (ℓ : Lens) : dV ℓ v = d1 ℓ v := by cases v <;> first | rfl | cases h

/-- An operation. -/
theorem stepOpS_spec {N : FuncId → Note} {call : FuncId → SCall} (hc : ∀ f, CallOK P f (call f)) {o : Oper} {fr : SFr} {slot : Nat} {r : SRes} (ha : Agr ℓ H) (h : (stepOpS P N call o fr H slot).mean = some r) (hn : NewOK ℓ slot r.new) :
    ∃ c : CL, Sound P c ∧ stepOp P N false c o (dF ℓ fr) (dH ℓ H) slot = some (dR ℓ r) ∧ LenOK H r.wr := by
  obtain ⟨dst, op, type, pos, after, guard⟩ := o
  have plain : (∀ c : CL, stepOp P N false c ⟨dst, op, type, pos, after, guard⟩ (dF ℓ fr) (dH ℓ H) slot = some (dR ℓ r)) ∧ LenOK H r.wr → ∃ c : CL, Sound P c ∧ stepOp P N false c ⟨dst, op, type, pos, after, guard⟩ (dF ℓ fr) (dH ℓ H) slot = some (dR ℓ r) ∧ LenOK H r.wr :=
    fun h => ⟨fun _ _ _ => none, none_sound, h.1 _, h.2⟩
  have val : ∀ {t : Tr SV}, (t.map val1).mean = some r → ∃ u, t.mean = some u ∧ dR ℓ r = { val := dV ℓ u } ∧ LenOK H r.wr := by
    intro t h
    obtain ⟨u, h1, rfl⟩ := Tr.mean_map h
    exact ⟨u, h1, rfl, LenOK.nil⟩
  cases op with
  | move x =>
    have := Tr.mean_ret h; subst this
    exact plain ⟨fun c => by simp only [stepOp, dR, evS_d, dW, List.map_nil], LenOK.nil⟩
  | assign x =>
    obtain ⟨e1, e2⟩ := opAssignS_spec (H := H) (show (opAssignS P fr type x slot).mean = some r from h) hn
    exact plain ⟨fun c => e1, e2⟩
  | pick c a b =>
    simp only [stepOpS] at h
    split at h
    · rename_i p hp
      obtain ⟨u, h1, e1, e2⟩ := val h
      refine plain ⟨fun c' => ?_, e2⟩
      have := evS_d ℓ fr c
      rw [hp] at this
      simp only [stepOp, ← evS_d, e1]
      rw [show dV ℓ (evS fr c) = .bool p from by rw [hp]; rfl]
      simp only [pickS_spec h1]
    · exact (Tr.mean_fail h).elim
  | alloc t =>
    simp only [stepOpS] at h
    split at h
    · rename_i z hz
      obtain ⟨zv, h1, rfl⟩ := szero_spec hz
      obtain ⟨e1, e2⟩ := opBoxS_spec (ℓ := ℓ) (H := H) h
      rw [(svC_d ℓ zv).2] at e1
      exact plain ⟨fun c => by simp only [stepOp, h1, e1], e2⟩
    · exact (Tr.mean_fail h).elim
  | box t x =>
    obtain ⟨e1, e2⟩ := opBoxS_spec (ℓ := ℓ) (H := H) (show (opBoxS P t (evS fr x) slot).mean = some r from h)
    exact plain ⟨fun c => by simp only [stepOp, ← evS_d, e1], e2⟩
  | build t ps =>
    obtain ⟨u, h1, e1, e2⟩ := val h
    have := opBuildS_spec (ℓ := ℓ) (Tr.mean_of h1)
    rw [partsOfS_d] at this
    exact plain ⟨fun c => by simp only [stepOp, one, this, e1, Option.map_some], e2⟩
  | buildSlice t n ps =>
    obtain ⟨e1, e2⟩ := opBuildSliceS_spec ha (show (opBuildSliceS P t n (partsOfS fr ps) H slot).mean = some r from h) hn
    rw [partsOfS_d] at e1
    exact plain ⟨fun c => e1, e2⟩
  | load t a =>
    obtain ⟨e1, e2⟩ := opLoadS_spec (ℓ := ℓ) (show (opLoadS P t (evS fr a) H).mean = some r from h)
    exact plain ⟨fun c => by simp only [stepOp, ← evS_d, e1], by rw [e2]; exact LenOK.nil⟩
  | store t a x =>
    obtain ⟨e1, e2, _⟩ := opStoreS_spec ha (show (opStoreS P t (evS fr a) (evS fr x) H).mean = some r from h)
    exact plain ⟨fun c => by simp only [stepOp, ← evS_d, e1], e2⟩
  | nilCheck x =>
    simp only [stepOpS] at h
    split at h
    · rename_i hx
      obtain ⟨h0, h⟩ := Tr.mean_when h
      have := Tr.mean_ret h; subst this
      exact plain ⟨fun c => by simp only [stepOp, ← evS_d, hx, dV_ptr]; rw [if_pos (of_decide_eq_true h0)]; rfl, LenOK.nil⟩
    · rename_i hx
      have := Tr.mean_ret h; subst this
      exact plain ⟨fun c => by simp only [stepOp, ← evS_d, hx]; rfl, LenOK.nil⟩
    · exact (Tr.mean_fail h).elim
  | binOp op t x y yt =>
    obtain ⟨u, h1, e1, e2⟩ := val h
    exact plain ⟨fun c => by simp only [stepOp, one, ← evS_d, opBin3S_spec (ℓ := ℓ) h1, e1, Option.map_some], e2⟩
  | unOp op t x =>
    obtain ⟨u, h1, e1, e2⟩ := val h
    exact plain ⟨fun c => by simp only [stepOp, one, ← evS_d, opUnS_spec (ℓ := ℓ) (Tr.mean_of h1), e1, Option.map_some], e2⟩
  | convert a b x =>
    obtain ⟨u, h1, e1, e2⟩ := val h
    exact plain ⟨fun c => by simp only [stepOp, one, ← evS_d, opConvertS_spec (ℓ := ℓ) (Tr.mean_of h1), e1, Option.map_some], e2⟩
  | makeFunc fn first caps =>
    cases fn with
    | func f =>
      simp only [stepOpS] at h
      split at h
      · rename_i hf
        obtain ⟨h1, h⟩ := Tr.mean_when h
        have := Tr.mean_ret h; subst this
        refine plain ⟨fun c => ?_, LenOK.nil⟩
        simp only [stepOp]
        rw [if_pos hf]
        simp only [dR, dV_clo, dW, List.map_nil, List.map_map]
        congr 3
        refine List.map_congr_left fun x hx => ?_
        simp only [Function.comp, ← evS_d]
        have : isCap (evS fr x) = true := (List.all_eq_true.1 h1) x hx
        exact isCap_d this ℓ
      · exact (Tr.mean_fail h).elim
    | _ => exact (Tr.mean_fail h).elim
  | makeSlice t l c =>
    obtain ⟨e1, e2⟩ := opMakeSliceS_spec (ℓ := ℓ) (H := H) (show (opMakeSliceS P t (evS fr l) (evS fr c) slot).mean = some r from h) hn
    exact plain ⟨fun c => by simp only [stepOp, ← evS_d, e1], e2⟩
  | slice t x lo hi mx =>
    obtain ⟨e1, e2, _⟩ := opSliceS_spec ha (show (opSliceS P t (evS fr x) (lo.map (evS fr)) (hi.map (evS fr)) (mx.map (evS fr)) H).mean = some r from h)
    refine plain ⟨fun c => ?_, e2⟩
    simp only [stepOp, ← evS_d]
    have conv : ∀ o : Option Operand, Option.map (fun x => dV ℓ (evS fr x)) o = (o.map (evS fr)).map (dV ℓ) := fun o => by cases o <;> rfl
    have ev' : evO (dF ℓ fr) = fun x => dV ℓ (evS fr x) := funext fun x => (evS_d ℓ fr x).symm
    rw [ev', conv, conv, conv]
    exact e1
  | fieldAddr t x f =>
    obtain ⟨u, h1, e1, e2⟩ := val h
    exact plain ⟨fun c => by simp only [stepOp, one, ← evS_d, opFieldAddrS_spec (ℓ := ℓ) (Tr.mean_of h1), e1, Option.map_some], e2⟩
  | field t x f =>
    obtain ⟨u, h1, e1, e2⟩ := val h
    exact plain ⟨fun c => by simp only [stepOp, one, ← evS_d, opFieldS_spec (ℓ := ℓ) (Tr.mean_of h1), e1, Option.map_some], e2⟩
  | indexAddr t x i =>
    obtain ⟨u, h1, e1, e2⟩ := val h
    exact plain ⟨fun c => by simp only [stepOp, one, ← evS_d, opIndexAddrS_spec ha h1, e1, Option.map_some], e2⟩
  | index t x i =>
    obtain ⟨u, h1, e1, e2⟩ := val h
    exact plain ⟨fun c => by simp only [stepOp, one, ← evS_d, opIndex3S_spec (ℓ := ℓ) h1, e1, Option.map_some], e2⟩
  | lookup t m k ok =>
    simp only [stepOpS] at h
    split at h
    · rename_i hm
      obtain ⟨e1, e2⟩ := opLookupMS_spec (ℓ := ℓ) h
      have h0 : ∀ (g : Nm) (a b c : Nat) (w : AV), opLookup P t (.ptr g a b c) w ok = none := fun g a b c w => by
        unfold opLookup
        split
        · exact AV.noConfusion ‹AV.ptr g a b c = AV.fm _›
        · rfl
      rw [dV_ptr] at e1
      exact plain ⟨fun c => by simp only [stepOp, ← evS_d, hm, dV_ptr, h0]; exact e1, e2⟩
    · obtain ⟨u, h1, e1, e2⟩ := val h
      exact plain ⟨fun c => by simp only [stepOp, ← evS_d, opLookupS_spec (ℓ := ℓ) h1]; exact congrArg some e1.symm, e2⟩
  | mapUpdate t m k v =>
    obtain ⟨e1, e2⟩ := opMapUpdateS_spec (ℓ := ℓ) ha (show (opMapUpdateS P t (evS fr m) (evS fr k) (evS fr v) H).mean = some r from h)
    exact plain ⟨fun c => by simp only [stepOp, ← evS_d, e1], e2⟩
  | makeMap t rv =>
    cases rv with
    | none =>
      have h : (opMakeMapS P t slot).mean = some r := h
      unfold opMakeMapS at h
      split at h
      · split at h
        · have := Tr.mean_ret h; subst this
          exact plain ⟨fun c => rfl, LenOK.nil⟩
        · exact (Tr.mean_fail h).elim
      · exact (Tr.mean_fail h).elim
    | some _ => exact (Tr.mean_fail h).elim
  | extract x i =>
    simp only [stepOpS] at h
    split at h
    · rename_i vs hx
      split at h
      · rename_i v hv
        obtain ⟨h1, h⟩ := Tr.mean_when h
        have := Tr.mean_ret h; subst this
        refine plain ⟨fun c => ?_, LenOK.nil⟩
        simp only [stepOp, ← evS_d, hx, dV_tup, List.getElem?_map, hv, Option.map_some, dR, notTup_d h1, dW, List.map_nil]
      · exact (Tr.mean_fail h).elim
    · exact (Tr.mean_fail h).elim
  | call c =>
    simp only [stepOpS] at h
    split at h
    · rename_i f hcal
      split at h
      · rename_i fn caps hf
        obtain ⟨h1, h⟩ := Tr.mean_when h
        obtain ⟨cl, s1, s2, s3⟩ := opCallS_spec ha (hc fn) h hn
        refine ⟨cl, s1, ?_, s3⟩
        simp only [stepOp, hcal, ← evS_d, hf, dV_clo]
        have ev' : evO (dF ℓ fr) = fun x => dV ℓ (evS fr x) := funext fun x => (evS_d ℓ fr x).symm
        rw [ev', ← s2, List.map_append, List.map_map]
        congr 2
        refine List.map_congr_left fun x hx => ?_
        have : isCap x = true := (List.all_eq_true.1 h1) x hx
        exact (isCap_d this ℓ).symm
      · exact (Tr.mean_fail h).elim
    · rename_i hcal
      split at h
      · rename_i x t hx ht
        obtain ⟨u, h1, e1, e2⟩ := val h
        exact plain ⟨fun c' => by simp only [stepOp, hcal, hx, ht, one, ← evS_d, opLenS_spec ha (Tr.mean_of h1), e1, Option.map_some], e2⟩
      · exact (Tr.mean_fail h).elim
    · rename_i hcal
      split at h
      · rename_i s x t t' hx ht
        obtain ⟨h1, h⟩ := Tr.mean_when h
        obtain ⟨e1, e2⟩ := opAppendS_spec ha h hn
        exact plain ⟨fun c' => by simp only [stepOp, hcal, hx, ht]; rw [if_pos (of_decide_eq_true h1), ← evS_d, ← evS_d]; exact e1, e2⟩
      · exact (Tr.mean_fail h).elim
    · rename_i hcal
      split at h
      · rename_i d x t t' hx ht
        obtain ⟨e1, e2⟩ := opCopyS_spec ha h
        exact plain ⟨fun c' => by simp only [stepOp, hcal, hx, ht]; rw [← evS_d, ← evS_d]; exact e1, e2⟩
      · exact (Tr.mean_fail h).elim
    · rename_i hcal
      split at h
      · rename_i d t hx ht
        obtain ⟨e1, e2⟩ := opClearS_spec ha h
        exact plain ⟨fun c' => by simp only [stepOp, hcal, hx, ht]; rw [← evS_d]; exact e1, e2⟩
      · exact (Tr.mean_fail h).elim
    · rename_i hcal
      split at h
      · rename_i x rr hx
        obtain ⟨u, h1, e1, e2⟩ := val h
        have := minS_spec (ℓ := ℓ) _ _ _ (Tr.mean_of h1)
        refine plain ⟨fun c' => ?_, e2⟩
        have ev' : evO (dF ℓ fr) = fun x => dV ℓ (evS fr x) := funext fun x => (evS_d ℓ fr x).symm
        simp only [stepOp, hcal]
        rw [ev', show c.args.toList.map (fun x => dV ℓ (evS fr x)) = (c.args.toList.map (evS fr)).map (dV ℓ) from by rw [List.map_map]; rfl, hx]
        simp only [List.map_cons, one, this, e1, Option.map_some]
      · exact (Tr.mean_fail h).elim
    · rename_i hcal
      split at h
      · rename_i x rr hx
        obtain ⟨u, h1, e1, e2⟩ := val h
        have := maxS_spec (ℓ := ℓ) _ _ _ (Tr.mean_of h1)
        refine plain ⟨fun c' => ?_, e2⟩
        have ev' : evO (dF ℓ fr) = fun x => dV ℓ (evS fr x) := funext fun x => (evS_d ℓ fr x).symm
        simp only [stepOp, hcal]
        rw [ev', show c.args.toList.map (fun x => dV ℓ (evS fr x)) = (c.args.toList.map (evS fr)).map (dV ℓ) from by rw [List.map_map]; rfl, hx]
        simp only [List.map_cons, one, this, e1, Option.map_some]
      · exact (Tr.mean_fail h).elim
    · exact (Tr.mean_fail h).elim
  | _ => exact (Tr.mean_fail h).elim

end
section
variable {P : Program} {N : FuncId → Note} {ℓ : Lens}
theorem stepOp_nocall {o : Oper} {fr : Fr} {H : Heap} {slot : Nat} (hm : makes o.op = false) (c c' : CL) : stepOp P N false c o fr H slot = stepOp P N false c' o fr H slot := by
  obtain ⟨dst, op, type, pos, after, guard⟩ := o
  cases op with
  | call cl =>
    simp only [stepOp]
    cases hcal : cl.callee with
    | value f =>
      obtain ⟨callee, args, argTypes⟩ := cl
      simp only at hcal
      subst hcal
      cases hm
    | builtin b => cases b <;> rfl
    | invoke r m => rfl
  | makeFunc fn first caps => cases fn <;> rfl
  | makeMap t rv => cases rv <;> rfl
  | _ => rfl

/-! ### A new group -/

theorem getS_group {H : SHeap} {slot : Nat} {new : List SB} (h : H[slot]? = some []) : (∀ g b, getS H g = some b → getS (H.set slot new) g = some b) ∧ ∀ (k : Nat) (b : SB), new[k]? = some b → getS (H.set slot new) (slot, k) = some b := by
  have hlt : slot < H.length := (List.getElem?_eq_some_iff.1 h).1
  refine ⟨fun g b hg => ?_, fun k b hk => ?_⟩
  · by_cases e : slot = g.1
    · simp only [getS, ← e, h] at hg
      simp at hg
    · simp only [getS] at hg ⊢
      rw [List.getElem?_set_ne e]
      exact hg
  · simp [getS, hlt, hk]

theorem newGroupS_spec {H H' : SHeap} {slot : Nat} {mk : Bool} {new : List SB} (h : newGroupS H slot mk new = some H') :
    (∀ ℓ : Lens, newGroup (dH ℓ H) slot mk (new.map (dN ℓ)) = some (dH ℓ H')) ∧ (∀ ℓ, Agr ℓ H' → Agr ℓ H ∧ NewOK ℓ slot new) ∧ (new ≠ [] → H[slot]? = some []) := by
  cases mk with
  | true =>
    simp only [newGroupS] at h
    split at h
    · rename_i hs
      split at h
      · rename_i hal
        cases h
        have hal : ∀ b ∈ new, b.alive = true := by simpa using hal
        obtain ⟨h1, h2⟩ := getS_group (new := new) hs
        refine ⟨fun ℓ => ?_, fun ℓ ha => ⟨fun g b hg => ha g b (h1 g b hg), fun k b hk => ha _ b (h2 k b hk)⟩, fun _ => hs⟩
        simp only [newGroup, if_true, dH, List.map_set, List.map_map]
        congr 2
        refine List.map_congr_left fun b hb => ?_
        simp only [Function.comp, dN_alive (hal b hb)]
      · cases h
    · cases h
  | false =>
    simp only [newGroupS] at h
    split at h
    · cases h
      exact ⟨fun ℓ => rfl, fun ℓ ha => ⟨ha, fun k b hk => by simp at hk⟩, fun e => absurd rfl e⟩
    · cases h

theorem group_putAllS {slot : Nat} : ∀ (wr : List (Nm × SB)) (H : SHeap), (putAllS H wr)[slot]? = some [] → H[slot]? = some [] := by
  intro wr
  induction wr with
  | nil => intro H h; exact h
  | cons p r ih =>
    intro H h
    obtain ⟨g, b⟩ := p
    have := ih _ h
    unfold setS at this
    by_cases e : g.1 = slot
    · subst e
      cases hl : H[g.1]? with
      | none => simp [hl] at this
      | some l =>
        simp [hl] at this
        rw [this]
    · rw [List.getElem?_modify_ne _ _ e] at this
      exact this

/-- Lengths with which an operation goes through. -/
theorem lenOK_of {call : FuncId → SCall} (hc : ∀ f, CallOK P f (call f)) {o : Oper} {fr : SFr} {H H' : SHeap} {slot : Nat} {mk : Bool} {r : SRes} (h : (stepOpS P N call o fr H slot).mean = some r) (hg : newGroupS (putAllS H r.wr) slot mk r.new = some H') : LenOK H r.wr := by
  let l : Lens := fun g => match getS H g with
    | some b => b.len
    | none => match r.new[g.2]? with
      | some b => b.len
      | none => 0
  have ha : Agr l H := fun g b hb => by show (match getS H g with | some b => b.len | none => _) = _; rw [hb]
  have hn : NewOK l slot r.new := by
    intro k b hk
    have hs := group_putAllS r.wr H ((newGroupS_spec hg).2.2 (fun e => by rw [e] at hk; simp at hk))
    show (match getS H (slot, k) with | some b => b.len | none => match r.new[k]? with | some b => b.len | none => 0) = _
    have : getS H (slot, k) = none := by simp [getS, hs]
    rw [this, hk]
  exact (stepOpS_spec hc ha h hn).choose_spec.2.2

/-! ### An operation in a region -/

def EnvIs (E : SEnv) (E' : Env) : Prop := E'.P = E.P ∧ E'.N = E.N ∧ E'.nt = E.nt ∧ E'.locs = E.locs ∧ E'.pairs = E.pairs ∧ E'.keep = E.keep ∧ E'.bx = false

theorem putDst_dF (fr : SFr) (d : Option Nat) (v : SV) : putDst (dF ℓ fr) d (dV ℓ v) = dF ℓ (putDstS fr d v) := by
  cases d with
  | none => rfl
  | some d => exact (ins_dF ℓ d v fr).symm

variable {E : SEnv} {ops : Array Oper} {base : Nat}
theorem setLit_same {x : SV} {d : Nat} : ∀ (fr : SFr), lookS fr d = x → setLit x d fr = fr := by
  intro fr
  induction fr with
  | nil => intro _; rfl
  | cons p r ih =>
    intro h
    obtain ⟨s, y⟩ := p
    simp only [lookS] at h
    simp only [setLit]
    split at h
    · rename_i e; rw [if_pos e, h]
    · rename_i e; rw [if_neg e, ih h]

theorem stepIS_spec {call : Nat → FuncId → SCall} {i : Nat} (hc : ∀ f, CallOK E.P f (call i f)) {s s' : SSt} {x : Option SRes} (h : (stepIS E call ops base i s).mean = some (s', x)) (ha' : Agr ℓ s'.hp) :
    Agr ℓ s.hp ∧ ∃ c : CL, Sound E.P c ∧ ∀ E' : Env, EnvIs E E' → (makesAt ops i = true → E'.call (slotOf ops base i) = c) → stepI E' ops base i (dS ℓ s) = some (dS ℓ s', x.map (dR ℓ)) := by
  unfold stepIS at h
  split at h
  · rename_i ho
    have := Tr.mean_ret h
    cases this
    refine ⟨ha', fun _ _ _ => none, none_sound, fun E' _ _ => ?_⟩
    unfold stepI
    simp only [ho, Option.map_none]
  · rename_i o ho
    obtain ⟨hd, h⟩ := Tr.mean_when h
    simp only at h
    -- it is passed by
    have skip : ∀ h : (Tr.ret (({ s with fr := putDstS s.fr o.dst (.tup []) } : SSt), (none : Option SRes))).mean = some (s', x), goesOn ops (dS ℓ s).fr o = some false →
        Agr ℓ s.hp ∧ ∃ c : CL, Sound E.P c ∧ ∀ E' : Env, EnvIs E E' → (makesAt ops i = true → E'.call (slotOf ops base i) = c) → stepI E' ops base i (dS ℓ s) = some (dS ℓ s', x.map (dR ℓ)) := by
      intro h hgo
      have := Tr.mean_ret h
      cases this
      refine ⟨ha', fun _ _ _ => none, none_sound, fun E' hE _ => ?_⟩
      unfold stepI
      simp only [ho, hE.2.2.1]
      rw [if_pos hd]
      simp only [hgo, Option.map_none]
      have := putDst_dF (ℓ := ℓ) s.fr o.dst (.tup [])
      simp only [dV_tup, List.map_nil] at this
      simp only [dS, this]
    -- it is run
    have doit : ((stepOpS E.P E.N (call i) o s.fr s.hp (slotOf ops base i)).bind fun r =>
        match newGroupS (putAllS s.hp r.wr) (slotOf ops base i) (makes o.op) r.new with
        | some H => Tr.ret (({ fr := putDstS s.fr o.dst r.val, hp := H } : SSt), some r)
        | none => .fail).mean = some (s', x) → goesOn ops (dS ℓ s).fr o = some true →
        Agr ℓ s.hp ∧ ∃ c : CL, Sound E.P c ∧ ∀ E' : Env, EnvIs E E' → (makesAt ops i = true → E'.call (slotOf ops base i) = c) → stepI E' ops base i (dS ℓ s) = some (dS ℓ s', x.map (dR ℓ)) := by
      intro h hgo
      obtain ⟨r, h1, h2⟩ := Tr.mean_bind h
      split at h2
      · rename_i H hH
        have := Tr.mean_ret h2
        cases this
        obtain ⟨g1, g2, g3⟩ := newGroupS_spec hH
        have hlen := lenOK_of hc h1 hH
        obtain ⟨a1, a2⟩ := g2 ℓ ha'
        have a0 := a1.putAllS hlen
        obtain ⟨c, c1, c2, _⟩ := stepOpS_spec hc a0 h1 a2
        refine ⟨a0, c, c1, fun E' hE hcall => ?_⟩
        unfold stepI
        simp only [ho, hE.1, hE.2.1, hE.2.2.1, hE.2.2.2.2.2.2]
        rw [if_pos hd]
        simp only [hgo]
        have hop : stepOp E.P E.N false (E'.call (slotOf ops base i)) o (dS ℓ s).fr (dS ℓ s).hp (slotOf ops base i) = some (dR ℓ r) := by
          cases hm : makes o.op with
          | true => rw [hcall (by rw [makesAt_some ho]; exact hm)]; exact c2
          | false => rw [stepOp_nocall hm _ c]; exact c2
        rw [hop]
        simp only
        have := g1 ℓ
        rw [dH_putAllS] at this
        rw [show newGroup (putAll (dS ℓ s).hp (dR ℓ r).wr) (slotOf ops base i) (makes o.op) (dR ℓ r).new = some (dH ℓ H) from this]
        simp only [Option.map_some, dS, ← putDst_dF]
        rfl
      · exact (Tr.mean_fail h2).elim
    split at h
    · rename_i hg
      exact doit h (by simp [goesOn, hg])
    · rename_i j want hg
      split at h
      · rename_i d hdj
        have hlook : look (dS ℓ s).fr d = dV ℓ (lookS s.fr d) := look_dF ℓ s.fr d
        split at h
        · rename_i b hb
          have hgo : goesOn ops (dS ℓ s).fr o = some (b == want) := by
            simp only [goesOn, hg, hdj, hlook, hb, dV_bool]
          cases want with
          | true =>
            cases b with
            | true => simp only [Tr.mean, cond_true, setLit_same _ hb] at h; exact doit h hgo
            | false => simp only [Tr.mean, cond_false, setLit_same _ hb] at h; exact skip h hgo
          | false =>
            cases b with
            | true => simp only [Tr.mean, cond_true, setLit_same _ hb] at h; exact skip h hgo
            | false => simp only [Tr.mean, cond_false, setLit_same _ hb] at h; exact doit h hgo
        · rename_i hb
          exact skip h (by simp only [goesOn, hg, hdj, hlook, hb, dV_tup, List.map_nil])
        · exact (Tr.mean_fail h).elim
      · exact (Tr.mean_fail h).elim

theorem runLS_spec {call : Nat → FuncId → SCall} (hc : ∀ i f, CallOK E.P f (call i f)) : ∀ (l : List Nat) (s s' : SSt) (xs : List (Option SRes)), (runLS E call ops base l s).mean = some (s', xs) → l.Pairwise (· < ·) → Agr ℓ s'.hp →
    Agr ℓ s.hp ∧ ∃ calls : Nat → CL, (∀ k, Sound E.P (calls k)) ∧ ∀ E' : Env, EnvIs E E' → (∀ i ∈ l, makesAt ops i = true → E'.call (slotOf ops base i) = calls (slotOf ops base i)) →
      runL E' ops base l (dS ℓ s) = some (dS ℓ s', xs.map (Option.map (dR ℓ))) := by
  intro l
  induction l with
  | nil =>
    intro s s' xs h _ ha
    have := Tr.mean_ret h
    cases this
    exact ⟨ha, fun _ _ _ _ => none, fun _ => none_sound, fun E' _ _ => rfl⟩
  | cons i r ih =>
    intro s s' xs h hp ha
    simp only [runLS] at h
    obtain ⟨⟨s1, x⟩, h1, h⟩ := Tr.mean_bind h
    obtain ⟨⟨s2, ys⟩, h2, h⟩ := Tr.mean_bind h
    have := Tr.mean_ret h
    cases this
    rw [List.pairwise_cons] at hp
    obtain ⟨a1, calls, c1, c2⟩ := ih s1 _ _ h2 hp.2 ha
    obtain ⟨a0, c, c3, c4⟩ := stepIS_spec (hc i) h1 a1
    refine ⟨a0, fun k => if k = slotOf ops base i ∧ makesAt ops i = true then c else calls k, fun k => ?_, fun E' hE hcall => ?_⟩
    · simp only
      split
      · exact c3
      · exact c1 k
    · simp only [runL]
      rw [c4 E' hE (fun hm => by rw [hcall i (by simp) hm]; exact if_pos ⟨rfl, hm⟩)]
      simp only
      rw [c2 E' hE (fun j hj hm => ?_)]
      · rfl
      · rw [hcall j (by simp [hj]) hm]
        show (if slotOf ops base j = slotOf ops base i ∧ makesAt ops i = true then c else calls (slotOf ops base j)) = _
        split
        · rename_i hh
          exact absurd hh.1 (Ne.symm (slotOf_ne (Nat.ne_of_lt (hp.1 j hj)) hh.2 hm))
        · rfl

theorem apart3_names {i j : Nat} {x y : Option SRes} : apart3 ops base i j (x.map (dR ℓ)) (y.map (dR ℓ)) = apart3 ops base i j (x.map resN) (y.map resN) := by
  have hw : ∀ r : SRes, (dR ℓ r).wr.map (·.1) = (resN r).wr.map (·.1) := fun r => by simp [dR, resN, dW]
  have hr : ∀ r : SRes, (dR ℓ r).rd = (resN r).rd := fun r => rfl
  cases x <;> cases y <;> simp only [apart3, apart2, noSlot, Option.map_none, Option.map_some, hw, hr]

theorem clear_dF (locs : List Nat) (fr : SFr) : clear locs (dF ℓ fr) = dF ℓ (clearS locs fr) := by
  simp only [clear, clearS, dF, List.filter_map]
  rfl

theorem Agr.more {H : SHeap} {n : Nat} (h : Agr ℓ (H ++ List.replicate n [])) : Agr ℓ H := h.append

theorem runRegionS_spec {call : Nat → FuncId → SCall} (hc : ∀ i f, CallOK E.P f (call i f)) {id : Nat} {ops : Array Oper} {draw : Bool} {s s' : SSt} (h : (runRegionS E call id ops draw s).mean = some s') (ha : Agr ℓ s'.hp) :
    Agr ℓ s.hp ∧ ∃ calls : Nat → CL, (∀ k, Sound E.P (calls k)) ∧ ∀ E' : Env, EnvIs E E' → E'.call = calls → runRegion E' id ops draw (dS ℓ s) = some (dS ℓ s') := by
  unfold runRegionS at h
  obtain ⟨⟨s1, xs⟩, h1, h2⟩ := Tr.mean_bind h
  split at h2
  · exact (Tr.mean_fail h2).elim
  · rename_i hd
    have := Tr.mean_ret h2
    subst this
    obtain ⟨a1, calls, c1, c2⟩ := runLS_spec (ℓ := ℓ) hc _ _ _ _ h1 List.pairwise_lt_range ha
    refine ⟨a1.more, calls, c1, fun E' hE hcall => ?_⟩
    have := c2 E' hE (fun i _ _ => by rw [hcall])
    unfold runRegion
    have hrep : dH ℓ (s.hp ++ List.replicate (nMakes ops) []) = (dS ℓ s).hp ++ List.replicate (nMakes ops) [] := by
      rw [dH_append]
      simp [dS, dH]
    have hlen : (dS ℓ s).hp.length = s.hp.length := length_dH ℓ s.hp
    rw [hlen]
    have e : ({ dS ℓ s with hp := (dS ℓ s).hp ++ List.replicate (nMakes ops) [] } : St) = dS ℓ { s with hp := s.hp ++ List.replicate (nMakes ops) [] } := by
      simp only [dS] at hrep ⊢
      rw [hrep]
    rw [e, this]
    simp only
    have hpairs : ((E'.pairs id).all fun p => apart3 ops s.hp.length p.1 p.2 ((xs.map (Option.map (dR ℓ))).getD p.1 none) ((xs.map (Option.map (dR ℓ))).getD p.2 none)) =
        (E.pairs id).all fun q => apart3 ops s.hp.length q.1 q.2 ((xs.getD q.1 none).map resN) ((xs.getD q.2 none).map resN) := by
      rw [hE.2.2.2.2.1]
      congr 1
      funext p
      have hgd : ∀ i, (xs.map (Option.map (dR ℓ))).getD i none = (xs.getD i none).map (dR ℓ) := fun i => by
        simp only [List.getD_eq_getElem?_getD, List.getElem?_map]
        cases xs[i]? <;> rfl
      rw [hgd, hgd, apart3_names]
    rw [hpairs, if_neg (by simpa using hd)]
    simp only [dS, hE.2.2.2.1, clear_dF]

/-! ### Names that are there -/

def validV (H : SHeap) (v : SV) : Bool := (refsVS v).all fun g => (getS H g).isSome
def validA (H : SHeap) (v : SV) : Bool := (refsAS v).all fun g => (getS H g).isSome
def validB (H : SHeap) : SB → Bool
  | .box _ v => validA H v
  | _ => true
def validS (s : SSt) : Bool := (s.fr.all fun p => validV s.hp p.2) && s.hp.all fun l => l.all (validB s.hp)

section
variable {ℓ' : Lens}
theorem d1_congr {v : SV} (h : ∀ g ∈ refs1S v, ℓ g = ℓ' g) : d1 ℓ v = d1 ℓ' v := by
  cases v with
  | own t g => simp only [d1, h g (by simp [refs1S])]
  | _ => rfl
theorem map_congr' {d d' : SV → AV} {rf : SV → List Nm} (hd : ∀ v, (∀ g ∈ rf v, ℓ g = ℓ' g) → d v = d' v) {l : List SV} (h : ∀ g ∈ l.flatMap rf, ℓ g = ℓ' g) : l.map d = l.map d' :=
  List.map_congr_left fun v hv => hd v fun g hg => h g (List.mem_flatMap.2 ⟨v, hv, hg⟩)
theorem dC_congr {v : SV} (h : ∀ g ∈ refsCS v, ℓ g = ℓ' g) : dC ℓ v = dC ℓ' v := by
  cases v with
  | clo f cs => simp only [dC]; rw [map_congr' (fun v hv => d1_congr hv) h]
  | own t g => exact d1_congr (v := .own t g) h
  | _ => rfl
theorem dA_congr {v : SV} (h : ∀ g ∈ refsAS v, ℓ g = ℓ' g) : dA ℓ v = dA ℓ' v := by
  cases v with
  | agg cs => simp only [dA]; rw [map_congr' (fun v hv => dC_congr hv) h]
  | clo f cs => exact dC_congr (v := .clo f cs) h
  | own t g => exact d1_congr (v := .own t g) h
  | _ => rfl
theorem dV_congr {v : SV} (h : ∀ g ∈ refsVS v, ℓ g = ℓ' g) : dV ℓ v = dV ℓ' v := by
  cases v with
  | tup vs => simp only [dV]; rw [map_congr' (fun v hv => dA_congr hv) h]
  | agg cs => exact dA_congr (v := .agg cs) h
  | clo f cs => exact dA_congr (v := .clo f cs) h
  | own t g => exact d1_congr (v := .own t g) h
  | _ => rfl

theorem agr_eq {H : SHeap} (ha : Agr ℓ H) (hb : Agr ℓ' H) {g : Nm} (h : (getS H g).isSome = true) : ℓ g = ℓ' g := by
  obtain ⟨b, hb'⟩ := Option.isSome_iff_exists.1 h
  rw [ha g b hb', hb g b hb']

theorem dS_congr {s : SSt} (hv : validS s = true) (ha : Agr ℓ s.hp) (hb : Agr ℓ' s.hp) : dS ℓ s = dS ℓ' s := by
  simp only [validS, Bool.and_eq_true, List.all_eq_true] at hv
  obtain ⟨h1, h2⟩ := hv
  simp only [dS, dF, dH]
  congr 1
  · refine List.map_congr_left fun p hp => ?_
    rw [dV_congr fun g hg => agr_eq ha hb ((List.all_eq_true.1 (h1 p hp)) g hg)]
  · refine List.map_congr_left fun l hl => List.map_congr_left fun b hb' => ?_
    have := h2 l hl b hb'
    cases b with
    | box sz v => simp only [dB, dA_congr fun g hg => agr_eq ha hb ((List.all_eq_true.1 this) g hg)]
    | _ => rfl
end
end
/-! ### Loops without a bound -/

def loopN {A D : Type} (f : A → Option (A ⊕ D)) : Nat → A → Option D
  | 0, _ => none
  | n + 1, a => match f a with
    | some (.inl a') => loopN f n a'
    | some (.inr d) => some d
    | none => none

open Classical in
/-- The result of a loop, however many rounds it takes (the first rounds are computed). -/
noncomputable def loopT {A D : Type} (f : A → Option (A ⊕ D)) (a : A) : Option D :=
  match loopN f 4096 a with
  | some d => some d
  | none => if h : ∃ d, ∃ n, loopN f n a = some d then some h.choose else none

section
variable {A D : Type} {f : A → Option (A ⊕ D)}
theorem loopN_succ : ∀ (n : Nat) (a : A) (d : D), loopN f n a = some d → loopN f (n + 1) a = some d := by
  intro n
  induction n with
  | zero => intro a d h; cases h
  | succ n ih =>
    intro a d h
    rw [loopN] at h ⊢
    split at h
    · rename_i a' e; exact ih a' d h
    · exact h
    · cases h
theorem loopN_le {n m : Nat} (hle : n ≤ m) {a : A} {d : D} (h : loopN f n a = some d) : loopN f m a = some d := by
  induction hle with
  | refl => exact h
  | step _ ih => exact loopN_succ _ _ _ ih

theorem loopN_det {n m : Nat} {a : A} {d e : D} (h : loopN f n a = some d) (h' : loopN f m a = some e) : d = e := by
  have h1 := loopN_le (Nat.le_max_left n m) h
  have h2 := loopN_le (Nat.le_max_right n m) h'
  rw [h1] at h2
  exact Option.some.inj h2

theorem loopT_iff {a : A} {d : D} : loopT f a = some d ↔ ∃ n, loopN f n a = some d := by
  unfold loopT
  split
  · rename_i e he
    exact ⟨fun h => ⟨_, h ▸ he⟩, fun ⟨n, h⟩ => by rw [loopN_det he h]⟩
  constructor
  · intro h
    split at h
    · rename_i hh
      cases h
      exact hh.choose_spec
    · cases h
  · rintro ⟨n, h⟩
    have hh : ∃ d, ∃ n, loopN f n a = some d := ⟨d, n, h⟩
    rw [dif_pos hh]
    obtain ⟨m, hm⟩ := hh.choose_spec
    have h1 := loopN_le (Nat.le_max_left n m) h
    have h2 := loopN_le (Nat.le_max_right n m) hm
    rw [h1] at h2
    exact h2.symm

theorem loopT_inr {a : A} {d : D} (h : f a = some (.inr d)) : loopT f a = some d := loopT_iff.2 ⟨1, by rw [loopN, h]⟩
theorem loopT_inl {a a' : A} (h : f a = some (.inl a')) : loopT f a = loopT f a' := by
  have key : ∀ d, loopT f a = some d ↔ loopT f a' = some d := by
    intro d
    rw [loopT_iff, loopT_iff]
    constructor
    · rintro ⟨n, hn⟩
      cases n with
      | zero => cases hn
      | succ n => rw [loopN, h] at hn; exact ⟨n, hn⟩
    · rintro ⟨n, hn⟩
      exact ⟨n + 1, by rw [loopN, h]; exact hn⟩
  cases h1 : loopT f a' with
  | none =>
    cases h2 : loopT f a with
    | none => rfl
    | some d => rw [(key d).1 h2] at h1; cases h1
  | some d => exact (key d).2 h1
end
/-! ### Ways out -/

def Outs.fit (m : Nat) : (o : Outs) → Ex → SSt → Tr o.den
  | .one e σ, e', s => .when (exEq e e') (Abs.fit m σ s)
  | .more e σ r, e', s => match exEq e e' with
    | true => (Abs.fit m σ s).map .inl
    | false => (Outs.fit m r e' s).map .inr

def Outs.split {α : Type} : (o : Outs) → o.den → (Ex → SSt → Tr α) → Tr α
  | .one e σ, d, k => k e (σ.un d)
  | .more e σ r, d, k => .cs d (fun x => k e (σ.un x)) (fun y => Outs.split r y k)

theorem exEq_spec {a b : Ex} (h : exEq a b = true) : a = b := by
  cases a <;> cases b <;> first | rfl | (cases h; done) | (simp [exEq] at h; rw [h])

theorem Outs.spec {α : Type} {m : Nat} {e : Ex} {s : SSt} {k : Ex → SSt → Tr α} {r : α} : ∀ (o : Outs) (d : o.den), (o.fit m e s).mean = some d → (o.split d k).mean = some r →
    ∃ (σ : Sg) (v : σ.den), (Abs.fit m σ s).mean = some v ∧ (k e (σ.un v)).mean = some r := by
  intro o
  induction o with
  | one e' σ =>
    intro d h1 h2
    obtain ⟨h3, h4⟩ := Tr.mean_when h1
    have := exEq_spec h3
    subst this
    exact ⟨σ, d, h4, h2⟩
  | more e' σ r ih =>
    intro d h1 h2
    simp only [Outs.fit] at h1
    split at h1
    · rename_i h3
      have := exEq_spec h3
      subst this
      obtain ⟨v, h4, rfl⟩ := Tr.mean_map h1
      exact ⟨σ, v, h4, h2⟩
    · obtain ⟨v, h4, rfl⟩ := Tr.mean_map h1
      exact ih v h4 h2

/-! ### Code -/

structure LAn where
  σ : Sg
  outs : Outs

/-- What a table says of a function's code: where paths are joined and in which shape; the shapes of loops; the tables for calls that are looked into. -/
structure FAn where
  reg : Nat → Option Sg := fun _ => none
  seq : Nat → Option (Sg × Option Outs) := fun _ => none
  loop : Nat → Option LAn := fun _ => none
  inl : Nat → Nat → Nat := fun _ _ => 0

/-! ### A range over a function -/

/-- Values that do not speak of the length of a block. -/
def free1 : SV → Bool
  | .own .. => false
  | _ => true
def freeC : SV → Bool
  | .clo _ cs => cs.all free1
  | v => free1 v
def freeA : SV → Bool
  | .agg cs => cs.all freeC
  | v => freeC v
def freeV : SV → Bool
  | .tup vs => vs.all freeA
  | v => freeA v

theorem free1_d {v : SV} (h : free1 v = true) (ℓ ℓ' : Lens) : d1 ℓ v = d1 ℓ' v := by cases v <;> first | rfl | cases h
theorem free_list {f : SV → Bool} {d : Lens → SV → AV} (h : ∀ v, f v = true → ∀ ℓ ℓ', d ℓ v = d ℓ' v) {l : List SV} (hl : l.all f = true) (ℓ ℓ' : Lens) : l.map (d ℓ) = l.map (d ℓ') :=
  List.map_congr_left fun x hx => h x (List.all_eq_true.1 hl x hx) ℓ ℓ'
theorem freeC_d {v : SV} (h : freeC v = true) (ℓ ℓ' : Lens) : dC ℓ v = dC ℓ' v := by
  cases v <;> first | rfl | (cases h; done) | (simp only [dC]; rw [free_list (fun v h => free1_d h) h ℓ ℓ'])
theorem freeA_d {v : SV} (h : freeA v = true) (ℓ ℓ' : Lens) : dA ℓ v = dA ℓ' v := by
  cases v <;> first | rfl | (cases h; done) | exact freeC_d (v := .clo _ _) h ℓ ℓ' | (simp only [dA]; rw [free_list (fun v h => freeC_d h) h ℓ ℓ'])
theorem freeV_d {v : SV} (h : freeV v = true) (ℓ ℓ' : Lens) : dV ℓ v = dV ℓ' v := by
  cases v <;> first | rfl | (cases h; done) | exact freeA_d (v := .clo _ _) h ℓ ℓ' | exact freeA_d (v := .agg _) h ℓ ℓ' | (simp only [dV]; rw [free_list (fun v h => freeA_d h) h ℓ ℓ'])
theorem freeF_d {fr : SFr} (h : fr.all (fun p => freeV p.2) = true) (ℓ ℓ' : Lens) : dF ℓ fr = dF ℓ' fr :=
  List.map_congr_left fun p hp => by rw [freeV_d (List.all_eq_true.1 h p hp) ℓ ℓ']

/-- What a range over a function runs on: its two slots, and the row of which the iterator gives the one element. -/
structure Rng where
  p1 : Nat
  p2 : Nat
  t : Ty
  l : List t.den

def rng1 (gv : FuncId → Option Nat) (E : SEnv) (s : SSt) (g : Operand) (ps : Array Nat) (a b : Code) : Option Rng :=
  match ps.toList with
  | [p1, p2] => match evS s.fr g with
    | .clo gf [.ptr gb 1 0 0] => match gv gf with
      | some sz => match getS s.hp gb with
        | some (.box 1 (.row t l _)) => cond (t.agg && decide (t.size = sz ∧ p1 < E.nt ∧ p2 < E.nt) && s.hp.all (fun l => decide (l.length ≤ 1)) && noRange a && noRange b && okCode E.pairs a && okCode E.pairs b && s.fr.all (fun p => freeV p.2)) (some ⟨p1, p2, t, l⟩) none
        | _ => none
      | none => none
    | _ => none
  | _ => none

noncomputable def execK (E : SEnv) (gv : FuncId → Option Nat) (call : Nat → Nat → FuncId → SCall) (an : FAn) : Code → Nat → SSt → Tr (Ex × SSt)
  | .skip, _, s => .ret (.normal, s)
  | .region id ops draw, m, s => match an.reg id with
    | none => (runRegionS E (call id) id ops draw s).bind fun s => .ret (.normal, s)
    | some σ => .ask ((runRegionS E (call id) id ops draw s).bind fun s => fit m σ s).mean fun v => .ret (.normal, σ.un v)
  | .seq a b, m, s => match an.seq (firstId b) with
    | none => (execK E gv call an a m s).bind fun p => match p.1 with
      | .normal => execK E gv call an b m p.2
      | e => .ret (e, p.2)
    | some (σ, none) => .ask ((execK E gv call an a m s).bind fun p => match p.1 with
      | .normal => fit m σ p.2
      | _ => .fail).mean fun v => execK E gv call an b m (σ.un v)
    | some (σ, some o) => .ask ((execK E gv call an a m s).bind fun p => match p.1 with
      | .normal => (fit m σ p.2).bind fun v => .ret (Sum.inl v)
      | e => (o.fit m e p.2).bind fun d => .ret (Sum.inr d)).mean fun r => .cs r (fun v => execK E gv call an b m (σ.un v)) (fun d => o.split d fun e s => .ret (e, s))
  | .cond c a b, m, s => match evS s.fr c with
    | .bool p => .br p (execK E gv call an a m s) (execK E gv call an b m s)
    | _ => .fail
  | .block id b, m, s => (execK E gv call an b m s).bind fun p => .ret (leave id p.1, p.2)
  | .scope b, m, s => execK E gv call an b m s
  | .loop b, m, s => match an.loop (firstId b) with
    | some la => (fit m la.σ s).bind fun v => .ask (loopT (fun v => ((execK E gv call an b m (la.σ.un v)).bind fun p => match p.1 with
        | .normal => (fit m la.σ p.2).bind fun v => .ret (Sum.inl v)
        | e => (la.outs.fit m e p.2).bind fun d => .ret (Sum.inr d)).mean) v) fun d => la.outs.split d fun e s => .ret (e, s)
    | none => .fail
  | .rangeFunc g ps a b, m, s => match an.loop (firstId b) with
    | some la => (fit m la.σ s).bind fun v => match rng1 gv E (la.σ.un v) g ps a b with
      | some q => .need (decide (q.l.length = 1)) (.look q.l 0 fun x _ =>
          (execK E gv call an a (la.σ.un v).hp.length { fr := insS q.p2 (unT q.t x) (insS q.p1 (.int .i64 0) (la.σ.un v).fr), hp := (la.σ.un v).hp }).bind fun p => match p.1 with
            | .normal => (execK E gv call an b (la.σ.un v).hp.length p.2).bind fun r => .ret (r.1, { fr := (la.σ.un v).fr, hp := r.2.hp })
            | _ => .fail)
      | none => .fail
    | none => .fail
  | .exit id, _, s => .ret (.exit id, s)
  | .label _, _, s => .ret (.normal, s)
  | .ret, _, s => .ret (.ret, s)
  | _, _, _ => .fail

theorem Tr.mean_look {α A : Type} {l : List A} {n : Int} {k : (x : A) → l[n.toNat]? = some x → Tr α} {b : α} (h : (Tr.look l n k).mean = some b) : ∃ x, ∃ hx : l[n.toNat]? = some x, (k x hx).mean = some b := by
  simp only [Tr.mean, rowAt] at h
  cases hn : decide (0 ≤ n) with
  | false => rw [hn] at h; cases h
  | true =>
    rw [hn, cond_true] at h
    obtain ⟨x, hx, h1⟩ := Option.pbind_eq_some_iff.1 h
    exact ⟨x, hx, h1⟩
theorem Tr.mean_ask {α A : Type} {m : Option A} {k : A → Tr α} {b : α} (h : (Tr.ask m k).mean = some b) : ∃ a, m = some a ∧ (k a).mean = some b := Option.bind_eq_some_iff.1 h

theorem one_of {A : Type} {l : List A} {x : A} (h : l.length = 1) (hx : l[0]? = some x) : l = [x] := by
  obtain ⟨y, rfl⟩ := List.length_eq_one_iff.1 h
  simpa using hx

theorem runLS_keep (E : SEnv) (m : Nat) (call : Nat → FuncId → SCall) (ops : Array Oper) (base : Nat) : ∀ (l : List Nat) (s : SSt), runLS { E with keep := m } call ops base l s = runLS E call ops base l s := by
  intro l
  induction l with
  | nil => intro s; rfl
  | cons i r ih =>
    intro s
    simp only [runLS, ih]
    rfl
theorem runRegionS_keep (E : SEnv) (m : Nat) (call : Nat → FuncId → SCall) (id : Nat) (ops : Array Oper) (draw : Bool) (s : SSt) : runRegionS { E with keep := m } call id ops draw s = runRegionS E call id ops draw s := by
  simp only [runRegionS, runLS_keep]

section
variable {E : SEnv} {gv : FuncId → Option Nat} {call : Nat → Nat → FuncId → SCall} {an : FAn}
theorem execK_spec (hV : ∀ f sz, gv f = some sz → Gives1 E.P f sz ∧ Entered E.P f) (hm : E.P.follows .mixedOrders = true) (hc : ∀ r i f, CallOK E.P f (call r i f)) : ∀ (c : Code), okCode E.pairs c = true → ∀ (m : Nat) (s s' : SSt) (e : Ex), (execK E gv call an c m s).mean = some (e, s') → ∀ ℓ' : Lens, Agr ℓ' s'.hp →
    ∃ ℓ, Agr ℓ s.hp ∧ To E.P E.nt m c (dS ℓ s) e (dS ℓ' s') := by
  have fitted : ∀ {m : Nat} {c : Code} {s s1 s' : SSt} {e : Ex} {σ : Sg} {v : σ.den}, (∀ ℓ' : Lens, Agr ℓ' s1.hp → ∃ ℓ, Agr ℓ s.hp ∧ To E.P E.nt m c (dS ℓ s) e (dS ℓ' s1)) → (fit m σ s1).mean = some v → σ.un v = s' →
      ∀ ℓ' : Lens, Agr ℓ' s'.hp → ∃ ℓ, Agr ℓ s.hp ∧ To E.P E.nt m c (dS ℓ s) e (dS ℓ' s') := by
    intro m c s s1 s' e σ v h hf hs ℓ' ha
    subst hs
    obtain ⟨l1, a1, w1⟩ := fit_spec (nt := E.nt) hf ha
    obtain ⟨l0, a0, t0⟩ := h l1 a1
    exact ⟨l0, a0, t0.post w1⟩
  intro c
  induction c with
  | skip =>
    intro _ m s s' e h ℓ' ha
    have := Tr.mean_ret h
    cases this
    exact ⟨ℓ', ha, To.skip⟩
  | label l =>
    intro _ m s s' e h ℓ' ha
    have := Tr.mean_ret h
    cases this
    exact ⟨ℓ', ha, To.label⟩
  | exit id =>
    intro _ m s s' e h ℓ' ha
    have := Tr.mean_ret h
    cases this
    exact ⟨ℓ', ha, To.exit⟩
  | ret =>
    intro _ m s s' e h ℓ' ha
    have := Tr.mean_ret h
    cases this
    exact ⟨ℓ', ha, To.ret⟩
  | region id ops draw =>
    intro hok m s s' e h
    have run : ∀ s1, (runRegionS E (call id) id ops draw s).mean = some s1 → ∀ ℓ' : Lens, Agr ℓ' s1.hp → ∃ ℓ, Agr ℓ s.hp ∧ To E.P E.nt m (.region id ops draw) (dS ℓ s) .normal (dS ℓ' s1) := by
      intro s1 h1 ℓ' ha
      rw [← runRegionS_keep E m] at h1
      obtain ⟨a1, calls, c1, c2⟩ := runRegionS_spec (E := { E with keep := m }) (ℓ := ℓ') (hc id) h1 ha
      refine ⟨ℓ', a1, ?_⟩
      have := c2 ⟨E.P, E.N, calls, E.nt, E.locs, E.pairs, m, false⟩ ⟨rfl, rfl, rfl, rfl, rfl, rfl, rfl⟩ rfl
      exact To.region (E := ⟨E.P, E.N, calls, E.nt, E.locs, E.pairs, m, false⟩) c1 hm hok this
    simp only [execK] at h
    split at h
    · obtain ⟨s1, h1, h2⟩ := Tr.mean_bind h
      have := Tr.mean_ret h2
      simp only [Prod.mk.injEq] at this
      obtain ⟨rfl, rfl⟩ := this
      exact run _ h1
    · obtain ⟨v, h1, h2⟩ := Tr.mean_ask h
      have := Tr.mean_ret h2
      cases this
      obtain ⟨s1, h3, h4⟩ := Tr.mean_bind h1
      exact fitted (run s1 h3) h4 rfl
  | seq x y ihx ihy =>
    intro hok m s s' e h
    simp only [okCode, Bool.and_eq_true] at hok
    have both : ∀ {s1 : SSt}, (∀ ℓ' : Lens, Agr ℓ' s1.hp → ∃ ℓ, Agr ℓ s.hp ∧ To E.P E.nt m x (dS ℓ s) .normal (dS ℓ' s1)) → (execK E gv call an y m s1).mean = some (e, s') →
        ∀ ℓ' : Lens, Agr ℓ' s'.hp → ∃ ℓ, Agr ℓ s.hp ∧ To E.P E.nt m (.seq x y) (dS ℓ s) e (dS ℓ' s') := by
      intro s1 h1 h2 ℓ' ha
      obtain ⟨l1, a1, t1⟩ := ihy hok.2 m s1 s' e h2 ℓ' ha
      obtain ⟨l0, a0, t0⟩ := h1 l1 a1
      exact ⟨l0, a0, t0.seq t1⟩
    have out : ∀ {e1 : Ex} {s1 : SSt}, e1 ≠ .normal → (∀ ℓ' : Lens, Agr ℓ' s1.hp → ∃ ℓ, Agr ℓ s.hp ∧ To E.P E.nt m x (dS ℓ s) e1 (dS ℓ' s1)) →
        ∀ ℓ' : Lens, Agr ℓ' s1.hp → ∃ ℓ, Agr ℓ s.hp ∧ To E.P E.nt m (.seq x y) (dS ℓ s) e1 (dS ℓ' s1) := by
      intro e1 s1 he h1 ℓ' ha
      obtain ⟨l0, a0, t0⟩ := h1 ℓ' ha
      exact ⟨l0, a0, t0.seq_out he⟩
    simp only [execK] at h
    split at h
    · obtain ⟨⟨e1, s1⟩, h1, h2⟩ := Tr.mean_bind h
      cases e1 with
      | normal => exact both (ihx hok.1 m s s1 _ h1) h2
      | exit id =>
        have := Tr.mean_ret h2
        cases this
        exact out (fun e => by cases e) (ihx hok.1 m s s1 _ h1)
      | ret =>
        have := Tr.mean_ret h2
        cases this
        exact out (fun e => by cases e) (ihx hok.1 m s s1 _ h1)
    · obtain ⟨v, h1, h2⟩ := Tr.mean_ask h
      obtain ⟨⟨e1, s1⟩, h3, h4⟩ := Tr.mean_bind h1
      cases e1 with
      | normal => exact both (fitted (ihx hok.1 m s s1 _ h3) h4 rfl) h2
      | exit id => exact (Tr.mean_fail h4).elim
      | ret => exact (Tr.mean_fail h4).elim
    · rename_i σ o _
      obtain ⟨rr, h1, h2⟩ := Tr.mean_ask h
      obtain ⟨⟨e1, s1⟩, h3, h4⟩ := Tr.mean_bind h1
      have left : ∀ {e1 : Ex}, e1 ≠ .normal → (execK E gv call an x m s).mean = some (e1, s1) → ((o.fit m e1 s1).bind fun d => .ret (Sum.inr d)).mean = some rr →
          ∀ ℓ' : Lens, Agr ℓ' s'.hp → ∃ ℓ, Agr ℓ s.hp ∧ To E.P E.nt m (.seq x y) (dS ℓ s) e (dS ℓ' s') := by
        intro e1 he h3 h4
        obtain ⟨d, h5, h6⟩ := Tr.mean_bind h4
        have := Tr.mean_ret h6
        subst this
        obtain ⟨σ', v, h7, h8⟩ := Outs.spec o d h5 h2
        have := Tr.mean_ret h8
        cases this
        exact out he (fitted (ihx hok.1 m s s1 _ h3) h7 rfl)
      cases e1 with
      | normal =>
        obtain ⟨v, h5, h6⟩ := Tr.mean_bind h4
        have := Tr.mean_ret h6
        subst this
        exact both (fitted (ihx hok.1 m s s1 _ h3) h5 rfl) h2
      | exit id => exact left (fun e => by cases e) h3 h4
      | ret => exact left (fun e => by cases e) h3 h4
  | cond c x y ihx ihy =>
    intro hok m s s' e h ℓ' ha
    simp only [okCode, Bool.and_eq_true] at hok
    simp only [execK] at h
    split at h
    · rename_i p hp
      have hev : ∀ ℓ, evO (dS ℓ s).fr c = .bool p := fun ℓ => by
        rw [show evO (dS ℓ s).fr c = dV ℓ (evS s.fr c) from (evS_d ℓ s.fr c).symm, hp]; rfl
      cases p with
      | true =>
        obtain ⟨l0, a0, t0⟩ := ihx hok.1 m s s' e h ℓ' ha
        exact ⟨l0, a0, To.cond (hev l0) (by simpa using t0)⟩
      | false =>
        obtain ⟨l0, a0, t0⟩ := ihy hok.2 m s s' e h ℓ' ha
        exact ⟨l0, a0, To.cond (hev l0) (by simpa using t0)⟩
    · exact (Tr.mean_fail h).elim
  | block id b ih =>
    intro hok m s s' e h ℓ' ha
    obtain ⟨⟨e1, s1⟩, h1, h2⟩ := Tr.mean_bind h
    have := Tr.mean_ret h2
    cases this
    obtain ⟨l0, a0, t0⟩ := ih (by simpa [okCode] using hok) m s s1 e1 h1 ℓ' ha
    exact ⟨l0, a0, t0.block⟩
  | scope b ih =>
    intro hok m s s' e h ℓ' ha
    obtain ⟨l0, a0, t0⟩ := ih (by simpa [okCode] using hok) m s s' e h ℓ' ha
    exact ⟨l0, a0, t0.scope⟩
  | loop b ih =>
    intro hok m s s' e h
    have hok' : okCode E.pairs b = true := by simpa [okCode] using hok
    simp only [execK] at h
    split at h
    · rename_i la hla
      obtain ⟨v, h1, h2⟩ := Tr.mean_bind h
      obtain ⟨d, h3, h4⟩ := Tr.mean_ask h2
      obtain ⟨n, hn⟩ := loopT_iff.1 h3
      -- the rounds
      have key : ∀ (n : Nat) (v : la.σ.den), loopN (fun v => ((execK E gv call an b m (la.σ.un v)).bind fun p => match p.1 with
          | .normal => (fit m la.σ p.2).bind fun v => .ret (Sum.inl v)
          | e => (la.outs.fit m e p.2).bind fun d => .ret (Sum.inr d)).mean) n v = some d →
          ∀ ℓ' : Lens, Agr ℓ' s'.hp → ∃ ℓ, Agr ℓ (la.σ.un v).hp ∧ Iter E.P E.nt m b (dS ℓ (la.σ.un v)) e (dS ℓ' s') := by
        intro n
        induction n with
        | zero => intro v h; cases h
        | succ n ihn =>
          intro v h ℓ' ha
          rw [loopN] at h
          have left : ∀ {e1 : Ex} {s1 : SSt}, e1 ≠ .normal → (execK E gv call an b m (la.σ.un v)).mean = some (e1, s1) → ((la.outs.fit m e1 s1).bind fun d => .ret (Sum.inr (α := la.σ.den) d)).mean = some (Sum.inr d) →
              ∃ ℓ, Agr ℓ (la.σ.un v).hp ∧ Iter E.P E.nt m b (dS ℓ (la.σ.un v)) e (dS ℓ' s') := by
            intro e1 s1 he h5 h6
            obtain ⟨d', h7, h8⟩ := Tr.mean_bind h6
            have := Tr.mean_ret h8
            cases this
            obtain ⟨σ', v', h9, h10⟩ := Outs.spec la.outs d h7 h4
            have := Tr.mean_ret h10
            cases this
            obtain ⟨l0, a0, t0⟩ := fitted (ih hok' m _ s1 _ h5) h9 rfl ℓ' ha
            exact ⟨l0, a0, .out t0 he⟩
          split at h
          · rename_i v' hv'
            obtain ⟨⟨e1, s1⟩, h5, h6⟩ := Tr.mean_bind hv'
            cases e1 with
            | normal =>
              obtain ⟨v2, h7, h8⟩ := Tr.mean_bind h6
              have := Sum.inl.inj (Tr.mean_ret h8)
              subst this
              obtain ⟨l1, a1, t1⟩ := ihn v2 h ℓ' ha
              obtain ⟨l0, a0, t0⟩ := fitted (ih hok' m _ s1 _ h5) h7 rfl l1 a1
              exact ⟨l0, a0, .next t0 t1⟩
            | exit id => obtain ⟨_, _, h8⟩ := Tr.mean_bind h6; have := Tr.mean_ret h8; cases this
            | ret => obtain ⟨_, _, h8⟩ := Tr.mean_bind h6; have := Tr.mean_ret h8; cases this
          · rename_i d' hd'
            cases h
            obtain ⟨⟨e1, s1⟩, h5, h6⟩ := Tr.mean_bind hd'
            cases e1 with
            | normal => obtain ⟨_, _, h8⟩ := Tr.mean_bind h6; have := Tr.mean_ret h8; cases this
            | exit id => exact left (fun e => by cases e) h5 h6
            | ret => exact left (fun e => by cases e) h5 h6
          · cases h
      intro ℓ' ha
      obtain ⟨l1, a1, i1⟩ := key n v hn ℓ' ha
      obtain ⟨l0, a0, w0⟩ := fit_spec (nt := E.nt) h1 a1
      exact ⟨l0, a0, (To.loop i1).pre w0⟩
    · exact (Tr.mean_fail h).elim
  | rangeFunc g ps a b iha ihb =>
    intro _ m s s' e h
    simp only [execK] at h
    split at h
    · rename_i la hla
      obtain ⟨v, h1, h2⟩ := Tr.mean_bind h
      generalize hs0 : la.σ.un v = s0 at h2
      split at h2
      · rename_i q hq
        obtain ⟨h3, h4⟩ := Tr.mean_need h2
        have h3 := of_decide_eq_true h3
        obtain ⟨x, hx, h5⟩ := Tr.mean_look h4
        obtain ⟨⟨e1, s1⟩, h6, h7⟩ := Tr.mean_bind h5
        cases e1 with
        | exit id => exact (Tr.mean_fail h7).elim
        | ret => exact (Tr.mean_fail h7).elim
        | normal =>
          obtain ⟨⟨e2, s2⟩, h8, h9⟩ := Tr.mean_bind h7
          have := Tr.mean_ret h9
          simp only [Prod.mk.injEq] at this
          obtain ⟨rfl, rfl⟩ := this
          unfold rng1 at hq
          split at hq
          · rename_i p1 p2 hps
            split at hq
            · rename_i gf gb hev
              split at hq
              · rename_i sz hgv
                split at hq
                · rename_i t l tt hk
                  cases hc : (t.agg && decide (t.size = sz ∧ p1 < E.nt ∧ p2 < E.nt) && s0.hp.all (fun l => decide (l.length ≤ 1)) && noRange a && noRange b && okCode E.pairs a && okCode E.pairs b && s0.fr.all (fun p => freeV p.2)) with
                  | false => rw [hc] at hq; cases hq
                  | true =>
                    rw [hc, cond_true] at hq
                    cases hq
                    simp only [Bool.and_eq_true, decide_eq_true_eq] at hc
                    obtain ⟨⟨⟨⟨⟨⟨⟨c0, rfl, c1, c2⟩, c3⟩, c4⟩, c5⟩, c6⟩, c7⟩, c8⟩ := hc
                    have hps' : ps = #[p1, p2] := by rw [← ps.toArray_toList, hps]
                    subst hps'
                    obtain ⟨v1, v2⟩ := hV _ _ hgv
                    have hl : l = [x] := one_of h3 hx
                    intro ℓ' ha
                    obtain ⟨l1, a1, t1⟩ := ihb c7 _ _ _ _ h8 ℓ' ha
                    obtain ⟨l0, a0, t0⟩ := iha c6 _ _ _ _ h6 l1 a1
                    have henc : enc t x = .agg (encC t x) := by unfold enc wrap; rw [c0]
                    have hto := To.range1 (P := E.P) (nt := E.nt) (keep := m) (s := dS l0 s0) (t1 := dS l1 s1) (t2 := dS ℓ' s2) (e := e2) (g := g) (gf := gf) (p1 := p1) (p2 := p2) (assign := a) (body := b) (gb := gb)
                      (k := ⟨1, [rowAV t l tt], 0, true⟩) (sz := t.size) (cs := encC t x) (t := tt)
                      (by rw [show (dS l0 s0).fr = dF l0 s0.fr from rfl, ← evS_d, hev]; rfl) (by rw [show (dS l0 s0).hp = dH l0 s0.hp from rfl, get_dH, hk]; rfl) rfl
                      (by show [rowAV t l tt] = _; unfold rowAV; rw [hl, List.map_cons, List.map_nil, henc]; rfl) v1 v2 c1 c2
                      (fun i => by
                        show ((dH l0 s0.hp).getD i []).length ≤ 1
                        rw [List.getD_eq_getElem?_getD, dH, List.getElem?_map]
                        cases hi : s0.hp[i]? with
                        | none => simp
                        | some l => simpa using of_decide_eq_true (List.all_eq_true.1 c3 l (List.mem_of_getElem? hi)))
                      c4 c5
                      (by
                        have e1 : (dS l0 s0).hp.length = s0.hp.length := length_dH l0 s0.hp
                        rw [e1]
                        have e2 : dS l0 { fr := insS p2 (unT t x) (insS p1 (.int .i64 0) s0.fr), hp := s0.hp } = { fr := ins p2 (.agg (encC t x)) (ins p1 (.int .i64 0) (dS l0 s0).fr), hp := (dS l0 s0).hp } := by
                          show St.mk _ _ = St.mk _ _
                          rw [ins_dF, ins_dF, ← henc, ← unT_enc t x l0]
                          have : dV l0 (unT t x) = dA l0 (unT t x) := by
                            have := isAgg_unT t x
                            rw [c0] at this
                            cases hu : unT t x <;> first | rfl | (rw [hu] at this; cases this)
                          rw [this]
                          rfl
                        rw [← e2]
                        exact t0)
                      (by rw [show (dS l0 s0).hp.length = s0.hp.length from length_dH l0 s0.hp]; exact t1)
                    obtain ⟨lz, az, w0⟩ := fit_spec (nt := E.nt) h1 (by rw [hs0]; exact a0)
                    refine ⟨lz, az, ?_⟩
                    rw [hs0] at w0
                    have e3 : (dS ℓ' { fr := s0.fr, hp := s2.hp }) = { fr := (dS l0 s0).fr, hp := (dS ℓ' s2).hp } := by
                      show St.mk (dF ℓ' s0.fr) _ = St.mk (dF l0 s0.fr) _
                      rw [freeF_d c8 ℓ' l0]
                      rfl
                    rw [e3]
                    exact hto.pre w0
                · cases hq
              · cases hq
            · cases hq
          · cases hq
      · exact (Tr.mean_fail h2).elim
    · exact (Tr.mean_fail h).elim
  | _ =>
    intro _ m s s' e h
    exact (Tr.mean_fail h).elim

end
end Go.Abs
