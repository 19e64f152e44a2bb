/- Typed values that are not known; a run on them is a tree. Definitions: values, memory, shapes. -/
import Derived.Test.YtcblbcpnfidndaaPwR
set_option linter.unusedSimpArgs false
set_option linter.unusedVariables false
namespace Go.Abs
open Go

/-! ### Types of data -/

/-- A type of data. A struct or an array is a chain of 'cons'. -/
inductive Ty where
  | int (k : IntKind)
  | bool
  | str
  | row (t : Ty)
  | unit
  | cons (a b : Ty)
  deriving DecidableEq

def Ty.den : Ty → Type
  | .int _ => Int
  | .bool => Bool
  | .str => ByteArray
  | .row t => List t.den
  | .unit => Unit
  | .cons a b => a.den × b.den

def Ty.agg : Ty → Bool
  | .unit | .cons .. => true
  | _ => false

/-- The number of cells. -/
def Ty.size : Ty → Nat
  | .unit => 0
  | .cons a b => a.size + b.size
  | _ => 1

/-- An element out of its cells. -/
def wrap (agg : Bool) (cs : List AV) : AV :=
  match agg with
  | true => .agg cs
  | false => match cs with
    | [c] => c
    | _ => .undef

/-- The cells of a datum. -/
def encC : (t : Ty) → t.den → List AV
  | .int k, n => [.int k n]
  | .bool, b => [.bool b]
  | .str, s => [.str s]
  | .row t, l => [.lst (lsz t.size (List.map (fun x => wrap t.agg (encC t x)) l)) (List.map (fun x => wrap t.agg (encC t x)) l) false]
  | .unit, _ => []
  | .cons a b, x => encC a x.1 ++ encC b x.2

def enc (t : Ty) (x : t.den) : AV := wrap t.agg (encC t x)

/-! ### Values -/

inductive SV where
  | undef
  | int (k : IntKind) (n : Int)
  | bool (b : Bool)
  | str (s : ByteArray)
  | nilp
  | nilf
  | row (t : Ty) (l : List t.den) (tight : Bool)
  | own (t : Ty) (g : Nm)
  | part (t : Ty) (g : Nm) (off len : Nat)
  | ptr (g : Nm) (sz i off : Nat)
  | lp (t : Ty) (l : List t.den) (i : Nat) (x : t.den) (h : l[i]? = some x) (off : Nat)
  | clo (f : FuncId) (caps : List SV)
  | fm (l : List (Int × FuncId × List FuncId))
  | fp (g : FuncId)
  | agg (cs : List SV)
  | tup (vs : List SV)

instance : Inhabited SV := ⟨.undef⟩

/-- The lengths of blocks. -/
abbrev Lens := Nm → Nat

def rowAV (t : Ty) (l : List t.den) (tight : Bool) : AV := .lst (lsz t.size (l.map (enc t))) (l.map (enc t)) tight

def d1 (ℓ : Lens) : SV → AV
  | .int k n => .int k n
  | .bool b => .bool b
  | .str s => .str s
  | .nilp => .nilp
  | .nilf => .nilf
  | .row t l tight => rowAV t l tight
  | .own t g => .own g t.size 0 (ℓ g)
  | .part t g off len => .own g t.size off len
  | .ptr g sz i off => .ptr g sz i off
  | .lp t l i _ _ off => .lp t.size (l.map (enc t)) i off
  | .fm l => .fm l
  | .fp g => .fp g
  | _ => .undef
def dC (ℓ : Lens) : SV → AV
  | .clo f cs => .clo f (cs.map (d1 ℓ))
  | v => d1 ℓ v
def dA (ℓ : Lens) : SV → AV
  | .agg cs => .agg (cs.map (dC ℓ))
  | v => dC ℓ v
def dV (ℓ : Lens) : SV → AV
  | .tup vs => .tup (vs.map (dA ℓ))
  | v => dA ℓ v

def SV.cells : SV → List SV
  | .agg cs => cs
  | v => [v]
def SV.isAgg : SV → Bool
  | .agg _ => true
  | _ => false
def okSC : SV → Bool
  | .undef | .agg _ | .tup _ => false
  | _ => true
def okSV : SV → Bool
  | .agg _ => true
  | v => okSC v

/-! ### Memory -/

/-- From which element on a block may be written. -/
inductive Fz where
  | zero
  | all
  | low (k : Nat)

def Fz.n (len : Nat) : Fz → Nat
  | .zero => 0
  | .all => len
  | .low k => len - k

inductive SB where
  | box (sz : Nat) (v : SV)
  | arr (t : Ty) (l : List t.den) (z : Fz)
  | mp (t : Ty) (l : List (Int × t.den))
  | dead (n : Nat)

def SB.len : SB → Nat
  | .arr _ l _ => l.length
  | .dead n => n
  | .mp .. => 0
  | .box .. => 0

abbrev SHeap := List (List SB)

def dB (ℓ : Lens) : SB → Option Blk
  | .box sz v => some ⟨sz, [dA ℓ v], 0, true⟩
  | .arr t l z => some ⟨t.size, l.map (enc t), z.n l.length, false⟩
  | .mp t l => some ⟨0, l.map fun p => .agg [.int .i64 p.1, enc t p.2], 0, false⟩
  | .dead _ => none

def dH (ℓ : Lens) (H : SHeap) : Heap := H.map fun l => l.map (dB ℓ)

def getS (H : SHeap) (g : Nm) : Option SB :=
  match H[g.1]? with
  | some l => l[g.2]?
  | none => none

def setS (H : SHeap) (g : Nm) (b : SB) : SHeap := H.modify g.1 fun l => l.set g.2 b

def lenS (H : SHeap) : Lens := fun g => match getS H g with
  | some b => b.len
  | none => 0

/-- The lengths are those of the blocks that are there. -/
def Agr (ℓ : Lens) (H : SHeap) : Prop := ∀ g b, getS H g = some b → ℓ g = b.len

abbrev SFr := List (Nat × SV)

def lookS : SFr → Nat → SV
  | [], _ => .undef
  | (s, x) :: r, t => if s = t then x else lookS r t

def insS (s : Nat) (x : SV) : SFr → SFr
  | [] => [(s, x)]
  | (t, y) :: r => if s < t then (s, x) :: (t, y) :: r else if s = t then (s, x) :: r else (t, y) :: insS s x r

structure SSt where
  fr : SFr
  hp : SHeap

def dF (ℓ : Lens) (fr : SFr) : Fr := fr.map fun p => (p.1, dV ℓ p.2)
def dS (ℓ : Lens) (s : SSt) : St := { fr := dF ℓ s.fr, hp := dH ℓ s.hp }

/-! ### Names -/

def refs1S : SV → List Nm
  | .ptr g _ _ _ => [g]
  | .own _ g => [g]
  | .part _ g _ _ => [g]
  | _ => []
def refsCS : SV → List Nm
  | .clo _ cs => cs.flatMap refs1S
  | v => refs1S v
def refsAS : SV → List Nm
  | .agg cs => cs.flatMap refsCS
  | v => refsCS v
def refsVS : SV → List Nm
  | .tup vs => vs.flatMap refsAS
  | v => refsAS v
def seeds1S : SV → List Nm
  | .ptr g _ _ _ => [g]
  | .clo _ cs => cs.flatMap refs1S
  | _ => []
def seedsVS : SV → List Nm
  | .agg cs => cs.flatMap seeds1S
  | v => seeds1S v
def refsBS (H : SHeap) (g : Nm) : List Nm :=
  match getS H g with
  | some (.box _ v) => refsAS v
  | _ => []
def growS (H : SHeap) (l : List Nm) : List Nm := addNew l (l.flatMap (refsBS H))
def reachS (H : SHeap) (l : List Nm) : List Nm := growS H (growS H (growS H (addNew [] l)))
def reachedS (H : SHeap) (m : Nat) (roots : List Nm) : List Nm := outside m (reachS H (addNew (firstNames m) roots))

def ren1S (f : Ren) : SV → SV
  | .ptr g sz i off => match f g with
    | some g' => .ptr g' sz i off
    | none => .undef
  | .own t g => match f g with
    | some g' => .own t g'
    | none => .undef
  | .part t g off len => match f g with
    | some g' => .part t g' off len
    | none => .undef
  | .clo _ _ => .undef
  | .agg _ => .undef
  | .tup _ => .undef
  | v => v
def renCS (f : Ren) : SV → SV
  | .clo fn cs => .clo fn (cs.map (ren1S f))
  | v => ren1S f v
def renAS (f : Ren) : SV → SV
  | .agg cs => .agg (cs.map (renCS f))
  | v => renCS f v
def renVS (f : Ren) : SV → SV
  | .tup vs => .tup (vs.map (renAS f))
  | v => renAS f v
def renBS (f : Ren) : SB → SB
  | .box sz v => .box sz (renAS f v)
  | b => b

/-! ### Trees -/

/-- A result under conditions. -/
inductive Tr (α : Type) : Type 1 where
  | ret (a : α)
  | fail
  | need (g : Bool) (t : Tr α)
  | br (p : Bool) (x y : Tr α)
  | ask {A : Type} (m : Option A) (k : A → Tr α)
  | look {A : Type} (l : List A) (n : Int) (k : (x : A) → l[n.toNat]? = some x → Tr α)
  | cs {A B : Type} (r : A ⊕ B) (f : A → Tr α) (g : B → Tr α)

/-- An element of a list, and what is done with it. -/
def rowAt {A B : Type} (l : List A) (n : Int) (k : (x : A) → l[n.toNat]? = some x → Option B) : Option B :=
  cond (decide (0 ≤ n)) (Option.pbind l[n.toNat]? k) none

def sumE {A B C : Type} (r : A ⊕ B) (f : A → C) (g : B → C) : C :=
  match r with
  | .inl a => f a
  | .inr b => g b

def Tr.mean {α : Type} : Tr α → Option α
  | .ret a => some a
  | .fail => none
  | .need g t => cond g t.mean none
  | .br p x y => cond p x.mean y.mean
  | .ask m k => m.bind fun a => (k a).mean
  | .look l n k => rowAt l n fun x h => (k x h).mean
  | .cs r f g => sumE r (fun a => (f a).mean) (fun b => (g b).mean)

def Tr.bind {α β : Type} (t : Tr α) (k : α → Tr β) : Tr β :=
  match t with
  | .ret a => k a
  | .fail => .fail
  | .need g t => .need g (t.bind k)
  | .br p x y => .br p (x.bind k) (y.bind k)
  | .ask m f => .ask m fun a => (f a).bind k
  | .look l n f => .look l n fun x h => (f x h).bind k
  | .cs r f g => .cs r (fun a => (f a).bind k) (fun b => (g b).bind k)

def Tr.map {α β : Type} (f : α → β) (t : Tr α) : Tr β := t.bind fun a => .ret (f a)

def Tr.of {α : Type} : Option α → Tr α
  | some a => .ret a
  | none => .fail

/-- What is known at once. -/
def Tr.when {α : Type} (b : Bool) (t : Tr α) : Tr α :=
  match b with
  | true => t
  | false => .fail

def Tr.mapM {α β : Type} (f : α → Tr β) : List α → Tr (List β)
  | [] => .ret []
  | a :: r => (f a).bind fun b => (Tr.mapM f r).bind fun bs => .ret (b :: bs)

/-! ### Data out of values, values out of data -/

/-- The cells of a datum. -/
def unC : (t : Ty) → t.den → List SV
  | .int k, n => [.int k n]
  | .bool, b => [.bool b]
  | .str, s => [.str s]
  | .row t, l => [.row t l false]
  | .unit, _ => []
  | .cons a b, x => unC a x.1 ++ unC b x.2

def unT (t : Ty) (x : t.den) : SV :=
  match t.agg with
  | true => .agg (unC t x)
  | false => match unC t x with
    | [c] => c
    | _ => .undef

def castL {t t' : Ty} (l : List t.den) : Option (List t'.den) :=
  if h : t = t' then some (h ▸ l) else match l with
    | [] => some []
    | _ => none

/-- A datum out of the first of some cells. -/
def paC : (t : Ty) → List SV → Option (t.den × List SV)
  | .int k, .int k' n :: r => if k = k' then some (n, r) else none
  | .bool, .bool b :: r => some (b, r)
  | .str, .str s :: r => some (s, r)
  | .row t, .row t' l _ :: r => match castL (t := t') (t' := t) l with
    | some l => some (l, r)
    | none => none
  | .unit, r => some ((), r)
  | .cons a b, r => match paC a r with
    | some (x, r) => match paC b r with
      | some (y, r) => some ((x, y), r)
      | none => none
    | none => none
  | _, _ => none

def paT (t : Ty) (v : SV) : Option t.den :=
  if v.isAgg = t.agg then
    match paC t v.cells with
    | some (x, []) => some x
    | _ => none
  else none

/-! ### Shapes -/

/-- What is known of a value without asking. -/
inductive Stt where
  | undef
  | nilp
  | nilf
  | nil
  | own (t : Ty) (g : Nm)
  | ptr (g : Nm) (sz i off : Nat)
  | clo (f : FuncId) (caps : List (Nm × Nat × Nat × Nat))
  | fm (l : List (Int × FuncId × List FuncId))
  | fp (g : FuncId)
  deriving DecidableEq

/-- The shape of some values. -/
inductive Sh where
  | nil
  | st (x : Stt) (r : Sh)
  | dat (t : Ty) (r : Sh)
  | part (t : Ty) (g : Nm) (r : Sh)
  | eptr (g : Nm) (sz off : Nat) (r : Sh)
  | agg (i r : Sh)

def Sh.den : Sh → Type
  | .nil => Unit
  | .st _ r => r.den
  | .dat t r => t.den × r.den
  | .part _ _ r => (Nat × Nat) × r.den
  | .eptr _ _ _ r => Nat × r.den
  | .agg i r => i.den × r.den

def Stt.un : Stt → SV
  | .undef => .undef
  | .nilp => .nilp
  | .nilf => .nilf
  | .nil => .row .unit [] true
  | .own t g => .own t g
  | .ptr g sz i off => .ptr g sz i off
  | .clo f caps => .clo f (caps.map fun c => .ptr c.1 c.2.1 c.2.2.1 c.2.2.2)
  | .fm l => .fm l
  | .fp g => .fp g

def Sh.un : (s : Sh) → s.den → List SV
  | .nil, _ => []
  | .st x r, v => x.un :: Sh.un r v
  | .dat t r, v => unT t v.1 :: Sh.un r v.2
  | .part t g r, v => .part t g v.1.1 v.1.2 :: Sh.un r v.2
  | .eptr g sz off r, v => .ptr g sz v.1 off :: Sh.un r v.2
  | .agg i r, v => .agg (Sh.un i v.1) :: Sh.un r v.2

def ptrEq (c : Nm × Nat × Nat × Nat) : SV → Bool
  | .ptr g sz i off => decide (c = (g, sz, i, off))
  | _ => false
def ptrsEq : List (Nm × Nat × Nat × Nat) → List SV → Bool
  | [], [] => true
  | c :: r, v :: vs => ptrEq c v && ptrsEq r vs
  | _, _ => false

def Stt.fits : Stt → SV → Bool
  | .undef, v => !v.isAgg
  | .nilp, .nilp => true
  | .nilf, .nilf => true
  | .nil, .row _ [] true => true
  | .own t g, .own t' g' => decide (t = t' ∧ g = g')
  | .ptr g sz i off, .ptr g' sz' i' off' => decide (g = g' ∧ sz = sz' ∧ i = i' ∧ off = off')
  | .clo f caps, .clo f' cs => decide (f = f') && ptrsEq caps cs
  | .fm l, .fm l' => decide (l = l')
  | .fp g, .fp g' => decide (g = g')
  | _, _ => false

def Sh.pa : (s : Sh) → List SV → Option s.den
  | .nil, [] => some ()
  | .st x r, v :: vs => if x.fits v then Sh.pa r vs else none
  | .dat t r, v :: vs => match paT t v, Sh.pa r vs with
    | some a, some b => some (a, b)
    | _, _ => none
  | .part t g r, v :: vs => match v, Sh.pa r vs with
    | .part t' g' off len, some b => if t = t' ∧ g = g' then some ((off, len), b) else none
    | _, _ => none
  | .eptr g sz off r, v :: vs => match v, Sh.pa r vs with
    | .ptr g' sz' i off', some b => if g = g' ∧ sz = sz' ∧ off = off' then some (i, b) else none
    | _, _ => none
  | .agg i r, v :: vs => match v, Sh.pa r vs with
    | .agg cs, some b => match Sh.pa i cs with
      | some a => some (a, b)
      | none => none
    | _, _ => none
  | _, _ => none

/-- The shape of some blocks. -/
inductive Bks where
  | nil
  | box (sz : Nat) (s : Sh) (r : Bks)
  | arr (t : Ty) (frozen : Bool) (r : Bks)
  | mp (t : Ty) (r : Bks)
  | dead (n : Nat) (r : Bks)

def Bks.den : Bks → Type
  | .nil => Unit
  | .box _ s r => s.den × r.den
  | .arr t _ r => List t.den × r.den
  | .mp t r => List (Int × t.den) × r.den
  | .dead _ r => r.den

def Bks.len : Bks → Nat
  | .nil => 0
  | .box _ _ r => r.len + 1
  | .arr _ _ r => r.len + 1
  | .mp _ r => r.len + 1
  | .dead _ r => r.len + 1

def fzOf (frozen : Bool) : Fz :=
  match frozen with
  | true => .all
  | false => .zero

def Bks.un : (b : Bks) → b.den → SHeap
  | .nil, _ => []
  | .box sz s r, v => [.box sz ((s.un v.1).headD .undef)] :: Bks.un r v.2
  | .arr t z r, v => [.arr t v.1 (fzOf z)] :: Bks.un r v.2
  | .mp t r, v => [.mp t v.1] :: Bks.un r v.2
  | .dead n r, v => [.dead n] :: Bks.un r v

/-- The shape of a state. -/
structure Sg where
  slots : List Nat
  sh : Sh
  bk : Bks

abbrev Sg.den (σ : Sg) : Type := σ.sh.den × σ.bk.den

def zipFr : List Nat → List SV → SFr
  | t :: r, v :: vs => (t, v) :: zipFr r vs
  | _, _ => []

def Sg.un (σ : Sg) (v : σ.den) : SSt := { fr := zipFr σ.slots (σ.sh.un v.1), hp := σ.bk.un v.2 }

def fzIs : Bool → Fz → Bool
  | true, .all => true
  | false, .zero => true
  | _, _ => false

def Bks.pa : (b : Bks) → SHeap → Option b.den
  | .nil, [] => some ()
  | .box sz s r, [.box sz' v] :: H => if sz = sz' then (match s.pa [v], Bks.pa r H with
    | some a, some b => some (a, b)
    | _, _ => none) else none
  | .arr t z r, [.arr t' l f] :: H => if h : t' = t then (if fzIs z f = true then (match Bks.pa r H with
    | some b => some (h ▸ l, b)
    | none => none) else none) else none
  | .mp t r, [.mp t' l] :: H => if h : t' = t then (match Bks.pa r H with
    | some b => some (h ▸ l, b)
    | none => none) else none
  | .dead n r, [.dead n'] :: H => if n = n' then Bks.pa r H else none
  | _, _ => none

/-! ### A state brought into a shape -/

/-- A slice over the call's own memory as a row: its block is no longer written. -/
def pure1S (H : SHeap) : SV → Tr (SV × List Nm)
  | .own t g => match getS H g with
    | some (.arr t' l _) => if h : t' = t then (if 0 < t.size then .ret (.row t (h ▸ l) false, [g]) else .fail) else .fail
    | _ => .fail
  | .part t g off len => match getS H g with
    | some (.arr t' l _) => if h : t' = t then (if 0 < t.size then .need (decide (off + len ≤ l.length)) (.ret (.row t (((h ▸ l : List t.den).drop off).take len) false, [g])) else .fail) else .fail
    | _ => .fail
  | .ptr .. => .fail
  | .clo .. => .fail
  | .lp .. => .fail
  | .fm _ => .fail
  | .fp _ => .fail
  | .agg _ => .fail
  | .tup _ => .fail
  | .row t l _ => .ret (.row t l false, [])
  | v => .ret (v, [])

def pureLS (H : SHeap) : List SV → Tr (List SV × List Nm)
  | [] => .ret ([], [])
  | x :: r => (pure1S H x).bind fun p => (pureLS H r).bind fun q => .ret (p.1 :: q.1, p.2 ++ q.2)

def pureVS (H : SHeap) : SV → Tr (SV × List Nm)
  | .agg cs => (pureLS H cs).bind fun p => .ret (.agg p.1, p.2)
  | .tup _ => .fail
  | v => pure1S H v

def SB.stop : SB → SB
  | .arr t l _ => .arr t l .all
  | b => b

def putAllS (H : SHeap) : List (Nm × SB) → SHeap
  | [] => H
  | (g, b) :: r => putAllS (setS H g b) r

def stopsS (H : SHeap) (l : List Nm) : List (Nm × SB) := l.map fun g => (g, match getS H g with
  | some b => b.stop
  | none => .dead 0)

def stopS (H : SHeap) (l : List Nm) : SHeap := putAllS H (stopsS H l)

def untup : SV → SV
  | .tup _ => .undef
  | v => v

/-- Slices of a value are made rows where its shape says so; a nil slice is made a block of its own. -/
def convL : Sh → List SV → SHeap → Tr (List SV × SHeap)
  | .nil, vs, H => .ret (vs, H)
  | _, [], H => .ret ([], H)
  | .st x r, v :: vs, H => match x, v with
    | .own t _, .row _ [] true => (convL r vs (H ++ [[.arr t [] .zero]])).bind fun q => .ret (.own t (H.length, 0) :: q.1, q.2)
    | .undef, v => (if v.isAgg = false then (convL r vs H).bind fun q => .ret (.undef :: q.1, q.2) else .fail)
    | _, v => (convL r vs H).bind fun q => .ret (v :: q.1, q.2)
  | .dat _ r, v :: vs, H => (pureVS H v).bind fun p => (convL r vs (stopS H p.2)).bind fun q => .ret (p.1 :: q.1, q.2)
  | .part t' _ r, v :: vs, H => match v with
    | .row _ [] true => (convL r vs (H ++ [[.arr t' [] .zero]])).bind fun q => .ret (.part t' (H.length, 0) 0 0 :: q.1, q.2)
    | v => (convL r vs H).bind fun q => .ret ((match v with
    | .own t g => (match getS H g with
      | some b => .part t g 0 b.len
      | none => .own t g)
    | v => v) :: q.1, q.2)
  | .eptr _ _ _ r, v :: vs, H => (convL r vs H).bind fun q => .ret (v :: q.1, q.2)
  | .agg i r, v :: vs, H => match v with
    | .agg cs => (convL i cs H).bind fun p => (convL r vs p.2).bind fun q => .ret (.agg p.1 :: q.1, q.2)
    | v => (convL r vs H).bind fun q => .ret (v :: q.1, q.2)

/-- Compaction; every name has to be there. -/
def tidyS (m : Nat) (s : SSt) : Option SSt :=
  let R := reachedS s.hp m (s.fr.flatMap fun p => refsVS p.2)
  let f := renTo m R
  match (firstNames m ++ R).mapM (fun g => (getS s.hp g).map fun b => [renBS f b]) with
  | some hp => some { fr := s.fr.map fun p => (p.1, renVS f p.2), hp }
  | none => none

/-- The values of boxes brought into shape, one block a group. -/
def convB : Bks → Nat → SHeap → Tr SHeap
  | .nil, _, H => .ret H
  | .box _ s r, j, H => match getS H (j, 0) with
    | some (.box sz v) => (convL s [v] H).bind fun p => match p.1 with
      | [v'] => convB r (j + 1) (setS p.2 (j, 0) (.box sz v'))
      | _ => .fail
    | _ => .fail
  | .arr _ z r, j, H => convB r (j + 1) (match z with
    | true => (match getS H (j, 0) with
      | some (.arr ..) => stopS H [(j, 0)]
      | _ => H)
    | false => H)
  | .mp _ r, j, H => convB r (j + 1) H
  | .dead _ r, j, H => convB r (j + 1) H

/-- The shapes alone. -/
def Bks.soft : Bks → Bks
  | .nil => .nil
  | .box sz s r => .box sz s r.soft
  | .arr t _ r => .arr t false r.soft
  | .mp t r => .mp t r.soft
  | .dead n r => .dead n r.soft

def fit (m : Nat) (σ : Sg) (s : SSt) : Tr σ.den :=
  (convL σ.sh (σ.slots.map fun t => untup (lookS s.fr t)) s.hp).bind fun p =>
  (Tr.of (tidyS m { fr := zipFr σ.slots (p.1.map untup), hp := p.2 })).bind fun s1 =>
  (convB σ.bk.soft 0 s1.hp).bind fun H2 =>
  (Tr.of (tidyS m { fr := s1.fr, hp := H2 })).bind fun s1 =>
  (convB σ.bk 0 s1.hp).bind fun H2 =>
  (Tr.of (tidyS m { fr := s1.fr, hp := H2 })).bind fun s2 =>
  match σ.sh.pa (σ.slots.map (lookS s2.fr)), σ.bk.pa s2.hp with
  | some a, some b => .ret (a, b)
  | _, _ => .fail

end Go.Abs
