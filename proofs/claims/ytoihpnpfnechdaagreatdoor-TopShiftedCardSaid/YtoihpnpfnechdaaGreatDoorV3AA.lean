/- Lemmas for the statement of the last text of this claim. -/
import Derived.Orders
import Derived.MapKept
import Derived.Below
import Derived.Laws.Append
import Derived.Laws.CopyRow
import Derived.Laws.Rows
import GoSem.Dispatch
import Derived.Lib.SliceRun
import Derived.IntWalk
import Derived.Laws.AppendOwn
set_option linter.unusedSimpArgs false
set_option linter.unusedVariables false
namespace Go.Abs
open Go
/-- The name of a block of the abstract heap: its group, its place in the group. -/
abbrev Nm := Nat × Nat

/-- An abstract value. 'lst': a slice that is only read, by its elements. 'own': a slice over a block of the abstract heap. 'fm': a map of functions that is only read: key, function, the functions that it caught. 'fp': the address of a function that is only read. 'lp': the address of a cell of an element of a 'lst'. -/
inductive AV where
  | undef
  | bool (b : Bool)
  | int (k : IntKind) (n : Int)
  | str (s : ByteArray)
  | nilp
  | nilf
  | ptr (g : Nm) (sz i off : Nat)
  | lp (sz : Nat) (xs : List AV) (i off : Nat)
  | lst (sz : Nat) (xs : List AV) (tight : Bool)
  | slc (isNil : Bool)
  | own (g : Nm) (sz off len : Nat)
  | clo (f : FuncId) (caps : List AV)
  | bnd (f : FuncId) (firsts : List AV)
  | fm (l : List (Int × FuncId × List FuncId))
  | fp (g : FuncId)
  | agg (cs : List AV)
  | tup (vs : List AV)

instance : Inhabited AV := ⟨.undef⟩

def AV.cells : AV → List AV
  | .agg cs => cs
  | v => [v]

def AV.isAgg : AV → Bool
  | .agg _ => true
  | _ => false

/-- A value of one cell that is known. -/
def okC : AV → Bool
  | .undef | .agg _ | .tup _ => false
  | _ => true
def okV : AV → Bool
  | .agg _ => true
  | v => okC v

/-- A block: elements of 'sz' cells each; the first 'frz' of them are not written any more; 'box': a variable. -/
structure Blk where
  sz : Nat
  elems : List AV
  frz : Nat
  box : Bool

abbrev Heap := List (List (Option Blk))

def get (H : Heap) (g : Nm) : Option Blk :=
  match H[g.1]? with
  | some l => (l[g.2]?).join
  | none => none

def set (H : Heap) (g : Nm) (b : Option Blk) : Heap := H.modify g.1 fun l => l.set g.2 b

abbrev Fr := List (Nat × AV)

def look : Fr → Nat → AV
  | [], _ => .undef
  | (s, x) :: r, t => if s = t then x else look r t

def ins (s : Nat) (x : AV) : Fr → Fr
  | [] => [(s, x)]
  | (t, y) :: r => if s < t then (s, x) :: (t, y) :: r else if s = t then (s, x) :: r else (t, y) :: ins s x r

structure St where
  fr : Fr
  hp : Heap

/-- A constant of one cell. -/
def cv1 : Value → AV
  | .bool b => .bool b
  | .int k n => .int k n
  | .string s => .str s
  | .pointer none => .nilp
  | .nilFunc => .nilf
  | .slice none 0 0 => .lst 0 [] true
  | _ => .undef

def cv : Value → AV
  | .agg cs => if (cs.toList.map cv1).all okC then .agg (cs.toList.map cv1) else .undef
  | v => cv1 v

def evO (fr : Fr) : Operand → AV
  | .tmp t => look fr t
  | .const v => cv v
  | .global _ => .undef
  | .func f => .clo f []

/-- What an operation made: its value; the blocks that it looked at; those that it wrote; the blocks that it made (they are the op's own group). -/
structure Res where
  val : AV
  rd : List Nm := []
  wr : List (Nm × Option Blk) := []
  new : List Blk := []

/-- The number of cells of a type, the number of its bytes, whether it is a struct or an array, its zero. -/
def tsize (P : Program) (t : TypeId) : Option Nat := (P.info? t).map (·.size)
def tbytes (P : Program) (t : TypeId) : Option Nat := (P.info? t).map (·.bytes)
def tagg (P : Program) (t : TypeId) : Option Bool :=
  match P.underlying t with
  | some (.struct _) | some (.array _ _) => some true
  | some _ => some false
  | none => none
def tzero (P : Program) (t : TypeId) : Option AV :=
  match P.info? t with
  | some i => match i.zero with
    | some z => some (cv z)
    | none => none
  | none => none
/-- A row that may be appended to is one that may not. -/
def nt1 : AV → AV
  | .lst sz xs _ => .lst sz xs false
  | v => v
def ntV : AV → AV
  | .agg cs => .agg (cs.map nt1)
  | v => nt1 v
def tzeroP (P : Program) (t : TypeId) : Option AV := (tzero P t).map ntV

def telem (P : Program) (t : TypeId) : Option TypeId :=
  match P.underlying t with
  | some (.slice e) => some e
  | _ => none

/-- The size of the elements of a list; of an empty one it is 0. -/
def lsz (sz : Nat) (xs : List AV) : Nat :=
  match xs with
  | [] => 0
  | _ :: _ => sz

/-- A slice over the call's own memory becomes a list that is only read: the blocks are no longer written. -/
def pure1 (H : Heap) : AV → Option (AV × List Nm)
  | .own g sz off len =>
    match get H g with
    | some b => if off + len ≤ b.elems.length ∧ b.box = false ∧ b.sz = sz ∧ 0 < sz then some (.lst (lsz b.sz ((b.elems.drop off).take len)) ((b.elems.drop off).take len) false, [g]) else none
    | none => none
  | .ptr .. => none
  | .clo .. => none
  | .bnd .. => none
  | .lp .. => none
  | .agg _ => none
  | .tup _ => none
  | .slc _ => none
  | .fm _ => none
  | .fp _ => none
  | .lst sz xs _ => some (.lst (lsz sz xs) xs false, [])
  | v => some (v, [])

def pureL (H : Heap) : List AV → Option (List AV × List Nm)
  | [] => some ([], [])
  | x :: r =>
    match pure1 H x, pureL H r with
    | some (y, l), some (ys, m) => some (y :: ys, l ++ m)
    | _, _ => none

def pureV (H : Heap) : AV → Option (AV × List Nm)
  | .agg cs => match pureL H cs with
    | some (ys, l) => some (.agg ys, l)
    | none => none
  | .tup _ => none
  | v => pure1 H v

def Blk.stop (b : Blk) : Blk := { b with frz := max b.frz b.elems.length }

/-- The writes that say of some blocks that they are no longer written. -/
def stops (H : Heap) (l : List Nm) : List (Nm × Option Blk) := l.map fun g => (g, (get H g).map Blk.stop)

/-- The cells from 'off' on replaced. -/
def splice (cs : List AV) (off : Nat) (new : List AV) : List AV := cs.take off ++ new ++ cs.drop (off + new.length)

/-- A value of a type out of cells. -/
def ofCells (agg : Bool) (cs : List AV) : Option AV :=
  if agg then some (.agg cs) else match cs with
    | [c] => some c
    | _ => none

def loadAt (size : Nat) (agg : Bool) (x : AV) (off : Nat) : Option AV :=
  if off + size ≤ x.cells.length then
    (if off = 0 ∧ size = x.cells.length ∧ x.isAgg = agg then some x else ofCells agg ((x.cells.drop off).take size))
  else none

def opLoad (P : Program) (t : TypeId) (p : AV) (H : Heap) : Option Res :=
  match tsize P t, tagg P t with
  | some size, some agg =>
    match p with
    | .ptr g sz i off =>
      match get H g with
      | some b => if b.sz = sz ∧ 0 < sz then
          match b.elems[i]? with
          | some x => (loadAt size agg x off).map fun v => { val := v, rd := [g] }
          | none => none
        else none
      | none => none
    | .lp sz xs i off =>
      match xs[i]? with
      | some x => if x.cells.length = sz then (loadAt size agg x off).map fun v => { val := v } else none
      | none => none
    | .fp g => if size = 1 ∧ agg = false then some { val := .clo g [] } else none
    | _ => none
  | _, _ => none

/-- A function out of a map of functions. -/
def fmAt (l : List (Int × FuncId × List FuncId)) (n : Int) : AV × Bool :=
  match l with
  | [] => (.nilf, false)
  | (k, f, gs) :: r => if n = k then (.clo f (gs.map .fp), true) else fmAt r n

def opLookup (P : Program) (t : TypeId) (m k : AV) (ok : Bool) : Option AV :=
  match P.underlying t, m, k with
  | some (.map kt et), .fm l, .int .i64 n =>
    match P.underlying kt, tzero P et with
    | some (.int .i64), some .nilf => some (if ok then .tup [(fmAt l n).1, .bool (fmAt l n).2] else (fmAt l n).1)
    | _, _ => none
  | _, _, _ => none

/-! ### A map in a block: the block's elements have size 0; each is a pair of key and value. The map itself is the pointer '.ptr g 0 0 0'. The values of a 'box' may lead to other blocks. -/

/-- A key: a number or a text. -/
def keyIs (st : Bool) : AV → Bool
  | .int .i64 _ => !st
  | .str _ => st
  | _ => false

def keyEq : AV → AV → Bool
  | .int _ a, .int _ b => a == b
  | .str a, .str b => a == b
  | _, _ => false

def mpFind (n : AV) : List AV → Option AV
  | .agg [k, x] :: r => if keyEq n k then some x else mpFind n r
  | _ => none

def mpPut (n v : AV) : List AV → List AV
  | .agg [k, x] :: r => if keyEq n k then .agg [n, v] :: r else .agg [k, x] :: mpPut n v r
  | _ => [.agg [n, v]]

def keysOk (st : Bool) : List AV → Bool
  | [] => true
  | .agg [k, _] :: r => keyIs st k && keysOk st r
  | _ => false

/-- The block of a map. -/
def mpBlk (H : Heap) : AV → Option (Nm × Blk)
  | .ptr g 0 0 0 => match get H g with
    | some b => if b.sz = 0 then some (g, b) else none
    | none => none
  | _ => none

/-- A type of maps: whether the keys are texts, the values' type. -/
def mpTy (P : Program) (t : TypeId) : Option (Bool × TypeId) :=
  match P.underlying t with
  | some (.map kt et) => match P.underlying kt with
    | some (.int .i64) => some (false, et)
    | some .string => some (true, et)
    | _ => none
  | _ => none

def opLookupM (P : Program) (t : TypeId) (m k : AV) (ok : Bool) (H : Heap) : Option Res :=
  match mpTy P t, mpBlk H m with
  | some (st, et), some (g, b) => match tzeroP P et with
    | some z => if keyIs st k = true ∧ keysOk st b.elems = true then some { val := if ok then .tup [(mpFind k b.elems).getD z, .bool (mpFind k b.elems).isSome] else (mpFind k b.elems).getD z, rd := [g] } else none
    | none => none
  | _, _ => none

def opMapUpdate (P : Program) (t : TypeId) (m k v : AV) (H : Heap) : Option Res :=
  match mpTy P t, mpBlk H m with
  | some (st, _), some (g, b) =>
    if keyIs st k = true ∧ keysOk st b.elems = true then
      if b.box then (if okC v then some { val := .tup [], rd := [g], wr := [(g, some { b with elems := mpPut k v b.elems })] } else none)
      else match pureV H v with
        | some (u, l) => if okV u ∧ ¬ g ∈ l then some { val := .tup [], rd := g :: l, wr := stops H l ++ [(g, some { b with elems := mpPut k u b.elems })] } else none
        | none => none
    else none
  | _, _ => none

/-- An element of which a part is written. -/
def newElem (x : AV) (off size sz : Nat) (u : AV) : Option AV :=
  if off = 0 ∧ size = sz then some u else if x.isAgg then some (.agg (splice x.cells off u.cells)) else none

def opStore (P : Program) (t : TypeId) (p v : AV) (H : Heap) : Option Res :=
  match tsize P t with
  | some size =>
    match p with
    | .ptr g sz i off =>
      match get H g with
      | some b =>
        if b.sz = sz ∧ b.frz ≤ i ∧ 0 < sz then
          match b.elems[i]? with
          | some x =>
            if b.box then
              (if v.cells.length = size ∧ off + size ≤ sz ∧ okV v then
                match newElem x off size sz v with
                | some x' => some { val := .tup [], rd := [g], wr := [(g, some { b with elems := b.elems.set i x' })] }
                | none => none
              else none)
            else
              match pureV H v with
              | some (u, l) =>
                if u.cells.length = size ∧ off + size ≤ sz ∧ ¬ g ∈ l ∧ okV u then
                  match newElem x off size sz u with
                  | some x' => some { val := .tup [], rd := g :: l, wr := stops H l ++ [(g, some { b with elems := b.elems.set i x' })] }
                  | none => none
                else none
              | none => none
          | none => none
        else none
      | none => none
    | _ => none
  | none => none

def fieldOf (P : Program) (t : TypeId) (f : Nat) : Option (Nat × TypeId) :=
  match P.underlying t with
  | some (.struct fs) => match fs[f]? with
    | some x => some (x.offset, x.type)
    | none => none
  | _ => none

def opFieldAddr (P : Program) (t : TypeId) (p : AV) (f : Nat) : Option AV :=
  match fieldOf P t f with
  | some (o, ft) =>
    if tsize P ft = none ∨ tsize P ft = some 0 then none else
    match p with
    | .ptr g sz i off => if 0 < sz then some (.ptr g sz i (off + o)) else none
    | .lp sz xs i off => some (.lp sz xs i (off + o))
    | _ => none
  | none => none

def partOf (P : Program) (t : TypeId) (cs : List AV) (off : Nat) : Option AV :=
  match tsize P t, tagg P t with
  | some size, some agg => if off + size ≤ cs.length then ofCells agg ((cs.drop off).take size) else none
  | _, _ => none

def opField (P : Program) (t : TypeId) (x : AV) (f : Nat) : Option AV :=
  match fieldOf P t f, x with
  | some (o, ft), .agg cs => partOf P ft cs o
  | _, _ => none

def opIndexAddr (P : Program) (t : TypeId) (x i : AV) : Option AV :=
  match P.underlying t, i with
  | some (.slice e), .int _ n =>
    match x with
    | .own g sz off len => if tsize P e = some sz ∧ 0 ≤ n ∧ n < len ∧ 0 < sz then some (.ptr g sz (off + n.toNat) 0) else none
    | .lst sz xs _ => if 0 ≤ n ∧ n < xs.length ∧ tsize P e = some sz then some (.lp sz xs n.toNat 0) else none
    | _ => none
  | some (.array len e), .int _ n =>
    match x with
    | .ptr g sz j off => match tsize P e with
      | some es => if 0 ≤ n ∧ n < len ∧ 0 < sz then some (.ptr g sz j (off + n.toNat * es)) else none
      | none => none
    | _ => none
  | _, _ => none

def opIndex (P : Program) (t : TypeId) (x i : AV) : Option AV :=
  match P.underlying t, x, i with
  | some (.array len e), .agg cs, .int _ n =>
    match tsize P e with
    | some es => if 0 ≤ n ∧ n < len then partOf P e cs (n.toNat * es) else none
    | none => none
  | some .string, .str s, .int _ n =>
    match (if 0 ≤ n then s[n.toNat]? else none) with
    | some b => some (.int .u8 b.toNat)
    | none => none
  | _, _, _ => none

/-- The bits of two numbers of a kind. -/
def bitI (op : BinOp) (k : IntKind) (a b : Int) : Int :=
  match op with
  | .and => k.wrap (BitVec.ofInt k.bits a &&& BitVec.ofInt k.bits b).toNat
  | .or => k.wrap (BitVec.ofInt k.bits a ||| BitVec.ofInt k.bits b).toNat
  | .xor => k.wrap (BitVec.ofInt k.bits a ^^^ BitVec.ofInt k.bits b).toNat
  | _ => 0
def shlI (k : IntKind) (a b : Int) : Int := k.wrap (a * 2 ^ (min b.toNat k.bits))
def shrI (k : IntKind) (a b : Int) : Int := a.fdiv (2 ^ (min b.toNat k.bits))

def opBin (op : BinOp) (x y : AV) : Option AV :=
  match x, y with
  | .int k a, .int k' b =>
    match op with
    | .and => if k = k' then some (.int k (bitI .and k a b)) else none
    | .or => if k = k' then some (.int k (bitI .or k a b)) else none
    | .xor => if k = k' then some (.int k (bitI .xor k a b)) else none
    | .shl => if 0 ≤ b then some (.int k (shlI k a b)) else none
    | .shr => if 0 ≤ b then some (.int k (shrI k a b)) else none
    | .add => if k = k' then some (.int k (k.wrap (a + b))) else none
    | .sub => if k = k' then some (.int k (k.wrap (a - b))) else none
    | .mul => if k = k' then some (.int k (k.wrap (a * b))) else none
    | .quo => if k = k' ∧ b ≠ 0 then some (.int k (k.wrap (a.tdiv b))) else none
    | .rem => if k = k' ∧ b ≠ 0 then some (.int k (a.tmod b)) else none
    | .eql => if k = k' then some (.bool (a == b)) else none
    | .neq => if k = k' then some (.bool (a != b)) else none
    | .lss => if k = k' then some (.bool (a < b)) else none
    | .leq => if k = k' then some (.bool (a ≤ b)) else none
    | .gtr => if k = k' then some (.bool (a > b)) else none
    | .geq => if k = k' then some (.bool (a ≥ b)) else none
    | _ => none
  | .str a, .str b =>
    match op with
    | .add => if a.size + b.size ≤ 4294967296 then some (.str (a ++ b)) else none
    | .eql => some (.bool (a.toList == b.toList))
    | .neq => some (.bool (!(a.toList == b.toList)))
    | .lss => some (.bool (Op.bytesLess a.toList b.toList))
    | .leq => some (.bool (Op.bytesLess a.toList b.toList || a.toList == b.toList))
    | .gtr => some (.bool (!(Op.bytesLess a.toList b.toList || a.toList == b.toList)))
    | .geq => some (.bool (!(Op.bytesLess a.toList b.toList)))
    | _ => none
  | _, _ => none

/-- Whether two values of a type are equal, field by field. -/
def eqFields (P : Program) (eq : TypeId → AV → AV → Option Bool) (xs ys : List AV) : List Field → Option Bool
  | [] => some true
  | f :: r =>
    if f.name = "_" then none else
    match partOf P f.type xs f.offset, partOf P f.type ys f.offset with
    | some a, some b => match eq f.type a b, eqFields P eq xs ys r with
      | some c, some d => some (c && d)
      | _, _ => none
    | _, _ => none

def eqElems (P : Program) (eq : TypeId → AV → AV → Option Bool) (e : TypeId) (size : Nat) (xs ys : List AV) : Nat → Nat → Option Bool
  | 0, _ => some true
  | n + 1, i =>
    match partOf P e xs (i * size), partOf P e ys (i * size) with
    | some a, some b => match eq e a b, eqElems P eq e size xs ys n (i + 1) with
      | some c, some d => some (c && d)
      | _, _ => none
    | _, _ => none

def eqA (P : Program) : Nat → TypeId → AV → AV → Option Bool
  | 0, _, _, _ => none
  | d + 1, t, x, y =>
    match P.underlying t, x, y with
    | some .bool, .bool a, .bool b => some (a == b)
    | some (.int _), .int k a, .int k' b => if k = k' then some (a == b) else none
    | some .string, .str a, .str b => some (a == b)
    | some (.struct fs), .agg xs, .agg ys => if P.stoodInHeld t then none else eqFields P (eqA P d) xs ys fs.toList
    | some (.array n e), .agg xs, .agg ys =>
      match tsize P e with
      | some size => eqElems P (eqA P d) e size xs ys n 0
      | none => none
    | _, _, _ => none

def opEql (P : Program) (t : TypeId) (x y : AV) : Option Bool :=
  match x, y with
  | .bool a, .bool b => eqA P 8 t (.bool a) (.bool b)
  | .agg xs, .agg ys => if P.eqGuardType P.depth t then none else eqA P 8 t (.agg xs) (.agg ys)
  | _, _ => none

def opBin2 (P : Program) (op : BinOp) (t : TypeId) (x y : AV) : Option AV :=
  match opBin op x y with
  | some v => some v
  | none => match op with
    | .eql => (opEql P t x y).map .bool
    | .neq => (opEql P t x y).map fun b => .bool (!b)
    | _ => none

def opUn (op : UnOp) (x : AV) : Option AV :=
  match op, x with
  | .neg, .int k n => some (.int k (k.wrap (0 - n)))
  | .not, .bool b => some (.bool !b)
  | _, _ => none

def opConvert (P : Program) (src dst : TypeId) (x : AV) : Option AV :=
  match P.underlying src, P.underlying dst, x with
  | some (.int _), some (.int k), .int _ n => some (.int k (k.wrap n))
  | some .string, some .string, .str s => some (.str s)
  | _, _, _ => none

/-- The bounds of a slice expression: low, high. -/
def bound (o : Option AV) (dflt : Nat) : Option Nat :=
  match o with
  | none => some dflt
  | some (.int _ n) => if 0 ≤ n then some n.toNat else none
  | some _ => none

def opSlice (P : Program) (t : TypeId) (x : AV) (lo hi mx : Option AV) (H : Heap) : Option Res :=
  match P.underlying t, x with
  | some .string, .str s =>
    match mx, bound lo 0, bound hi s.size with
    | none, some l, some h => if l ≤ h ∧ h ≤ s.size then some { val := .str (s.extract l h) } else none
    | _, _, _ => none
  | some (.slice e), .lst sz xs tight =>
    if (tsize P e).isSome && (decide (tsize P e = some sz) || xs.isEmpty) then
      match mx, bound lo 0, bound hi xs.length with
      | none, some l, some h => if l ≤ h ∧ h ≤ xs.length then some { val := .lst (lsz sz ((xs.drop l).take (h - l))) ((xs.drop l).take (h - l)) (tight && hi.isNone) } else none
      | some m, some l, some h => match bound (some m) 0 with
        | some m => if l ≤ h ∧ h ≤ m ∧ m ≤ xs.length ∧ hi.isSome then some { val := .lst (lsz sz ((xs.drop l).take (h - l))) ((xs.drop l).take (h - l)) (h == m) } else none
        | none => none
      | _, _, _ => none
    else none
  | some (.slice e), .own g sz off len =>
    if tsize P e = some sz then
      match mx, bound lo 0, bound hi len with
      | none, some l, some h => if l ≤ h ∧ h ≤ len then some { val := .own g sz (off + l) (h - l) } else none
      | some m, some l, some h => match bound (some m) 0, get H g with
        | some m, some b => if l ≤ h ∧ h ≤ m ∧ m ≤ len ∧ off + len ≤ b.elems.length ∧ b.box = false ∧ b.sz = sz ∧ hi.isSome ∧ 0 < sz then
            some { val := .lst (lsz sz ((b.elems.drop (off + l)).take (h - l))) ((b.elems.drop (off + l)).take (h - l)) (h == m), rd := [g], wr := stops H [g] } else none
        | _, _ => none
      | _, _, _ => none
    else none
  | _, _ => none

/-- An empty piece of a block, with its capacity. -/
def opSliceX (P : Program) (t : TypeId) (x : AV) (lo hi mx : Option AV) : Option Res :=
  match P.underlying t, x, mx with
  | some (.slice e), .own _ sz _ len, some m =>
    if tsize P e = some sz then
      match bound lo 0, bound hi len, bound (some m) 0 with
      | some l, some h, some m => if l = h ∧ h ≤ m ∧ m ≤ len ∧ hi.isSome then some { val := .lst 0 [] (h == m) } else none
      | _, _, _ => none
    else none
  | _, _, _ => none

/-- The parts of a struct laid over its zero. -/
def fillA (place : Nat → Option (Nat × Nat)) (cells : List AV) : List (Nat × AV) → Option (List AV)
  | [] => some cells
  | (i, v) :: rest =>
    match place i with
    | none => none
    | some (off, size) => if v.cells.length = size ∧ off + size ≤ cells.length ∧ okV v then fillA place (splice cells off v.cells) rest else none

def opBuild (P : Program) (t : TypeId) (parts : List (Nat × AV)) : Option AV :=
  match tzero P t, P.underlying t with
  | some (.agg z), some (.struct fs) =>
    if !(fs.toList.all fun f => (tsize P f.type).isSome) then none else
    (fillA (fun i => match fs[i]? with
      | some f => (tsize P f.type).map fun s => (f.offset, s)
      | none => none) z parts).map .agg
  | some (.agg z), some (.array _ e) =>
    match tsize P e with
    | some s => (fillA (fun i => some (i * s, s)) z parts).map .agg
    | none => none
  | _, _ => none

/-- The elements of a slice literal. -/
def fillS (H : Heap) (size : Nat) (agg : Bool) (es : List AV) (l : List Nm) : List (Nat × AV) → Option (List AV × List Nm)
  | [] => some (es, l)
  | (i, v) :: rest =>
    match pureV H v with
    | some (u, m) => if u.cells.length = size ∧ u.isAgg = agg ∧ i < es.length ∧ okV u then fillS H size agg (es.set i u) (l ++ m) rest else none
    | none => none

/-- The elements of a slice literal whose block is a box. -/
def fillX (size : Nat) (agg : Bool) (es : List AV) : List (Nat × AV) → Option (List AV)
  | [] => some es
  | (i, v) :: rest => if v.cells.length = size ∧ v.isAgg = agg ∧ i < es.length ∧ okV v then fillX size agg (es.set i v) rest else none

def opBuildSliceX (P : Program) (t : TypeId) (len : Nat) (parts : List (Nat × AV)) (slot : Nat) : Option Res :=
  match telem P t with
  | some e =>
    match tsize P e, tagg P e, tzero P e with
    | some size, some agg, some z =>
      if len * size ≤ 65536 ∧ 0 < size ∧ z.cells.length = size ∧ okV z then
        match fillX size agg (List.replicate len z) parts with
        | some es => some { val := if len = 0 then .lst 0 [] true else .own (slot, 0) size 0 len, new := [⟨size, es, 0, true⟩] }
        | none => none
      else none
    | _, _, _ => none
  | none => none

def opBuildSlice (P : Program) (t : TypeId) (len : Nat) (parts : List (Nat × AV)) (H : Heap) (slot : Nat) : Option Res :=
  match telem P t with
  | some e =>
    match tsize P e, tagg P e, tzeroP P e with
    | some size, some agg, some z =>
      if len * size ≤ 65536 ∧ 0 < size ∧ z.cells.length = size ∧ okV z then
        match fillS H size agg (List.replicate len z) [] parts with
        | some (es, l) => some { val := .own (slot, 0) size 0 len, rd := l, wr := stops H l, new := [⟨size, es, 0, false⟩] }
        | none => none
      else none
    | _, _, _ => none
  | none => none

def opMakeSlice (P : Program) (t : TypeId) (l c : AV) (slot : Nat) : Option Res :=
  match telem P t, l, c with
  | some e, .int _ n, .int _ m =>
    match tsize P e, tbytes P e, tzeroP P e with
    | some size, some bytes, some z =>
      if 0 ≤ n ∧ n ≤ m ∧ m ≤ 4294967296 ∧ bytes ≤ 32768 ∧ 0 < size ∧ z.cells.length = size ∧ okV z then
        some { val := .own (slot, 0) size 0 n.toNat, new := [⟨size, List.replicate n.toNat z, 0, false⟩] }
      else none
    | _, _, _ => none
  | _, _, _ => none

/-- The elements that are appended. -/
def srcOf (H : Heap) : AV → Option (Nat × List AV × List Nm)
  | .lst sz xs _ => some (sz, xs, [])
  | .own g sz off len =>
    match get H g with
    | some b => if off + len ≤ b.elems.length ∧ b.box = false ∧ b.sz = sz ∧ 0 < sz then some (sz, (b.elems.drop off).take len, [g]) else none
    | none => none
  | _ => none

def opAppend (P : Program) (t : TypeId) (s x : AV) (H : Heap) (slot : Nat) : Option Res :=
  match telem P t with
  | some e =>
    match tsize P e, tbytes P e, tzero P e, srcOf H x with
    | some size, some bytes, some z, some (sz', ys, l) =>
      if 0 < size ∧ bytes ≤ 32768 ∧ z.cells.length = size ∧ okV z ∧ (sz' = size ∨ ys = []) then
        match s with
        | .lst sz xs tight =>
          if ys = [] ∧ xs ≠ [] then (if sz = size then some { val := .lst size xs tight, rd := l } else none)
          else if tight = true ∧ (sz = size ∨ xs = []) ∧ (xs = [] ∨ 0 < ys.length) ∧ xs.length + ys.length ≤ 4294967296 then
            some { val := .own (slot, 0) size 0 (xs.length + ys.length), rd := l, new := [⟨size, xs ++ ys, 0, false⟩] }
          else none
        | .own g sz off len =>
          match get H g with
          | some b =>
            if sz = size ∧ b.sz = size ∧ off = 0 ∧ len ≤ b.elems.length ∧ b.box = false ∧ b.frz ≤ len ∧ len + ys.length ≤ 4294967296 then
              some { val := .own (slot, 0) size 0 (len + ys.length), rd := g :: l, wr := [(g, none)], new := [⟨size, b.elems.take len ++ ys, b.frz, false⟩] }
            else none
          | none => none
        | _ => none
      else none
    | _, _, _, _ => none
  | none => none

/-- The elements that are appended to a box. -/
def srcX (H : Heap) : AV → Option (Nat × List AV × List Nm)
  | .slc _ => some (0, [], [])
  | .lst sz xs _ => some (sz, xs, [])
  | .own g sz off len =>
    match get H g with
    | some b => if off + len ≤ b.elems.length ∧ b.sz = sz ∧ 0 < sz then some (sz, (b.elems.drop off).take len, [g]) else none
    | none => none
  | _ => none

/-- append, whose result is a box. -/
def opAppendX (P : Program) (t : TypeId) (s x : AV) (H : Heap) (slot : Nat) : Option Res :=
  match telem P t with
  | some e =>
    match tsize P e, tbytes P e, tzero P e, srcX H x with
    | some size, some bytes, some z, some (sz', ys, l) =>
      if 0 < size ∧ bytes ≤ 32768 ∧ z.cells.length = size ∧ okV z ∧ (sz' = size ∨ ys = []) then
        match s with
        | .lst sz xs tight =>
          if ys = [] ∧ (sz = size ∨ xs = []) then some { val := .lst sz xs tight, rd := l, new := [⟨size, [], 0, false⟩] }
          else if ys ≠ [] ∧ tight = true ∧ (sz = size ∨ xs = []) ∧ xs.length + ys.length ≤ 4294967296 then
            some { val := .own (slot, 0) size 0 (xs.length + ys.length), rd := l, new := [⟨size, xs ++ ys, 0, true⟩] }
          else none
        | .own g sz off len =>
          match get H g with
          | some b =>
            if sz = size ∧ b.sz = size ∧ off = 0 ∧ len ≤ b.elems.length ∧ b.frz ≤ len ∧ len + ys.length ≤ 4294967296 ∧ 0 < len then
              some { val := .own (slot, 0) size 0 (len + ys.length), rd := g :: l, wr := [(g, none)], new := [⟨size, b.elems.take len ++ ys, b.frz, true⟩] }
            else none
          | none => none
        | _ => none
      else none
    | _, _, _, _ => none
  | none => none

/-- Elements written into a piece of a block. -/
def opCopy (P : Program) (t : TypeId) (d x : AV) (H : Heap) : Option Res :=
  match telem P t with
  | some e =>
    match tsize P e, d, srcOf H x with
    | some size, .own g sz off len, some (sz', ys, l) =>
      match get H g with
      | some b =>
        if sz = size ∧ b.sz = size ∧ 0 < size ∧ off + len ≤ b.elems.length ∧ b.box = false ∧ b.frz ≤ off ∧ (sz' = size ∨ ys = []) then
          some { val := .int .i64 (min ys.length len : Nat), rd := g :: l, wr := [(g, some { b with elems := splice b.elems off (ys.take len) })] }
        else none
      | none => none
    | _, _, _ => none
  | none => none

def opClear (P : Program) (t : TypeId) (d : AV) (H : Heap) : Option Res :=
  match telem P t with
  | some e =>
    match tsize P e, tzeroP P e, d with
    | some size, some z, .own g sz off len =>
      match get H g with
      | some b =>
        if sz = size ∧ b.sz = size ∧ 0 < size ∧ off + len ≤ b.elems.length ∧ b.box = false ∧ b.frz ≤ off ∧ z.cells.length = size ∧ okV z then
          some { val := .tup [], rd := [g], wr := [(g, some { b with elems := splice b.elems off (List.replicate len z) })] }
        else none
      | none => none
    | _, _, _ => none
  | none => none

def opLen (P : Program) (t : TypeId) (x : AV) : Option AV :=
  match P.underlying t with
  | some (.array n _) => some (.int .i64 n)
  | some (.slice _) => match x with
    | .lst _ xs _ => some (.int .i64 xs.length)
    | .own _ _ _ len => some (.int .i64 len)
    | _ => none
  | some .string => match x with
    | .str s => some (.int .i64 s.size)
    | _ => none
  | _ => none

def minA : AV → List AV → Option AV
  | x, [] => some x
  | .int k a, .int k' b :: r => if k = k' then minA (.int k (if b < a then b else a)) r else none
  | _, _ => none

def maxA : AV → List AV → Option AV
  | x, [] => some x
  | .int k a, .int k' b :: r => if k = k' then maxA (.int k (if b > a then b else a)) r else none
  | _, _ => none

/-! ### Names -/

/-- The names in a value (a 'lst' has none). -/
def refs1 : AV → List Nm
  | .ptr g _ _ _ => [g]
  | .own g _ _ _ => [g]
  | _ => []
def refsC : AV → List Nm
  | .clo _ cs => cs.flatMap refs1
  | .bnd _ cs => cs.flatMap refs1
  | v => refs1 v
def refsV : AV → List Nm
  | .agg cs => cs.flatMap refsC
  | .tup vs => vs.flatMap fun v => match v with
    | .agg cs => cs.flatMap refsC
    | v => refsC v
  | v => refsC v

/-- The names that an argument hands over to be written: its pointers, those of a closure. -/
def seeds1 : AV → List Nm
  | .ptr g _ _ _ => [g]
  | .clo _ cs => cs.flatMap refs1
  | .bnd _ cs => cs.flatMap refs1
  | _ => []
def seedsV : AV → List Nm
  | .agg cs => cs.flatMap seeds1
  | v => seeds1 v

def refsB (H : Heap) (g : Nm) : List Nm :=
  match get H g with
  | some b => if b.box then b.elems.flatMap refsV else []
  | none => []

def addNew (l : List Nm) : List Nm → List Nm
  | [] => l
  | g :: r => if g ∈ l then addNew l r else addNew (l ++ [g]) r

def grow (H : Heap) (l : List Nm) : List Nm := addNew l (l.flatMap (refsB H))
/-- What can be reached from some names. -/
def reach (H : Heap) (l : List Nm) : List Nm := grow H (grow H (grow H (grow H (grow H (addNew [] l)))))

abbrev Ren := Nm → Option Nm
def ren1 (f : Ren) : AV → AV
  | .ptr g sz i off => match f g with
    | some g' => .ptr g' sz i off
    | none => .undef
  | .own g sz off len => match f g with
    | some g' => .own g' sz off len
    | none => .undef
  | .clo _ _ => .undef
  | .bnd _ _ => .undef
  | .agg _ => .undef
  | .tup _ => .undef
  | v => v
def renC (f : Ren) : AV → AV
  | .clo fn cs => .clo fn (cs.map (ren1 f))
  | .bnd fn cs => .bnd fn (cs.map (ren1 f))
  | v => ren1 f v
def renA (f : Ren) : AV → AV
  | .agg cs => .agg (cs.map (renC f))
  | v => renC f v
def renV (f : Ren) : AV → AV
  | .tup vs => .tup (vs.map (renA f))
  | v => renA f v
def renB (f : Ren) (b : Blk) : Blk := if b.box then { b with elems := b.elems.map (renA f) } else b

def idxOf (g : Nm) : List Nm → Nat → Option Nat
  | [], _ => none
  | h :: r, i => if h = g then some i else idxOf g r (i + 1)

/-- The first 'm' groups keep their names; what else can be reached from 'roots' follows, a group each. -/
def renTo (m : Nat) (R : List Nm) : Ren := fun g => if g.1 < m then (if g.2 = 0 then some g else none) else (idxOf g R 0).map fun i => (m + i, 0)

def firstNames (m : Nat) : List Nm := (List.range m).map fun j => (j, 0)

def outside (m : Nat) (R : List Nm) : List Nm := R.filter fun g => !decide (g.1 < m)

/-- The heap behind a compaction. -/
def packH (H : Heap) (m : Nat) (f : Ren) (R : List Nm) : Heap :=
  ((firstNames m) ++ R).map fun g => [(get H g).map (renB f)]

/-- The blocks that are reached and lie outside the first 'm', in the order in which they are met. -/
def reached (H : Heap) (m : Nat) (roots : List Nm) : List Nm := outside m (reach H (addNew (firstNames m) roots))

def tidy (m : Nat) (s : St) : St :=
  let R := reached s.hp m (s.fr.flatMap fun p => refsV p.2)
  let f := renTo m R
  { fr := s.fr.map fun p => (p.1, renV f p.2), hp := packH s.hp m f R }

/-! ### What a table says of each function -/

/-- Of a function: whether it may be run; the slots that are kept behind a region; whether slices that are handed in may be written; the pairs of operations of each region whose blocks are compared; whether the rows that it makes may lead to other blocks; whether its result is data that are only read. -/
structure Note where
  on : Bool
  locs : List Nat
  share : Bool
  pairs : Nat → List (Nat × Nat)
  bx : Bool := false
  pr : Bool := false

abbrev Out := AV × List (Option Blk) × List Blk
abbrev CL := FuncId → List AV → List Blk → Option Out

/-! ### A call -/

/-- An argument that is handed over: a slice over the caller's own memory as a list to be read ('share': as it is). -/
def lend1 (H : Heap) (share : Bool) (f : Ren) (x : AV) : Option AV :=
  match x with
  | .own g sz off len => if share then (match f g with
      | some g' => some (.own g' sz off len)
      | none => none)
    else (pure1 H (.own g sz off len)).map (·.1)
  | .lst sz xs _ => some (.lst (lsz sz xs) xs false)
  | x => some (renC f x)
def lendV (H : Heap) (share : Bool) (f : Ren) : AV → Option AV
  | .agg cs => (cs.mapM (lend1 H share f)).map .agg
  | v => lend1 H share f v

def lentNames : AV → List Nm
  | .agg cs => cs.flatMap fun c => match c with
    | .own g _ _ _ => [g]
    | _ => []
  | .own g _ _ _ => [g]
  | _ => []

def scal1 : AV → Bool
  | .bool _ | .int _ _ | .str _ | .nilp | .nilf | .undef => true
  | _ => false
def scalA : AV → Bool
  | .agg cs => cs.all scal1
  | v => scal1 v
/-- No part of the value leads to memory. -/
def scal : AV → Bool
  | .tup vs => vs.all scalA
  | v => scalA v

/-- The callee's names, said in the caller's. -/
def renBack (R : List Nm) (slot : Nat) : Ren := fun g =>
  if g.2 = 0 then (if g.1 < R.length then R[g.1]? else some (slot, g.1 - R.length)) else none

def opCall (share : Bool) (call : List AV → List Blk → Option Out) (args : List AV) (H : Heap) (slot : Nat) : Option Res :=
  let lent := if share then [] else args.flatMap lentNames
  let R := reach H (args.flatMap (if share then fun v => seedsV v ++ lentNames v else seedsV))
  let f : Ren := fun g => (idxOf g R 0).map fun i => (i, 0)
  if lent.any (fun g => R.contains g) then none else
  match args.mapM (lendV H share f), R.mapM (fun g => (get H g).map (renB f)) with
  | some args', some sub =>
    match call args' sub with
    | some (v, sub', new) =>
      if sub'.length = R.length then
        let b := renBack R slot
        some { val := renV b v, rd := R ++ lent,
               wr := (R.zip sub').map (fun p => (p.1, p.2.map (renB b))) ++ (if scal v && new.isEmpty && R.isEmpty then [] else stops H lent),
               new := new.map (renB b) }
      else none
    | none => none
  | _, _ => none

/-! ### An operation -/

def partsOf (fr : Fr) (ps : Array (Nat × Operand)) : List (Nat × AV) := ps.toList.map fun p => (p.1, evO fr p.2)

def one (v : Option AV) : Option Res := v.map fun v => { val := v }

def boolIte (c : Bool) (a b : AV) : AV :=
  match a, b with
  | .bool p, .bool q => .bool (if c then p else q)
  | a, b => if c then a else b

/-- A whole variable made new. -/
def opBox (P : Program) (t : TypeId) (v : AV) (slot : Nat) : Option Res :=
  match tsize P t with
  | some size => if v.cells.length = size ∧ okV v ∧ 0 < size then some { val := .ptr (slot, 0) size 0 0, new := [⟨size, [v], 0, true⟩] } else none
  | none => none

def opAssign (P : Program) (fr : Fr) (t : TypeId) (x : Operand) (slot : Nat) : Option Res :=
  match x with
  | .const (.slice none 0 0) =>
    match telem P t with
    | some e => match tsize P e with
      | some size => some { val := .own (slot, 0) size 0 0, new := [⟨size, [], 0, false⟩] }
      | none => none
    | none => none
  | x => some { val := evO fr x }

def opAssignX (fr : Fr) (x : Operand) : Option Res :=
  match x with
  | .const (.slice none 0 0) => some { val := .lst 0 [] true }
  | x => some { val := evO fr x }

/-- A slice, a pointer against nil. -/
def nilCmp (P : Program) (op : BinOp) (t : TypeId) (x : AV) (oy : Operand) : Option AV :=
  match op, P.underlying t, oy, x with
  | .eql, some (.slice _), .const (.slice none 0 0), .slc b => some (.bool b)
  | .eql, some (.slice _), .const (.slice none 0 0), .lst _ (_ :: _) _ => some (.bool false)
  | .eql, some (.slice _), .const (.slice none 0 0), .own _ _ _ len => if 0 < len then some (.bool false) else none
  | .eql, some (.pointer _), .const (.pointer none), .nilp => some (.bool true)
  | .eql, some (.pointer _), .const (.pointer none), .ptr _ sz _ _ => if 0 < sz then some (.bool false) else none
  | .eql, some (.pointer _), .const (.pointer none), .lp .. => some (.bool false)
  | _, _, _, _ => none
def opBin3 (P : Program) (op : BinOp) (t : TypeId) (x y : AV) (oy : Operand) : Option AV :=
  match opBin2 P op t x y with
  | some v => some v
  | none => nilCmp P op t x oy

def stepOp (P : Program) (N : FuncId → Note) (bx : Bool) (call : CL) (o : Oper) (fr : Fr) (H : Heap) (slot : Nat) : Option Res :=
  let ev := evO fr
  match o.op with
  | .move x => some { val := ev x }
  | .assign x => bif bx then opAssignX fr x else opAssign P fr o.type x slot
  | .pick c a b => match ev c with
    | .bool p => some { val := boolIte p (ev a) (ev b) }
    | _ => none
  | .alloc t => match tzero P t with
    | some z => opBox P t z slot
    | none => none
  | .box t x => opBox P t (ev x) slot
  | .build t ps => one (opBuild P t (partsOf fr ps))
  | .buildSlice t n ps => bif bx then opBuildSliceX P t n (partsOf fr ps) slot else opBuildSlice P t n (partsOf fr ps) H slot
  | .load t a => opLoad P t (ev a) H
  | .store t a x => opStore P t (ev a) (ev x) H
  | .nilCheck x => match ev x with
    | .ptr g sz i off => if 0 < sz then some { val := .ptr g sz i off } else none
    | .lp sz xs i off => some { val := .lp sz xs i off }
    | _ => none
  | .binOp op t x y _ => one (opBin3 P op t (ev x) (ev y) y)
  | .unOp op _ x => one (opUn op (ev x))
  | .convert a b x => one (opConvert P a b (ev x))
  | .makeFunc (.func f) first caps => if first.isEmpty then some { val := .clo f (caps.toList.map ev) } else if caps.isEmpty then some { val := .bnd f (first.toList.map ev) } else none
  | .makeSlice t l c => opMakeSlice P t (ev l) (ev c) slot
  | .slice t x lo hi mx => bif bx && (opSliceX P t (ev x) (lo.map ev) (hi.map ev) (mx.map ev)).isSome then opSliceX P t (ev x) (lo.map ev) (hi.map ev) (mx.map ev) else opSlice P t (ev x) (lo.map ev) (hi.map ev) (mx.map ev) H
  | .fieldAddr t x f => one (opFieldAddr P t (ev x) f)
  | .field t x f => one (opField P t (ev x) f)
  | .indexAddr t x i => one (opIndexAddr P t (ev x) (ev i))
  | .index t x i => one (opIndex P t (ev x) (ev i))
  | .lookup t m k ok => match opLookup P t (ev m) (ev k) ok with
    | some v => some { val := v }
    | none => opLookupM P t (ev m) (ev k) ok H
  | .mapUpdate t m k v => opMapUpdate P t (ev m) (ev k) (ev v) H
  | .insert t m k v => opMapUpdate P t (ev m) (ev k) (ev v) H
  | .makeMap _ none => some { val := .ptr (slot, 0) 0 0 0, new := [⟨0, [], 0, bx⟩] }
  | .extract x i => match ev x with
    | .tup vs => match vs[i]? with
      | some v => some { val := v }
      | none => none
    | _ => none
  | .call c => match c.callee with
    | .value f => match ev f with
      | .clo fn caps => opCall (N fn).share (call fn) (c.args.toList.map ev ++ caps) H slot
      | .bnd fn firsts => opCall (N fn).share (call fn) (firsts ++ c.args.toList.map ev) H slot
      | _ => none
    | .builtin .len => match c.args.toList, c.argTypes.toList with
      | [x], [t] => one (opLen P t (ev x))
      | _, _ => none
    | .builtin .append => match c.args.toList, c.argTypes.toList with
      | [s, x], [t, t'] => if t = t' then (bif bx then opAppendX P t (ev s) (ev x) H slot else opAppend P t (ev s) (ev x) H slot) else none
      | _, _ => none
    | .builtin .copy => match c.args.toList, c.argTypes.toList with
      | [d, x], [t, _] => opCopy P t (ev d) (ev x) H
      | _, _ => none
    | .builtin .clear => match c.args.toList, c.argTypes.toList with
      | [d], [t] => opClear P t (ev d) H
      | _, _ => none
    | .builtin .min => match c.args.toList.map ev with
      | x :: r => one (minA x r)
      | [] => none
    | .builtin .max => match c.args.toList.map ev with
      | x :: r => one (maxA x r)
      | [] => none
    | _ => none
  | _ => none

/-! ### A region -/

def makes : Op → Bool
  | .alloc _ | .box .. | .buildSlice .. | .makeSlice .. | .assign (.const (.slice none 0 0)) => true
  | .makeMap _ none => true
  | .call { callee := .value _, .. } => true
  | .call { callee := .builtin .append, .. } => true
  | _ => false

def putAll (H : Heap) : List (Nm × Option Blk) → Heap
  | [] => H
  | (g, b) :: r => putAll (set H g b) r

def putDst (fr : Fr) : Option Nat → AV → Fr
  | some d, v => ins d v fr
  | none, _ => fr

/-- The group of operation i of a region whose groups begin at 'base'. -/
def slotOf (ops : Array Oper) (base i : Nat) : Nat := base + ((ops.toList.take i).filter fun o => makes o.op).length

def goesOn (ops : Array Oper) (fr : Fr) (o : Oper) : Option Bool :=
  match o.guard with
  | none => some true
  | some (j, want) =>
    match (ops[j]?).bind (·.dst) with
    | some d => match look fr d with
      | .bool b => some (b == want)
      | .tup [] => some false
      | _ => none
    | none => none

def newGroup (H : Heap) (slot : Nat) (mk : Bool) (new : List Blk) : Option Heap :=
  if mk then some (H.set slot (new.map some)) else if new.isEmpty then some H else none

structure Env where
  P : Program
  N : FuncId → Note
  call : Nat → CL
  nt : Nat
  locs : List Nat
  pairs : Nat → List (Nat × Nat)
  keep : Nat
  bx : Bool := false

def dstOk (nt : Nat) : Option Nat → Bool
  | some d => decide (d < nt)
  | none => true

def stepI (E : Env) (ops : Array Oper) (base i : Nat) (s : St) : Option (St × Option Res) :=
  match ops[i]? with
  | none => some (s, none)
  | some o =>
    if dstOk E.nt o.dst then
      match goesOn ops s.fr o with
      | none => none
      | some false => some ({ s with fr := putDst s.fr o.dst (.tup []) }, none)
      | some true =>
        match stepOp E.P E.N E.bx (E.call (slotOf ops base i)) o s.fr s.hp (slotOf ops base i) with
        | some r =>
          match newGroup (putAll s.hp r.wr) (slotOf ops base i) (makes o.op) r.new with
          | some H => some ({ fr := putDst s.fr o.dst r.val, hp := H }, some r)
          | none => none
        | none => none
    else none

/-- Some operations, one behind the other. -/
def runL (E : Env) (ops : Array Oper) (base : Nat) : List Nat → St → Option (St × List (Option Res))
  | [], s => some (s, [])
  | i :: r, s => match stepI E ops base i s with
    | some (s', x) => match runL E ops base r s' with
      | some (s'', xs) => some (s'', x :: xs)
      | none => none
    | none => none

/-- Two operations do not meet in a block that one of them writes. -/
def apart2 (x y : Option Res) : Bool :=
  match x, y with
  | some a, some b => (b.rd ++ b.wr.map (·.1)).all (fun g => !(a.wr.map (·.1)).contains g) && a.rd.all (fun g => !(b.wr.map (·.1)).contains g)
  | _, _ => true

/-- None of the blocks lies in the other's group. -/
def noSlot (mk : Bool) (slot : Nat) (x : Option Res) : Bool :=
  !mk || match x with
    | some r => (r.rd ++ r.wr.map (·.1)).all fun g => g.1 != slot
    | none => true

def makesAt (ops : Array Oper) (i : Nat) : Bool :=
  match ops[i]? with
  | some o => makes o.op
  | none => false

def apart3 (ops : Array Oper) (base i j : Nat) (x y : Option Res) : Bool :=
  apart2 x y && noSlot (makesAt ops i) (slotOf ops base i) y && noSlot (makesAt ops j) (slotOf ops base j) x

/-- Whether the operation looks at blocks, or makes some. -/
def hot : Op → Bool
  | .load .. | .store .. | .lookup .. | .mapUpdate .. | .insert .. => true
  | .slice _ _ _ _ (some _) => true
  | .call { callee := .builtin .copy, .. } => true
  | .call { callee := .builtin .clear, .. } => true
  | op => makes op
def isLoad : Op → Bool
  | .load .. => true
  | _ => false

/-- What is asked of a region that draws its order, once and for all: operations in no order do not meet in a slot, and those that look at blocks are compared ('pairs'). -/
def okDraw (pairs : List (Nat × Nat)) (ops : Array Oper) : Bool :=
  let b := Region.before ops
  (List.range ops.size).all fun j =>
    match ops[j]? with
    | none => false
    | some y => (y.after.toList.all fun e => !Region.binds .any e || decide (e.on < j)) &&
      (List.range j).all fun i => (b.getD j 0).testBit i ||
        match ops[i]? with
        | none => false
        | some x => x.apart ops y && (!hot x.op || !hot y.op || (isLoad x.op && isLoad y.op) || pairs.contains (i, j))

def okCode (pairs : Nat → List (Nat × Nat)) : Code → Bool
  | .region id ops draw => !draw || okDraw (pairs id) ops
  | .seq a b => okCode pairs a && okCode pairs b
  | .cond _ a b => okCode pairs a && okCode pairs b
  | .block _ b => okCode pairs b
  | .loop b => okCode pairs b
  | .scope b => okCode pairs b
  | _ => true

def clear (locs : List Nat) (fr : Fr) : Fr := fr.filter fun p => locs.contains p.1

def nMakes (ops : Array Oper) : Nat := (ops.toList.filter fun o => makes o.op).length

def runRegion (E : Env) (id : Nat) (ops : Array Oper) (draw : Bool) (s : St) : Option St :=
  match runL E ops s.hp.length (List.range ops.size) { s with hp := s.hp ++ List.replicate (nMakes ops) [] } with
  | some (s', xs) =>
    if draw && !((E.pairs id).all fun p => apart3 ops s.hp.length p.1 p.2 (xs.getD p.1 none) (xs.getD p.2 none)) then none
    else some { s' with fr := clear E.locs s'.fr }
  | none => none

/-! ### Code -/

inductive Ex where
  | normal
  | exit (id : Nat)
  | ret

/-! ### Functions -/

def frOf : List AV → Nat → Fr
  | [], _ => []
  | x :: r, i => (i, x) :: frOf r (i + 1)

def resOf (P : Program) (fr : Fr) (H : Heap) : ResultVar → Option AV
  | .tmp t => some (look fr t)
  | .cell a t => (opLoad P t (look fr a) H).map (·.val)

def resAll (P : Program) (fr : Fr) (H : Heap) (rs : List ResultVar) : Option AV :=
  match rs.mapM (resOf P fr H) with
  | some [v] => some v
  | some vs => some (.tup vs)
  | none => none

def finish (P : Program) (fn : Func) (m : Nat) (s : St) : Option Out :=
  match resAll P s.fr s.hp fn.results.toList with
  | some v =>
    let R := reached s.hp m (refsV v)
    let f := renTo m R
    match R.mapM (fun g => (get s.hp g).map (renB f)) with
    | some new => some (renV f v, (firstNames m).map (fun g => (get s.hp g).map (renB f)), new)
    | none => none
  | none => none

def envOf (P : Program) (N : FuncId → Note) (call : Nat → CL) (f : FuncId) (fn : Func) (m : Nat) : Env :=
  { P, N, call, nt := fn.ntmps, locs := (N f).locs, pairs := (N f).pairs, keep := m, bx := (N f).bx }

/-- The cells that may still be written: block, place. -/
abbrev XT := Nat → Nat → Prop

/-- A value that leads to no block of the abstract heap. -/
inductive PR (w : World) (X : XT) : Value → AV → Prop where
  | undef (v : Value) : PR w X v .undef
  | bool (b : Bool) : PR w X (.bool b) (.bool b)
  | int (k : IntKind) (n : Int) : PR w X (.int k n) (.int k n)
  | str (s : ByteArray) : PR w X (.string s) (.str s)
  | nilp : PR w X (.pointer none) .nilp
  | nilf : PR w X .nilFunc .nilf
  | lst0 (a : Option Addr) (cap sz : Nat) (t : Bool) (ht : t = true → cap = 0) : PR w X (.slice a 0 cap) (.lst sz [] t)
  | slc (a : Option Addr) (cap : Nat) : PR w X (.slice a 0 cap) (.slc a.isNone)
  | fp (b : Nat) (g : FuncId) (hX : ¬ X b 0) (hc : w.cell? ⟨b, 0, none⟩ = some (.func (.func g) #[] #[])) : PR w X (.pointer (some ⟨b, 0, none⟩)) (.fp g)
  | fm (hno : False) (r : Nat) (l : List (Int × FuncId × List FuncId)) (es : Array MapEntry) (clock : Nat) (hX : ∀ o, ¬ X r o) (hobj : w.heap[r]? = some (.map es clock)) (hlen : es.size = l.length)
      (hk : ∀ (i : Nat) (k : Int) (f : FuncId) (gs : List FuncId), l[i]? = some (k, f, gs) → ∃ (e : MapEntry) (cs : Array Value), es[i]? = some e ∧ e.key = .int .i64 k ∧ e.val = .func (.func f) #[] cs ∧ cs.size = gs.length ∧
        ∀ (j : Nat) (g : FuncId), gs[j]? = some g → ∃ b, cs.getD j undef = .pointer (some ⟨b, 0, none⟩) ∧ ¬ X b 0 ∧ w.cell? ⟨b, 0, none⟩ = some (.func (.func g) #[] #[])) : PR w X (.map (some r)) (.fm l)
  | lst (b o n cap sz : Nat) (t : Bool) (xs : List AV) (f : Nat → Nat → Value) (hn : xs.length = n) (hc : n ≤ cap) (ht : t = true → cap = n)
      (hsz : ∀ (i : Nat) (x : AV), xs[i]? = some x → x.cells.length = sz)
      (hx : ∀ (i : Nat) (x : AV), xs[i]? = some x → ∀ (j : Nat) (u : AV), x.cells[j]? = some u → ¬ X b (o + (i * sz + j)) ∧ w.cell? ⟨b, o + (i * sz + j), none⟩ = some (f i j) ∧ (f i j).oneCell' = true)
      (hr : ∀ (i : Nat) (x : AV), xs[i]? = some x → ∀ (j : Nat) (u : AV), x.cells[j]? = some u → PR w X (f i j) u) : PR w X (.slice (some ⟨b, o, none⟩) n cap) (.lst sz xs t)
  | lp (b o sz i off : Nat) (xs : List AV) (f : Nat → Nat → Value)
      (hsz : ∀ (i : Nat) (x : AV), xs[i]? = some x → x.cells.length = sz)
      (hx : ∀ (i : Nat) (x : AV), xs[i]? = some x → ∀ (j : Nat) (u : AV), x.cells[j]? = some u → ¬ X b (o + (i * sz + j)) ∧ w.cell? ⟨b, o + (i * sz + j), none⟩ = some (f i j) ∧ (f i j).oneCell' = true)
      (hr : ∀ (i : Nat) (x : AV), xs[i]? = some x → ∀ (j : Nat) (u : AV), x.cells[j]? = some u → PR w X (f i j) u) : PR w X (.pointer (some ⟨b, o + (i * sz + off), none⟩)) (.lp sz xs i off)
  | agg (cs : Array Value) (xs : List AV) (hn : cs.size = xs.length) (h1 : ∀ i, i < cs.size → (cs.getD i undef).oneCell' = true)
      (h : ∀ (i : Nat) (x : AV), xs[i]? = some x → PR w X (cs.getD i undef) x) : PR w X (.agg cs) (.agg xs)

def bsize (w : World) (b : Nat) : Nat :=
  match w.heap[b]? with
  | some (.cells c _ _) => c.size
  | _ => 0

/-- Where the blocks of the abstract heap lie. -/
abbrev Rho := Nm → Option Nat

inductive VR (w : World) (X : XT) (ρ : Rho) : Value → AV → Prop where
  | pur (v : Value) (x : AV) (h : PR w X v x) : VR w X ρ v x
  | ptr (g : Nm) (b sz i off : Nat) (hs : 0 < sz) (hρ : ρ g = some b) : VR w X ρ (.pointer (some ⟨b, i * sz + off, none⟩)) (.ptr g sz i off)
  | mp (g : Nm) (b : Nat) (hρ : ρ g = some b) : VR w X ρ (.map (some b)) (.ptr g 0 0 0)
  | own0 (a : Option Addr) (g : Nm) (sz off : Nat) : VR w X ρ (.slice a 0 0) (.own g sz off 0)
  | own (g : Nm) (b sz off len cap : Nat) (hρ : ρ g = some b) (hb : b < w.heap.size) (hc : len ≤ cap) (hk : off * sz + cap * sz ≤ bsize w b) : VR w X ρ (.slice (some ⟨b, off * sz, none⟩) len cap) (.own g sz off len)
  | clo (f : FuncId) (cs : Array Value) (xs : List AV) (hn : cs.size = xs.length) (h : ∀ (i : Nat) (x : AV), xs[i]? = some x → VR w X ρ (cs.getD i undef) x) : VR w X ρ (.func (.func f) #[] cs) (.clo f xs)
  | bnd (f : FuncId) (cs : Array Value) (xs : List AV) (hn : cs.size = xs.length) (h : ∀ (i : Nat) (x : AV), xs[i]? = some x → VR w X ρ (cs.getD i undef) x) : VR w X ρ (.func (.func f) cs #[]) (.bnd f xs)
  | agg (cs : Array Value) (xs : List AV) (hn : cs.size = xs.length) (h1 : ∀ i, i < cs.size → (cs.getD i undef).oneCell' = true)
      (h : ∀ (i : Nat) (x : AV), xs[i]? = some x → VR w X ρ (cs.getD i undef) x) : VR w X ρ (.agg cs) (.agg xs)
  | tup (cs : Array Value) (xs : List AV) (hn : cs.size = xs.length) (h : ∀ (i : Nat) (x : AV), xs[i]? = some x → VR w X ρ (cs.getD i undef) x) : VR w X ρ (.tuple cs) (.tup xs)

/-- What has not been written, and what may be written later. -/
structure Stable (w : World) (X : XT) (w' : World) (X' : XT) : Prop where
  os : w'.os = w.os
  tape : w'.tape = w.tape
  output : w'.output = w.output
  size : w.heap.size ≤ w'.heap.size
  cell : ∀ b o, b < w.heap.size → ¬ X b o → ¬ X' b o ∧ w'.cell? ⟨b, o, none⟩ = w.cell? ⟨b, o, none⟩
  bsz : ∀ b, b < w.heap.size → bsize w' b = bsize w b
  blk : ∀ b, b < w.heap.size → (∀ o, ¬ X b o) → w'.heap[b]? = w.heap[b]?

theorem Stable.refl (w : World) (X : XT) : Stable w X w X := ⟨rfl, rfl, rfl, Nat.le_refl _, fun _ _ _ h => ⟨h, rfl⟩, fun _ _ => rfl, fun _ _ _ => rfl⟩

theorem Stable.trans {a b c : World} {X Y Z : XT} (h : Stable a X b Y) (k : Stable b Y c Z) : Stable a X c Z where
  os := k.os.trans h.os
  tape := k.tape.trans h.tape
  output := k.output.trans h.output
  size := Nat.le_trans h.size k.size
  cell := fun i o hi hX => by
    obtain ⟨hY, e⟩ := h.cell i o hi hX
    obtain ⟨hZ, e'⟩ := k.cell i o (Nat.lt_of_lt_of_le hi h.size) hY
    exact ⟨hZ, e'.trans e⟩
  bsz := fun i hi => (k.bsz i (Nat.lt_of_lt_of_le hi h.size)).trans (h.bsz i hi)
  blk := fun i hi hX => (k.blk i (Nat.lt_of_lt_of_le hi h.size) fun o => (h.cell i o hi (hX o)).1).trans (h.blk i hi hX)

theorem Stable.drew {w w' : World} {X X' : XT} (h : Stable w X w' X') : Stable w X w'.drew X' := ⟨h.os, h.tape, h.output, h.size, h.cell, h.bsz, h.blk⟩

theorem Stable.below {w w' : World} {X X' : XT} (h : Stable w X w' X') (hX : ∀ b o, ¬ X b o) : RowKit.Below w.heap.size w w' :=
  ⟨h.os, h.tape, h.output, h.size, fun k hk => h.blk k hk (hX k)⟩

/-- Fewer cells to be written later. -/
theorem Stable.less {w w' : World} {X X' X'' : XT} (h : Stable w X w' X') (hX : ∀ b o, b < w.heap.size → X'' b o → X' b o) : Stable w X w' X'' :=
  { h with cell := fun b o hb hx => ⟨fun h'' => (h.cell b o hb hx).1 (hX b o hb h''), (h.cell b o hb hx).2⟩ }

theorem PR.mono {w w' : World} {X X' : XT} (hs : Stable w X w' X') {v : Value} {x : AV} (h : PR w X v x) : PR w' X' v x := by
  induction h with
  | undef v => exact .undef v
  | bool b => exact .bool b
  | int k n => exact .int k n
  | str s => exact .str s
  | nilp => exact .nilp
  | nilf => exact .nilf
  | lst0 a cap sz t ht => exact .lst0 a cap sz t ht
  | slc a cap => exact .slc a cap
  | fp b g hX hc =>
    obtain ⟨h4, h5⟩ := hs.cell b 0 (World.block_lt_of_cell? (w := w) (a := ⟨b, 0, none⟩) hc) hX
    exact .fp b g h4 (h5.trans hc)
  | fm hno r l es clock hX hobj hlen hk =>
    have hr : r < w.heap.size := (Array.getElem?_eq_some_iff.1 hobj).1
    refine .fm hno r l es clock (fun o => (hs.cell r o hr (hX o)).1) ((hs.blk r hr hX).trans hobj) hlen (fun i k f gs hi => ?_)
    obtain ⟨e, cs, e1, e2, e3, e4, e5⟩ := hk i k f gs hi
    refine ⟨e, cs, e1, e2, e3, e4, fun j g hj => ?_⟩
    obtain ⟨b, b1, b2, b3⟩ := e5 j g hj
    obtain ⟨h4, h5⟩ := hs.cell b 0 (World.block_lt_of_cell? (w := w) (a := ⟨b, 0, none⟩) b3) b2
    exact ⟨b, b1, h4, h5.trans b3⟩
  | lst b o n cap sz t xs f hn hc ht hsz hx hr ih =>
    refine .lst b o n cap sz t xs f hn hc ht hsz (fun i x hi j u hj => ?_) ih
    obtain ⟨h1, h2, h3⟩ := hx i x hi j u hj
    obtain ⟨h4, h5⟩ := hs.cell b _ (World.block_lt_of_cell? (w := w) (a := ⟨b, o + (i * sz + j), none⟩) h2) h1
    exact ⟨h4, h5.trans h2, h3⟩
  | lp b o sz i off xs f hsz hx hr ih =>
    refine .lp b o sz i off xs f hsz (fun i x hi j u hj => ?_) ih
    obtain ⟨h1, h2, h3⟩ := hx i x hi j u hj
    obtain ⟨h4, h5⟩ := hs.cell b _ (World.block_lt_of_cell? (w := w) (a := ⟨b, o + (i * sz + j), none⟩) h2) h1
    exact ⟨h4, h5.trans h2, h3⟩
  | agg cs xs hn h1 _ ih => exact .agg cs xs hn h1 ih

theorem PR.canon {w : World} {X : XT} {v : Value} {sz : Nat} {xs : List AV} {t : Bool} (h : PR w X v (.lst sz xs t)) : PR w X v (.lst (lsz sz xs) xs t) := by
  cases xs with
  | cons x r => exact h
  | nil =>
    cases h with
    | lst0 a cap sz t ht => exact .lst0 _ _ _ _ ht
    | lst b o n cap sz t xs f hn hc ht hsz hx hr =>
      simp only [List.length_nil] at hn
      subst hn
      exact .lst0 _ _ _ _ ht

theorem VR.mono {w w' : World} {X X' : XT} {ρ ρ' : Rho} (hs : Stable w X w' X') (hρ : ∀ g b, ρ g = some b → ρ' g = some b) {v : Value} {x : AV} (h : VR w X ρ v x) : VR w' X' ρ' v x := by
  induction h with
  | pur v x h => exact .pur v x (h.mono hs)
  | ptr g b sz i off hs hg => exact .ptr g b sz i off hs (hρ g b hg)
  | mp g b hg => exact .mp g b (hρ g b hg)
  | own0 a g sz off => exact .own0 a g sz off
  | own g b sz off len cap hg hb hc hk => exact .own g b sz off len cap (hρ g b hg) (Nat.lt_of_lt_of_le hb hs.size) hc (by rw [hs.bsz b hb]; exact hk)
  | clo f cs xs hn _ ih => exact .clo f cs xs hn ih
  | bnd f cs xs hn _ ih => exact .bnd f cs xs hn ih
  | agg cs xs hn h1 _ ih => exact .agg cs xs hn h1 ih
  | tup cs xs hn _ ih => exact .tup cs xs hn ih

theorem VR.undef {w : World} {X : XT} {ρ : Rho} (v : Value) : VR w X ρ v .undef := .pur _ _ (.undef v)

/-- A block of a box may lead to others, another's cells may not. -/
def CR (box : Bool) (w : World) (X : XT) (ρ : Rho) (v : Value) (x : AV) : Prop := if box then VR w X ρ v x else PR w X v x

theorem CR.mono {box : Bool} {w w' : World} {X X' : XT} {ρ ρ' : Rho} (hs : Stable w X w' X') (hρ : ∀ g b, ρ g = some b → ρ' g = some b) {v : Value} {x : AV} (h : CR box w X ρ v x) : CR box w' X' ρ' v x := by
  cases box
  · exact PR.mono hs h
  · exact VR.mono hs hρ h

theorem CR.vr {box : Bool} {w : World} {X : XT} {ρ : Rho} {v : Value} {x : AV} (h : CR box w X ρ v x) : VR w X ρ v x := by
  cases box
  · exact .pur _ _ h
  · exact h

/-- The elements of a block. -/
def ElemsAt (box : Bool) (w : World) (X : XT) (ρ : Rho) (cs : Array Value) (sz : Nat) (es : List AV) : Prop :=
  es.length * sz ≤ cs.size ∧ ∀ (i : Nat) (x : AV), es[i]? = some x → x.cells.length = sz ∧ ∀ (j : Nat) (u : AV), x.cells[j]? = some u → (cs.getD (i * sz + j) undef).oneCell' = true ∧ CR box w X ρ (cs.getD (i * sz + j) undef) u

theorem ElemsAt.mono {box : Bool} {w w' : World} {X X' : XT} {ρ ρ' : Rho} (hs : Stable w X w' X') (hρ : ∀ g b, ρ g = some b → ρ' g = some b) {cs : Array Value} {sz : Nat} {es : List AV} (h : ElemsAt box w X ρ cs sz es) : ElemsAt box w' X' ρ' cs sz es :=
  ⟨h.1, fun i x hi => ⟨(h.2 i x hi).1, fun j u hj => ⟨((h.2 i x hi).2 j u hj).1, ((h.2 i x hi).2 j u hj).2.mono hs hρ⟩⟩⟩

/-- A key of a map, in the model. -/
def keyV : AV → Value
  | .int k n => .int k n
  | .str s => .string s
  | _ => undef

/-- The entries of a map. -/
inductive MapAt (box : Bool) (w : World) (X : XT) (ρ : Rho) : List MapEntry → List AV → Prop where
  | nil : MapAt box w X ρ [] []
  | cons (e : MapEntry) (k x : AV) (es : List MapEntry) (xs : List AV) (hk : e.key = keyV k) (hv : CR box w X ρ e.val x) (h : MapAt box w X ρ es xs) : MapAt box w X ρ (e :: es) (.agg [k, x] :: xs)

theorem MapAt.mono {box : Bool} {w w' : World} {X X' : XT} {ρ ρ' : Rho} (hs : Stable w X w' X') (hρ : ∀ g b, ρ g = some b → ρ' g = some b) {es : List MapEntry} {xs : List AV} (h : MapAt box w X ρ es xs) : MapAt box w' X' ρ' es xs := by
  induction h with
  | nil => exact .nil
  | cons e k x es xs hk hv _ ih => exact .cons e k x es xs hk (hv.mono hs hρ) ih

/-- A map's entries, with their stamps. -/
structure MapOK (box : Bool) (w : World) (X : XT) (ρ : Rho) (es : Array MapEntry) (clock : Nat) (xs : List AV) : Prop where
  mp : MapAt box w X ρ es.toList xs
  sd : Go.MapKept.Stamped es clock
theorem MapOK.mono {box : Bool} {w w' : World} {X X' : XT} {ρ ρ' : Rho} (hs : Stable w X w' X') (hρ : ∀ g b, ρ g = some b → ρ' g = some b) {es : Array MapEntry} {c : Nat} {xs : List AV} (h : MapOK box w X ρ es c xs) : MapOK box w' X' ρ' es c xs :=
  ⟨h.mp.mono hs hρ, h.sd⟩

/-- A block whose elements are cells. -/
def BlkC (w : World) (X : XT) (ρ : Rho) (b : Nat) (k : Blk) : Prop :=
  ∃ cs T, w.heap[b]? = some (.cells cs T (0, 0)) ∧ ElemsAt k.box w X ρ cs k.sz k.elems
/-- A block that is a map. -/
def BlkM (w : World) (X : XT) (ρ : Rho) (b : Nat) (k : Blk) : Prop :=
  k.sz = 0 ∧ ∃ es clock, w.heap[b]? = some (.map es clock) ∧ MapOK k.box w X ρ es clock k.elems
def BlkAt (w : World) (X : XT) (ρ : Rho) (b : Nat) (k : Blk) : Prop := (0 < k.sz ∧ BlkC w X ρ b k) ∨ BlkM w X ρ b k
theorem BlkAt.keep {w w1 : World} {X X1 : XT} {ρ ρ1 : Rho} {b : Nat} {k : Blk} (h : BlkAt w X ρ b k) (hs : Stable w X w1 X1) (hρ : ∀ g b, ρ g = some b → ρ1 g = some b) (hb : w1.heap[b]? = w.heap[b]?) : BlkAt w1 X1 ρ1 b k := by
  rcases h with ⟨h0, cs, T, h1, h2⟩ | ⟨h1, es, c, h4, h5⟩
  · exact .inl ⟨h0, cs, T, hb.trans h1, h2.mono hs hρ⟩
  · exact .inr ⟨h1, es, c, hb.trans h4, h5.mono hs hρ⟩
theorem BlkAt.cells {w : World} {X : XT} {ρ : Rho} {b : Nat} {k : Blk} (h : BlkAt w X ρ b k) (hs : 0 < k.sz) : BlkC w X ρ b k := (h.resolve_right fun e => by have := e.1; omega).2
theorem BlkAt.map {w : World} {X : XT} {ρ : Rho} {b : Nat} {k : Blk} (h : BlkAt w X ρ b k) (hs : k.sz = 0) : BlkM w X ρ b k := h.resolve_left fun e => by have := e.1; omega

def XX (ρ : Rho) (H : Heap) : XT := fun b o => ∃ g k, get H g = some k ∧ ρ g = some b ∧ k.frz * k.sz ≤ o

/-- The cells that may be written, and those that are not looked at. -/
def XU (Y : XT) (ρ : Rho) (H : Heap) : XT := fun b o => XX ρ H b o ∨ Y b o

theorem Stable.un {w w' : World} {X X' : XT} (h : Stable w X w' X') (Y : XT) : Stable w (fun b o => X b o ∨ Y b o) w' (fun b o => X' b o ∨ Y b o) where
  os := h.os
  tape := h.tape
  output := h.output
  size := h.size
  cell := fun b o hb hn => by
    have hX : ¬ X b o := fun e => hn (.inl e)
    have hY : ¬ Y b o := fun e => hn (.inr e)
    exact ⟨fun e => e.elim (h.cell b o hb hX).1 hY, (h.cell b o hb hX).2⟩
  bsz := h.bsz
  blk := fun b hb hn => h.blk b hb fun o e => hn o (.inl e)

theorem Stable.xu {w w' : World} {ρ ρ' : Rho} {H H' : Heap} (h : Stable w (XX ρ H) w' (XX ρ' H')) (Y : XT) : Stable w (XU Y ρ H) w' (XU Y ρ' H') := h.un Y

/-- The table of blanks and that of the powers of ten, as the program lays them in its blocks 0 and 2; block 3 is a number. -/
def tabBlank : Array Value := ((List.range 256).map fun o => Value.int .u8 (if o = 32 ∨ (9 ≤ o ∧ o ≤ 13) then 1 else 0)).toArray
def tabTen : Array Value := ((List.range 20).map fun o => Value.int .u64 ((10 ^ o : Nat) : Int)).toArray
structure GlW (w : World) : Prop where
  blank : ∃ T z, w.heap[0]? = some (.cells tabBlank T z)
  ten : ∃ T z, w.heap[2]? = some (.cells tabTen T z)
  max : ∃ m T z, w.heap[3]? = some (.cells #[.int .i64 m] T z)

theorem GlW.of {w w' : World} (h : GlW w) (hb : ∀ b cs T z, b < 11 → w.heap[b]? = some (.cells cs T z) → w'.heap[b]? = w.heap[b]?) : GlW w' :=
  ⟨h.blank.imp fun T h => h.imp fun z h => (hb 0 _ _ _ (by omega) h).trans h, h.ten.imp fun T h => h.imp fun z h => (hb 2 _ _ _ (by omega) h).trans h,
    h.max.imp fun m h => h.imp fun T h => h.imp fun z h => (hb 3 _ _ _ (by omega) h).trans h⟩

/-- The program's own variables stand as they were laid; the call may not write them. -/
structure GlOK (w : World) (ρ : Rho) (Y : XT) : Prop where
  val : GlW w
  pos : 11 ≤ w.heap.size
  rho : ∀ g b, ρ g = some b → 11 ≤ b
  y : ∀ b o, Y b o → 11 ≤ b

theorem GlOK.st {w w' : World} {ρ ρ' : Rho} {Y : XT} {H : Heap} {X' : XT} (h : GlOK w ρ Y) (hst : Stable w (XX ρ H) w' X') (hr : ∀ g b, ρ' g = some b → 11 ≤ b) : GlOK w' ρ' Y :=
  ⟨h.val.of fun b _ _ _ hb _ => hst.blk b (Nat.lt_of_lt_of_le hb h.pos) (fun _ ⟨g, _, _, hg, _⟩ => absurd (h.rho g b hg) (by omega)), Nat.le_trans h.pos hst.size, hr, h.y⟩

structure HR (Y : XT) (w : World) (ρ : Rho) (H : Heap) : Prop where
  blk : ∀ g k, get H g = some k → (ρ g = none ∧ k.elems = [] ∧ k.box = false) ∨ ∃ b, ρ g = some b ∧ BlkAt w (XU Y ρ H) ρ b k
  inj : ∀ g g' k k' b, get H g = some k → get H g' = some k' → ρ g = some b → ρ g' = some b → g = g'
  dom : ∀ g b, ρ g = some b → g.2 < (H.getD g.1 []).length
  lt : ∀ g b, ρ g = some b → b < w.heap.size
  sep : ∀ g k b o, get H g = some k → ρ g = some b → ¬ Y b o
  ylt : ∀ b o, Y b o → b < w.heap.size
  gl : GlOK w ρ Y

/-! ### The heap as a function -/

theorem get_set (H : Heap) (g g' : Nm) (b : Option Blk) : get (set H g b) g' = if g' = g ∧ (∃ l, H[g.1]? = some l ∧ g.2 < l.length) then b else get H g' := by
  obtain ⟨a, c⟩ := g
  obtain ⟨a', c'⟩ := g'
  simp only [get, set, List.getElem?_modify, Prod.mk.injEq]
  by_cases ha : a = a'
  · subst ha
    cases hl : H[a]? with
    | none => simp
    | some l =>
      simp only [if_true, Option.map_some, List.getElem?_set, true_and]
      by_cases hc : c = c'
      · subst hc
        by_cases hlt : c < l.length
        · simp [hlt]
        · simp [hlt]
      · simp [hc, Ne.symm hc]
  · have : ¬ a' = a := fun h => ha h.symm
    cases hl : H[a']? <;> simp [ha, this]

theorem get_some_lt {H : Heap} {g : Nm} {k : Blk} (h : get H g = some k) : ∃ l, H[g.1]? = some l ∧ g.2 < l.length := by
  unfold get at h
  cases hl : H[g.1]? with
  | none => simp [hl] at h
  | some l =>
    refine ⟨l, rfl, ?_⟩
    simp only [hl] at h
    rcases Nat.lt_or_ge g.2 l.length with hlt | hge
    · exact hlt
    · rw [List.getElem?_eq_none hge] at h
      simp at h

theorem get_set_same {H : Heap} {g : Nm} {k : Blk} (h : get H g = some k) (b : Option Blk) : get (set H g b) g = b := by
  rw [get_set, if_pos ⟨rfl, get_some_lt h⟩]

theorem get_set_ne {H : Heap} {g g' : Nm} (h : g' ≠ g) (b : Option Blk) : get (set H g b) g' = get H g' := by
  rw [get_set, if_neg (fun e => h e.1)]

theorem len_set (H : Heap) (g : Nm) (b : Option Blk) : (set H g b).length = H.length := by simp [set]

theorem getD_set_length (H : Heap) (g : Nm) (b : Option Blk) (i : Nat) : ((set H g b).getD i []).length = (H.getD i []).length := by
  simp only [set, List.getD_eq_getElem?_getD, List.getElem?_modify]
  cases H[i]? with
  | none => simp
  | some l => by_cases h : g.1 = i <;> simp [h]

/-! ### The frame -/

theorem look_ins (s : Nat) (x : AV) (fr : Fr) (t : Nat) : look (ins s x fr) t = if s = t then x else look fr t := by
  induction fr with
  | nil => simp [ins, look]
  | cons p r ih =>
    obtain ⟨t', y⟩ := p
    simp only [ins]
    by_cases h1 : s < t'
    · simp [h1, look]
    · by_cases h2 : s = t'
      · subst h2
        simp only [Nat.lt_irrefl, if_false, if_true, look]
        by_cases h3 : s = t <;> simp [h3]
      · simp only [h1, h2, if_false, look, ih]
        by_cases h3 : t' = t
        · simp [h3]
          intro h; exact absurd (h.trans h3.symm) h2
        · simp [h3]

theorem look_clear (locs : List Nat) (fr : Fr) (t : Nat) : look (clear locs fr) t = if locs.contains t then look fr t else .undef := by
  induction fr with
  | nil => simp [clear, look]
  | cons p r ih =>
    obtain ⟨s, y⟩ := p
    have e : clear locs ((s, y) :: r) = if locs.contains s then (s, y) :: clear locs r else clear locs r := by
      simp only [clear, List.filter_cons]
    rw [e]
    by_cases h : locs.contains s = true
    · rw [if_pos h]
      simp only [look, ih]
      by_cases hs : s = t
      · subst hs; simp only [if_true, if_pos h]
      · simp only [if_neg hs]
    · rw [if_neg h, ih]
      simp only [look]
      by_cases hs : s = t
      · subst hs; simp only [if_neg h]
      · simp only [if_neg hs]

/-- The slots hold what the frame says. -/
def FR (w : World) (X : XT) (ρ : Rho) (tmps : Array Value) (fr : Fr) : Prop := ∀ t, VR w X ρ (tmps.getD t undef) (look fr t)

theorem FR.mono {w w' : World} {X X' : XT} {ρ ρ' : Rho} (hs : Stable w X w' X') (hρ : ∀ g b, ρ g = some b → ρ' g = some b) {tmps : Array Value} {fr : Fr} (h : FR w X ρ tmps fr) : FR w' X' ρ' tmps fr := fun t => (h t).mono hs hρ

theorem getD_set (tmps : Array Value) (d t : Nat) (v : Value) (hd : d < tmps.size) : (tmps.setIfInBounds d v).getD t undef = if d = t then v else tmps.getD t undef := by
  simp only [Array.getD_eq_getD_getElem?, Array.getElem?_setIfInBounds]
  by_cases h : d = t
  · subst h; simp [hd]
  · simp [h]

theorem FR.put {w : World} {X : XT} {ρ : Rho} {tmps : Array Value} {fr : Fr} (h : FR w X ρ tmps fr) {d : Nat} (hd : d < tmps.size) {v : Value} {x : AV} (hv : VR w X ρ v x) : FR w X ρ (tmps.setIfInBounds d v) (ins d x fr) := by
  intro t
  rw [getD_set tmps d t v hd, look_ins]
  by_cases e : d = t
  · simp only [if_pos e]; exact hv
  · simp only [if_neg e]; exact h t

theorem FR.clear {w : World} {X : XT} {ρ : Rho} {tmps : Array Value} {fr : Fr} (h : FR w X ρ tmps fr) (locs : List Nat) : FR w X ρ tmps (clear locs fr) := by
  intro t
  rw [look_clear]
  split
  · exact h t
  · exact .undef _

/-! ### Constants -/

theorem okC_one {w : World} {X : XT} {ρ : Rho} {v : Value} {x : AV} (h : VR w X ρ v x) (hk : okC x = true) : v.oneCell' = true := by
  cases h with
  | pur v x h => cases h <;> first | rfl | (simp [okC] at hk)
  | ptr => rfl
  | mp => rfl
  | own0 => rfl
  | own => rfl
  | clo => rfl
  | bnd => rfl
  | agg => simp [okC] at hk
  | tup => simp [okC] at hk

theorem PR.okC_one {w : World} {X : XT} {v : Value} {x : AV} (h : PR w X v x) (hk : okC x = true) : v.oneCell' = true :=
  Abs.okC_one (ρ := fun _ => none) (.pur v x h) hk

theorem PR.nt1 {w : World} {X : XT} {v : Value} {x : AV} (h : PR w X v x) : PR w X v (Abs.nt1 x) := by
  cases h with
  | lst0 a cap sz t ht => exact .lst0 _ _ _ _ (fun e => by cases e)
  | lst b o n cap sz t xs f hn hc ht hsz hx hr => exact .lst b o _ cap sz _ xs f hn hc (fun e => by cases e) hsz hx hr
  | undef v => exact .undef v
  | bool b => exact .bool b
  | int k n => exact .int k n
  | str s => exact .str s
  | nilp => exact .nilp
  | nilf => exact .nilf
  | lp b o sz i off xs f hsz hx hr => exact .lp b o sz i off xs f hsz hx hr
  | slc a cap => exact .slc a cap
  | fp b g h1 h2 => exact .fp b g h1 h2
  | fm h0 r l es c h1 h2 h3 h4 => exact .fm h0 r l es c h1 h2 h3 h4
  | agg cs xs hn h1 h => exact .agg cs xs hn h1 h
theorem PR.nt {w : World} {X : XT} {v : Value} {x : AV} (h : PR w X v x) : PR w X v (ntV x) := by
  cases h with
  | agg cs xs hn h1 h =>
    refine .agg cs _ (by simp [hn]) h1 (fun i x hx => ?_)
    rw [List.getElem?_map] at hx
    obtain ⟨y, hy, rfl⟩ := Option.map_eq_some_iff.1 hx
    exact (h i y hy).nt1
  | lst0 a cap sz t ht => exact .lst0 _ _ _ _ (fun e => by cases e)
  | lst b o n cap sz t xs f hn hc ht hsz hx hr => exact .lst b o _ cap sz _ xs f hn hc (fun e => by cases e) hsz hx hr
  | undef v => exact .undef v
  | bool b => exact .bool b
  | int k n => exact .int k n
  | str s => exact .str s
  | nilp => exact .nilp
  | nilf => exact .nilf
  | lp b o sz i off xs f hsz hx hr => exact .lp b o sz i off xs f hsz hx hr
  | slc a cap => exact .slc a cap
  | fp b g h1 h2 => exact .fp b g h1 h2
  | fm h0 r l es c h1 h2 h3 h4 => exact .fm h0 r l es c h1 h2 h3 h4

theorem cv1_rel (w : World) (X : XT) (v : Value) : PR w X v (cv1 v) := by
  unfold cv1
  split
  · exact .bool _
  · exact .int _ _
  · exact .str _
  · exact .nilp
  · exact .nilf
  · exact .lst0 _ _ _ _ (fun _ => rfl)
  · exact .undef _

theorem cv_rel (w : World) (X : XT) (v : Value) : PR w X v (cv v) := by
  unfold cv
  split
  · rename_i cs
    split
    · rename_i hall
      refine .agg cs _ (by simp) (fun i hi => ?_) (fun i x hx => ?_)
      · have hc : cs.getD i undef = cs[i] := by simp [Array.getD_eq_getD_getElem?, hi]
        rw [hc]
        refine PR.okC_one (w := w) (X := X) (cv1_rel w X cs[i]) ?_
        rw [List.all_eq_true] at hall
        exact hall _ (List.mem_map.2 ⟨cs[i], by simp, rfl⟩)
      · rw [List.getElem?_map] at hx
        cases hc : cs.toList[i]? with
        | none => simp [hc] at hx
        | some c =>
          simp [hc] at hx
          subst hx
          have : cs.getD i undef = c := by
            simp at hc
            simp [Array.getD_eq_getD_getElem?, hc]
          rw [this]
          exact cv1_rel w X c
    · exact .undef _
  · exact cv1_rel w X v

/-- An operand. -/
theorem evO_rel {w : World} {X : XT} {ρ : Rho} {a : Act} {fr : Fr} (h : FR w X ρ a.tmps fr) (x : Operand) : VR w X ρ (a.eval x) (evO fr x) := by
  cases x with
  | tmp t => exact h t
  | const v => exact .pur _ _ (cv_rel w X v)
  | global g => exact .undef _
  | func f => exact .clo f #[] [] rfl (fun i x hx => by simp at hx)

variable {Y : XT}
def upd (ρ : Rho) (g : Nm) (b : Nat) : Rho := fun g' => if g' = g then some b else ρ g'

theorem GlOK.upd {w : World} {ρ : Rho} {Y : XT} (h : GlOK w ρ Y) {g : Nm} {b : Nat} (hb : 11 ≤ b) : ∀ g' c, Abs.upd ρ g b g' = some c → 11 ≤ c := by
  intro g' c e
  unfold Abs.upd at e
  split at e
  · cases e; exact hb
  · exact h.rho g' c e

/-- What an operation leaves. -/
structure Made (Y : XT) (w : World) (ρ : Rho) (H : Heap) (w' : World) (ρ' : Rho) (H' : Heap) (v : Value) (x : AV) : Prop where
  hr : HR Y w' ρ' H'
  val : VR w' (XU Y ρ' H') ρ' v x
  st : Stable w (XX ρ H) w' (XX ρ' H')
  le : ∀ g b, ρ g = some b → ρ' g = some b

/-- A heap of which less is known: blocks are gone, or no longer written. -/
structure Less (H' H : Heap) : Prop where
  sub : ∀ g k', get H' g = some k' → ∃ k, get H g = some k ∧ k'.sz = k.sz ∧ k'.elems = k.elems ∧ k'.box = k.box ∧ k.frz ≤ k'.frz
  len : ∀ i, (H'.getD i []).length = (H.getD i []).length

theorem Less.refl (H : Heap) : Less H H := ⟨fun g k h => ⟨k, h, rfl, rfl, rfl, Nat.le_refl _⟩, fun _ => rfl⟩
theorem Less.trans {A B C : Heap} (h : Less A B) (k : Less B C) : Less A C := by
  refine ⟨fun g x hx => ?_, fun i => (h.len i).trans (k.len i)⟩
  obtain ⟨y, hy, h1, h2, h3, h4⟩ := h.sub g x hx
  obtain ⟨z, hz, k1, k2, k3, k4⟩ := k.sub g y hy
  exact ⟨z, hz, h1.trans k1, h2.trans k2, h3.trans k3, Nat.le_trans k4 h4⟩

theorem Less.xx {ρ : Rho} {H' H : Heap} (h : Less H' H) {b o : Nat} (hx : XX ρ H' b o) : XX ρ H b o := by
  obtain ⟨g, k', hg, hρ, ho⟩ := hx
  obtain ⟨k, hk, h1, _, _, h4⟩ := h.sub g k' hg
  exact ⟨g, k, hk, hρ, Nat.le_trans (by rw [h1]; exact Nat.mul_le_mul_right _ h4) ho⟩

theorem Less.xu {ρ : Rho} {H' H : Heap} (h : Less H' H) {b o : Nat} (hx : XU Y ρ H' b o) : XU Y ρ H b o := hx.imp h.xx id

theorem Less.st {w : World} {ρ : Rho} {H' H : Heap} (h : Less H' H) : Stable w (XX ρ H) w (XX ρ H') :=
  (Stable.refl w _).less fun _ _ _ hx => h.xx hx

theorem HR.less {w : World} {ρ : Rho} {H' H : Heap} (hr : HR Y w ρ H) (h : Less H' H) : HR Y w ρ H' := by
  refine ⟨fun g k' hg => ?_, fun g g' k k' b hg hg' h1 h2 => ?_, fun g b hb => ?_, hr.lt, fun g k' b o hg hb => ?_, hr.ylt, hr.gl⟩
  · obtain ⟨k, hk, h1, h2, h3, h4⟩ := h.sub g k' hg
    rcases hr.blk g k hk with ⟨a1, a2, a3⟩ | ⟨b, a1, a2⟩
    · exact .inl ⟨a1, h2.trans a2, h3.trans a3⟩
    · refine .inr ⟨b, a1, ?_⟩
      rcases a2.keep (h.st.xu Y) (fun _ _ h => h) rfl with ⟨c0, cs, T, c1, c2⟩ | ⟨c1, es, cl, c3, c4⟩
      · refine .inl ⟨by rw [h1]; exact c0, cs, T, c1, ?_⟩
        rw [h1, h2, h3]
        exact c2
      · exact .inr ⟨h1.trans c1, es, cl, c3, by rw [h2, h3]; exact c4⟩
  · obtain ⟨x, hx, _⟩ := h.sub g k hg
    obtain ⟨y, hy, _⟩ := h.sub g' k' hg'
    exact hr.inj g g' x y b hx hy h1 h2
  · rw [h.len]; exact hr.dom g b hb
  · obtain ⟨x, hx, _⟩ := h.sub g k' hg
    exact hr.sep g x b o hx hb

theorem Less.set_none (H : Heap) (g : Nm) : Less (set H g none) H := by
  refine ⟨fun g' k' h => ?_, fun i => getD_set_length H g none i⟩
  rw [get_set] at h
  split at h
  · cases h
  · exact ⟨k', h, rfl, rfl, rfl, Nat.le_refl _⟩

theorem Less.set_stop {H : Heap} {g : Nm} {k k' : Blk} (hg : get H g = some k) (h1 : k'.sz = k.sz) (h2 : k'.elems = k.elems) (h3 : k'.box = k.box) (h4 : k.frz ≤ k'.frz) : Less (set H g (some k')) H := by
  refine ⟨fun g' x h => ?_, fun i => getD_set_length H g _ i⟩
  rw [get_set] at h
  split at h
  · rename_i e
    cases h
    exact ⟨k, by rw [e.1]; exact hg, h1, h2, h3, h4⟩
  · exact ⟨x, h, rfl, rfl, rfl, Nat.le_refl _⟩

/-- Blocks that are no longer written ('stops'). -/
theorem Less.stops {H0 : Heap} : ∀ (l : List Nm) (H : Heap), Less H H0 → Less (putAll H (Abs.stops H0 l)) H0 := by
  intro l
  induction l with
  | nil => intro H h; exact h
  | cons g r ih =>
    intro H h
    show Less (putAll (set H g ((get H0 g).map Blk.stop)) (Abs.stops H0 r)) H0
    refine ih _ ⟨fun g' k' hg => ?_, fun i => (getD_set_length H g _ i).trans (h.len i)⟩
    rw [get_set] at hg
    split at hg
    · rename_i e
      obtain ⟨rfl, _⟩ := e
      cases h0 : get H0 g' with
      | none => rw [h0] at hg; cases hg
      | some k =>
        rw [h0] at hg
        cases hg
        exact ⟨k, rfl, rfl, rfl, rfl, Nat.le_max_left _ _⟩
    · exact h.sub g' k' hg

/-! ### A group is filled -/

theorem get_group (H : Heap) (slot : Nat) (l : List (Option Blk)) (g : Nm) :
    get (H.set slot l) g = if g.1 = slot ∧ slot < H.length then (l[g.2]?).join else get H g := by
  obtain ⟨a, c⟩ := g
  simp only [get, List.getElem?_set]
  by_cases h : slot = a
  · subst h
    by_cases hl : slot < H.length
    · simp [hl]
    · simp [hl]
  · have : ¬ a = slot := fun e => h e.symm
    simp [h, this]

theorem getD_group (H : Heap) (slot : Nat) (l : List (Option Blk)) (i : Nat) :
    (H.set slot l).getD i [] = if i = slot ∧ slot < H.length then l else H.getD i [] := by
  simp only [List.getD_eq_getElem?_getD, List.getElem?_set]
  by_cases h : slot = i
  · subst h
    by_cases hl : slot < H.length
    · simp [hl]
    · simp [hl]
  · have : ¬ i = slot := fun e => h e.symm
    simp [h, this]

/-- The group is reserved, nothing lies in it. -/
def Free (H : Heap) (slot : Nat) : Prop := slot < H.length ∧ H.getD slot [] = []

theorem Free.none {H : Heap} {slot : Nat} (h : Free H slot) {w : World} {ρ : Rho} (hr : HR Y w ρ H) (k : Nat) : ρ (slot, k) = none := by
  cases e : ρ (slot, k) with
  | none => rfl
  | some b =>
    have := hr.dom _ _ e
    rw [h.2] at this
    simp at this

theorem Free.get {H : Heap} {slot : Nat} (h : Free H slot) (k : Nat) : get H (slot, k) = Option.none := by
  obtain ⟨h1, h2⟩ := h
  simp only [Abs.get]
  rw [List.getD_eq_getElem?_getD] at h2
  cases hl : H[slot]? with
  | none => rfl
  | some l =>
    rw [hl] at h2
    simp at h2
    subst h2
    rfl

theorem Free.less {H H' : Heap} {slot : Nat} (h : Free H slot) (hl : Less H' H) (hlen : H'.length = H.length) : Free H' slot := by
  refine ⟨by rw [hlen]; exact h.1, ?_⟩
  have := hl.len slot
  rw [h.2] at this
  exact List.eq_nil_of_length_eq_zero (by simpa using this)

theorem len_putAll : ∀ (l : List (Nm × Option Blk)) (H : Heap), (putAll H l).length = H.length := by
  intro l
  induction l with
  | nil => intro H; rfl
  | cons p r ih => intro H; obtain ⟨g, b⟩ := p; show (putAll (set H g b) r).length = _; rw [ih, len_set]

theorem lenD_putAll : ∀ (l : List (Nm × Option Blk)) (H : Heap) (i : Nat), ((putAll H l).getD i []).length = (H.getD i []).length := by
  intro l
  induction l with
  | nil => intro H i; rfl
  | cons p r ih => intro H i; obtain ⟨g, b⟩ := p; show ((putAll (set H g b) r).getD i []).length = _; rw [ih, getD_set_length]

theorem Free.putAll {H : Heap} {slot : Nat} (h : Free H slot) (l : List (Nm × Option Blk)) : Free (putAll H l) slot := by
  refine ⟨by rw [len_putAll]; exact h.1, ?_⟩
  have := lenD_putAll l H slot
  rw [h.2] at this
  exact List.eq_nil_of_length_eq_zero (by simpa using this)

/-- Nothing is laid into the group. -/
theorem HR.none_new {w : World} {ρ : Rho} {H : Heap} {slot : Nat} (hr : HR Y w ρ H) (hf : Free H slot) : HR Y w ρ (H.set slot []) ∧ Stable w (XX ρ H) w (XX ρ (H.set slot [])) := by
  have hg : ∀ g, Abs.get (H.set slot []) g = Abs.get H g := by
    intro g
    rw [get_group]
    split
    · rename_i e
      obtain ⟨a, c⟩ := g
      obtain ⟨e1, _⟩ := e
      simp only at e1
      subst e1
      rw [hf.get c]
      rfl
    · rfl
  have hl : Less (H.set slot []) H := by
    refine ⟨fun g k' h => ⟨k', by rw [hg] at h; exact h, rfl, rfl, rfl, Nat.le_refl _⟩, fun i => ?_⟩
    rw [getD_group]
    split
    · rename_i e; rw [e.1, hf.2]
    · rfl
  exact ⟨hr.less hl, hl.st⟩

/-- A new block of the model is a new block of the abstract heap. -/
theorem HR.new' {w w1 : World} {ρ : Rho} {H : Heap} {slot : Nat} (hr : HR Y w ρ H) (hf : Free H slot) {b : Nat} (hb : w.heap.size ≤ b) (hb1 : b < w1.heap.size)
    (hos : w1.os = w.os) (htape : w1.tape = w.tape) (hout : w1.output = w.output) (hold : ∀ i, i < w.heap.size → w1.heap[i]? = w.heap[i]?)
    (k : Blk) (hk : (0 < k.sz ∧ ∃ cs T, w1.heap[b]? = some (.cells cs T (0, 0)) ∧ ElemsAt k.box w (XU Y ρ H) ρ cs k.sz k.elems) ∨ (k.sz = 0 ∧ ∃ es cl, w1.heap[b]? = some (.map es cl) ∧ MapOK k.box w (XU Y ρ H) ρ es cl k.elems)) :
    HR Y w1 (upd ρ (slot, 0) b) (H.set slot [some k]) ∧ Stable w (XX ρ H) w1 (XX (upd ρ (slot, 0) b) (H.set slot [some k])) ∧ (∀ g c, ρ g = some c → upd ρ (slot, 0) b g = some c) := by
  have hle : ∀ g c, ρ g = some c → upd ρ (slot, 0) b g = some c := by
    intro g c h
    unfold upd
    split
    · rename_i e; subst e; rw [hf.none hr 0] at h; cases h
    · exact h
  have hget : ∀ g k', Abs.get (H.set slot [some k]) g = some k' → (g = (slot, 0) ∧ k' = k) ∨ (g ≠ (slot, 0) ∧ Abs.get H g = some k') := by
    intro g k' h
    rw [get_group] at h
    split at h
    · rename_i e
      obtain ⟨a, c⟩ := g
      obtain ⟨e1, _⟩ := e
      simp only at e1
      subst e1
      cases c with
      | zero => simp at h; exact .inl ⟨rfl, h.symm⟩
      | succ c => simp at h
    · rename_i e
      refine .inr ⟨fun e2 => e ⟨by rw [e2], hf.1⟩, h⟩
  have hX : ∀ c o, c < w.heap.size → XX (upd ρ (slot, 0) b) (H.set slot [some k]) c o → XX ρ H c o := by
    intro c o hc' ⟨g, k', hg, hρ, ho⟩
    rcases hget g k' hg with ⟨rfl, rfl⟩ | ⟨hne, hg'⟩
    · simp [upd] at hρ
      omega
    · refine ⟨g, k', hg', ?_, ho⟩
      simpa [upd, hne] using hρ
  have hst : Stable w (XX ρ H) w1 (XX (upd ρ (slot, 0) b) (H.set slot [some k])) := by
    refine ⟨hos, htape, hout, by omega, fun c o hc' hn => ⟨fun h => hn (hX c o hc' h), World.cell?_of_block (w := w) (hold c hc')⟩, fun c hc' => ?_, fun c hc' _ => hold c hc'⟩
    simp only [bsize, hold c hc']
  refine ⟨⟨fun g k' hg => ?_, fun g g' x y c hg hg' h1 h2 => ?_, fun g c hc' => ?_, fun g c hc' => ?_, fun g k' c o hg hc' hy => ?_, fun c o hy => by have := hr.ylt c o hy; omega, hr.gl.st hst (hr.gl.upd (by have := hr.gl.pos; omega))⟩, hst, hle⟩
  · rcases hget g k' hg with ⟨rfl, rfl⟩ | ⟨hne, hg'⟩
    · refine .inr ⟨b, by simp [upd], ?_⟩
      rcases hk with ⟨h0, cs, T, hc, he⟩ | hk
      · exact .inl ⟨h0, cs, T, hc, he.mono (hst.xu Y) hle⟩
      · obtain ⟨q1, es, cl, q2, q3⟩ := hk
        exact .inr ⟨q1, es, cl, q2, q3.mono (hst.xu Y) hle⟩
    · have hρ : upd ρ (slot, 0) b g = ρ g := by simp [upd, hne]
      rw [hρ]
      rcases hr.blk g k' hg' with h | ⟨c, h1, h2⟩
      · exact .inl h
      · exact .inr ⟨c, h1, h2.keep (hst.xu Y) hle (hold c (hr.lt _ _ h1))⟩
  · rcases hget g x hg with ⟨rfl, rfl⟩ | ⟨hne, hg1⟩ <;> rcases hget g' y hg' with ⟨rfl, rfl⟩ | ⟨hne', hg2⟩
    · rfl
    · simp only [upd, hne', if_false, if_true] at h1 h2
      have := hr.lt _ _ h2
      simp at h1
      omega
    · simp only [upd, hne, if_false, if_true] at h1 h2
      have := hr.lt _ _ h1
      simp at h2
      omega
    · simp only [upd, hne, hne', if_false] at h1 h2
      exact hr.inj g g' x y c hg1 hg2 h1 h2
  · by_cases e : g = (slot, 0)
    · subst e
      rw [getD_group, if_pos ⟨rfl, hf.1⟩]
      simp
    · have h := hr.dom g c (by simpa [upd, e] using hc')
      rw [getD_group]
      split
      · rename_i e2
        rw [e2.1, hf.2] at h
        simp at h
      · exact h
  · by_cases e : g = (slot, 0)
    · subst e
      simp [upd] at hc'
      omega
    · have := hr.lt g c (by simpa [upd, e] using hc')
      omega
  · rcases hget g k' hg with ⟨rfl, rfl⟩ | ⟨hne, hg'⟩
    · have h1 := hr.ylt c o hy
      simp [upd] at hc'
      omega
    · exact hr.sep g k' c o hg' (by simpa [upd, hne] using hc') hy

/-- A nil slice is an empty block of its own. -/
theorem HR.new {w w1 : World} {ρ : Rho} {H : Heap} {slot : Nat} (hr : HR Y w ρ H) (hf : Free H slot) {b : Nat} (hb : w.heap.size ≤ b) (hb1 : b < w1.heap.size)
    (hos : w1.os = w.os) (htape : w1.tape = w.tape) (hout : w1.output = w.output) (hold : ∀ i, i < w.heap.size → w1.heap[i]? = w.heap[i]?)
    (k : Blk) (h0 : 0 < k.sz) {cs : Array Value} {T : TypeId} (hc : w1.heap[b]? = some (.cells cs T (0, 0))) (he : ElemsAt k.box w (XU Y ρ H) ρ cs k.sz k.elems) :
    HR Y w1 (upd ρ (slot, 0) b) (H.set slot [some k]) ∧ Stable w (XX ρ H) w1 (XX (upd ρ (slot, 0) b) (H.set slot [some k])) ∧ (∀ g c, ρ g = some c → upd ρ (slot, 0) b g = some c) :=
  hr.new' hf hb hb1 hos htape hout hold k (.inl ⟨h0, cs, T, hc, he⟩)

theorem HR.virt {w : World} {ρ : Rho} {H : Heap} {slot : Nat} (hr : HR Y w ρ H) (hf : Free H slot) (k : Blk) (h1 : k.elems = []) (h2 : k.box = false) :
    HR Y w ρ (H.set slot [some k]) ∧ Stable w (XX ρ H) w (XX ρ (H.set slot [some k])) := by
  have hget : ∀ g k', Abs.get (H.set slot [some k]) g = some k' → (g = (slot, 0) ∧ k' = k) ∨ Abs.get H g = some k' := by
    intro g k' h
    rw [get_group] at h
    split at h
    · rename_i e
      obtain ⟨a, c⟩ := g
      obtain ⟨e1, _⟩ := e
      simp only at e1
      subst e1
      cases c with
      | zero => simp at h; exact .inl ⟨rfl, h.symm⟩
      | succ c => simp at h
    · exact .inr h
  have hX : ∀ c o, XX ρ (H.set slot [some k]) c o → XX ρ H c o := by
    intro c o ⟨g, k', hg, hρ, ho⟩
    rcases hget g k' hg with ⟨rfl, rfl⟩ | hg'
    · rw [hf.none hr 0] at hρ; cases hρ
    · exact ⟨g, k', hg', hρ, ho⟩
  have hst : Stable w (XX ρ H) w (XX ρ (H.set slot [some k])) := (Stable.refl w _).less fun b o _ h => hX b o h
  refine ⟨⟨fun g k' hg => ?_, fun g g' x y c hg hg' e1 e2 => ?_, fun g c hc' => ?_, hr.lt, fun g k' c o hg hc' => ?_, hr.ylt, hr.gl⟩, hst⟩
  · rcases hget g k' hg with ⟨rfl, rfl⟩ | hg'
    · exact .inl ⟨hf.none hr 0, h1, h2⟩
    · rcases hr.blk g k' hg' with h | ⟨c, a1, a2⟩
      · exact .inl h
      · exact .inr ⟨c, a1, a2.keep (hst.xu Y) (fun _ _ h => h) rfl⟩
  · rcases hget g x hg with ⟨rfl, rfl⟩ | hg1
    · rw [hf.none hr 0] at e1; cases e1
    · rcases hget g' y hg' with ⟨rfl, rfl⟩ | hg2
      · rw [hf.none hr 0] at e2; cases e2
      · exact hr.inj g g' x y c hg1 hg2 e1 e2
  · have h := hr.dom g c hc'
    rw [getD_group]
    split
    · rename_i e2
      rw [e2.1, hf.2] at h
      simp at h
    · exact h
  · rcases hget g k' hg with ⟨rfl, rfl⟩ | hg'
    · rw [hf.none hr 0] at hc'; cases hc'
    · exact hr.sep g k' c o hg' hc'

/-- Cells of one block of the model are written, behind the first 'frz' elements. -/
theorem HR.write {w w1 : World} {ρ : Rho} {H : Heap} (hr : HR Y w ρ H) {g : Nm} {k k1 : Blk} (hg : get H g = some k) {b : Nat} (hρ : ρ g = some b)
    (h0 : 0 < k1.sz) (hos : w1.os = w.os) (htape : w1.tape = w.tape) (hout : w1.output = w.output) (hsize : w1.heap.size = w.heap.size) (hold : ∀ i, i ≠ b → w1.heap[i]? = w.heap[i]?)
    {cs cs1 : Array Value} {T : TypeId} (hc : w.heap[b]? = some (.cells cs T (0, 0))) (hc1 : w1.heap[b]? = some (.cells cs1 T (0, 0))) (hcs : cs1.size = cs.size)
    (hsame : ∀ o, o < k.frz * k.sz → cs1[o]? = cs[o]?) (hsz : k1.sz = k.sz) (hfrz : k.frz ≤ k1.frz)
    (he : ElemsAt k1.box w (XU Y ρ H) ρ cs1 k1.sz k1.elems) :
    HR Y w1 ρ (set H g (some k1)) ∧ Stable w (XX ρ H) w1 (XX ρ (set H g (some k1))) := by
  have hget : ∀ g' k', get (set H g (some k1)) g' = some k' → (g' = g ∧ k' = k1) ∨ (g' ≠ g ∧ get H g' = some k') := by
    intro g' k' h
    by_cases e : g' = g
    · subst e
      rw [get_set_same hg] at h
      cases h
      exact .inl ⟨rfl, rfl⟩
    · rw [get_set_ne e] at h
      exact .inr ⟨e, h⟩
  have hX : ∀ c o, XX ρ (set H g (some k1)) c o → XX ρ H c o := by
    intro c o ⟨g', k', hg', hρ', ho⟩
    rcases hget g' k' hg' with ⟨rfl, rfl⟩ | ⟨_, h⟩
    · refine ⟨_, k, hg, hρ', Nat.le_trans ?_ ho⟩
      rw [hsz]
      exact Nat.mul_le_mul_right _ hfrz
    · exact ⟨g', k', h, hρ', ho⟩
  have hb : b < w.heap.size := hr.lt _ _ hρ
  have hst : Stable w (XX ρ H) w1 (XX ρ (set H g (some k1))) := by
    refine ⟨hos, htape, hout, by omega, fun c o hc' hn => ⟨fun h => hn (hX c o h), ?_⟩, fun c hc' => ?_, fun c hc' hn => ?_⟩
    · by_cases e : c = b
      · subst e
        have ho : o < k.frz * k.sz := by
          rcases Nat.lt_or_ge o (k.frz * k.sz) with h | h
          · exact h
          · exact absurd ⟨g, k, hg, hρ, h⟩ hn
        rw [cell_of_row w1 c o cs1 T (0, 0) hc1, cell_of_row w c o cs T (0, 0) hc, hsame o ho]
      · exact World.cell?_of_block (w := w) (hold c e)
    · by_cases e : c = b
      · subst e; simp [bsize, hc, hc1, hcs]
      · simp only [bsize, hold c e]
    · by_cases e : c = b
      · subst e; exact absurd ⟨g, k, hg, hρ, Nat.le_refl _⟩ (hn (k.frz * k.sz))
      · exact hold c e
  refine ⟨⟨fun g' k' hg' => ?_, fun g1 g2 x y c h1 h2 e1 e2 => ?_, fun g' c hc' => ?_, fun g' c hc' => by rw [hsize]; exact hr.lt g' c hc', fun g' k' c o hg' hc' => ?_, fun c o hy => by rw [hsize]; exact hr.ylt c o hy, hr.gl.st hst hr.gl.rho⟩, hst⟩
  · rcases hget g' k' hg' with ⟨rfl, rfl⟩ | ⟨hne, h⟩
    · exact .inr ⟨b, hρ, .inl ⟨h0, cs1, T, hc1, he.mono (hst.xu Y) (fun _ _ h => h)⟩⟩
    · rcases hr.blk g' k' h with a | ⟨c, a1, a2⟩
      · exact .inl a
      · have hcb : c ≠ b := fun e => hne (hr.inj g' g k' k b h hg (e ▸ a1) hρ)
        exact .inr ⟨c, a1, a2.keep (hst.xu Y) (fun _ _ h => h) (hold c hcb)⟩
  · have f : ∀ g' z, get (set H g (some k1)) g' = some z → ∃ z', get H g' = some z' := by
      intro g' z hz
      rcases hget g' z hz with ⟨rfl, _⟩ | ⟨_, h⟩
      · exact ⟨k, hg⟩
      · exact ⟨z, h⟩
    obtain ⟨x', hx'⟩ := f g1 x h1
    obtain ⟨y', hy'⟩ := f g2 y h2
    exact hr.inj g1 g2 x' y' c hx' hy' e1 e2
  · rw [getD_set_length]; exact hr.dom g' c hc'
  · rcases hget g' k' hg' with ⟨rfl, rfl⟩ | ⟨_, h⟩
    · exact hr.sep g' k c o hg hc'
    · exact hr.sep g' k' c o h hc'

/-- A map is written. -/
theorem HR.writeM {w w1 : World} {ρ : Rho} {H : Heap} (hr : HR Y w ρ H) {g : Nm} {k k1 : Blk} (hg : get H g = some k) {b : Nat} (hρ : ρ g = some b)
    (hos : w1.os = w.os) (htape : w1.tape = w.tape) (hout : w1.output = w.output) (hsize : w1.heap.size = w.heap.size) (hold : ∀ i, i ≠ b → w1.heap[i]? = w.heap[i]?)
    {es es1 : Array MapEntry} {cl cl1 : Nat} (hc : w.heap[b]? = some (.map es cl)) (hc1 : w1.heap[b]? = some (.map es1 cl1)) (hk0 : k.sz = 0) (hk1 : k1.sz = 0) (he : MapOK k1.box w (XU Y ρ H) ρ es1 cl1 k1.elems) :
    HR Y w1 ρ (set H g (some k1)) ∧ Stable w (XX ρ H) w1 (XX ρ (set H g (some k1))) := by
  have hget : ∀ g' k', get (set H g (some k1)) g' = some k' → (g' = g ∧ k' = k1) ∨ (g' ≠ g ∧ get H g' = some k') := by
    intro g' k' h
    by_cases e : g' = g
    · subst e
      rw [get_set_same hg] at h
      cases h
      exact .inl ⟨rfl, rfl⟩
    · rw [get_set_ne e] at h
      exact .inr ⟨e, h⟩
  have hX : ∀ c o, XX ρ (set H g (some k1)) c o → XX ρ H c o := by
    intro c o ⟨g', k', hg', hρ', ho⟩
    rcases hget g' k' hg' with ⟨rfl, rfl⟩ | ⟨_, h⟩
    · exact ⟨_, k, hg, hρ', by rw [hk0]; exact Nat.zero_le _⟩
    · exact ⟨g', k', h, hρ', ho⟩
  have hb : b < w.heap.size := hr.lt _ _ hρ
  have hall : ∀ o, XX ρ H b o := fun o => ⟨g, k, hg, hρ, by rw [hk0]; exact Nat.zero_le _⟩
  have hst : Stable w (XX ρ H) w1 (XX ρ (set H g (some k1))) := by
    refine ⟨hos, htape, hout, by omega, fun c o hc' hn => ⟨fun h => hn (hX c o h), ?_⟩, fun c hc' => ?_, fun c hc' hn => ?_⟩
    · by_cases e : c = b
      · subst e; exact absurd (hall o) hn
      · exact World.cell?_of_block (w := w) (hold c e)
    · by_cases e : c = b
      · subst e; simp [bsize, hc, hc1]
      · simp only [bsize, hold c e]
    · by_cases e : c = b
      · subst e; exact absurd (hall 0) (hn 0)
      · exact hold c e
  refine ⟨⟨fun g' k' hg' => ?_, fun g1 g2 x y c h1 h2 e1 e2 => ?_, fun g' c hc' => ?_, fun g' c hc' => by rw [hsize]; exact hr.lt g' c hc', fun g' k' c o hg' hc' => ?_, fun c o hy => by rw [hsize]; exact hr.ylt c o hy, hr.gl.st hst hr.gl.rho⟩, hst⟩
  · rcases hget g' k' hg' with ⟨rfl, rfl⟩ | ⟨hne, h⟩
    · exact .inr ⟨b, hρ, .inr ⟨hk1, es1, cl1, hc1, he.mono (hst.xu Y) (fun _ _ h => h)⟩⟩
    · rcases hr.blk g' k' h with a | ⟨c, a1, a2⟩
      · exact .inl a
      · have hcb : c ≠ b := fun e => hne (hr.inj g' g k' k b h hg (e ▸ a1) hρ)
        exact .inr ⟨c, a1, a2.keep (hst.xu Y) (fun _ _ h => h) (hold c hcb)⟩
  · have f : ∀ g' z, get (set H g (some k1)) g' = some z → ∃ z', get H g' = some z' := by
      intro g' z hz
      rcases hget g' z hz with ⟨rfl, _⟩ | ⟨_, h⟩
      · exact ⟨k, hg⟩
      · exact ⟨z, h⟩
    obtain ⟨x', hx'⟩ := f g1 x h1
    obtain ⟨y', hy'⟩ := f g2 y h2
    exact hr.inj g1 g2 x' y' c hx' hy' e1 e2
  · rw [getD_set_length]; exact hr.dom g' c hc'
  · rcases hget g' k' hg' with ⟨rfl, rfl⟩ | ⟨_, h⟩
    · exact hr.sep g' k c o hg hc'
    · exact hr.sep g' k' c o h hc'

/-- A block grows in place: it has a new name, the old one is gone. -/
theorem HR.move {w w1 : World} {ρ : Rho} {H : Heap} (hr : HR Y w ρ H) {slot : Nat} (hf : Free H slot) {g : Nm} {k k1 : Blk} (hg : get H g = some k) {b : Nat} (hρ : ρ g = some b)
    (h0 : 0 < k1.sz) (hos : w1.os = w.os) (htape : w1.tape = w.tape) (hout : w1.output = w.output) (hsize : w1.heap.size = w.heap.size) (hold : ∀ i, i ≠ b → w1.heap[i]? = w.heap[i]?)
    {cs cs1 : Array Value} {T : TypeId} (hc : w.heap[b]? = some (.cells cs T (0, 0))) (hc1 : w1.heap[b]? = some (.cells cs1 T (0, 0))) (hcs : cs1.size = cs.size)
    (hsame : ∀ o, o < k.frz * k.sz → cs1[o]? = cs[o]?) (hsz : k1.sz = k.sz) (hfrz : k.frz ≤ k1.frz)
    (he : ElemsAt k1.box w (XU Y ρ H) ρ cs1 k1.sz k1.elems) :
    HR Y w1 (upd ρ (slot, 0) b) ((set H g none).set slot [some k1]) ∧ Stable w (XX ρ H) w1 (XX (upd ρ (slot, 0) b) ((set H g none).set slot [some k1])) ∧ (∀ g c, ρ g = some c → upd ρ (slot, 0) b g = some c) := by
  have hgs : g ≠ (slot, 0) := fun e => by rw [e, hf.none hr 0] at hρ; cases hρ
  have hle : ∀ g c, ρ g = some c → upd ρ (slot, 0) b g = some c := by
    intro g c h
    unfold upd
    split
    · rename_i e; subst e; rw [hf.none hr 0] at h; cases h
    · exact h
  have hlen : slot < (set H g none).length := by rw [len_set]; exact hf.1
  have hget : ∀ g' k', get ((set H g none).set slot [some k1]) g' = some k' → (g' = (slot, 0) ∧ k' = k1) ∨ (g' ≠ (slot, 0) ∧ g' ≠ g ∧ get H g' = some k') := by
    intro g' k' h
    rw [get_group] at h
    split at h
    · rename_i e
      obtain ⟨a, c⟩ := g'
      obtain ⟨e1, _⟩ := e
      simp only at e1
      subst e1
      cases c with
      | zero => simp at h; exact .inl ⟨rfl, h.symm⟩
      | succ c => simp at h
    · rename_i e
      have hne : g' ≠ (slot, 0) := fun e2 => e ⟨by rw [e2], hlen⟩
      by_cases e3 : g' = g
      · subst e3; rw [get_set_same hg] at h; cases h
      · rw [get_set_ne e3] at h
        exact .inr ⟨hne, e3, h⟩
  have hX : ∀ c o, XX (upd ρ (slot, 0) b) ((set H g none).set slot [some k1]) c o → XX ρ H c o := by
    intro c o ⟨g', k', hg', hρ', ho⟩
    rcases hget g' k' hg' with ⟨rfl, rfl⟩ | ⟨hne, _, h⟩
    · simp [upd] at hρ'
      subst hρ'
      refine ⟨g, k, hg, hρ, Nat.le_trans ?_ ho⟩
      rw [hsz]
      exact Nat.mul_le_mul_right _ hfrz
    · exact ⟨g', k', h, by simpa [upd, hne] using hρ', ho⟩
  have hb : b < w.heap.size := hr.lt _ _ hρ
  have hst : Stable w (XX ρ H) w1 (XX (upd ρ (slot, 0) b) ((set H g none).set slot [some k1])) := by
    refine ⟨hos, htape, hout, by omega, fun c o hc' hn => ⟨fun h => hn (hX c o h), ?_⟩, fun c hc' => ?_, fun c hc' hn => ?_⟩
    · by_cases e : c = b
      · subst e
        have ho : o < k.frz * k.sz := by
          rcases Nat.lt_or_ge o (k.frz * k.sz) with h | h
          · exact h
          · exact absurd ⟨g, k, hg, hρ, h⟩ hn
        rw [cell_of_row w1 c o cs1 T (0, 0) hc1, cell_of_row w c o cs T (0, 0) hc, hsame o ho]
      · exact World.cell?_of_block (w := w) (hold c e)
    · by_cases e : c = b
      · subst e; simp [bsize, hc, hc1, hcs]
      · simp only [bsize, hold c e]
    · by_cases e : c = b
      · subst e; exact absurd ⟨g, k, hg, hρ, Nat.le_refl _⟩ (hn (k.frz * k.sz))
      · exact hold c e
  refine ⟨⟨fun g' k' hg' => ?_, fun g1 g2 x y c h1 h2 e1 e2 => ?_, fun g' c hc' => ?_, fun g' c hc' => ?_, fun g' k' c o hg' hc' => ?_, fun c o hy => by rw [hsize]; exact hr.ylt c o hy, hr.gl.st hst (hr.gl.upd (hr.gl.rho g b hρ))⟩, hst, hle⟩
  · rcases hget g' k' hg' with ⟨rfl, rfl⟩ | ⟨hne, hne2, h⟩
    · exact .inr ⟨b, by simp [upd], .inl ⟨h0, cs1, T, hc1, he.mono (hst.xu Y) hle⟩⟩
    · have e : upd ρ (slot, 0) b g' = ρ g' := by simp [upd, hne]
      rw [e]
      rcases hr.blk g' k' h with a | ⟨c, a1, a2⟩
      · exact .inl a
      · have hcb : c ≠ b := fun e => hne2 (hr.inj g' g k' k b h hg (e ▸ a1) hρ)
        exact .inr ⟨c, a1, a2.keep (hst.xu Y) hle (hold c hcb)⟩
  · rcases hget g1 x h1 with ⟨rfl, rfl⟩ | ⟨hne, hn1, h1'⟩ <;> rcases hget g2 y h2 with ⟨rfl, rfl⟩ | ⟨hne', hn2, h2'⟩
    · rfl
    · simp only [upd, hne', if_false, if_true] at e1 e2
      cases e1
      exact absurd (hr.inj g2 g y k b h2' hg e2 hρ) hn2
    · simp only [upd, hne, if_false, if_true] at e1 e2
      cases e2
      exact absurd (hr.inj g1 g x k b h1' hg e1 hρ) hn1
    · simp only [upd, hne, hne', if_false] at e1 e2
      exact hr.inj g1 g2 x y c h1' h2' e1 e2
  · by_cases e : g' = (slot, 0)
    · subst e
      rw [getD_group, if_pos ⟨rfl, hlen⟩]
      simp
    · have h := hr.dom g' c (by simpa [upd, e] using hc')
      rw [getD_group]
      split
      · rename_i e2
        rw [e2.1, hf.2] at h
        simp at h
      · rw [getD_set_length]; exact h
  · rw [hsize]
    by_cases e : g' = (slot, 0)
    · subst e
      simp [upd] at hc'
      omega
    · exact hr.lt g' c (by simpa [upd, e] using hc')
  · rcases hget g' k' hg' with ⟨rfl, rfl⟩ | ⟨hne, _, h⟩
    · simp [upd] at hc'
      subst hc'
      exact hr.sep g k _ o hg hρ
    · exact hr.sep g' k' c o h (by simpa [upd, hne] using hc')

theorem addr_add (b o n : Nat) : (⟨b, o, none⟩ : Addr).add n = ⟨b, o + n, none⟩ := by
  unfold Addr.add
  split
  · rename_i h; subst h; rfl
  · rfl

section
variable {P : Program} {w : World} {X Y : XT} {ρ : Rho}
theorem run_tsize {t : TypeId} {n : Nat} (h : tsize P t = some n) (w : World) : (sizeOf t).run P w = .ok n w := by
  unfold tsize at h
  cases hi : P.info? t with
  | none => simp [hi] at h
  | some i => simp [hi] at h; simp [sizeOf, typeInfo, hi, h]

theorem run_tbytes {t : TypeId} {n : Nat} (h : tbytes P t = some n) (w : World) : ∃ i, P.info? t = some i ∧ i.bytes = n ∧ (typeInfo t).run P w = .ok i w := by
  unfold tbytes at h
  cases hi : P.info? t with
  | none => simp [hi] at h
  | some i => simp [hi] at h; exact ⟨i, rfl, h, by simp [typeInfo, hi]⟩

theorem run_tagg {t : TypeId} {b : Bool} (h : tagg P t = some b) (w : World) : (isAgg t).run P w = .ok b w := by
  unfold tagg at h
  cases hu : P.underlying t with
  | none => simp [hu] at h
  | some d =>
    simp only [hu] at h
    simp only [isAgg, Sem.run_bind, run_underlying hu, Result.andThen_ok]
    cases d <;> simp_all

theorem run_tzero {t : TypeId} {x : AV} (h : tzero P t = some x) (w : World) : ∃ z, (zeroValue t).run P w = .ok z w ∧ x = cv z ∧ ∃ i, P.info? t = some i ∧ i.zero = some z := by
  unfold tzero at h
  cases hi : P.info? t with
  | none => simp [hi] at h
  | some i =>
    simp only [hi] at h
    cases hz : i.zero with
    | none => simp [hz] at h
    | some z =>
      simp [hz] at h
      exact ⟨z, by simp [zeroValue, typeInfo, hi, hz], h.symm, i, rfl, hz⟩

theorem run_tzeroP {t : TypeId} {x : AV} (h : tzeroP P t = some x) (w : World) : ∃ z, (zeroValue t).run P w = .ok z w ∧ x = ntV (cv z) ∧ ∃ i, P.info? t = some i ∧ i.zero = some z := by
  obtain ⟨y, hy, rfl⟩ := Option.map_eq_some_iff.1 h
  obtain ⟨z, h1, rfl, h2⟩ := run_tzero hy w
  exact ⟨z, h1, rfl, h2⟩

theorem telem_un {t e : TypeId} (h : telem P t = some e) : P.underlying t = some (.slice e) := by
  unfold telem at h
  cases hu : P.underlying t with
  | none => simp [hu] at h
  | some d => cases d <;> simp_all

/-! ### Cells of a value -/

theorem VR.cells {v : Value} {x : AV} (h : VR w X ρ v x) (hk : okV x = true) :
    v.cells.size = x.cells.length ∧ (∀ i, i < v.cells.size → (v.cells.getD i Go.undef).oneCell' = true) ∧ ∀ (j : Nat) (u : AV), x.cells[j]? = some u → VR w X ρ (v.cells.getD j Go.undef) u := by
  cases hx : x with
  | agg cs =>
    subst hx
    cases h with
    | pur v x h =>
      cases h with
      | agg as _ hn h1 h => exact ⟨hn, h1, fun j u hj => .pur _ _ (h j u hj)⟩
    | agg as _ hn h1 h => exact ⟨hn, h1, h⟩
  | _ =>
    all_goals
      have hc : x.cells = [x] := by subst hx; rfl
      have hk' : okC x = true := by subst hx; first | exact hk | (simp [okV, okC] at hk)
      have ho := okC_one h hk'
      have hv : v.cells = #[v] := by cases v <;> first | rfl | (simp [Value.oneCell'] at ho)
      rw [← hx, hc, hv]
      refine ⟨rfl, fun i hi => ?_, fun j u hj => ?_⟩
      · have : i = 0 := by simp at hi; omega
        subst this
        exact ho
      · cases j with
        | zero => simp at hj; subst hj; exact h
        | succ j => simp at hj

/-- A value that leads nowhere. -/
theorem VR.toPR {v : Value} {x : AV} (h : VR w X ρ v x) (hk : scal1 x = true ∨ ∃ sz xs t, x = .lst sz xs t) : PR w X v x := by
  cases h with
  | pur v x h => exact h
  | ptr => rcases hk with h | ⟨_, _, _, h⟩ <;> simp [scal1] at h
  | mp => rcases hk with h | ⟨_, _, _, h⟩ <;> simp [scal1] at h
  | own0 => rcases hk with h | ⟨_, _, _, h⟩ <;> simp [scal1] at h
  | own => rcases hk with h | ⟨_, _, _, h⟩ <;> simp [scal1] at h
  | clo => rcases hk with h | ⟨_, _, _, h⟩ <;> simp [scal1] at h
  | bnd => rcases hk with h | ⟨_, _, _, h⟩ <;> simp [scal1] at h
  | agg => rcases hk with h | ⟨_, _, _, h⟩ <;> simp [scal1] at h
  | tup => rcases hk with h | ⟨_, _, _, h⟩ <;> simp [scal1] at h

/-! ### Loads -/

theorem run_loadVar {t : TypeId} {size : Nat} {agg : Bool} (h1 : tsize P t = some size) (h2 : tagg P t = some agg) (b o : Nat) (f : Nat → Value)
    (hc : ∀ j, j < size → w.cell? ⟨b, o + j, none⟩ = some (f j)) (hs : agg = false → 0 < size) :
    (loadVar t ⟨b, o, none⟩).run P w = .ok (if agg then .agg ((List.range size).map f).toArray else f 0) w := by
  unfold loadVar
  simp only [Sem.run_bind, run_tagg h2, Result.andThen_ok]
  cases agg with
  | true =>
    simp only [if_true, Sem.run_bind, run_tsize h1, Result.andThen_ok]
    rw [run_loadCells w ⟨b, o, none⟩ size f (fun j hj => by rw [addr_add]; exact hc j hj)]
    rfl
  | false =>
    have := hc 0 (hs rfl)
    simp only [Nat.add_zero] at this
    simp [this]

theorem getElem?_slice {α : Type} (l : List α) (off size i : Nat) (h : off + size ≤ l.length) : ((l.drop off).take size)[i]? = if i < size then l[off + i]? else none := by
  rw [List.getElem?_take, List.getElem?_drop]

theorem length_slice {α : Type} (l : List α) (off size : Nat) (h : off + size ≤ l.length) : ((l.drop off).take size).length = size := by
  simp; omega

theorem aggOf_rel (f : Nat → Value) (cs : List AV) (hf : ∀ (j : Nat) (u : AV), cs[j]? = some u → (f j).oneCell' = true ∧ VR w X ρ (f j) u) :
    VR w X ρ (.agg ((List.range cs.length).map f).toArray) (.agg cs) := by
  have hget : ∀ i, i < cs.length → (((List.range cs.length).map f).toArray).getD i undef = f i := by
    intro i hi
    simp [Array.getD_eq_getD_getElem?, hi]
  refine .agg _ _ (by simp) (fun i hi => ?_) (fun i x hx => ?_)
  · have hi' : i < cs.length := by simpa using hi
    rw [hget i hi']
    exact (hf i cs[i] (by simp [hi'])).1
  · have hi' : i < cs.length := (List.getElem?_eq_some_iff.1 hx).1
    rw [hget i hi']
    exact (hf i x hx).2

theorem loadAt_rel {size off : Nat} {agg : Bool} {x y : AV} (f : Nat → Value) (hf : ∀ (j : Nat) (u : AV), x.cells[j]? = some u → (f j).oneCell' = true ∧ VR w X ρ (f j) u)
    (h : loadAt size agg x off = some y) : off + size ≤ x.cells.length ∧ (agg = false → 0 < size) ∧ VR w X ρ (if agg then .agg ((List.range size).map fun j => f (off + j)).toArray else f off) y := by
  unfold loadAt at h
  split at h
  · rename_i hle
    refine ⟨hle, ?_⟩
    have part : ofCells agg ((x.cells.drop off).take size) = some y → (agg = false → 0 < size) ∧ VR w X ρ (if agg then .agg ((List.range size).map fun j => f (off + j)).toArray else f off) y := by
      intro h
      cases agg with
      | true =>
        simp only [ofCells, if_true] at h
        cases h
        refine ⟨(fun h => by cases h), ?_⟩
        have hl := length_slice x.cells off size hle
        have := aggOf_rel (w := w) (X := X) (ρ := ρ) (fun j => f (off + j)) ((x.cells.drop off).take size) (fun j u hj => by
          rw [getElem?_slice _ _ _ _ hle] at hj
          split at hj
          · exact hf _ _ hj
          · cases hj)
        rw [hl] at this
        simpa using this
      | false =>
        simp only [ofCells, Bool.false_eq_true, if_false] at h
        split at h
        · rename_i c hc
          cases h
          have hl := length_slice x.cells off size hle
          rw [hc] at hl
          simp at hl
          have h0 := getElem?_slice x.cells off size 0 hle
          rw [hc] at h0
          simp [← hl] at h0
          exact ⟨(fun _ => by omega), by simpa using (hf off y h0.symm).2⟩
        · cases h
    split at h
    · rename_i hc
      obtain ⟨rfl, rfl, hagg⟩ := hc
      cases h
      cases agg with
      | true =>
        refine ⟨(fun h => by cases h), ?_⟩
        cases x with
        | agg cs =>
          have := aggOf_rel (w := w) (X := X) (ρ := ρ) f cs hf
          simpa [AV.cells] using this
        | _ => simp [AV.isAgg] at hagg
      | false =>
        have hc : x.cells = [x] := by cases x <;> first | rfl | (simp [AV.isAgg] at hagg)
        refine ⟨(fun _ => by rw [hc]; simp), ?_⟩
        have := (hf 0 x (by rw [hc]; rfl)).2
        simpa using this
    · exact part h
  · cases h

/-- The cells of an element of a block. -/
theorem BlkAt.elem {b : Nat} {k : Blk} (h : BlkAt w X ρ b k) (hs0 : 0 < k.sz) {i : Nat} {x : AV} (hi : k.elems[i]? = some x) :
    ∃ f : Nat → Value, x.cells.length = k.sz ∧ ∀ (j : Nat) (u : AV), x.cells[j]? = some u → w.cell? ⟨b, i * k.sz + j, none⟩ = some (f j) ∧ (f j).oneCell' = true ∧ CR k.box w X ρ (f j) u := by
  obtain ⟨cs, T, hh, hle, he⟩ := h.cells hs0
  obtain ⟨hsz, hc⟩ := he i x hi
  refine ⟨fun j => cs.getD (i * k.sz + j) undef, hsz, fun j u hj => ?_⟩
  obtain ⟨h1, h2⟩ := hc j u hj
  refine ⟨?_, h1, h2⟩
  have hilt : i < k.elems.length := (List.getElem?_eq_some_iff.1 hi).1
  have hjlt : j < k.sz := by rw [← hsz]; exact (List.getElem?_eq_some_iff.1 hj).1
  have hlt : i * k.sz + j < cs.size := by
    have : (i + 1) * k.sz ≤ k.elems.length * k.sz := Nat.mul_le_mul_right _ hilt
    rw [Nat.add_mul] at this
    omega
  rw [cell_of_row w b _ cs T (0, 0) hh]
  simp [Array.getD_eq_getD_getElem?, hlt]

theorem HR.at {H : Heap} (hr : HR Y w ρ H) {g : Nm} {k : Blk} (hg : get H g = some k) {b : Nat} (hρ : ρ g = some b) : BlkAt w (XU Y ρ H) ρ b k := by
  rcases hr.blk g k hg with ⟨h, _⟩ | ⟨b', h, hb⟩
  · rw [h] at hρ; cases hρ
  · rw [h] at hρ; cases hρ; exact hb

theorem opLoad_sound {H : Heap} (hr : HR Y w ρ H) {t : TypeId} {p : AV} {v : Value} {r : Res} (hv : VR w (XU Y ρ H) ρ v p) (h : opLoad P t p H = some r) :
    r.wr = [] ∧ r.new = [] ∧ ∃ u, (Instr.loadAt t v).run P w = .ok u w ∧ VR w (XU Y ρ H) ρ u r.val := by
  unfold opLoad at h
  cases hs : tsize P t with
  | none => simp [hs] at h
  | some size =>
    cases ha : tagg P t with
    | none => simp [hs, ha] at h
    | some agg =>
      simp only [hs, ha] at h
      cases p with
      | ptr g sz i off =>
        simp only at h
        cases hg : get H g with
        | none => simp [hg] at h
        | some k =>
          simp only [hg] at h
          split at h
          · rename_i hszp
            obtain ⟨hsz, hs0⟩ := hszp
            cases hx : k.elems[i]? with
            | none => simp [hx] at h
            | some x =>
              simp only [hx] at h
              obtain ⟨y, hy, rfl⟩ := Option.map_eq_some_iff.1 h
              cases hv with
              | pur v x hp => cases hp
              | mp => omega
              | ptr _ b _ _ _ _ hρ =>
                obtain ⟨f, hlen, hf⟩ := (hr.at hg hρ).elem (by omega) hx
                obtain ⟨hle, hpos, hrel⟩ := loadAt_rel (w := w) (X := XU Y ρ H) (ρ := ρ) f (fun j u hj => ⟨(hf j u hj).2.1, (hf j u hj).2.2.vr⟩) hy
                refine ⟨rfl, rfl, _, ?_, hrel⟩
                simp only [Instr.loadAt, Instr.sureAddr, Sem.run_bind, Sem.run_pure, Result.andThen_ok]
                rw [run_loadVar hs ha b (i * sz + off) (fun j => f (off + j)) (fun j hj => ?_) hpos]
                · simp
                · have hj' : off + j < x.cells.length := by omega
                  have := (hf (off + j) x.cells[off + j] (by simp [hj'])).1
                  rw [hsz] at this
                  rw [Nat.add_assoc]
                  exact this
          · cases h
      | lp sz xs i off =>
        simp only at h
        cases hx : xs[i]? with
        | none => simp [hx] at h
        | some x =>
          simp only [hx] at h
          split at h
          · obtain ⟨y, hy, rfl⟩ := Option.map_eq_some_iff.1 h
            cases hv with
            | pur v x' hp =>
              cases hp with
              | lp b o _ _ _ _ f hsz' hx' hr' =>
                obtain ⟨hle, hpos, hrel⟩ := loadAt_rel (w := w) (X := XU Y ρ H) (ρ := ρ) (f i) (fun j u hj => ⟨(hx' i x hx j u hj).2.2, .pur _ _ (hr' i x hx j u hj)⟩) hy
                refine ⟨rfl, rfl, _, ?_, hrel⟩
                simp only [Instr.loadAt, Instr.sureAddr, Sem.run_bind, Sem.run_pure, Result.andThen_ok]
                rw [run_loadVar hs ha b (o + (i * sz + off)) (fun j => f i (off + j)) (fun j hj => ?_) hpos]
                · simp
                · have hj' : off + j < x.cells.length := by omega
                  have := (hx' i x hx (off + j) x.cells[off + j] (by simp [hj'])).2.1
                  rw [show o + (i * sz + off) + j = o + (i * sz + (off + j)) by omega]
                  exact this
          · cases h
      | fp g =>
        simp only at h
        split at h
        · rename_i hsa
          obtain ⟨rfl, rfl⟩ := hsa
          cases h
          cases hv with
          | pur v x' hp =>
            cases hp with
            | fp b _ hX hc =>
              refine ⟨rfl, rfl, _, ?_, .clo g #[] [] rfl (fun i x hx => by simp at hx)⟩
              simp only [Instr.loadAt, Instr.sureAddr, Sem.run_bind, Sem.run_pure, Result.andThen_ok]
              rw [run_loadVar hs ha b 0 (fun _ => .func (.func g) #[] #[]) (fun j hj => ?_) (by omega)]
              · simp
              · have : j = 0 := by omega
                subst this
                exact hc
        · cases h
      | _ => simp at h

/-! ### Addresses, parts -/

theorem fieldOf_un {t : TypeId} {f o : Nat} {ft : TypeId} (h : fieldOf P t f = some (o, ft)) : ∃ fs x, P.underlying t = some (.struct fs) ∧ fs[f]? = some x ∧ x.offset = o ∧ x.type = ft := by
  unfold fieldOf at h
  cases hu : P.underlying t with
  | none => simp [hu] at h
  | some d =>
    cases d with
    | struct fs =>
      simp only [hu] at h
      cases hx : fs[f]? with
      | none => simp [hx] at h
      | some x => simp [hx] at h; exact ⟨fs, x, rfl, hx, h.1, h.2⟩
    | _ => simp [hu] at h

theorem part_rel {t : TypeId} {cs : Array Value} {xs : List AV} {off : Nat} {y : AV} (hn : cs.size = xs.length) (h1 : ∀ i, i < cs.size → (cs.getD i undef).oneCell' = true)
    (hv : ∀ (i : Nat) (x : AV), xs[i]? = some x → VR w X ρ (cs.getD i undef) x) (h : partOf P t xs off = some y) : ∃ v, (part t cs off).run P w = .ok v w ∧ VR w X ρ v y := by
  unfold partOf at h
  cases hs : tsize P t with
  | none => simp [hs] at h
  | some size =>
    cases ha : tagg P t with
    | none => simp [hs, ha] at h
    | some agg =>
      simp only [hs, ha] at h
      split at h
      · rename_i hle
        simp only [part, Sem.run_bind, run_tagg ha, Result.andThen_ok]
        cases agg with
        | true =>
          simp only [ofCells, if_true, Option.some.injEq] at h
          subst h
          simp only [if_true, Sem.run_bind, run_tsize hs, Result.andThen_ok, Sem.run_pure]
          refine ⟨_, rfl, .agg _ _ (by simp; omega) (fun i hi => ?_) (fun i x hx => ?_)⟩
          · have hi' : i < size := by simp at hi; omega
            have e : (cs.extract off (off + size)).getD i undef = cs.getD (off + i) undef := by
              simp only [Array.getD_eq_getD_getElem?, Array.getElem?_extract]
              rw [if_pos (by omega)]
            rw [e]
            exact h1 _ (by omega)
          · rw [getElem?_slice _ _ _ _ hle] at hx
            split at hx
            · have e : (cs.extract off (off + size)).getD i undef = cs.getD (off + i) undef := by
                simp only [Array.getD_eq_getD_getElem?, Array.getElem?_extract]
                rw [if_pos (by omega)]
              rw [e]
              exact hv _ _ hx
            · cases hx
        | false =>
          simp only [ofCells, Bool.false_eq_true, if_false] at h
          split at h
          · rename_i c hc
            cases h
            have hl := length_slice xs off size hle
            rw [hc] at hl
            simp at hl
            have h0 := getElem?_slice xs off size 0 hle
            rw [hc] at h0
            simp [← hl] at h0
            have hlt : off < cs.size := by omega
            have hr := hv off y h0.symm
            simp only [Bool.false_eq_true, if_false]
            refine ⟨cs[off], by simp [hlt], ?_⟩
            simpa [Array.getD_eq_getD_getElem?, hlt] using hr
          · cases h
      · cases h

theorem VR.aggInv {v : Value} {xs : List AV} (h : VR w X ρ v (.agg xs)) : ∃ cs, v = .agg cs ∧ cs.size = xs.length ∧ (∀ i, i < cs.size → (cs.getD i Go.undef).oneCell' = true) ∧ ∀ (i : Nat) (x : AV), xs[i]? = some x → VR w X ρ (cs.getD i Go.undef) x := by
  cases h with
  | pur v x h =>
    cases h with
    | agg cs _ hn h1 h => exact ⟨cs, rfl, hn, h1, fun i x hx => .pur _ _ (h i x hx)⟩
  | agg cs _ hn h1 h => exact ⟨cs, rfl, hn, h1, h⟩

theorem VR.intInv {v : Value} {k : IntKind} {n : Int} (h : VR w X ρ v (.int k n)) : v = .int k n := by
  cases h with
  | pur v x h => cases h; rfl
theorem VR.boolInv {v : Value} {b : Bool} (h : VR w X ρ v (.bool b)) : v = .bool b := by
  cases h with
  | pur v x h => cases h; rfl
theorem VR.strInv {v : Value} {s : ByteArray} (h : VR w X ρ v (.str s)) : v = .string s := by
  cases h with
  | pur v x h => cases h; rfl
theorem VR.lstInv {v : Value} {sz : Nat} {xs : List AV} {t : Bool} (h : VR w X ρ v (.lst sz xs t)) : ∃ a cap, v = .slice a xs.length cap ∧ xs.length ≤ cap ∧ (t = true → cap = xs.length) ∧ PR w X v (.lst sz xs t) := by
  cases h with
  | pur v x h =>
    have h' := h
    cases h with
    | lst0 a cap sz t ht => exact ⟨a, cap, rfl, Nat.zero_le _, ht, h'⟩
    | lst b o n cap sz t xs f hn hc ht hsz hx hr => exact ⟨_, cap, by rw [hn], hn ▸ hc, fun e => (ht e).trans hn.symm, h'⟩
theorem VR.ownInv {v : Value} {g : Nm} {sz off len : Nat} (h : VR w X ρ v (.own g sz off len)) : (∃ a, v = .slice a 0 0 ∧ len = 0) ∨ ∃ b cap, v = .slice (some ⟨b, off * sz, none⟩) len cap ∧ ρ g = some b ∧ b < w.heap.size ∧ len ≤ cap ∧ off * sz + cap * sz ≤ bsize w b := by
  cases h with
  | pur v x h => cases h
  | own0 a => exact .inl ⟨a, rfl, rfl⟩
  | own _ b _ _ _ cap hρ hb hc hk => exact .inr ⟨b, cap, rfl, hρ, hb, hc, hk⟩
theorem VR.ptrInv {v : Value} {g : Nm} {sz i off : Nat} (hs0 : 0 < sz) (h : VR w X ρ v (.ptr g sz i off)) : ∃ b, v = .pointer (some ⟨b, i * sz + off, none⟩) ∧ ρ g = some b := by
  cases h with
  | pur v x h => cases h
  | ptr _ b _ _ _ _ hρ => exact ⟨b, rfl, hρ⟩
  | mp => omega
theorem VR.tupInv {v : Value} {xs : List AV} (h : VR w X ρ v (.tup xs)) : ∃ cs, v = .tuple cs ∧ cs.size = xs.length ∧ ∀ (i : Nat) (x : AV), xs[i]? = some x → VR w X ρ (cs.getD i Go.undef) x := by
  cases h with
  | pur v x h => cases h
  | tup cs _ hn h => exact ⟨cs, rfl, hn, h⟩

theorem opField_sound {t : TypeId} {x y : AV} {v : Value} {f : Nat} (hv : VR w X ρ v x) (h : opField P t x f = some y) : ∃ u, (Instr.field t v f).run P w = .ok u w ∧ VR w X ρ u y := by
  unfold opField at h
  cases hf : fieldOf P t f with
  | none => simp [hf] at h
  | some p =>
    obtain ⟨o, ft⟩ := p
    obtain ⟨fs, fx, hu, hx, rfl, rfl⟩ := fieldOf_un hf
    cases x with
    | agg xs =>
      simp only [hf] at h
      obtain ⟨cs, rfl, hn, h1, hc⟩ := hv.aggInv
      obtain ⟨u, hr, hrel⟩ := part_rel (P := P) hn h1 hc h
      refine ⟨u, ?_, hrel⟩
      simp [Instr.field, run_underlying hu, hx, asAgg, hr]
    | _ => simp [hf] at h

theorem opFieldAddr_sound {t : TypeId} {x y : AV} {v : Value} {f : Nat} (hv : VR w X ρ v x) (h : opFieldAddr P t x f = some y) : ∃ u, (Instr.fieldAt t v f).run P w = .ok u w ∧ VR w X ρ u y := by
  unfold opFieldAddr at h
  cases hf : fieldOf P t f with
  | none => simp [hf] at h
  | some p =>
    obtain ⟨o, ft⟩ := p
    obtain ⟨fs, fx, hu, hx, rfl, rfl⟩ := fieldOf_un hf
    simp only [hf] at h
    split at h
    · cases h
    · rename_i hs
      cases hsz : tsize P fx.type with
      | none => simp [hsz] at hs
      | some n =>
        have hn : n ≠ 0 := by simpa [hsz] using hs
        have place : ∀ b o, (fieldPlace ⟨b, o, none⟩ fx).run P w = .ok ⟨b, o + fx.offset, none⟩ w := by
          intro b o
          simp [fieldPlace, run_tsize hsz, hn, addr_add]
        cases x with
        | ptr g sz i off =>
          simp only at h
          split at h
          case isFalse => cases h
          rename_i hs0
          simp only [Option.some.injEq] at h
          subst h
          obtain ⟨b, rfl, hρ⟩ := hv.ptrInv hs0
          refine ⟨.pointer (some ⟨b, i * sz + off + fx.offset, none⟩), ?_, ?_⟩
          · simp [Instr.fieldAt, run_underlying hu, hx, Instr.sureAddr, place]
          · rw [Nat.add_assoc]; exact .ptr _ _ _ _ _ hs0 hρ
        | lp sz xs i off =>
          simp only [Option.some.injEq] at h
          subst h
          cases hv with
          | pur v x hp =>
            cases hp with
            | lp b o _ _ _ _ g hsz' hx' hr' =>
              refine ⟨.pointer (some ⟨b, o + (i * sz + off) + fx.offset, none⟩), ?_, ?_⟩
              · simp [Instr.fieldAt, run_underlying hu, hx, Instr.sureAddr, place]
              · rw [show o + (i * sz + off) + fx.offset = o + (i * sz + (off + fx.offset)) by omega]
                exact .pur _ _ (.lp _ _ _ _ _ _ _ hsz' hx' hr')
        | _ => simp at h

end
section
variable {P : Program} {w : World} {X Y : XT} {ρ : Rho}
theorem opIndexAddr_sound {t : TypeId} {x i y : AV} {v u : Value} (hv : VR w X ρ v x) (hu : VR w X ρ u i) (h : opIndexAddr P t x i = some y) :
    ∃ r, (Instr.indexAt t v u).run P w = .ok r w ∧ VR w X ρ r y := by
  unfold opIndexAddr at h
  cases hd : P.underlying t with
  | none => simp [hd] at h
  | some d =>
    cases i with
    | int k n =>
      have hu' := hu.intInv
      subst hu'
      cases d with
      | slice e =>
        simp only [hd] at h
        cases x with
        | own g sz off len =>
          simp only at h
          split at h
          · rename_i hc
            obtain ⟨hs, h0, hl, hsp⟩ := hc
            cases h
            rcases hv.ownInv with ⟨a, rfl, rfl⟩ | ⟨b, cap, rfl, hρ, _, _, _⟩
            · exact absurd (Int.lt_of_le_of_lt h0 hl) (by simp)
            · refine ⟨.pointer (some ⟨b, (off + n.toNat) * sz + 0, none⟩), ?_, .ptr _ _ _ _ _ hsp hρ⟩
              simp [Instr.indexAt, asIntOf, run_underlying hd, h0, hl, run_tsize hs, addr_add, Nat.add_mul]
          · cases h
        | lst sz xs tt =>
          simp only at h
          split at h
          · rename_i hc
            obtain ⟨h0, hl, hs⟩ := hc
            cases h
            cases hv with
            | pur v x hp =>
              cases hp with
              | lst0 a cap sz t ht => simp at hl; omega
              | lst b o n' cap sz t xs f hn hc ht hsz hx hr =>
                refine ⟨.pointer (some ⟨b, o + (n.toNat * sz + 0), none⟩), ?_, .pur _ _ (.lp _ _ _ _ _ _ _ hsz hx hr)⟩
                have : n < (n' : Int) := by rw [← hn]; exact hl
                simp [Instr.indexAt, asIntOf, run_underlying hd, h0, this, run_tsize hs, addr_add]
          · cases h
        | _ => simp at h
      | array len e =>
        simp only [hd] at h
        cases x with
        | ptr g sz j off =>
          simp only at h
          cases hs : tsize P e with
          | none => simp [hs] at h
          | some es =>
            simp only [hs] at h
            split at h
            · rename_i hc
              cases h
              obtain ⟨b, rfl, hρ⟩ := hv.ptrInv hc.2.2
              refine ⟨.pointer (some ⟨b, j * sz + (off + n.toNat * es), none⟩), ?_, .ptr _ _ _ _ _ hc.2.2 hρ⟩
              simp [Instr.indexAt, asIntOf, run_underlying hd, Instr.sureAddr, hc.1, hc.2.1, run_tsize hs, addr_add, Nat.add_assoc]
            · cases h
        | _ => simp at h
      | _ => simp [hd] at h
    | _ => cases d <;> simp [hd] at h

theorem opIndex_sound {t : TypeId} {x i y : AV} {v u : Value} (hv : VR w X ρ v x) (hu : VR w X ρ u i) (h : opIndex P t x i = some y) :
    ∃ r, (Instr.index t v u).run P w = .ok r w ∧ VR w X ρ r y := by
  unfold opIndex at h
  cases hd : P.underlying t with
  | none => simp [hd] at h
  | some d =>
    cases i with
    | int k n =>
      have hu' := hu.intInv
      subst hu'
      cases d with
      | array len e =>
        cases x with
        | agg xs =>
          simp only [hd] at h
          obtain ⟨cs, rfl, hn, h1, hc⟩ := hv.aggInv
          cases hs : tsize P e with
          | none => simp [hs] at h
          | some es =>
            simp only [hs] at h
            split at h
            · rename_i hb
              obtain ⟨r, hr, hrel⟩ := part_rel (P := P) hn h1 hc h
              exact ⟨r, by simp [Instr.index, asIntOf, run_underlying hd, hb.1, hb.2, run_tsize hs, hr], hrel⟩
            · cases h
        | _ => simp [hd] at h
      | string =>
        cases x with
        | str s =>
          simp only [hd] at h
          have := hv.strInv
          subst this
          split at h
          · rename_i b hb
            cases h
            refine ⟨.int .u8 b.toNat, ?_, .pur _ _ (.int _ _)⟩
            simp only [Instr.index, asIntOf, Sem.run_bind, Sem.run_pure, Result.andThen_ok, run_underlying hd, hb]
          · cases h
        | _ => simp [hd] at h
      | _ => simp [hd] at h
    | _ => cases d <;> cases x <;> simp [hd] at h

/-! ### Numbers and strings -/

theorem opBin_sound {op : BinOp} {t : TypeId} {x y z : AV} {v u : Value} {ox oy : Operand} (hv : VR w X ρ v x) (hu : VR w X ρ u y) (h : opBin op x y = some z) :
    ∃ r, (do eqGuard op t ox oy v u; binOp op t v u : Sem Value).run P w = .ok r w ∧ VR w X ρ r z := by
  cases x with
  | int k a =>
    have hv' := hv.intInv
    subst hv'
    cases y with
    | int k' b =>
      have hu' := hu.intInv
      subst hu'
      have hg : (eqGuard op t ox oy (.int k a) (.int k' b)).run P w = .ok () w := by
        unfold eqGuard
        split <;> rfl
      rw [Sem.run_bind, hg, Result.andThen_ok]
      unfold opBin at h
      cases op <;> simp only at h <;>
        first
          | (split at h
             · rename_i hk
               first
                 | (subst hk; cases h; refine ⟨_, ?_, .pur _ _ (.int _ _)⟩; simp [binOp, Op.intArith]; done)
                 | (subst hk; cases h; refine ⟨_, ?_, .pur _ _ (.bool _)⟩; simp [binOp, Op.intCmp]; done)
                 | (obtain ⟨hk, hb⟩ := hk; subst hk; cases h; refine ⟨_, ?_, .pur _ _ (.int _ _)⟩; simp [binOp, Op.intDiv, hb]; done)
                 | (subst hk; cases h; refine ⟨_, ?_, .pur _ _ (.int _ _)⟩; simp [binOp, Op.intBits, bitI]; done)
                 | (cases h; refine ⟨_, ?_, .pur _ _ (.int _ _)⟩; simp [binOp, Op.shift, shlI, shrI, show ¬ (b < 0) from Int.not_lt.2 hk]; done)
             · cases h)
          | cases h
    | _ => simp [opBin] at h
  | str a =>
    have hv' := hv.strInv
    subst hv'
    cases y with
    | str b =>
      have hu' := hu.strInv
      subst hu'
      have hg : (eqGuard op t ox oy (.string a) (.string b)).run P w = .ok () w := by
        unfold eqGuard
        split <;> rfl
      rw [Sem.run_bind, hg, Result.andThen_ok]
      unfold opBin at h
      cases op <;> simp only at h <;>
        first
          | (split at h
             · rename_i hk
               cases h
               refine ⟨_, ?_, .pur _ _ (.str _)⟩
               have : ¬ ((a.size + b.size : Nat) : Int) > IntKind.i64.max := by
                 have : IntKind.i64.max = 9223372036854775807 := rfl
                 omega
               simp only [binOp, Op.stringOp, if_neg this, Sem.run_pure]
             · cases h)
          | (cases h; refine ⟨_, ?_, .pur _ _ (.bool _)⟩; simp [binOp, Op.stringOp]; done)
          | cases h
    | _ => simp [opBin] at h
  | _ => simp [opBin] at h

theorem part_det {t : TypeId} {cs : Array Value} {xs : List AV} {off : Nat} {y : AV} (hn : cs.size = xs.length) (h1 : ∀ i, i < cs.size → (cs.getD i undef).oneCell' = true)
    (hv : ∀ (i : Nat) (x : AV), xs[i]? = some x → VR w X ρ (cs.getD i undef) x) (h : partOf P t xs off = some y) : ∃ v, (∀ w, (part t cs off).run P w = .ok v w) ∧ VR w X ρ v y := by
  obtain ⟨v, hr, hrel⟩ := part_rel (P := P) hn h1 hv h
  refine ⟨v, fun w' => ?_, hrel⟩
  unfold partOf at h
  cases hs : tsize P t with
  | none => simp [hs] at h
  | some size =>
    cases ha : tagg P t with
    | none => simp [hs, ha] at h
    | some agg =>
      simp only [part, Sem.run_bind, run_tagg ha, Result.andThen_ok] at hr ⊢
      cases agg with
      | true =>
        simp only [if_true, Sem.run_bind, run_tsize hs, Result.andThen_ok, Sem.run_pure] at hr ⊢
        cases hr; rfl
      | false =>
        simp only [Bool.false_eq_true, if_false] at hr ⊢
        cases hc : cs[off]? with
        | none => simp [hc] at hr
        | some c => simp only [hc, Sem.run_pure] at hr ⊢; cases hr; rfl

theorem eqA_sound : ∀ (d D : Nat), d ≤ D → ∀ (t : TypeId) (x y : AV) (v u : Value) (c : Bool), VR w X ρ v x → VR w X ρ u y → eqA P d t x y = some c → (Op.equalIn D t v u).run P w = .ok c w := by
  intro d
  induction d with
  | zero => intro D _ t x y v u c _ _ h; simp [eqA] at h
  | succ d ih =>
    intro D hD t x y v u c hv hu h
    obtain ⟨D, rfl⟩ : ∃ D', D = D' + 1 := ⟨D - 1, by omega⟩
    have ih' := ih D (by omega)
    unfold eqA at h
    cases hd : P.underlying t with
    | none => simp [hd] at h
    | some ty =>
      cases ty with
      | bool =>
        cases x <;> cases y <;> simp [hd] at h
        have := hv.boolInv; subst this
        have := hu.boolInv; subst this
        subst h
        simp [Op.equalIn, run_underlying hd]
      | int k =>
        cases x <;> cases y <;> simp [hd] at h
        have := hv.intInv; subst this
        have := hu.intInv; subst this
        obtain ⟨h1, h2⟩ := h
        subst h1 h2
        simp [Op.equalIn, run_underlying hd]
      | string =>
        cases x <;> cases y <;> simp [hd] at h
        have := hv.strInv; subst this
        have := hu.strInv; subst this
        subst h
        simp [Op.equalIn, run_underlying hd]
      | struct fs =>
        cases x <;> cases y <;> simp [hd] at h
        rename_i xs ys
        obtain ⟨as, rfl, hn, h1, hc⟩ := hv.aggInv
        obtain ⟨bs, rfl, hn', h1', hc'⟩ := hu.aggInv
        obtain ⟨hst, h⟩ := h
        have loop : ∀ (l : List Field) (c : Bool), eqFields P (eqA P d) xs ys l = some c →
            (forIn l ((none, ()) : Option Bool × Unit) fun f _ => do
              if f.name ≠ "_" then
                let a ← part f.type as f.offset
                let b ← part f.type bs f.offset
                let q ← Op.equalIn D f.type a b
                if (!q) = true then pure (ForInStep.done (some false, ())) else pure (ForInStep.yield (none, ()))
              else pure (ForInStep.yield (none, ())) : Sem (Option Bool × Unit)).run P w = .ok (if c then (none, ()) else (some false, ())) w := by
          intro l
          induction l with
          | nil => intro c h; simp [eqFields] at h; subst h; rfl
          | cons f r ihl =>
            intro c h
            unfold eqFields at h
            split at h
            · cases h
            · rename_i hname
              cases hp : partOf P f.type xs f.offset with
              | none => simp [hp] at h
              | some a =>
                cases hq : partOf P f.type ys f.offset with
                | none => simp [hp, hq] at h
                | some b =>
                  simp only [hp, hq] at h
                  obtain ⟨va, ra, ea⟩ := part_det (P := P) hn h1 hc hp
                  obtain ⟨vb, rb, eb⟩ := part_det (P := P) hn' h1' hc' hq
                  cases he : eqA P d f.type a b with
                  | none => simp [he] at h
                  | some c1 =>
                    cases hr : eqFields P (eqA P d) xs ys r with
                    | none => simp [he, hr] at h
                    | some c2 =>
                      simp only [he, hr, Option.some.injEq] at h
                      subst h
                      have e1 := ih' f.type a b va vb c1 ea eb he
                      rw [List.forIn_cons]
                      simp only [ne_eq, hname, not_false_eq_true, if_true, Sem.run_bind, ra, rb, Result.andThen_ok, e1]
                      cases c1 with
                      | true => simpa using ihl c2 hr
                      | false => simp
        have hl := loop fs.toList c h
        simp only [Op.equalIn, Sem.run_bind, run_underlying hd, Result.andThen_ok, run_program, hst, Bool.false_eq_true, if_false]
        rw [← Array.forIn_toList, hl]
        cases c <;> rfl
      | array n e =>
        cases x <;> cases y <;> simp [hd] at h
        rename_i xs ys
        obtain ⟨as, rfl, hn, h1, hc⟩ := hv.aggInv
        obtain ⟨bs, rfl, hn', h1', hc'⟩ := hu.aggInv
        cases hs : tsize P e with
        | none => simp [hs] at h
        | some size =>
          simp only [hs] at h
          have loop : ∀ (m i : Nat) (c : Bool), eqElems P (eqA P d) e size xs ys m i = some c →
              (forIn (List.range' i m) ((none, ()) : Option Bool × Unit) fun i _ => do
                let a ← part e as (i * size)
                let b ← part e bs (i * size)
                let q ← Op.equalIn D e a b
                if (!q) = true then pure (ForInStep.done (some false, ())) else pure (ForInStep.yield (none, ())) : Sem (Option Bool × Unit)).run P w = .ok (if c then (none, ()) else (some false, ())) w := by
            intro m
            induction m with
            | zero => intro i c h; simp [eqElems] at h; subst h; rfl
            | succ m ihm =>
              intro i c h
              unfold eqElems at h
              cases hp : partOf P e xs (i * size) with
              | none => simp [hp] at h
              | some a =>
                cases hq : partOf P e ys (i * size) with
                | none => simp [hp, hq] at h
                | some b =>
                  simp only [hp, hq] at h
                  obtain ⟨va, ra, ea⟩ := part_det (P := P) hn h1 hc hp
                  obtain ⟨vb, rb, eb⟩ := part_det (P := P) hn' h1' hc' hq
                  cases he : eqA P d e a b with
                  | none => simp [he] at h
                  | some c1 =>
                    cases hr : eqElems P (eqA P d) e size xs ys m (i + 1) with
                    | none => simp [he, hr] at h
                    | some c2 =>
                      simp only [he, hr, Option.some.injEq] at h
                      subst h
                      have e1 := ih' e a b va vb c1 ea eb he
                      rw [List.range'_succ, List.forIn_cons]
                      simp only [Sem.run_bind, ra, rb, Result.andThen_ok, e1]
                      cases c1 with
                      | true => simpa using ihm (i + 1) c2 hr
                      | false => simp
          have hl := loop n 0 c h
          simp only [Op.equalIn, Sem.run_bind, run_underlying hd, Result.andThen_ok, run_tsize hs]
          rw [Std.Legacy.Range.forIn_eq_forIn_range']
          simp only [Std.Legacy.Range.size, Nat.sub_zero, Nat.add_sub_cancel, Nat.div_one]
          rw [hl]
          cases c <;> rfl
      | _ => cases x <;> cases y <;> simp [hd] at h

theorem opEql_sound {t : TypeId} {x y : AV} {v u : Value} {c : Bool} {op : BinOp} (hop : op = .eql ∨ op = .neq) {ox oy : Operand} (hv : VR w X ρ v x) (hu : VR w X ρ u y) (h : opEql P t x y = some c) :
    (do eqGuard op t ox oy v u; binOp op t v u : Sem Value).run P w = .ok (.bool (if op = .eql then c else !c)) w := by
  unfold opEql at h
  have fin : ∀ v u : Value, (∀ w, (eqGuard op t ox oy v u).run P w = .ok () w) → (binOp op t v u = match op with | .eql => (do pure (.bool (← Op.equal t v u)) : Sem Value) | _ => (do pure (.bool (!(← Op.equal t v u))) : Sem Value)) →
      (Op.equal t v u).run P w = .ok c w → (do eqGuard op t ox oy v u; binOp op t v u : Sem Value).run P w = .ok (.bool (if op = .eql then c else !c)) w := by
    intro v u h1 h2 h3
    rw [Sem.run_bind, h1, Result.andThen_ok, h2]
    rcases hop with rfl | rfl
    · simp [h3]
    · simp [h3]
  cases x <;> cases y <;> simp at h
  · have e1 := hv.boolInv; subst e1
    have e2 := hu.boolInv; subst e2
    refine fin _ _ (fun w => ?_) ?_ (eqA_sound 8 10000 (by decide) t _ _ _ _ c hv hu h)
    · unfold eqGuard; split <;> rfl
    · rcases hop with rfl | rfl <;> rfl
  · rename_i xs ys
    obtain ⟨as, rfl, _⟩ := hv.aggInv
    obtain ⟨bs, rfl, _⟩ := hu.aggInv
    refine fin _ _ (fun w => ?_) ?_ (eqA_sound 8 10000 (by decide) t _ _ _ _ c hv hu h.2)
    · unfold eqGuard
      split <;> simp [h.1]
    · rcases hop with rfl | rfl <;> rfl

theorem opBin2_sound {op : BinOp} {t : TypeId} {x y z : AV} {v u : Value} {ox oy : Operand} (hv : VR w X ρ v x) (hu : VR w X ρ u y) (h : opBin2 P op t x y = some z) :
    ∃ r, (do eqGuard op t ox oy v u; binOp op t v u : Sem Value).run P w = .ok r w ∧ VR w X ρ r z := by
  unfold opBin2 at h
  cases hb : opBin op x y with
  | some v' => simp only [hb] at h; cases h; exact opBin_sound hv hu hb
  | none =>
    simp only [hb] at h
    cases op <;> simp only at h <;> first
      | cases h
      | (obtain ⟨c, hc, rfl⟩ := Option.map_eq_some_iff.1 h
         exact ⟨_, opEql_sound (by simp) hv hu hc, .pur _ _ (by simpa using PR.bool _)⟩)

theorem ptr_nil {t e : TypeId} (ht : P.underlying t = some (.pointer e)) {ox oy : Operand} (p : Option Addr) :
    (do eqGuard .eql t ox oy (.pointer p) (.pointer none); binOp .eql t (.pointer p) (.pointer none) : Sem Value).run P w = .ok (.bool p.isNone) w := by
  have hg : (eqGuard .eql t ox oy (.pointer p) (.pointer none)).run P w = .ok () w := by cases p <;> rfl
  rw [Sem.run_bind, hg, Result.andThen_ok]
  have h1 : (Op.equal t (.pointer p) (.pointer none)).run P w = .ok p.isNone w := by
    have h : ∀ d, (Op.equalIn (d + 1) t (.pointer p) (.pointer none)).run P w = .ok p.isNone w := by
      intro d
      cases p <;> simp [Op.equalIn, run_underlying ht]
    exact h 9999
  simp only [binOp]
  simp [h1]

theorem nilCmp_sound {op : BinOp} {t : TypeId} {x z : AV} {v u : Value} {ox oy : Operand} (hv : VR w X ρ v x) (hu : ∀ c, oy = .const c → u = c) (h : nilCmp P op t x oy = some z) :
    ∃ r, (do eqGuard op t ox oy v u; binOp op t v u : Sem Value).run P w = .ok r w ∧ VR w X ρ r z := by
  unfold nilCmp at h
  split at h
  · rename_i e b ht
    cases h
    cases hu _ rfl
    cases hv with
    | pur v x h => cases h with
      | slc a cap =>
        refine ⟨_, ?_, .pur _ _ (.bool _)⟩
        have hg : (eqGuard .eql t ox (.const (.slice none 0 0)) (.slice a 0 cap) (.slice none 0 0)).run P w = .ok () w := rfl
        rw [Sem.run_bind, hg, Result.andThen_ok]
        exact Lib.run_eql_slice_nil w t e a 0 cap 0 0 ht
  · rename_i e sz y ys tight ht
    cases h
    cases hu _ rfl
    cases hv with
    | pur v x h => cases h with
      | lst b o n cap sz t' xs f hn hc ht' hsz hx hr =>
        refine ⟨_, ?_, .pur _ _ (.bool _)⟩
        have hg : (eqGuard .eql t ox (.const (.slice none 0 0)) (.slice (some ⟨b, o, none⟩) n cap) (.slice none 0 0)).run P w = .ok () w := rfl
        rw [Sem.run_bind, hg, Result.andThen_ok]
        exact Lib.run_eql_slice_nil w t e (some ⟨b, o, none⟩) n cap 0 0 ht
  · rename_i e g sz off len ht
    split at h
    · rename_i h0
      cases h
      cases hu _ rfl
      rcases hv.ownInv with ⟨a, rfl, rfl⟩ | ⟨b, cap, rfl, _⟩
      · omega
      · refine ⟨_, ?_, .pur _ _ (.bool _)⟩
        have hg : (eqGuard .eql t ox (.const (.slice none 0 0)) (.slice (some ⟨b, off * sz, none⟩) len cap) (.slice none 0 0)).run P w = .ok () w := rfl
        rw [Sem.run_bind, hg, Result.andThen_ok]
        exact Lib.run_eql_slice_nil w t e (some ⟨b, off * sz, none⟩) len cap 0 0 ht
    · cases h
  · rename_i e ht
    cases h
    cases hu _ rfl
    cases hv with
    | pur v x h => cases h with
      | nilp => exact ⟨_, ptr_nil ht none, .pur _ _ (.bool _)⟩
  · rename_i e g sz i off ht
    split at h
    · rename_i h0
      cases h
      cases hu _ rfl
      obtain ⟨b, rfl, _⟩ := hv.ptrInv h0
      exact ⟨_, ptr_nil ht (some _), .pur _ _ (.bool _)⟩
    · cases h
  · rename_i e sz xs i off ht
    cases h
    cases hu _ rfl
    cases hv with
    | pur v x h => cases h with
      | lp b o _ _ _ _ f h1 h2 h3 => exact ⟨_, ptr_nil ht (some _), .pur _ _ (.bool _)⟩
  · cases h

theorem opBin3_sound {op : BinOp} {t : TypeId} {x y z : AV} {v u : Value} {ox oy : Operand} (hv : VR w X ρ v x) (hu : VR w X ρ u y) (hu' : ∀ c, oy = .const c → u = c) (h : opBin3 P op t x y oy = some z) :
    ∃ r, (do eqGuard op t ox oy v u; binOp op t v u : Sem Value).run P w = .ok r w ∧ VR w X ρ r z := by
  unfold opBin3 at h
  split at h
  · rename_i z' hz
    cases h
    exact opBin2_sound hv hu hz
  · exact nilCmp_sound hv hu' h


/-! ### The rest that makes no memory -/

theorem opUn_sound {op : UnOp} {x z : AV} {v : Value} (hv : VR w X ρ v x) (h : opUn op x = some z) : ∃ r, (Op.unary op v).run P w = .ok r w ∧ VR w X ρ r z := by
  unfold opUn at h
  cases op <;> cases x <;> simp at h
  all_goals
    first
      | (have := hv.intInv; subst this; subst h; exact ⟨_, by simp [Op.unary, Op.intArith], .pur _ _ (.int _ _)⟩)
      | (have := hv.boolInv; subst this; subst h; exact ⟨_, by simp [Op.unary], .pur _ _ (.bool _)⟩)

theorem opConvert_sound {a b : TypeId} {x z : AV} {v : Value} (hv : VR w X ρ v x) (h : opConvert P a b x = some z) : ∃ r, (convert a b v).run P w = .ok r w ∧ VR w X ρ r z := by
  unfold opConvert at h
  cases ha : P.underlying a with
  | none => simp [ha] at h
  | some da =>
    cases hb : P.underlying b with
    | none => simp [ha, hb] at h
    | some db =>
      cases da <;> cases db <;> cases x <;> simp [ha, hb] at h
      · have := hv.intInv; subst this; subst h
        exact ⟨_, by simp [convert, run_underlying ha, run_underlying hb, Conv.intToInt], .pur _ _ (.int _ _)⟩
      · have := hv.strInv; subst this; subst h
        exact ⟨_, by simp [convert, run_underlying ha, run_underlying hb], .pur _ _ (.str _)⟩

theorem opLen_sound {t : TypeId} {x z : AV} {v : Value} (hv : VR w X ρ v x) (h : opLen P t x = some z) (ty : TypeId) : ∃ r, (Builtin.len_ #[t] ty #[v]).run P w = .ok r w ∧ VR w X ρ r z := by
  unfold opLen at h
  cases ha : P.underlying t with
  | none => simp [ha] at h
  | some d =>
    cases d <;> cases x <;> simp [ha] at h
    all_goals try subst h
    all_goals
      first
        | (have := hv.strInv; subst this; exact ⟨_, by simp [Builtin.len_, run_underlying ha, goInt], .pur _ _ (.int _ _)⟩)
        | (obtain ⟨a, cap, rfl, _, _, _⟩ := hv.lstInv; exact ⟨_, by simp [Builtin.len_, run_underlying ha, goInt], .pur _ _ (.int _ _)⟩)
        | (rcases hv.ownInv with ⟨a, rfl, rfl⟩ | ⟨b, cap, rfl, _⟩ <;> exact ⟨_, by simp [Builtin.len_, run_underlying ha, goInt], .pur _ _ (.int _ _)⟩)
        | (exact ⟨_, by simp [Builtin.len_, run_underlying ha, goInt], .pur _ _ (.int _ _)⟩)

theorem minA_sound : ∀ (l : List AV) (x : AV) (z : AV) (v : Value) (vs : List Value), VR w X ρ v x → vs.length = l.length → (∀ (i : Nat) (y : AV), l[i]? = some y → ∃ u, vs[i]? = some u ∧ VR w X ρ u y) → minA x l = some z →
    ∃ r, (vs.foldlM Builtin.min2 v).run P w = .ok r w ∧ VR w X ρ r z := by
  intro l
  induction l with
  | nil =>
    intro x z v vs hv hl _ h
    have : vs = [] := List.eq_nil_of_length_eq_zero hl
    subst this
    cases x <;> simp [minA] at h <;> subst h <;> exact ⟨_, rfl, hv⟩
  | cons y r ih =>
    intro x z v vs hv hl hr h
    cases vs with
    | nil => simp at hl
    | cons u us =>
      obtain ⟨u', hu', hrel⟩ := hr 0 y rfl
      simp at hu'
      subst hu'
      cases x <;> cases y <;> simp [minA] at h
      have e1 := hv.intInv; subst e1
      have e2 := hrel.intInv; subst e2
      obtain ⟨rfl, h⟩ := h
      obtain ⟨q, hq, hqr⟩ := ih _ z (.int _ _) us (.pur _ _ (.int _ _)) (by simpa using hl) (fun i y hi => by simpa using hr (i + 1) y hi) h
      refine ⟨q, ?_, hqr⟩
      simp only [List.foldlM_cons, Sem.run_bind, Builtin.min2, Sem.run_pure, Result.andThen_ok]
      exact hq

theorem maxA_sound : ∀ (l : List AV) (x : AV) (z : AV) (v : Value) (vs : List Value), VR w X ρ v x → vs.length = l.length → (∀ (i : Nat) (y : AV), l[i]? = some y → ∃ u, vs[i]? = some u ∧ VR w X ρ u y) → maxA x l = some z →
    ∃ r, (vs.foldlM Builtin.max2 v).run P w = .ok r w ∧ VR w X ρ r z := by
  intro l
  induction l with
  | nil =>
    intro x z v vs hv hl _ h
    have : vs = [] := List.eq_nil_of_length_eq_zero hl
    subst this
    cases x <;> simp [maxA] at h <;> subst h <;> exact ⟨_, rfl, hv⟩
  | cons y r ih =>
    intro x z v vs hv hl hr h
    cases vs with
    | nil => simp at hl
    | cons u us =>
      obtain ⟨u', hu', hrel⟩ := hr 0 y rfl
      simp at hu'
      subst hu'
      cases x <;> cases y <;> simp [maxA] at h
      have e1 := hv.intInv; subst e1
      have e2 := hrel.intInv; subst e2
      obtain ⟨rfl, h⟩ := h
      obtain ⟨q, hq, hqr⟩ := ih _ z (.int _ _) us (.pur _ _ (.int _ _)) (by simpa using hl) (fun i y hi => by simpa using hr (i + 1) y hi) h
      refine ⟨q, ?_, hqr⟩
      simp only [List.foldlM_cons, Sem.run_bind, Builtin.max2, Sem.run_pure, Result.andThen_ok]
      exact hq

/-! ### Slices of slices and of strings -/

theorem bound_run {o : Option AV} {vo : Option Value} {dflt l : Nat} (hrel : match o, vo with | none, none => True | some x, some v => VR w X ρ v x | _, _ => False) (h : bound o dflt = some l) :
    (o = none ∧ vo = none ∧ l = dflt) ∨ ∃ k, vo = some (.int k l) := by
  cases o with
  | none =>
    cases vo with
    | none => simp [bound] at h; exact .inl ⟨rfl, rfl, h.symm⟩
    | some v => exact hrel.elim
  | some x =>
    cases vo with
    | none => exact hrel.elim
    | some v =>
      cases x <;> simp [bound] at h
      rename_i k n
      have e := VR.intInv hrel
      subst e
      refine .inr ⟨k, ?_⟩
      rw [← h.2, Int.toNat_of_nonneg h.1]

theorem sliceBound_run (k : IntKind) (l y : Nat) (c : BoundsCode) (h : l ≤ y) (w : World) : (Instr.sliceBound (.int k l) y c).run P w = .ok l w := by
  simp [Instr.sliceBound, asIntOf, h]

/-- The elements of a piece of a list. -/
theorem PR.piece {sz : Nat} {xs : List AV} {t t' : Bool} {a : Option Addr} {cap l h : Nat} {m : Nat} (hp : PR w X (.slice a xs.length cap) (.lst sz xs t)) (hlh : l ≤ h) (hh : h ≤ xs.length) (hm : h ≤ m)
    (ht : t' = true → m - l = h - l) :
    PR w X (.slice (if m = l then a else a.map (·.add (l * sz))) (h - l) (m - l)) (.lst sz ((xs.drop l).take (h - l)) t') := by
  by_cases h0 : h - l = 0
  · rw [h0]
    simp only [List.take_zero]
    exact .lst0 _ _ _ _ (fun e => by rw [ht e, h0])
  · have hml : m ≠ l := by omega
    rw [if_neg hml]
    generalize hn : xs.length = n at hp
    cases hp with
    | lst0 => simp at hh; omega
    | lst b o _ cap _ _ _ f hn' hc ht' hsz hx hr =>
      simp only [Option.map_some, addr_add]
      have hlen : ((xs.drop l).take (h - l)).length = h - l := by simp; omega
      have hget : ∀ i x, ((xs.drop l).take (h - l))[i]? = some x → xs[l + i]? = some x := by
        intro i x hi
        rw [List.getElem?_take, List.getElem?_drop] at hi
        split at hi
        · exact hi
        · cases hi
      refine .lst b (o + l * sz) (h - l) (m - l) sz t' _ (fun i j => f (l + i) j) hlen (by omega) ht (fun i x hi => hsz _ _ (hget i x hi)) (fun i x hi j u hj => ?_) (fun i x hi j u hj => hr _ _ (hget i x hi) j u hj)
      have := hx _ _ (hget i x hi) j u hj
      rw [show o + l * sz + (i * sz + j) = o + ((l + i) * sz + j) by rw [Nat.add_mul]; omega]
      exact this

/-- What is said of an operand that may be missing. -/
def ORel (w : World) (X : XT) (ρ : Rho) (o : Option AV) (v : Option Value) : Prop :=
  match o, v with
  | none, none => True
  | some x, some v => VR w X ρ v x
  | _, _ => False

theorem sliceBounds2 (isSlice : Bool) {lo hi : Option AV} {vl vh : Option Value} {len cap l h : Nat} (hl : ORel w X ρ lo vl) (hh : ORel w X ρ hi vh)
    (h1 : bound lo 0 = some l) (h2 : bound hi len = some h) (hlh : l ≤ h) (hhc : h ≤ cap) : (Instr.sliceBounds isSlice len cap vl vh none).run P w = .ok (l, h, cap) w := by
  unfold Instr.sliceBounds
  rcases bound_run hl h1 with ⟨rfl, rfl, rfl⟩ | ⟨k, rfl⟩ <;> rcases bound_run hh h2 with ⟨rfl, rfl, rfl⟩ | ⟨k', rfl⟩ <;>
    simp [sliceBound_run, hlh, hhc]

theorem sliceBounds3 {lo hi mx : Option AV} {vl vh vm : Option Value} {x : AV} {len cap l h m : Nat} (hl : ORel w X ρ lo vl) (hh : ORel w X ρ hi vh) (hm : ORel w X ρ mx vm)
    (h1 : bound lo 0 = some l) (h2 : bound hi len = some h) (hx : mx = some x) (h3 : bound (some x) 0 = some m) (hlh : l ≤ h) (hhm : h ≤ m) (hmc : m ≤ cap) (hhi : hi.isSome = true) : (Instr.sliceBounds true len cap vl vh vm).run P w = .ok (l, h, m) w := by
  unfold Instr.sliceBounds
  subst hx
  rcases bound_run (o := some x) hm h3 with ⟨h, _⟩ | ⟨km, rfl⟩
  · cases h
  rcases bound_run hl h1 with ⟨rfl, rfl, rfl⟩ | ⟨k, rfl⟩ <;> rcases bound_run hh h2 with ⟨rfl, rfl, rfl⟩ | ⟨k', rfl⟩ <;>
    first
      | (simp at hhi; done)
      | (simp [sliceBound_run, hlh, hhm, hmc]; done)

/-- A block that is no longer written, as a list that is only read. -/
theorem BlkAt.lst {b : Nat} {k : Blk} {X' : XT} (hb : BlkAt w X ρ b k) (hs0 : 0 < k.sz) (hbox : k.box = false) (hsub : ∀ c o, X' c o → X c o) (hX : ∀ o, o < k.elems.length * k.sz → ¬ X' b o)
    {off len cap : Nat} {t : Bool} (hl : off + len ≤ k.elems.length) (hc : len ≤ cap) (ht : t = true → cap = len) :
    PR w X' (.slice (some ⟨b, off * k.sz, none⟩) len cap) (.lst k.sz ((k.elems.drop off).take len) t) := by
  obtain ⟨cs, T, hh, hle, he⟩ := hb.cells hs0
  have hlen : ((k.elems.drop off).take len).length = len := by simp; omega
  have hget : ∀ i x, ((k.elems.drop off).take len)[i]? = some x → k.elems[off + i]? = some x := by
    intro i x hi
    rw [List.getElem?_take, List.getElem?_drop] at hi
    split at hi
    · exact hi
    · cases hi
  have hst : Stable w X w X' := (Stable.refl w X).less fun c o _ h => hsub c o h
  refine .lst b (off * k.sz) len cap k.sz t _ (fun i j => cs.getD ((off + i) * k.sz + j) undef) hlen hc ht (fun i x hi => (he _ _ (hget i x hi)).1) (fun i x hi j u hj => ?_) (fun i x hi j u hj => ?_)
  · have hx := hget i x hi
    have hilt : off + i < k.elems.length := (List.getElem?_eq_some_iff.1 hx).1
    have hjlt : j < k.sz := by rw [← (he _ _ hx).1]; exact (List.getElem?_eq_some_iff.1 hj).1
    have hlt : (off + i) * k.sz + j < k.elems.length * k.sz := by
      have : (off + i + 1) * k.sz ≤ k.elems.length * k.sz := Nat.mul_le_mul_right _ hilt
      rw [Nat.add_mul] at this
      omega
    have e : off * k.sz + (i * k.sz + j) = (off + i) * k.sz + j := by rw [Nat.add_mul]; omega
    rw [e]
    refine ⟨hX _ hlt, ?_, ((he _ _ hx).2 j u hj).1⟩
    rw [cell_of_row w b _ cs T (0, 0) hh]
    have : (off + i) * k.sz + j < cs.size := Nat.lt_of_lt_of_le hlt hle
    simp [Array.getD_eq_getD_getElem?, this]
  · have h := ((he _ _ (hget i x hi)).2 j u hj).2
    rw [hbox] at h
    exact PR.mono hst h

/-- What an operation leaves that makes nothing new: less may be written. -/
structure Still (Y : XT) (w : World) (ρ : Rho) (H : Heap) (r : Res) (v : Value) : Prop where
  new : r.new = []
  less : Less (putAll H r.wr) H
  val : VR w (XU Y ρ (putAll H r.wr)) ρ v r.val

theorem Still.quiet {H : Heap} {v : Value} {x : AV} {rd : List Nm} (h : VR w (XU Y ρ H) ρ v x) : Still Y w ρ H { val := x, rd := rd } v := ⟨rfl, Less.refl H, h⟩

/-- Behind 'stops' the block's known elements are not among the cells that may be written. -/
theorem XX_stopped {H : Heap} (hr : HR Y w ρ H) {g : Nm} {k : Blk} (hg : get H g = some k) {b : Nat} (hρ : ρ g = some b) {H' : Heap} (hl : Less H' H)
    (hs : ∀ k', get H' g = some k' → k.elems.length ≤ k'.frz) (o : Nat) (ho : o < k.elems.length * k.sz) : ¬ XU Y ρ H' b o := by
  intro hh
  obtain ⟨g', k', hg', hρ', h⟩ : XX ρ H' b o := hh.resolve_right (hr.sep g k b o hg hρ)
  obtain ⟨k0, h0, h1, _, _, h4⟩ := hl.sub g' k' hg'
  have e := hr.inj g' g k0 k b h0 hg hρ' hρ
  subst e
  rw [hg] at h0
  cases h0
  have h2 := hs k' hg'
  rw [h1] at h
  have : k.elems.length * k.sz ≤ k'.frz * k.sz := Nat.mul_le_mul_right _ h2
  omega

theorem get_stops_ne (H0 : Heap) (g : Nm) : ∀ (l : List Nm) (H : Heap), g ∉ l → get (putAll H (stops H0 l)) g = get H g := by
  intro l
  induction l with
  | nil => intro H _; rfl
  | cons a r ih =>
    intro H h
    simp only [List.mem_cons, not_or] at h
    show get (putAll (set H a ((get H0 a).map Blk.stop)) (stops H0 r)) g = _
    rw [ih _ h.2, get_set_ne h.1]

theorem stops_frz (H0 : Heap) (g : Nm) {k : Blk} (hk : get H0 g = some k) : ∀ (l : List Nm) (H : Heap), g ∈ l → ∀ k', get (putAll H (stops H0 l)) g = some k' → k.elems.length ≤ k'.frz := by
  intro l
  induction l with
  | nil => intro H h; simp at h
  | cons a r ih =>
    intro H h k' hk'
    change get (putAll (set H a ((get H0 a).map Blk.stop)) (stops H0 r)) g = some k' at hk'
    by_cases hr : g ∈ r
    · exact ih _ hr k' hk'
    · have ha : g = a := by simpa [hr] using h
      subst ha
      rw [get_stops_ne H0 g r _ hr, get_set] at hk'
      split at hk'
      · rw [hk] at hk'
        cases hk'
        exact Nat.le_max_right _ _
      · rename_i hne
        exfalso
        apply hne
        exact ⟨rfl, get_some_lt hk'⟩

theorem opSlice_sound {H : Heap} (hr : HR Y w ρ H) {t : TypeId} {x : AV} {v : Value} {lo hi mx : Option AV} {vl vh vm : Option Value} {r : Res} (hv : VR w (XU Y ρ H) ρ v x)
    (hl : ORel w (XU Y ρ H) ρ lo vl) (hh : ORel w (XU Y ρ H) ρ hi vh) (hm : ORel w (XU Y ρ H) ρ mx vm) (h : opSlice P t x lo hi mx H = some r) :
    ∃ u, (Instr.sliceAt t v vl vh vm).run P w = .ok u w ∧ Still Y w ρ H r u := by
  unfold opSlice at h
  cases hd : P.underlying t with
  | none => simp [hd] at h
  | some d =>
    cases d with
    | string =>
      cases x with
      | str s =>
        have e := hv.strInv
        subst e
        simp only [hd] at h
        cases mx with
        | some m => simp at h
        | none =>
          cases h1 : bound lo 0 with
          | none => simp [h1] at h
          | some l =>
            cases h2 : bound hi s.size with
            | none => simp [h1, h2] at h
            | some hh' =>
              simp only [h1, h2] at h
              split at h
              · rename_i hc
                cases h
                cases vm with
                | some _ => exact hm.elim
                | none =>
                  refine ⟨.string (s.extract l hh'), ?_, .quiet (.pur _ _ (.str _))⟩
                  have hb := sliceBounds2 (P := P) false hl hh h1 h2 hc.1 hc.2
                  simp [Instr.sliceAt, Instr.slice, run_underlying hd, hb]
              · cases h
      | _ => simp [hd] at h
    | slice e =>
      cases x with
      | lst sz xs tight =>
        obtain ⟨a, cap, rfl, hcap, htight, hp⟩ := hv.lstInv
        simp only [hd] at h
        split at h
        · rename_i hsz
          obtain ⟨n, hn⟩ : ∃ n, tsize P e = some n := by
            cases hx : tsize P e with
            | none => simp [hx] at hsz
            | some n => exact ⟨n, rfl⟩
          have hsz' : n = sz ∨ xs = [] := by
            simp only [hn, Option.isSome_some, Bool.true_and, Bool.or_eq_true, decide_eq_true_eq, Option.some.injEq, List.isEmpty_iff] at hsz
            exact hsz
          -- what comes out, whatever the size said
          have out : ∀ l hh' m t', l ≤ hh' → hh' ≤ xs.length → hh' ≤ m → (t' = true → m - l = hh' - l) →
              PR w (XU Y ρ H) (.slice (if m = l then a else a.map (·.add (l * n))) (hh' - l) (m - l)) (.lst (lsz sz ((xs.drop l).take (hh' - l))) ((xs.drop l).take (hh' - l)) t') := by
            intro l hh' m t' a1 a2 a3 a4
            refine PR.canon ?_
            rcases hsz' with rfl | rfl
            · exact hp.piece a1 a2 a3 a4
            · have : hh' - l = 0 := by simp at a2; omega
              rw [this]
              simp only [List.take_zero]
              exact .lst0 _ _ _ _ (fun e => by rw [a4 e, this])
          cases mx with
          | none =>
            cases h1 : bound lo 0 with
            | none => simp [h1] at h
            | some l =>
              cases h2 : bound hi xs.length with
              | none => simp [h1, h2] at h
              | some hh' =>
                simp only [h1, h2] at h
                split at h
                · rename_i hc
                  cases h
                  cases vm with
                  | some _ => exact hm.elim
                  | none =>
                    have hb := sliceBounds2 (P := P) true hl hh h1 h2 hc.1 (Nat.le_trans hc.2 hcap)
                    refine ⟨.slice (if cap = l then a else a.map (·.add (l * n))) (hh' - l) (cap - l), ?_, .quiet (.pur _ _ (out l hh' cap _ hc.1 hc.2 (Nat.le_trans hc.2 hcap) (fun e => ?_)))⟩
                    · simp [Instr.sliceAt, Instr.slice, run_underlying hd, hb, run_tsize hn]
                    · simp only [Bool.and_eq_true] at e
                      cases hi with
                      | some _ => simp at e
                      | none => simp [bound] at h2; rw [htight e.1, h2]
                · cases h
          | some mv =>
            cases h1 : bound lo 0 with
            | none => simp [h1] at h
            | some l =>
              cases h2 : bound hi xs.length with
              | none => simp [h1, h2] at h
              | some hh' =>
                cases h3 : bound (some mv) 0 with
                | none => simp [h1, h2, h3] at h
                | some m =>
                  simp only [h1, h2, h3] at h
                  split at h
                  · rename_i hc
                    cases h
                    have hb := sliceBounds3 (P := P) (cap := cap) hl hh hm h1 h2 rfl h3 hc.1 hc.2.1 (by omega) hc.2.2.2
                    refine ⟨.slice (if m = l then a else a.map (·.add (l * n))) (hh' - l) (m - l), ?_, .quiet (.pur _ _ (out l hh' m _ hc.1 (by omega) hc.2.1 (fun e => ?_)))⟩
                    · simp [Instr.sliceAt, Instr.slice, run_underlying hd, hb, run_tsize hn]
                    · rw [beq_iff_eq] at e; rw [e]
                  · cases h
        · cases h
      | own g sz off len =>
        simp only [hd] at h
        split at h
        · rename_i hsz
          cases mx with
          | none =>
            cases h1 : bound lo 0 with
            | none => simp [h1] at h
            | some l =>
              cases h2 : bound hi len with
              | none => simp [h1, h2] at h
              | some hh' =>
                simp only [h1, h2] at h
                split at h
                · rename_i hc
                  cases h
                  cases vm with
                  | some _ => exact hm.elim
                  | none =>
                    rcases hv.ownInv with ⟨a, rfl, rfl⟩ | ⟨b, cap, rfl, hρ, hb, hlc, hk⟩
                    · have hb := sliceBounds2 (P := P) true (cap := 0) hl hh h1 h2 hc.1 hc.2
                      have e1 : l = 0 := by omega
                      have e2 : hh' = 0 := by omega
                      subst e1 e2
                      refine ⟨.slice a 0 0, ?_, .quiet (.own0 _ _ _ _)⟩
                      simp [Instr.sliceAt, Instr.slice, run_underlying hd, hb, run_tsize hsz]
                    · have hb' := sliceBounds2 (P := P) true (cap := cap) hl hh h1 h2 hc.1 (by omega)
                      refine ⟨.slice (if cap = l then some ⟨b, off * sz, none⟩ else some ⟨b, off * sz + l * sz, none⟩) (hh' - l) (cap - l), ?_, .quiet ?_⟩
                      · simp [Instr.sliceAt, Instr.slice, run_underlying hd, hb', run_tsize hsz, addr_add]
                      · by_cases e : cap = l
                        · have e1 : hh' - l = 0 := by omega
                          have e2 : cap - l = 0 := by omega
                          rw [e1, e2]
                          exact .own0 _ _ _ _
                        · rw [if_neg e, ← Nat.add_mul]
                          refine .own _ _ _ _ _ _ hρ hb (by omega) ?_
                          have : (off + l) * sz + (cap - l) * sz = off * sz + cap * sz := by
                            rw [← Nat.add_mul, ← Nat.add_mul]; congr 1; omega
                          omega
                · cases h
          | some mv =>
            cases h1 : bound lo 0 with
            | none => simp [h1] at h
            | some l =>
              cases h2 : bound hi len with
              | none => simp [h1, h2] at h
              | some hh' =>
                cases h3 : bound (some mv) 0 with
                | none => simp [h1, h2, h3] at h
                | some m =>
                  cases hg : get H g with
                  | none => simp [h1, h2, h3, hg] at h
                  | some k =>
                    simp only [h1, h2, h3, hg] at h
                    split at h
                    · rename_i hc
                      obtain ⟨c1, c2, c3, c4, c5, c6, c7, c8⟩ := hc
                      cases h
                      have hless : Less (putAll H (stops H [g])) H := Less.stops [g] H (Less.refl H)
                      rcases hv.ownInv with ⟨a, rfl, rfl⟩ | ⟨b, cap, rfl, hρ, hb, hlc, hk⟩
                      · have hb := sliceBounds3 (P := P) (cap := 0) hl hh hm h1 h2 rfl h3 c1 c2 (by omega) c7
                        have e1 : l = 0 := by omega
                        have e2 : hh' = 0 := by omega
                        have e3 : m = 0 := by omega
                        subst e1 e2 e3
                        refine ⟨.slice a 0 0, ?_, rfl, hless, ?_⟩
                        · simp [Instr.sliceAt, Instr.slice, run_underlying hd, hb, run_tsize hsz]
                        · simp only [Nat.sub_self, List.take_zero]
                          exact .pur _ _ (.lst0 _ _ _ _ (fun _ => rfl))
                      · have hb' := sliceBounds3 (P := P) (cap := cap) hl hh hm h1 h2 rfl h3 c1 c2 (by omega) c7
                        refine ⟨.slice (if m = l then some ⟨b, off * sz, none⟩ else some ⟨b, off * sz + l * sz, none⟩) (hh' - l) (m - l), ?_, rfl, hless, ?_⟩
                        · simp [Instr.sliceAt, Instr.slice, run_underlying hd, hb', run_tsize hsz, addr_add]
                        · by_cases e : m = l
                          · have e1 : hh' - l = 0 := by omega
                            have e2 : m - l = 0 := by omega
                            rw [e1, e2]
                            simp only [List.take_zero]
                            exact .pur _ _ (.lst0 _ _ _ _ (fun _ => rfl))
                          · rw [if_neg e, ← Nat.add_mul]
                            subst c6
                            refine .pur _ _ (PR.canon ((hr.at hg hρ).lst c8 c5 (fun _ _ h => hless.xu h) (XX_stopped hr hg hρ hless (fun k' hk' => stops_frz H g hg [g] H (by simp) k' hk')) (by omega) (by omega) (fun e => ?_)))
                            rw [beq_iff_eq] at e; rw [e]
                    · cases h
        · cases h
      | _ => simp [hd] at h
    | _ => cases x <;> simp [hd] at h

theorem opSliceX_sound {H : Heap} (hr : HR Y w ρ H) {t : TypeId} {x : AV} {v : Value} {lo hi mx : Option AV} {vl vh vm : Option Value} {r : Res} (hv : VR w (XU Y ρ H) ρ v x)
    (hl : ORel w (XU Y ρ H) ρ lo vl) (hh : ORel w (XU Y ρ H) ρ hi vh) (hm : ORel w (XU Y ρ H) ρ mx vm) (h : opSliceX P t x lo hi mx = some r) :
    ∃ u, (Instr.sliceAt t v vl vh vm).run P w = .ok u w ∧ Still Y w ρ H r u := by
  unfold opSliceX at h
  split at h
  · rename_i e g sz off len mv hd
    split at h
    · rename_i hsz
      split at h
      · rename_i l h' m h1 h2 h3
        split at h
        · rename_i hc
          obtain ⟨c1, c2, c3, c4⟩ := hc
          cases h
          subst c1
          rcases hv.ownInv with ⟨a, rfl, rfl⟩ | ⟨b, cap, rfl, hρ, hb, hlc, hk⟩
          · have hb := sliceBounds3 (P := P) (cap := 0) hl hh hm h1 h2 rfl h3 (Nat.le_refl _) c2 (by omega) c4
            have e1 : l = 0 := by omega
            have e3 : m = 0 := by omega
            subst e1 e3
            exact ⟨.slice a 0 0, by simp [Instr.sliceAt, Instr.slice, run_underlying hd, hb, run_tsize hsz], .quiet (.pur _ _ (.lst0 _ _ _ _ (fun _ => rfl)))⟩
          · have hb' := sliceBounds3 (P := P) (cap := cap) hl hh hm h1 h2 rfl h3 (Nat.le_refl _) c2 (by omega) c4
            refine ⟨.slice (if m = l then some ⟨b, off * sz, none⟩ else some ⟨b, off * sz + l * sz, none⟩) (l - l) (m - l), ?_, .quiet ?_⟩
            · simp [Instr.sliceAt, Instr.slice, run_underlying hd, hb', run_tsize hsz, addr_add]
            · rw [Nat.sub_self]
              refine .pur _ _ (.lst0 _ _ _ _ (fun e => ?_))
              rw [beq_iff_eq] at e
              omega
        · cases h
      · cases h
    · cases h
  · cases h

end
/-! ### A map of functions -/

/-- The entries of a map of functions. -/
def FmRel (w : World) (X : XT) (l : List (Int × FuncId × List FuncId)) (L : List MapEntry) : Prop :=
  L.length = l.length ∧ ∀ (i : Nat) (k : Int) (f : FuncId) (gs : List FuncId), l[i]? = some (k, f, gs) → ∃ (e : MapEntry) (cs : Array Value), L[i]? = some e ∧ e.key = .int .i64 k ∧ e.val = .func (.func f) #[] cs ∧ cs.size = gs.length ∧
    ∀ (j : Nat) (g : FuncId), gs[j]? = some g → ∃ b, cs.getD j undef = .pointer (some ⟨b, 0, none⟩) ∧ ¬ X b 0 ∧ w.cell? ⟨b, 0, none⟩ = some (.func (.func g) #[] #[])

theorem fm_find {w : World} {X : XT} {ρ : Rho} (n : Int) : ∀ (l : List (Int × FuncId × List FuncId)) (L : List MapEntry) (i : Nat), FmRel w X l L →
    (∃ j v, Instr.findNow (.int .i64) (.int .i64 n) L i = some (some (j, v)) ∧ (fmAt l n).2 = true ∧ VR w X ρ v (fmAt l n).1) ∨ (Instr.findNow (.int .i64) (.int .i64 n) L i = some none ∧ fmAt l n = (.nilf, false)) := by
  intro l
  induction l with
  | nil =>
    intro L i h
    have : L = [] := List.length_eq_zero_iff.1 h.1
    subst this
    exact .inr ⟨rfl, rfl⟩
  | cons p l ih =>
    intro L i h
    obtain ⟨k, f, gs⟩ := p
    obtain ⟨h1, h2⟩ := h
    cases L with
    | nil => simp at h1
    | cons e L =>
      obtain ⟨e', cs, e1, e2, e3, e4, e5⟩ := h2 0 k f gs rfl
      simp only [List.getElem?_cons_zero, Option.some.injEq] at e1
      subst e1
      by_cases hn : n = k
      · left
        refine ⟨i, e.val, ?_, ?_, ?_⟩
        · simp [Instr.findNow, Instr.sameNow, e2, hn]
        · simp [fmAt, hn]
        · simp only [fmAt, if_pos hn]
          rw [e3]
          refine .clo f cs _ (by simp [e4]) (fun j x hj => ?_)
          rw [List.getElem?_map] at hj
          obtain ⟨g, hg, rfl⟩ := Option.map_eq_some_iff.1 hj
          obtain ⟨b, b1, b2, b3⟩ := e5 j g hg
          rw [b1]
          exact .pur _ _ (.fp b g b2 b3)
      · have hf : fmAt ((k, f, gs) :: l) n = fmAt l n := by simp [fmAt, hn]
        have hr : FmRel w X l L := ⟨by simpa using h1, fun j k' f' gs' hj => by simpa using h2 (j + 1) k' f' gs' (by simpa using hj)⟩
        have hstep : Instr.findNow (.int .i64) (.int .i64 n) (e :: L) i = Instr.findNow (.int .i64) (.int .i64 n) L (i + 1) := by
          have hb : (n == k) = false := by simpa using hn
          simp only [Instr.findNow, Instr.sameNow, e2, if_true, hb]
        rw [hf, hstep]
        exact ih L (i + 1) hr

theorem opLookup_sound {P : Program} {w : World} {X : XT} {ρ : Rho} {t : TypeId} {m k y : AV} {mv kv : Value} {ok : Bool} (hm : VR w X ρ mv m) (hk : VR w X ρ kv k) (h : opLookup P t m k ok = some y) :
    ∃ u, (Instr.lookup t mv kv ok).run P w = .ok u w ∧ VR w X ρ u y := by
  unfold opLookup at h
  split at h
  · rename_i kt et l n hu
    split at h
    · rename_i hkt hz
      cases h
      have hkv : kv = .int .i64 n := by
        cases hk with
        | pur v x hp => cases hp; rfl
      subst hkv
      obtain ⟨z, hz1, hz2, _⟩ := run_tzero hz w
      cases hm with
      | pur v x hp =>
        cases hp with
        | fm hno r _ es clock hX hobj hlen hent =>
          have hrel : FmRel w X l es.toList := ⟨by simpa using hlen, fun i k' f gs hi => by
            obtain ⟨e, cs, q1, q2⟩ := hent i k' f gs hi
            exact ⟨e, cs, by simpa using q1, q2⟩⟩
          have hg : (getObj r).run P w = .ok (.map es clock) w := by simp [getObj, Sem.run, hobj]
          have hck : (Instr.checkKey es.isEmpty 10000 kt (.int .i64 n)).run P w = .ok () w := by
            rw [show (10000 : Nat) = 9999 + 1 from rfl]
            unfold Instr.checkKey
            simp only [Sem.run_bind, run_underlying hkt, Result.andThen_ok]
            rfl
          rcases fm_find (ρ := ρ) n l es.toList 0 hrel with ⟨j, v, q1, q2, q3⟩ | ⟨q1, q2⟩
          · have hfk : (Instr.findKey kt (.int .i64 n) es.toList).run P w = .ok (some (j, v)) w := by
              simp [Instr.findKey, run_underlying hkt, q1]
            refine ⟨if ok then .tuple #[v, .bool true] else v, ?_, ?_⟩
            · simp [Instr.lookup, run_underlying hu, hg, hck, hfk]
            · cases ok
              · exact q3
              · rw [q2]
                simp only [if_true]
                refine .tup _ _ rfl (fun i x hi => ?_)
                match i, hi with
                | 0, hi => simp at hi; subst hi; exact q3
                | 1, hi => simp at hi; subst hi; exact .pur _ _ (.bool _)
          · have hfk : (Instr.findKey kt (.int .i64 n) es.toList).run P w = .ok none w := by
              simp [Instr.findKey, run_underlying hkt, q1]
            have hzr : VR w X ρ z .nilf := by rw [hz2]; exact .pur _ _ (cv_rel w X z)
            refine ⟨if ok then .tuple #[z, .bool false] else z, ?_, ?_⟩
            · simp [Instr.lookup, run_underlying hu, hg, hck, hfk, hz1]
            · rw [q2]
              cases ok
              · exact hzr
              · simp only [if_true]
                refine .tup _ _ rfl (fun i x hi => ?_)
                match i, hi with
                | 0, hi => simp at hi; subst hi; exact hzr
                | 1, hi => simp at hi; subst hi; exact .pur _ _ (.bool _)
    · cases h
  · cases h

theorem alc_same (w : World) (o : Obj) (i : Nat) (h : i < w.heap.size) : (w.alloc o).heap[i]? = w.heap[i]? := by
  show (w.heap.push o)[i]? = w.heap[i]?
  rw [Array.getElem?_push, if_neg (by omega)]

section
variable {P : Program} {w : World} {X Y : XT} {ρ : Rho}
/-! ### A slice becomes a list that is only read -/

/-- Behind the stops of 'l' nothing of the blocks of 'l' is written. -/
def Shut (Y : XT) (ρ : Rho) (H : Heap) (X' : XT) (l : List Nm) : Prop :=
  (∀ c o, X' c o → XU Y ρ H c o) ∧ ∀ g, g ∈ l → ∀ k, get H g = some k → ∀ b, ρ g = some b → ∀ o, o < k.elems.length * k.sz → ¬ X' b o

theorem Shut.of_less {H H' : Heap} (hr : HR Y w ρ H) (hl : Less H' H) {l : List Nm} (hs : ∀ g, g ∈ l → ∀ k, get H g = some k → ∀ k', get H' g = some k' → k.elems.length ≤ k'.frz) : Shut Y ρ H (XU Y ρ H') l :=
  ⟨fun _ _ h => hl.xu h, fun g hg k hk b hb o ho => XX_stopped hr hk hb hl (fun k' hk' => hs g hg k hk k' hk') o ho⟩

theorem Shut.mono {H : Heap} {X' : XT} {l l' : List Nm} (h : Shut Y ρ H X' l) (hs : ∀ g, g ∈ l' → g ∈ l) : Shut Y ρ H X' l' := ⟨h.1, fun g hg => h.2 g (hs g hg)⟩

theorem pure1_rel {H : Heap} (hr : HR Y w ρ H) {x u : AV} {l : List Nm} {v : Value} (hv : VR w (XU Y ρ H) ρ v x) (h : pure1 H x = some (u, l)) {X' : XT} (hX : Shut Y ρ H X' l) : PR w X' v u := by
  have hst : Stable w (XU Y ρ H) w X' := (Stable.refl w _).less fun c o _ h => hX.1 c o h
  cases x with
  | own g sz off len =>
    simp only [pure1] at h
    cases hg : get H g with
    | none => simp [hg] at h
    | some k =>
      simp only [hg] at h
      split at h
      · rename_i hc
        obtain ⟨h1, h2, h3, h4⟩ := hc
        simp only [Option.some.injEq, Prod.mk.injEq] at h
        obtain ⟨rfl, rfl⟩ := h
        rcases hv.ownInv with ⟨a, rfl, rfl⟩ | ⟨b, cap, rfl, hρ, hb, hlc, hk⟩
        · simp only [List.take_zero]
          exact .lst0 _ _ _ _ (fun e => by cases e)
        · subst h3
          refine PR.canon ?_
          exact (hr.at hg hρ).lst h4 h2 hX.1 (hX.2 g (by simp) k hg b hρ) h1 hlc (fun e => by cases e)
      · cases h
  | lst sz xs t =>
    simp only [pure1, Option.some.injEq, Prod.mk.injEq] at h
    obtain ⟨rfl, rfl⟩ := h
    obtain ⟨a, cap, rfl, h1, h2, hp⟩ := hv.lstInv
    have hp := hp.mono hst
    refine PR.canon ?_
    generalize hn : xs.length = n at hp
    cases hp with
    | lst0 a cap sz t ht => exact .lst0 _ _ _ _ (fun e => by cases e)
    | lst b o n cap sz t xs f hn hc ht hsz hx hr => exact .lst b o _ cap sz _ xs f hn hc (fun e => by cases e) hsz hx hr
  | bool b =>
    simp only [pure1, Option.some.injEq, Prod.mk.injEq] at h
    obtain ⟨rfl, rfl⟩ := h
    have := hv.boolInv; subst this; exact .bool _
  | int k n =>
    simp only [pure1, Option.some.injEq, Prod.mk.injEq] at h
    obtain ⟨rfl, rfl⟩ := h
    have := hv.intInv; subst this; exact .int _ _
  | str s =>
    simp only [pure1, Option.some.injEq, Prod.mk.injEq] at h
    obtain ⟨rfl, rfl⟩ := h
    have := hv.strInv; subst this; exact .str _
  | undef =>
    simp only [pure1, Option.some.injEq, Prod.mk.injEq] at h
    obtain ⟨rfl, rfl⟩ := h
    exact .undef _
  | nilp =>
    simp only [pure1, Option.some.injEq, Prod.mk.injEq] at h
    obtain ⟨rfl, rfl⟩ := h
    exact (hv.toPR (.inl rfl)).mono hst
  | nilf =>
    simp only [pure1, Option.some.injEq, Prod.mk.injEq] at h
    obtain ⟨rfl, rfl⟩ := h
    exact (hv.toPR (.inl rfl)).mono hst
  | _ => simp [pure1] at h

theorem pureL_get {H : Heap} : ∀ (xs us : List AV) (l : List Nm), pureL H xs = some (us, l) → us.length = xs.length ∧ ∀ (i : Nat) (x : AV), xs[i]? = some x → ∃ u m, us[i]? = some u ∧ pure1 H x = some (u, m) ∧ ∀ g, g ∈ m → g ∈ l := by
  intro xs
  induction xs with
  | nil => intro us l h; simp [pureL] at h; obtain ⟨rfl, rfl⟩ := h; exact ⟨rfl, fun i x hx => by simp at hx⟩
  | cons x r ih =>
    intro us l h
    simp only [pureL] at h
    cases h1 : pure1 H x with
    | none => simp [h1] at h
    | some p =>
      obtain ⟨y, m⟩ := p
      cases h2 : pureL H r with
      | none => simp [h1, h2] at h
      | some q =>
        obtain ⟨ys, m'⟩ := q
        simp only [h1, h2, Option.some.injEq, Prod.mk.injEq] at h
        obtain ⟨rfl, rfl⟩ := h
        obtain ⟨hl, hg⟩ := ih ys m' h2
        refine ⟨by simp [hl], fun i z hz => ?_⟩
        cases i with
        | zero => simp at hz; subst hz; exact ⟨y, m, rfl, h1, fun g hg => by simp [hg]⟩
        | succ i =>
          obtain ⟨u, m2, a1, a2, a3⟩ := hg i z (by simpa using hz)
          exact ⟨u, m2, by simpa using a1, a2, fun g hg => by simp [a3 g hg]⟩

theorem pureV_rel {H : Heap} (hr : HR Y w ρ H) {x u : AV} {l : List Nm} {v : Value} (hv : VR w (XU Y ρ H) ρ v x) (h : pureV H x = some (u, l)) {X' : XT} (hX : Shut Y ρ H X' l) : PR w X' v u := by
  cases x with
  | agg cs =>
    simp only [pureV] at h
    cases h1 : pureL H cs with
    | none => simp [h1] at h
    | some p =>
      obtain ⟨ys, m⟩ := p
      simp only [h1, Option.some.injEq, Prod.mk.injEq] at h
      obtain ⟨rfl, rfl⟩ := h
      obtain ⟨as, rfl, hn, ho, hc⟩ := hv.aggInv
      obtain ⟨hl, hg⟩ := pureL_get cs ys m h1
      refine .agg as ys (by omega) ho (fun i y hy => ?_)
      have hi : i < cs.length := by rw [← hl]; exact (List.getElem?_eq_some_iff.1 hy).1
      obtain ⟨u, m2, a1, a2, a3⟩ := hg i cs[i] (by simp [hi])
      rw [hy] at a1
      cases a1
      exact pure1_rel hr (hc i cs[i] (by simp [hi])) a2 (hX.mono a3)
  | tup vs => simp [pureV] at h
  | _ => exact pure1_rel hr hv (by simpa [pureV] using h) hX

/-- The cells of a value that leads nowhere. -/
theorem PR.cells {v : Value} {x : AV} (h : PR w X v x) (hk : okV x = true) :
    v.cells.size = x.cells.length ∧ (∀ i, i < v.cells.size → (v.cells.getD i Go.undef).oneCell' = true) ∧ ∀ (j : Nat) (u : AV), x.cells[j]? = some u → PR w X (v.cells.getD j Go.undef) u := by
  obtain ⟨h1, h2, _⟩ := VR.cells (ρ := fun _ => none) (.pur v x h) hk
  refine ⟨h1, h2, fun j u hj => ?_⟩
  cases h with
  | agg cs xs hn ho hc => exact hc j u hj
  | undef v => simp [okV, okC] at hk
  | _ =>
    cases j with
    | zero =>
      simp only [AV.cells, List.getElem?_cons_zero, Option.some.injEq] at hj
      subst hj
      simp only [Value.cells, Array.getD, List.size_toArray, List.length_cons, List.length_nil, Nat.zero_add, Nat.lt_add_one, dite_true]
      constructor <;> assumption
    | succ j => simp [AV.cells] at hj

/-! ### Stores -/

/-- A row of cells of which a piece is written. -/
theorem row_written (cs : Array Value) (o : Nat) (vs : List Value) (h : o + vs.length ≤ cs.size) (i : Nat) :
    ((cs.toList.take o ++ vs ++ cs.toList.drop (o + vs.length)).toArray).getD i undef = if o ≤ i ∧ i < o + vs.length then vs.getD (i - o) undef else cs.getD i undef := by
  have h1 : (cs.toList.take o).length = o := by simp; omega
  simp only [Array.getD_eq_getD_getElem?, List.getElem?_toArray, List.append_assoc]
  by_cases c1 : i < o
  · rw [List.getElem?_append_left (by omega), List.getElem?_take, if_pos c1, if_neg (by omega)]
    simp
  · rw [List.getElem?_append_right (by omega), h1]
    by_cases c2 : i < o + vs.length
    · rw [List.getElem?_append_left (by omega), if_pos ⟨by omega, c2⟩]
      simp [List.getD_eq_getElem?_getD]
    · rw [List.getElem?_append_right (by omega), if_neg (by omega), List.getElem?_drop]
      have : o + vs.length + (i - o - vs.length) = i := by omega
      rw [this]
      simp

theorem row_written_size (cs : Array Value) (o : Nat) (vs : List Value) (h : o + vs.length ≤ cs.size) : ((cs.toList.take o ++ vs ++ cs.toList.drop (o + vs.length)).toArray).size = cs.size := by
  simp; omega

theorem getD_splice (cs : List AV) (off : Nat) (new : List AV) (h : off + new.length ≤ cs.length) (j : Nat) :
    (splice cs off new)[j]? = if off ≤ j ∧ j < off + new.length then new[j - off]? else cs[j]? := by
  unfold splice
  have h1 : (cs.take off).length = off := by simp; omega
  rw [List.append_assoc]
  by_cases c1 : j < off
  · rw [List.getElem?_append_left (by omega), List.getElem?_take, if_pos c1, if_neg (by omega)]
  · rw [List.getElem?_append_right (by omega), h1]
    by_cases c2 : j < off + new.length
    · rw [List.getElem?_append_left (by omega), if_pos ⟨by omega, c2⟩]
    · rw [List.getElem?_append_right (by omega), if_neg (by omega), List.getElem?_drop]
      congr 1
      omega

theorem length_splice (cs : List AV) (off : Nat) (new : List AV) (h : off + new.length ≤ cs.length) : (splice cs off new).length = cs.length := by
  unfold splice
  simp
  omega

theorem newElem_cells {x u x' : AV} {off size sz : Nat} (h : newElem x off size sz u = some x') (hx : x.cells.length = sz) (hu : u.cells.length = size) (hle : off + size ≤ sz) :
    x'.cells.length = sz ∧ ∀ j, x'.cells[j]? = if off ≤ j ∧ j < off + size then u.cells[j - off]? else x.cells[j]? := by
  unfold newElem at h
  split at h
  · rename_i hc
    obtain ⟨rfl, rfl⟩ := hc
    cases h
    refine ⟨hu, fun j => ?_⟩
    by_cases c : j < size
    · rw [if_pos ⟨by omega, by omega⟩]; rfl
    · rw [if_neg (by omega), List.getElem?_eq_none (by omega), List.getElem?_eq_none (by omega)]
  · split at h
    · cases h
      have hl := length_splice x.cells off u.cells (by omega)
      refine ⟨hl.trans hx, fun j => ?_⟩
      have := getD_splice x.cells off u.cells (by omega) j
      rw [hu] at this
      exact this
    · cases h

/-- The elements behind a store. -/
theorem ElemsAt.store {box : Bool} {X' : XT} {cs : Array Value} {sz : Nat} {es : List AV} (he : ElemsAt box w X ρ cs sz es) (hsub : ∀ c o, X' c o → X c o) {i off size : Nat} {x x' u : AV} (hx : es[i]? = some x)
    (hn : newElem x off size sz u = some x') (hu : u.cells.length = size) (hle : off + size ≤ sz) {vs : List Value} (hvs : vs.length = size)
    (hrel : ∀ (j : Nat) (y : AV), u.cells[j]? = some y → (vs.getD j undef).oneCell' = true ∧ CR box w X' ρ (vs.getD j undef) y) :
    ElemsAt box w X' ρ ((cs.toList.take (i * sz + off) ++ vs ++ cs.toList.drop (i * sz + off + vs.length)).toArray) sz (es.set i x') := by
  have hst : Stable w X w X' := (Stable.refl w X).less fun c o _ h => hsub c o h
  obtain ⟨h1, h2⟩ := he
  have hi : i < es.length := (List.getElem?_eq_some_iff.1 hx).1
  have hmul : (i + 1) * sz ≤ es.length * sz := Nat.mul_le_mul_right _ hi
  rw [Nat.add_mul] at hmul
  have hfit : i * sz + off + vs.length ≤ cs.size := by omega
  refine ⟨by rw [row_written_size _ _ _ hfit]; simpa using h1, fun i' y hy => ?_⟩
  rw [List.getElem?_set] at hy
  obtain ⟨hxs, hxc⟩ := h2 i x hx
  obtain ⟨hl', hg'⟩ := newElem_cells hn hxs hu hle
  by_cases e : i = i'
  · subst e
    simp only [if_true, hi] at hy
    cases hy
    refine ⟨hl', fun j z hz => ?_⟩
    rw [hg' j] at hz
    rw [row_written _ _ _ hfit]
    split at hz
    · rename_i c
      rw [if_pos (by omega)]
      have e2 : i * sz + j - (i * sz + off) = j - off := by omega
      rw [e2]
      exact hrel (j - off) z hz
    · rename_i c
      have hjlt : j < sz := by rw [← hxs]; exact (List.getElem?_eq_some_iff.1 hz).1
      rw [if_neg (by omega)]
      exact ⟨(hxc j z hz).1, (hxc j z hz).2.mono hst (fun _ _ h => h)⟩
  · rw [if_neg e] at hy
    obtain ⟨hys, hyc⟩ := h2 i' y hy
    refine ⟨hys, fun j z hz => ?_⟩
    have hjlt : j < sz := by rw [← hys]; exact (List.getElem?_eq_some_iff.1 hz).1
    rw [row_written _ _ _ hfit]
    have hne : ¬ (i * sz + off ≤ i' * sz + j ∧ i' * sz + j < i * sz + off + vs.length) := by
      intro ⟨a1, a2⟩
      rcases Nat.lt_or_gt_of_ne e with h | h
      · have : (i + 1) * sz ≤ i' * sz := Nat.mul_le_mul_right _ h
        rw [Nat.add_mul] at this
        omega
      · have : (i' + 1) * sz ≤ i * sz := Nat.mul_le_mul_right _ h
        rw [Nat.add_mul] at this
        omega
    rw [if_neg hne]
    exact ⟨(hyc j z hz).1, (hyc j z hz).2.mono hst (fun _ _ h => h)⟩

theorem row_written_low (cs : Array Value) (o : Nat) (vs : List Value) (h : o + vs.length ≤ cs.size) (i : Nat) (hi : i < o) :
    ((cs.toList.take o ++ vs ++ cs.toList.drop (o + vs.length)).toArray)[i]? = cs[i]? := by
  have h1 : (cs.toList.take o).length = o := by simp; omega
  rw [List.getElem?_toArray, List.append_assoc, List.getElem?_append_left (by omega), List.getElem?_take, if_pos hi]
  simp

theorem putAll_append : ∀ (a b : List (Nm × Option Blk)) (H : Heap), putAll H (a ++ b) = putAll (putAll H a) b := by
  intro a
  induction a with
  | nil => intro b H; rfl
  | cons p r ih => intro b H; obtain ⟨g, k⟩ := p; exact ih b _

/-- A piece of an element of a block is written. -/
theorem write_sound {H : Heap} (hr : HR Y w ρ H) {g : Nm} {k : Blk} (hg : get H g = some k) {b : Nat} (hρ : ρ g = some b) (hs0 : 0 < k.sz) {i off size : Nat} {x x' u : AV} (hfrz : k.frz ≤ i) (hx : k.elems[i]? = some x)
    (hn : newElem x off size k.sz u = some x') (hu : u.cells.length = size) (hle : off + size ≤ k.sz) {vs : List Value} (hvs : vs.length = size) (ho : ∀ v ∈ vs, v.oneCell' = true)
    (hrel : ∀ (j : Nat) (y : AV), u.cells[j]? = some y → (vs.getD j undef).oneCell' = true ∧ CR k.box w (XU Y ρ H) ρ (vs.getD j undef) y) :
    ∃ w', (storeCells ⟨b, i * k.sz + off, none⟩ vs).run P w = .ok () w' ∧ HR Y w' ρ (set H g (some { k with elems := k.elems.set i x' })) ∧ Stable w (XX ρ H) w' (XX ρ (set H g (some { k with elems := k.elems.set i x' }))) := by
  obtain ⟨cs, T, hh, he⟩ := (hr.at hg hρ).cells hs0
  have hi : i < k.elems.length := (List.getElem?_eq_some_iff.1 hx).1
  have hmul : (i + 1) * k.sz ≤ k.elems.length * k.sz := Nat.mul_le_mul_right _ hi
  rw [Nat.add_mul] at hmul
  have hfit : i * k.sz + off + vs.length ≤ cs.size := by have := he.1; omega
  have hrun := run_storeCells_at P b (i * k.sz + off) T vs 0 cs w hh (by simpa using hfit) ho
  simp only [Nat.add_zero] at hrun
  refine ⟨_, hrun, ?_⟩
  have hlow : k.frz * k.sz ≤ i * k.sz := Nat.mul_le_mul_right _ hfrz
  exact hr.write hg hρ hs0 rfl rfl rfl (by simp) (fun j hj => setRow_other w b j _ hj) hh (setRow_heap w b cs _ T _ hh) (row_written_size _ _ _ hfit)
    (fun o ho => row_written_low _ _ _ hfit o (by omega)) rfl (Nat.le_refl _) (he.store (fun _ _ h => h) hx hn hu hle hvs hrel)

theorem oneAll (cs : Array Value) (h : ∀ i, i < cs.size → (cs.getD i undef).oneCell' = true) : ∀ v ∈ cs.toList, v.oneCell' = true := by
  intro v hv
  obtain ⟨n, hn, rfl⟩ := List.mem_iff_getElem.1 hv
  have hn' : n < cs.size := by simpa using hn
  have := h n hn'
  simp only [Array.getD, hn', dite_true] at this
  simpa using this

theorem toList_getD (cs : Array Value) (j : Nat) : cs.toList.getD j undef = cs.getD j undef := by
  simp [List.getD_eq_getElem?_getD, Array.getD_eq_getD_getElem?]

theorem opStore_sound {H : Heap} (hr : HR Y w ρ H) {t : TypeId} {p x : AV} {v u : Value} {r : Res} (hp : VR w (XU Y ρ H) ρ v p) (hx : VR w (XU Y ρ H) ρ u x) (h : opStore P t p x H = some r) :
    r.new = [] ∧ r.val = .tup [] ∧ ∃ w', (Instr.storeAt t v u).run P w = .ok () w' ∧ HR Y w' ρ (putAll H r.wr) ∧ Stable w (XX ρ H) w' (XX ρ (putAll H r.wr)) := by
  unfold opStore at h
  cases hs : tsize P t with
  | none => simp [hs] at h
  | some size =>
    simp only [hs] at h
    cases p with
    | ptr g sz i off =>
      simp only at h
      cases hg : get H g with
      | none => simp [hg] at h
      | some k =>
        simp only [hg] at h
        split at h
        · rename_i hc
          obtain ⟨hsz, hfrz, hs0⟩ := hc
          cases hi : k.elems[i]? with
          | none => simp [hi] at h
          | some y =>
            simp only [hi] at h
            obtain ⟨b, rfl, hρ⟩ := hp.ptrInv hs0
            subst hsz
            split at h
            · rename_i hbox
              split at h
              · rename_i hc2
                obtain ⟨c1, c2, c3⟩ := hc2
                cases hn : newElem y off size k.sz x with
                | none => simp [hn] at h
                | some x' =>
                  simp only [hn, Option.some.injEq] at h
                  subst h
                  obtain ⟨e1, e2, e3⟩ := hx.cells c3
                  obtain ⟨w', hrun, h1, h2⟩ := write_sound (P := P) hr hg hρ hs0 hfrz hi hn c1 c2 (vs := u.cells.toList) (by simp [e1, c1]) (oneAll _ e2)
                    (fun j z hz => by
                      rw [toList_getD]
                      have hj : j < u.cells.size := by rw [e1]; exact (List.getElem?_eq_some_iff.1 hz).1
                      refine ⟨e2 j hj, ?_⟩
                      rw [hbox]
                      exact e3 j z hz)
                  refine ⟨rfl, rfl, w', ?_, h1, h2⟩
                  have hsize : u.cells.size = size := by rw [e1, c1]
                  simp [Instr.storeAt, Instr.sureAddr, storeVar, run_tsize hs, hsize, hrun]
              · cases h
            · rename_i hbox
              have hbox' : k.box = false := by simpa using hbox
              cases hpv : pureV H x with
              | none => simp [hpv] at h
              | some q =>
                obtain ⟨u', l⟩ := q
                simp only [hpv] at h
                split at h
                · rename_i hc2
                  obtain ⟨c1, c2, c4, c3⟩ := hc2
                  cases hn : newElem y off size k.sz u' with
                  | none => simp [hn] at h
                  | some x' =>
                    simp only [hn, Option.some.injEq] at h
                    subst h
                    have hless : Less (putAll H (stops H l)) H := Less.stops l H (Less.refl H)
                    have hr1 := hr.less hless
                    have hg1 : get (putAll H (stops H l)) g = some k := by rw [get_stops_ne H g l H c4]; exact hg
                    have hpr := pureV_rel hr hx hpv (Shut.of_less hr hless (fun g' hg' k1 hk1 k' hk' => stops_frz H g' hk1 l H hg' k' hk'))
                    obtain ⟨e1, e2, e3⟩ := hpr.cells c3
                    obtain ⟨w', hrun, h1, h2⟩ := write_sound (P := P) hr1 hg1 hρ hs0 hfrz hi hn c1 c2 (vs := u.cells.toList) (by simp [e1, c1]) (oneAll _ e2)
                      (fun j z hz => by
                        rw [toList_getD]
                        have hj : j < u.cells.size := by rw [e1]; exact (List.getElem?_eq_some_iff.1 hz).1
                        refine ⟨e2 j hj, ?_⟩
                        rw [hbox']
                        exact e3 j z hz)
                    refine ⟨rfl, rfl, w', ?_, by rw [putAll_append]; exact h1, by rw [putAll_append]; exact hless.st.trans h2⟩
                    have hsize : u.cells.size = size := by rw [e1, c1]
                    simp [Instr.storeAt, Instr.sureAddr, storeVar, run_tsize hs, hsize, hrun]
                · cases h
        · cases h
    | _ => simp at h

/-! ### New variables -/

theorem opBox_run {H : Heap} (hr : HR Y w ρ H) {slot : Nat} (hf : Free H slot) {t : TypeId} {x : AV} {v : Value} {r : Res} (hv : VR w (XU Y ρ H) ρ v x) (h : opBox P t x slot = some r) :
    ∃ k, 0 < k.sz ∧ r = { val := .ptr (slot, 0) k.sz 0 0, new := [k] } ∧ (newVar t v).run P w = .ok ⟨w.heap.size, 0, none⟩ (w.alloc (.cells v.cells t)) ∧
      HR Y (w.alloc (.cells v.cells t)) (upd ρ (slot, 0) w.heap.size) (H.set slot [some k]) ∧ Stable w (XX ρ H) (w.alloc (.cells v.cells t)) (XX (upd ρ (slot, 0) w.heap.size) (H.set slot [some k])) ∧
      (∀ g c, ρ g = some c → upd ρ (slot, 0) w.heap.size g = some c) := by
  unfold opBox at h
  cases hs : tsize P t with
  | none => simp [hs] at h
  | some size =>
    simp only [hs] at h
    split at h
    · rename_i hc
      obtain ⟨c1, c2, c0⟩ := hc
      cases h
      obtain ⟨e1, e2, e3⟩ := hv.cells c2
      have he : ElemsAt true w (XU Y ρ H) ρ v.cells size [x] := by
        refine ⟨by simp; omega, fun i y hy => ?_⟩
        cases i with
        | zero =>
          simp at hy
          subst hy
          refine ⟨c1, fun j z hz => ?_⟩
          have hj : j < v.cells.size := by rw [e1]; exact (List.getElem?_eq_some_iff.1 hz).1
          simp only [Nat.zero_mul, Nat.zero_add]
          exact ⟨e2 j hj, e3 j z hz⟩
        | succ i => simp at hy
      have hnew := hr.new hf (w1 := w.alloc (.cells v.cells t)) (b := w.heap.size) (Nat.le_refl _) (by simp) rfl rfl rfl (fun i hi => alc_same w _ i hi) ⟨size, [x], 0, true⟩ c0 (heap_alloc_new w _) he
      exact ⟨⟨size, [x], 0, true⟩, c0, rfl, rfl, hnew.1, hnew.2.1, hnew.2.2⟩
    · cases h

/-- The value that 'alloc' and 'box' give. -/
theorem VR.newPtr {w' : World} {X' : XT} {slot sz b : Nat} (hs : 0 < sz) : VR w' X' (upd ρ (slot, 0) b) (.pointer (some ⟨b, 0, none⟩)) (.ptr (slot, 0) sz 0 0) := by
  have h : VR w' X' (upd ρ (slot, 0) b) (.pointer (some ⟨b, 0 * sz + 0, none⟩)) (.ptr (slot, 0) sz 0 0) := .ptr _ _ _ _ _ hs (by simp [upd])
  simpa using h

end
theorem List.run_mapM {α β : Type} {P : Program} {w : World} (f : α → Sem β) (g : α → β) : ∀ (l : List α), (∀ x ∈ l, (f x).run P w = .ok (g x) w) → (l.mapM f).run P w = .ok (l.map g) w := by
  intro l
  induction l with
  | nil => intro _; simp
  | cons x r ih =>
    intro h
    simp only [List.mapM_cons, Sem.run_bind, h x (by simp), Result.andThen_ok, ih (fun y hy => h y (by simp [hy])), Sem.run_pure, List.map_cons]

theorem Array.run_mapM {α β : Type} {P : Program} {w : World} (f : α → Sem β) (g : α → β) (l : Array α) (h : ∀ x ∈ l.toList, (f x).run P w = .ok (g x) w) : (l.mapM f).run P w = .ok (l.map g) w := by
  rw [Array.mapM_eq_mapM_toList, Sem.run_map, List.run_mapM f g l.toList h]
  simp only [Result.andThen_ok]
  congr 1
  apply Array.ext'
  simp

section
variable {P : Program} {w : World} {X Y : XT} {ρ : Rho}
/-! ### Parts laid over cells -/

theorem foldl_set (off : Nat) : ∀ (l : List Value) (k : Nat) (cs : Array Value) (i : Nat), off + k + l.length ≤ cs.size →
    ((l.zipIdx k).foldl (fun cs p => cs.setIfInBounds (off + p.2) p.1) cs).size = cs.size ∧
    ((l.zipIdx k).foldl (fun cs p => cs.setIfInBounds (off + p.2) p.1) cs)[i]? = if off + k ≤ i ∧ i < off + k + l.length then l[i - (off + k)]? else cs[i]? := by
  intro l
  induction l with
  | nil => intro k cs i _; simp; intro; omega
  | cons v r ih =>
    intro k cs i h
    simp only [List.zipIdx_cons, List.foldl_cons]
    obtain ⟨h1, h2⟩ := ih (k + 1) (cs.setIfInBounds (off + k) v) i (by simp at h ⊢; omega)
    refine ⟨by rw [h1]; simp, ?_⟩
    rw [h2]
    simp only [List.length_cons] at h ⊢
    by_cases c1 : off + k = i
    · subst c1
      have hlt : off + k < cs.size := by omega
      have a1 : ¬ (off + (k + 1) ≤ off + k ∧ off + k < off + (k + 1) + r.length) := by omega
      have a2 : off + k ≤ off + k ∧ off + k < off + k + (r.length + 1) := by omega
      rw [if_neg a1, if_pos a2, Array.getElem?_setIfInBounds]
      simp [hlt]
    · by_cases c2 : off + (k + 1) ≤ i ∧ i < off + (k + 1) + r.length
      · have a2 : off + k ≤ i ∧ i < off + k + (r.length + 1) := by omega
        rw [if_pos c2, if_pos a2]
        have : i - (off + k) = (i - (off + (k + 1))) + 1 := by omega
        rw [this]
        simp
      · have a2 : ¬ (off + k ≤ i ∧ i < off + k + (r.length + 1)) := by omega
        rw [if_neg c2, if_neg a2, Array.getElem?_setIfInBounds]
        simp [c1]

theorem fill_row (off : Nat) (vs cs : Array Value) (h : off + vs.size ≤ cs.size) :
    vs.zipIdx.foldl (fun cs p => cs.setIfInBounds (off + p.2) p.1) cs = (cs.toList.take off ++ vs.toList ++ cs.toList.drop (off + vs.toList.length)).toArray := by
  have e : vs.zipIdx.foldl (fun cs p => cs.setIfInBounds (off + p.2) p.1) cs = (vs.toList.zipIdx 0).foldl (fun cs p => cs.setIfInBounds (off + p.2) p.1) cs := by
    rw [← Array.foldl_toList, Array.toList_zipIdx]
  rw [e]
  apply Array.ext_getElem?
  intro i
  have hl : off + 0 + vs.toList.length ≤ cs.size := by simpa using h
  rw [(foldl_set off vs.toList 0 cs i hl).2]
  have hl' : off + vs.toList.length ≤ cs.size := by simpa using h
  have h1 : (cs.toList.take off).length = off := by simp; omega
  conv => rhs; rw [List.getElem?_toArray, List.append_assoc]
  by_cases c1 : i < off
  · rw [List.getElem?_append_left (by omega), List.getElem?_take, if_pos c1, if_neg (by omega)]
    simp
  · rw [List.getElem?_append_right (by omega), h1]
    by_cases c2 : i < off + vs.toList.length
    · have a : off + 0 ≤ i ∧ i < off + 0 + vs.toList.length := by omega
      rw [List.getElem?_append_left (by omega), if_pos a]
      rfl
    · rw [List.getElem?_append_right (by omega), if_neg (by omega), List.getElem?_drop]
      have : off + vs.toList.length + (i - off - vs.toList.length) = i := by omega
      rw [this]
      simp

/-- The cells of a struct. -/
structure AggRel (w : World) (X : XT) (ρ : Rho) (cs : Array Value) (xs : List AV) : Prop where
  size : cs.size = xs.length
  one : ∀ i, i < cs.size → (cs.getD i undef).oneCell' = true
  rel : ∀ (i : Nat) (x : AV), xs[i]? = some x → VR w X ρ (cs.getD i undef) x

theorem AggRel.splice {cs : Array Value} {xs : List AV} (h : AggRel w X ρ cs xs) {vs : Array Value} {us : List AV} (k : AggRel w X ρ vs us) {off : Nat} (hle : off + us.length ≤ xs.length) :
    AggRel w X ρ (vs.zipIdx.foldl (fun cs p => cs.setIfInBounds (off + p.2) p.1) cs) (Abs.splice xs off us) := by
  have hv : off + vs.toList.length ≤ cs.size := by have := h.size; have := k.size; simp; omega
  rw [fill_row off vs cs (by simpa using hv)]
  have hlen : vs.toList.length = us.length := by simp [k.size]
  refine ⟨by rw [row_written_size _ _ _ hv, length_splice _ _ _ hle, h.size], fun i hi => ?_, fun i x hx => ?_⟩
  · rw [row_written_size _ _ _ hv] at hi
    rw [row_written _ _ _ hv]
    by_cases c : off ≤ i ∧ i < off + vs.toList.length
    · rw [if_pos c, toList_getD]
      have hl : vs.toList.length = vs.size := by simp
      exact k.one _ (by omega)
    · rw [if_neg c]
      exact h.one _ hi
  · rw [getD_splice _ _ _ hle] at hx
    rw [row_written _ _ _ hv, hlen]
    split at hx
    · rename_i c
      rw [if_pos c, toList_getD]
      exact k.rel _ _ hx
    · rename_i c
      rw [if_neg c]
      exact h.rel _ _ hx

theorem VR.aggRel {v : Value} {x : AV} (h : VR w X ρ v x) (hk : okV x = true) : AggRel w X ρ v.cells x.cells := by
  obtain ⟨h1, h2, h3⟩ := h.cells hk
  exact ⟨h1, h2, h3⟩

/-- The parts of a literal. -/
def PartsRel (w : World) (X : XT) (ρ : Rho) (vs : List (Nat × Value)) (xs : List (Nat × AV)) : Prop :=
  vs.length = xs.length ∧ ∀ (n i : Nat) (x : AV), xs[n]? = some (i, x) → ∃ v, vs[n]? = some (i, v) ∧ VR w X ρ v x

theorem PartsRel.cons {vs : List (Nat × Value)} {i : Nat} {x : AV} {xs : List (Nat × AV)} (h : PartsRel w X ρ vs ((i, x) :: xs)) : ∃ v r, vs = (i, v) :: r ∧ VR w X ρ v x ∧ PartsRel w X ρ r xs := by
  obtain ⟨h1, h2⟩ := h
  cases vs with
  | nil => simp at h1
  | cons p r =>
    obtain ⟨v, hv, hr⟩ := h2 0 i x rfl
    simp at hv
    subst hv
    exact ⟨v, r, rfl, hr, by simpa using h1, fun n i x hx => by simpa using h2 (n + 1) i x (by simpa using hx)⟩

theorem fillA_sound (placeA placeC : Nat → Option (Nat × Nat)) (hp : ∀ i p, placeA i = some p → placeC i = some p) : ∀ (xs : List (Nat × AV)) (vs : List (Nat × Value)) (cs : Array Value) (cells ys : List AV),
    AggRel w X ρ cs cells → PartsRel w X ρ vs xs → fillA placeA cells xs = some ys → ∃ cs', Instr.fill placeC cs vs = some cs' ∧ AggRel w X ρ cs' ys := by
  intro xs
  induction xs with
  | nil =>
    intro vs cs cells ys h hv hf
    have : vs = [] := List.eq_nil_of_length_eq_zero (by simpa using hv.1)
    subst this
    simp [fillA] at hf
    subst hf
    exact ⟨cs, rfl, h⟩
  | cons p r ih =>
    intro vs cs cells ys h hv hf
    obtain ⟨i, x⟩ := p
    obtain ⟨v, vr, rfl, hvx, hvr⟩ := hv.cons
    simp only [fillA] at hf
    cases hpl : placeA i with
    | none => simp [hpl] at hf
    | some q =>
      obtain ⟨off, size⟩ := q
      simp only [hpl] at hf
      split at hf
      · rename_i hc
        obtain ⟨c1, c2, c3⟩ := hc
        have hva := hvx.aggRel c3
        obtain ⟨cs', h1, h2⟩ := ih vr _ _ ys (h.splice hva (by omega)) hvr hf
        refine ⟨cs', ?_, h2⟩
        have e1 : v.cells.size = size := by rw [hva.size, c1]
        have e2 : ¬ (off + v.cells.size > cs.size) := by rw [e1, h.size]; omega
        simp only [Instr.fill, hp i _ hpl]
        rw [if_neg (by simp [e1]; rw [h.size]; omega)]
        exact h1
      · cases hf

theorem opBuild_sound {t : TypeId} {ps : List (Nat × AV)} {vs : Array (Nat × Value)} {z : AV} (hv : PartsRel w X ρ vs.toList ps) (h : opBuild P t ps = some z) :
    ∃ v, (Instr.build t vs).run P w = .ok v w ∧ VR w X ρ v z := by
  unfold opBuild at h
  cases hz : tzero P t with
  | none => simp [hz] at h
  | some zz =>
    cases zz with
    | agg zs =>
      obtain ⟨zv, hrun, hcv, _⟩ := run_tzero hz w
      have hzr : AggRel w X ρ zv.cells zs := by
        have h1 : VR w X ρ zv (.agg zs) := by rw [hcv]; exact .pur _ _ (cv_rel w X zv)
        exact h1.aggRel rfl
      cases hd : P.underlying t with
      | none => simp [hz, hd] at h
      | some d =>
        cases d with
        | struct fs =>
          simp only [hz, hd] at h
          split at h
          · cases h
          · rename_i hall
            obtain ⟨ys, hy, rfl⟩ := Option.map_eq_some_iff.1 h
            have hsz : ∀ f ∈ fs.toList, (do pure (f.offset, ← sizeOf f.type) : Sem (Nat × Nat)).run P w = .ok (f.offset, (tsize P f.type).getD 0) w := by
              intro f hf
              have : (tsize P f.type).isSome = true := by
                have hall' : fs.toList.all (fun f => (tsize P f.type).isSome) = true := by
                  cases hq : fs.toList.all (fun f => (tsize P f.type).isSome) with
                  | true => rfl
                  | false => rw [hq] at hall; simp at hall
                rw [List.all_eq_true] at hall'
                exact hall' f hf
              obtain ⟨n, hn⟩ := Option.isSome_iff_exists.1 this
              simp [run_tsize hn, hn]
            have hm := Array.run_mapM (P := P) (w := w) _ (fun f => (f.offset, (tsize P f.type).getD 0)) fs hsz
            obtain ⟨cs', h1, h2⟩ := fillA_sound _ (fun i => (fs.map fun f => (f.offset, (tsize P f.type).getD 0))[i]?) (fun i p hp => by
              cases hf : fs[i]? with
              | none => simp [hf] at hp
              | some f =>
                simp only [hf] at hp
                obtain ⟨n, hn, rfl⟩ := Option.map_eq_some_iff.1 hp
                simp [hf, hn]) ps vs.toList zv.cells zs ys hzr hv hy
            refine ⟨.agg cs', ?_, .agg _ _ h2.size h2.one h2.rel⟩
            simp only [Instr.build, Sem.run_bind, hrun, run_underlying hd, hm, Result.andThen_ok, h1, Sem.run_pure]
        | array n e =>
          simp only [hz, hd] at h
          cases hs : tsize P e with
          | none => simp [hs] at h
          | some s =>
            simp only [hs] at h
            obtain ⟨ys, hy, rfl⟩ := Option.map_eq_some_iff.1 h
            obtain ⟨cs', h1, h2⟩ := fillA_sound _ (fun i => some (i * s, s)) (fun i p hp => hp) ps vs.toList zv.cells zs ys hzr hv hy
            refine ⟨.agg cs', ?_, .agg _ _ h2.size h2.one h2.rel⟩
            simp [Instr.build, hrun, run_underlying hd, run_tsize hs, h1]
        | _ => simp [hz, hd] at h
    | _ => simp [hz] at h

/-! ### Rows of zeros -/

theorem zeros_get (zero : Array Value) (n size : Nat) (hz : zero.size = size) (hs : 0 < size) (i j : Nat) (hi : i < n) (hj : j < size) :
    ((Array.range (n * size)).map (zero[· % zero.size]!)).getD (i * size + j) undef = zero.getD j undef := by
  have hlt : i * size + j < n * size := by
    have : (i + 1) * size ≤ n * size := Nat.mul_le_mul_right _ hi
    rw [Nat.add_mul] at this
    omega
  have hm : (i * size + j) % zero.size = j := by
    rw [hz, Nat.mul_comm, Nat.mul_add_mod, Nat.mod_eq_of_lt hj]
  simp only [Array.getD_eq_getD_getElem?, Array.getElem?_map, Array.getElem?_range, hlt, if_true, Option.map_some, Option.getD_some, hm]
  have : j < zero.size := by omega
  simp [this, getElem!_pos]

theorem elems_replicate {zv : Value} {z : AV} {size n m : Nat} (hz : PR w X zv z) (hk : okV z = true) (hsz : z.cells.length = size) (hs : 0 < size) (hnm : n ≤ m) :
    ElemsAt false w X ρ ((Array.range (m * size)).map (zv.cells[· % zv.cells.size]!)) size (List.replicate n z) := by
  obtain ⟨e1, e2, e3⟩ := hz.cells hk
  have hzs : zv.cells.size = size := by omega
  refine ⟨by simp; exact Nat.mul_le_mul_right _ hnm, fun i x hx => ?_⟩
  have hi : i < n := by simpa using (List.getElem?_eq_some_iff.1 hx).1
  have hx' : x = z := by
    rw [List.getElem?_replicate, if_pos hi] at hx
    cases hx; rfl
  subst hx'
  refine ⟨hsz, fun j u hj => ?_⟩
  have hj' : j < size := by rw [← hsz]; exact (List.getElem?_eq_some_iff.1 hj).1
  rw [zeros_get zv.cells m size hzs hs i j (by omega) hj']
  exact ⟨e2 j (by omega), e3 j u hj⟩

/-! ### A slice literal -/

theorem fillS_sub {H : Heap} {size : Nat} {agg : Bool} : ∀ (xs : List (Nat × AV)) (es es' : List AV) (l l' : List Nm), fillS H size agg es l xs = some (es', l') → es'.length = es.length ∧ ∀ g, g ∈ l → g ∈ l' := by
  intro xs
  induction xs with
  | nil => intro es es' l l' h; simp [fillS] at h; obtain ⟨rfl, rfl⟩ := h; exact ⟨rfl, fun g h => h⟩
  | cons p r ih =>
    intro es es' l l' h
    obtain ⟨i, x⟩ := p
    simp only [fillS] at h
    cases hp : pureV H x with
    | none => simp [hp] at h
    | some q =>
      obtain ⟨u, m⟩ := q
      simp only [hp] at h
      split at h
      · obtain ⟨h1, h2⟩ := ih _ _ _ _ h
        exact ⟨by simpa using h1, fun g hg => h2 g (by simp [hg])⟩
      · cases h

theorem fillS_sound {H : Heap} (hr : HR Y w ρ H) {size : Nat} {agg : Bool} {X' : XT} : ∀ (xs : List (Nat × AV)) (vs : List (Nat × Value)) (cs : Array Value) (es es' : List AV) (l l' : List Nm),
    cs.size = es.length * size → ElemsAt false w X' ρ cs size es → PartsRel w (XU Y ρ H) ρ vs xs → fillS H size agg es l xs = some (es', l') → Shut Y ρ H X' l' →
    ∃ cs', Instr.fill (fun i => some (i * size, size)) cs vs = some cs' ∧ cs'.size = es'.length * size ∧ ElemsAt false w X' ρ cs' size es' := by
  intro xs
  induction xs with
  | nil =>
    intro vs cs es es' l l' hc he hv h _
    have : vs = [] := List.eq_nil_of_length_eq_zero (by simpa using hv.1)
    subst this
    simp [fillS] at h
    obtain ⟨rfl, rfl⟩ := h
    exact ⟨cs, rfl, hc, he⟩
  | cons p r ih =>
    intro vs cs es es' l l' hc he hv h hX
    obtain ⟨i, x⟩ := p
    obtain ⟨v, vr, rfl, hvx, hvr⟩ := hv.cons
    simp only [fillS] at h
    cases hp : pureV H x with
    | none => simp [hp] at h
    | some q =>
      obtain ⟨u, m⟩ := q
      simp only [hp] at h
      split at h
      · rename_i hcc
        obtain ⟨c1, c2, c3, c4⟩ := hcc
        obtain ⟨hlen, hsub⟩ := fillS_sub r _ _ _ _ h
        have hpr := pureV_rel hr hvx hp (hX.mono (fun g hg => hsub g (by simp [hg])))
        obtain ⟨e1, e2, e3⟩ := hpr.cells c4
        have hvs : v.cells.toList.length = size := by simp [e1, c1]
        obtain ⟨y, hy⟩ : ∃ y, es[i]? = some y := ⟨es[i], by simp [c3]⟩
        have hst := he.store (X' := X') (fun _ _ h => h) hy (off := 0) (size := size) (x' := u) (u := u) (by simp [newElem]) c1 (by omega) hvs (fun j z hz => by
          rw [toList_getD]
          have hj : j < v.cells.size := by rw [e1]; exact (List.getElem?_eq_some_iff.1 hz).1
          exact ⟨e2 j hj, e3 j z hz⟩)
        simp only [Nat.add_zero] at hst
        have hmul : (i + 1) * size ≤ es.length * size := Nat.mul_le_mul_right _ c3
        rw [Nat.add_mul] at hmul
        have hfit : i * size + v.cells.toList.length ≤ cs.size := by omega
        have hfit' : i * size + v.cells.size ≤ cs.size := by simpa using hfit
        rw [← fill_row (i * size) v.cells cs hfit'] at hst
        have hcs : (v.cells.zipIdx.foldl (fun cs p => cs.setIfInBounds (i * size + p.2) p.1) cs).size = (es.set i u).length * size := by
          rw [fill_row _ _ _ hfit', row_written_size _ _ _ hfit, hc]; simp
        obtain ⟨cs', h1, h2, h3⟩ := ih vr _ _ _ _ _ hcs hst hvr h hX
        refine ⟨cs', ?_, h2, h3⟩
        simp only [Instr.fill]
        rw [if_neg (by simp [e1, c1]; omega)]
        exact h1
      · cases h

/-- What an operation leaves that makes one block or none. -/
structure Gives (P : Program) (Y : XT) (w : World) (ρ : Rho) (H : Heap) (slot : Nat) (r : Res) (s : Sem Value) : Prop where
  out : ∃ v w' ρ', s.run P w = .ok v w' ∧ Made Y w ρ H w' ρ' ((putAll H r.wr).set slot (r.new.map some)) v r.val

theorem Gives.block {H : Heap} {slot : Nat} {r : Res} {s : Sem Value} {k : Blk} (hk : r.new = [k]) {v : Value} {w' : World} {ρ' : Rho} (hrun : s.run P w = .ok v w')
    (h : Made Y w ρ H w' ρ' ((putAll H r.wr).set slot [some k]) v r.val) : Gives P Y w ρ H slot r s := ⟨v, w', ρ', hrun, by rw [hk]; exact h⟩

/-- A new block behind stops. -/
theorem made_new {H H1 : Heap} (hr : HR Y w ρ H) (hl : Less H1 H) {slot : Nat} (hf : Free H1 slot) {w1 : World} {b : Nat} (hb : w.heap.size ≤ b) (hb1 : b < w1.heap.size)
    (hos : w1.os = w.os) (htape : w1.tape = w.tape) (hout : w1.output = w.output) (hold : ∀ i, i < w.heap.size → w1.heap[i]? = w.heap[i]?)
    (k : Blk) (h0 : 0 < k.sz) {cs : Array Value} {T : TypeId} (hc : w1.heap[b]? = some (.cells cs T (0, 0))) (he : ElemsAt k.box w (XU Y ρ H1) ρ cs k.sz k.elems) {v : Value} {x : AV}
    (hv : ∀ X', VR w1 X' (upd ρ (slot, 0) b) v x) : Made Y w ρ H w1 (upd ρ (slot, 0) b) (H1.set slot [some k]) v x := by
  obtain ⟨h1, h2, h3⟩ := (hr.less hl).new hf hb hb1 hos htape hout hold k h0 hc he
  exact ⟨h1, hv _, hl.st.trans h2, h3⟩

theorem VR.newOwn {w1 : World} {X' : XT} {slot b sz len cap : Nat} {cs : Array Value} {T : TypeId} (hc : w1.heap[b]? = some (.cells cs T (0, 0))) (hl : len ≤ cap) (hs : cap * sz ≤ cs.size) :
    VR w1 X' (upd ρ (slot, 0) b) (.slice (some ⟨b, 0, none⟩) len cap) (.own (slot, 0) sz 0 len) := by
  have hb : b < w1.heap.size := (Array.getElem?_eq_some_iff.1 hc).1
  have h : VR w1 X' (upd ρ (slot, 0) b) (.slice (some ⟨b, 0 * sz, none⟩) len cap) (.own (slot, 0) sz 0 len) := .own _ _ _ _ _ _ (by simp [upd]) hb hl (by simp [bsize, hc]; exact hs)
  simpa using h

theorem opBuildSlice_sound {H : Heap} (hr : HR Y w ρ H) {slot : Nat} (hf : Free H slot) {t : TypeId} {n : Nat} {ps : List (Nat × AV)} {vs : Array (Nat × Value)} {r : Res}
    (hv : PartsRel w (XU Y ρ H) ρ vs.toList ps) (h : opBuildSlice P t n ps H slot = some r) : Gives P Y w ρ H slot r (Instr.buildSlice t n vs) := by
  unfold opBuildSlice at h
  cases he : telem P t with
  | none => simp [he] at h
  | some e =>
    simp only [he] at h
    cases hs : tsize P e with
    | none => simp [hs] at h
    | some size =>
      cases ha : tagg P e with
      | none => simp [hs, ha] at h
      | some agg =>
        cases hz : tzeroP P e with
        | none => simp [hs, ha, hz] at h
        | some z =>
          simp only [hs, ha, hz] at h
          split at h
          · rename_i hc
            obtain ⟨c1, c2, c3, c4⟩ := hc
            cases hfl : fillS H size agg (List.replicate n z) [] ps with
            | none => simp [hfl] at h
            | some q =>
              obtain ⟨es, l⟩ := q
              simp only [hfl, Option.some.injEq] at h
              subst h
              obtain ⟨zv, hrun, hcv, _⟩ := run_tzeroP hz w
              have hless : Less (putAll H (stops H l)) H := Less.stops l H (Less.refl H)
              have hshut : Shut Y ρ H (XU Y ρ (putAll H (stops H l))) l := Shut.of_less hr hless (fun g' hg' k1 hk1 k' hk' => stops_frz H g' hk1 l H hg' k' hk')
              have hzr : ∀ X', PR w X' zv z := fun X' => by rw [hcv]; exact (cv_rel w X' zv).nt
              have hlen := (fillS_sub ps _ _ _ _ hfl).1
              -- the row of zeros
              obtain ⟨zero, hzero, hzs, hze⟩ : ∃ zero : Array Value, ((n * size = 0 ∧ zero = #[]) ∨ (¬ n * size = 0 ∧ zero = zv.cells)) ∧
                  ((Array.range (n * size)).map (zero[· % zero.size]!)).size = (List.replicate n z).length * size ∧
                  ElemsAt false w (XU Y ρ (putAll H (stops H l))) ρ ((Array.range (n * size)).map (zero[· % zero.size]!)) size (List.replicate n z) := by
                by_cases h0 : n * size = 0
                · have hn : n = 0 := by
                    rcases Nat.mul_eq_zero.1 h0 with h | h
                    · exact h
                    · omega
                  subst hn
                  refine ⟨#[], .inl ⟨h0, rfl⟩, by simp, by simp, fun i x hx => by simp at hx⟩
                · refine ⟨zv.cells, .inr ⟨h0, rfl⟩, by simp, ?_⟩
                  exact elems_replicate (hzr _) c4 c3 c2 (Nat.le_refl _)
              obtain ⟨cs', f1, f2, f3⟩ := fillS_sound hr ps vs.toList _ _ _ _ _ hzs hze hv hfl hshut
              have hfr : Free (putAll H (stops H l)) slot := hf.putAll _
              refine Gives.block (k := ⟨size, es, 0, false⟩) rfl (v := .slice (some ⟨w.heap.size, 0, none⟩) n n) (w' := w.alloc (.cells cs' e)) (ρ' := upd ρ (slot, 0) w.heap.size) ?_ ?_
              · have : ¬ (n * size > 2 ^ 24) := by omega
                rcases hzero with ⟨h0, rfl⟩ | ⟨h0, rfl⟩
                · simp only [Instr.buildSlice, Sem.run_bind, run_underlying (telem_un he), Result.andThen_ok, run_tsize hs, if_neg this, if_pos h0, Sem.run_pure, f1, newRow, run_newObj]
                  rfl
                · simp only [Instr.buildSlice, Sem.run_bind, run_underlying (telem_un he), Result.andThen_ok, run_tsize hs, if_neg this, if_neg h0, Sem.run_pure, hrun, f1, newRow, run_newObj]
                  rfl
              · refine made_new (w1 := w.alloc (.cells cs' e)) hr hless hfr (Nat.le_refl _) (by simp) rfl rfl rfl (fun i hi => alc_same w _ i hi) ⟨size, es, 0, false⟩ (show 0 < size by omega) (heap_alloc_new w _) f3 (fun X' => ?_)
                refine VR.newOwn (heap_alloc_new w _) (Nat.le_refl _) ?_
                rw [f2, hlen]; simp
          · cases h

theorem fillX_length {size : Nat} {agg : Bool} : ∀ (xs : List (Nat × AV)) (es es' : List AV), fillX size agg es xs = some es' → es'.length = es.length := by
  intro xs
  induction xs with
  | nil => intro es es' h; simp [fillX] at h; subst h; rfl
  | cons p r ih =>
    intro es es' h
    obtain ⟨i, x⟩ := p
    simp only [fillX] at h
    split at h
    · have := ih _ _ h; simpa using this
    · cases h

theorem fillX_sound {X : XT} {size : Nat} {agg : Bool} : ∀ (xs : List (Nat × AV)) (vs : List (Nat × Value)) (cs : Array Value) (es es' : List AV),
    cs.size = es.length * size → ElemsAt true w X ρ cs size es → PartsRel w X ρ vs xs → fillX size agg es xs = some es' →
    ∃ cs', Instr.fill (fun i => some (i * size, size)) cs vs = some cs' ∧ cs'.size = es'.length * size ∧ ElemsAt true w X ρ cs' size es' := by
  intro xs
  induction xs with
  | nil =>
    intro vs cs es es' hc he hv h
    have : vs = [] := List.eq_nil_of_length_eq_zero (by simpa using hv.1)
    subst this
    simp [fillX] at h
    subst h
    exact ⟨cs, rfl, hc, he⟩
  | cons p r ih =>
    intro vs cs es es' hc he hv h
    obtain ⟨i, x⟩ := p
    obtain ⟨v, vr, rfl, hvx, hvr⟩ := hv.cons
    simp only [fillX] at h
    split at h
    · rename_i hcc
      obtain ⟨c1, c2, c3, c4⟩ := hcc
      obtain ⟨e1, e2, e3⟩ := hvx.cells c4
      have hvs : v.cells.toList.length = size := by simp [e1, c1]
      obtain ⟨y, hy⟩ : ∃ y, es[i]? = some y := ⟨es[i], by simp [c3]⟩
      have hst := he.store (X' := X) (fun _ _ h => h) hy (off := 0) (size := size) (x' := x) (u := x) (by simp [newElem]) c1 (by omega) hvs (fun j z hz => by
        rw [toList_getD]
        have hj : j < v.cells.size := by rw [e1]; exact (List.getElem?_eq_some_iff.1 hz).1
        exact ⟨e2 j hj, e3 j z hz⟩)
      simp only [Nat.add_zero] at hst
      have hmul : (i + 1) * size ≤ es.length * size := Nat.mul_le_mul_right _ c3
      rw [Nat.add_mul] at hmul
      have hfit : i * size + v.cells.toList.length ≤ cs.size := by omega
      have hfit' : i * size + v.cells.size ≤ cs.size := by simpa using hfit
      rw [← fill_row (i * size) v.cells cs hfit'] at hst
      have hcs : (v.cells.zipIdx.foldl (fun cs p => cs.setIfInBounds (i * size + p.2) p.1) cs).size = (es.set i x).length * size := by
        rw [fill_row _ _ _ hfit', row_written_size _ _ _ hfit, hc]; simp
      obtain ⟨cs', h1, h2, h3⟩ := ih vr _ _ _ hcs hst hvr h
      refine ⟨cs', ?_, h2, h3⟩
      simp only [Instr.fill]
      rw [if_neg (by simp [e1, c1]; omega)]
      exact h1
    · cases h

theorem opBuildSliceX_sound {H : Heap} (hr : HR Y w ρ H) {slot : Nat} (hf : Free H slot) {t : TypeId} {n : Nat} {ps : List (Nat × AV)} {vs : Array (Nat × Value)} {r : Res}
    (hv : PartsRel w (XU Y ρ H) ρ vs.toList ps) (h : opBuildSliceX P t n ps slot = some r) : Gives P Y w ρ H slot r (Instr.buildSlice t n vs) := by
  unfold opBuildSliceX at h
  cases he : telem P t with
  | none => simp [he] at h
  | some e =>
    simp only [he] at h
    cases hs : tsize P e with
    | none => simp [hs] at h
    | some size =>
      cases ha : tagg P e with
      | none => simp [hs, ha] at h
      | some agg =>
        cases hz : tzero P e with
        | none => simp [hs, ha, hz] at h
        | some z =>
          simp only [hs, ha, hz] at h
          split at h
          · rename_i hc
            obtain ⟨c1, c2, c3, c4⟩ := hc
            cases hfl : fillX size agg (List.replicate n z) ps with
            | none => simp [hfl] at h
            | some es =>
              simp only [hfl, Option.some.injEq] at h
              subst h
              obtain ⟨zv, hrun, hcv, _⟩ := run_tzero hz w
              have hzr : ∀ X', PR w X' zv z := fun X' => by rw [hcv]; exact cv_rel w X' zv
              have hlen := fillX_length ps _ _ hfl
              obtain ⟨zero, hzero, hzs, hze⟩ : ∃ zero : Array Value, ((n * size = 0 ∧ zero = #[]) ∨ (¬ n * size = 0 ∧ zero = zv.cells)) ∧
                  ((Array.range (n * size)).map (zero[· % zero.size]!)).size = (List.replicate n z).length * size ∧
                  ElemsAt true w (XU Y ρ H) ρ ((Array.range (n * size)).map (zero[· % zero.size]!)) size (List.replicate n z) := by
                by_cases h0 : n * size = 0
                · have hn : n = 0 := by
                    rcases Nat.mul_eq_zero.1 h0 with h | h
                    · exact h
                    · omega
                  subst hn
                  refine ⟨#[], .inl ⟨h0, rfl⟩, by simp, by simp, fun i x hx => by simp at hx⟩
                · refine ⟨zv.cells, .inr ⟨h0, rfl⟩, by simp, ?_⟩
                  have := elems_replicate (ρ := ρ) (hzr (XU Y ρ H)) c4 c3 c2 (Nat.le_refl n)
                  exact ⟨this.1, fun i x hi => ⟨(this.2 i x hi).1, fun j u hj => ⟨((this.2 i x hi).2 j u hj).1, ((this.2 i x hi).2 j u hj).2.vr⟩⟩⟩
              obtain ⟨cs', f1, f2, f3⟩ := fillX_sound ps vs.toList _ _ _ hzs hze hv hfl
              refine Gives.block (k := ⟨size, es, 0, true⟩) rfl (v := .slice (some ⟨w.heap.size, 0, none⟩) n n) (w' := w.alloc (.cells cs' e)) (ρ' := upd ρ (slot, 0) w.heap.size) ?_ ?_
              · have : ¬ (n * size > 2 ^ 24) := by omega
                rcases hzero with ⟨h0, rfl⟩ | ⟨h0, rfl⟩
                · simp only [Instr.buildSlice, Sem.run_bind, run_underlying (telem_un he), Result.andThen_ok, run_tsize hs, if_neg this, if_pos h0, Sem.run_pure, f1, newRow, run_newObj]
                  rfl
                · simp only [Instr.buildSlice, Sem.run_bind, run_underlying (telem_un he), Result.andThen_ok, run_tsize hs, if_neg this, if_neg h0, Sem.run_pure, hrun, f1, newRow, run_newObj]
                  rfl
              · refine made_new (w1 := w.alloc (.cells cs' e)) hr (Less.refl H) hf (Nat.le_refl _) (by simp) rfl rfl rfl (fun i hi => alc_same w _ i hi) ⟨size, es, 0, true⟩ (show 0 < size by omega) (heap_alloc_new w _) f3 (fun X' => ?_)
                by_cases hn0 : n = 0
                · subst hn0
                  exact .pur _ _ (.lst0 _ _ _ _ (fun _ => rfl))
                · simp only [if_neg hn0]
                  refine VR.newOwn (heap_alloc_new w _) (Nat.le_refl _) ?_
                  rw [f2, hlen]; simp
          · cases h

theorem opMakeSlice_sound {H : Heap} (hr : HR Y w ρ H) {slot : Nat} (hf : Free H slot) {t : TypeId} {l c : AV} {vl vc : Value} {r : Res}
    (hl : VR w (XU Y ρ H) ρ vl l) (hc : VR w (XU Y ρ H) ρ vc c) (h : opMakeSlice P t l c slot = some r) : Gives P Y w ρ H slot r (Instr.makeSlice t vl vc) := by
  unfold opMakeSlice at h
  cases he : telem P t with
  | none => simp [he] at h
  | some e =>
    cases l <;> simp [he] at h
    rename_i kl n
    cases c <;> simp at h
    rename_i kc m
    have e1 := hl.intInv; subst e1
    have e2 := hc.intInv; subst e2
    cases hs : tsize P e with
    | none => simp [hs] at h
    | some size =>
      cases hby : tbytes P e with
      | none => simp [hs, hby] at h
      | some bytes =>
        cases hz : tzeroP P e with
        | none => simp [hs, hby, hz] at h
        | some z =>
          simp only [hs, hby, hz] at h
          split at h
          · rename_i hcc
            obtain ⟨c0, c1, c2, c3, c4, c5, c6⟩ := hcc
            cases h
            obtain ⟨zv, hrun, hcv, _⟩ := run_tzeroP hz w
            have hzr : ∀ X', PR w X' zv z := fun X' => by rw [hcv]; exact (cv_rel w X' zv).nt
            obtain ⟨ti, hti, hbb, hrb⟩ := run_tbytes hby w
            have wn : IntKind.i64.wrap n = n := IntWalk.i64_in n (by omega)
            have wm : IntKind.i64.wrap m = m := IntWalk.i64_in m (by omega)
            obtain ⟨zero, hzero, hze⟩ : ∃ zero : Array Value, ((m.toNat * size = 0 ∧ zero = #[]) ∨ (¬ m.toNat * size = 0 ∧ zero = zv.cells)) ∧
                ElemsAt false w (XU Y ρ H) ρ ((Array.range (m.toNat * size)).map (zero[· % zero.size]!)) size (List.replicate n.toNat z) := by
              by_cases h0 : m.toNat * size = 0
              · have hm : m.toNat = 0 := by
                  rcases Nat.mul_eq_zero.1 h0 with h | h
                  · exact h
                  · omega
                have hn : n.toNat = 0 := by omega
                rw [hn, hm]
                refine ⟨#[], .inl ⟨by simp, rfl⟩, by simp, fun i x hx => by simp at hx⟩
              · refine ⟨zv.cells, .inr ⟨h0, rfl⟩, ?_⟩
                exact elems_replicate (hzr _) c6 c5 c4 (by omega)
            refine Gives.block (k := ⟨size, List.replicate n.toNat z, 0, false⟩) rfl (v := .slice (some ⟨w.heap.size, 0, none⟩) n.toNat m.toNat) (w' := w.alloc (.cells ((Array.range (m.toNat * size)).map (zero[· % zero.size]!)) e)) (ρ' := upd ρ (slot, 0) w.heap.size) ?_ ?_
            · have hbig : ¬ ((ti.bytes : Int) * m > 2 ^ 48) := by
                rw [hbb]
                have : (bytes : Int) * m ≤ 32768 * 4294967296 := by
                  refine Int.le_trans (Int.mul_le_mul_of_nonneg_right (by omega) (by omega)) (Int.mul_le_mul_of_nonneg_left c2 (by omega))
                omega
              have hbig2 : ¬ ((ti.bytes : Int) * n > 2 ^ 48) := by
                have : (ti.bytes : Int) * n ≤ ti.bytes * m := Int.mul_le_mul_of_nonneg_left c1 (by omega)
                omega
              have hcond : (decide (m < 0) || decide ((ti.bytes : Int) * m > 2 ^ 48) || decide (n < 0) || decide (n > m)) = false := by
                simp only [Bool.or_eq_false_iff, decide_eq_false_iff_not]
                omega
              rcases hzero with ⟨h0, rfl⟩ | ⟨h0, rfl⟩
              · simp only [Instr.makeSlice, Sem.run_bind, run_underlying (telem_un he), Result.andThen_ok, asInt, asIntOf, Sem.run_pure, hrb, wn, wm, hcond, Bool.false_eq_true, if_false, run_askRoom, run_tsize hs, if_pos h0, newRow, run_newObj]
                rfl
              · simp only [Instr.makeSlice, Sem.run_bind, run_underlying (telem_un he), Result.andThen_ok, asInt, asIntOf, Sem.run_pure, hrb, wn, wm, hcond, Bool.false_eq_true, if_false, run_askRoom, run_tsize hs, if_neg h0, hrun, newRow, run_newObj]
                rfl
            · refine made_new (w1 := w.alloc (.cells ((Array.range (m.toNat * size)).map (zero[· % zero.size]!)) e)) hr (Less.refl H) hf (Nat.le_refl _) (by simp) rfl rfl rfl (fun i hi => alc_same w _ i hi) ⟨size, List.replicate n.toNat z, 0, false⟩ (show 0 < size by omega) (heap_alloc_new w _) hze (fun X' => ?_)
              exact VR.newOwn (heap_alloc_new w _) (by omega) (by simp)
          · cases h

end
section
variable {P : Program} {w : World} {X Y : XT} {ρ : Rho}
/-- What is read of a slice: its cells, in whatever world that has the same heap. -/
def Cells (P : Program) (w : World) (size n : Nat) (v : Value) (cs : Array Value) : Prop :=
  (Builtin.lenOf v).run P w = .ok n w ∧ ∀ w' : World, w'.heap = w.heap → (Builtin.firstCells size n v).run P w' = .ok cs w'

theorem cells_zero {size c : Nat} {a : Option Addr} : Cells P w size 0 (.slice a 0 c) #[] := by
  refine ⟨rfl, fun w' _ => ?_⟩
  cases a with
  | none => simp [Builtin.firstCells]
  | some a => simp [Builtin.firstCells, loadCells, loadCellsFrom]

theorem cells_row {size n c b o : Nat} (f : Nat → Value) (hf : ∀ j, j < n * size → w.cell? ⟨b, o + j, none⟩ = some (f j)) : Cells P w size n (.slice (some ⟨b, o, none⟩) n c) ((List.range (n * size)).map f).toArray := by
  refine ⟨rfl, fun w' hw => ?_⟩
  simp only [Builtin.firstCells]
  rw [run_loadCells w' ⟨b, o, none⟩ (n * size) f (fun j hj => ?_)]
  rw [addr_add]
  have : w'.cell? ⟨b, o + j, none⟩ = w.cell? ⟨b, o + j, none⟩ := World.cell?_of_block (w := w) (by rw [hw])
  rw [this]
  exact hf j hj

theorem run_append_more {t ty e : TypeId} {i : TypeInfo} {z : Value} (ht : P.underlying t = some (.slice e)) (hi : P.info? e = some i) (hz : i.zero = some z)
    {base : Option Addr} {n cap m : Nat} {x : Value} {olds news : Array Value} (ho : Cells P w i.size n (.slice base n cap) olds) (hn : Cells P w i.size m x news)
    (hg : cap < n + m) (h63 : n + m ≤ 4294967296) (hb : i.bytes ≤ 32768) (hzs : z.cells.size = i.size) :
    ∃ nc rest, n + m ≤ nc ∧ rest.size = (nc - (n + m)) * i.size ∧ (Builtin.append_ #[t, t] ty #[.slice base n cap, x]).run P w =
      .ok (.slice (some ⟨w.heap.size, 0, none⟩) (n + m) nc) (w.drew.alloc (.cells (olds ++ news ++ rest) e)) := by
  have h1 : ¬ (n + m ≤ cap) := by omega
  have h2 : ¬ (9223372036854775807 < ((n : Int) + (m : Int))) := by omega
  have hfit : Builtin.nextslicecap (n + m) cap * i.bytes ≤ 281474976710656 := by
    refine growslice_fits hg ?_
    calc (n + m) * i.bytes ≤ 4294967296 * 32768 := Nat.mul_le_mul h63 hb
      _ = 140737488355328 := rfl
  have h3 : ¬ (281474976710656 < Builtin.nextslicecap (n + m) cap * i.bytes) := by omega
  refine ⟨grownCap w (n + m) cap e, Builtin.zeroCells z.cells (grownCap w (n + m) cap e - (n + m)), grownCap_ge w _ _ _, by simp [Builtin.zeroCells, hzs], ?_⟩
  have ho' := ho.2 w.drew rfl
  have hn' := hn.2 w.drew rfl
  have hl := hn.1
  simp [Builtin.append_, run_underlying ht, sizeOf, typeInfo, zeroValue, hi, hz, hl, h1, h2, h3, Question.forced, ho', hn', newRow, grownCap]

theorem run_append_room' {t ty e : TypeId} {i : TypeInfo} (ht : P.underlying t = some (.slice e)) (hi : P.info? e = some i)
    {base : Option Addr} {n cap m : Nat} {x : Value} {news : Array Value} (hn : Cells P w i.size m x news) (hg : n + m ≤ cap) {w' : World}
    (hst : ∀ a, base = some a → (storeCells (a.add (n * i.size)) news.toList).run P w = .ok () w') (hno : base = none → w' = w) :
    (Builtin.append_ #[t, t] ty #[.slice base n cap, x]).run P w = .ok (.slice base (n + m) cap) w' := by
  have hl := hn.1
  have hn' := hn.2 w rfl
  cases base with
  | none => have := hno rfl; subst this; simp [Builtin.append_, run_underlying ht, sizeOf, typeInfo, hi, hl, hg, hn']
  | some a => have := hst a rfl; simp [Builtin.append_, run_underlying ht, sizeOf, typeInfo, hi, hl, hg, hn', this]

/-- The cells of elements. -/
structure RowOf (w : World) (X : XT) (cs : Array Value) (sz : Nat) (es : List AV) : Prop where
  size : cs.size = es.length * sz
  one : ∀ v ∈ cs.toList, v.oneCell' = true
  el : ∀ ρ, ElemsAt false w X ρ cs sz es

theorem RowOf.of {f : Nat → Nat → Value} {sz : Nat} (hpos : 0 < sz) {es : List AV} (h1 : ∀ (i : Nat) (x : AV), es[i]? = some x → x.cells.length = sz ∧ ∀ (j : Nat) (u : AV), x.cells[j]? = some u → (f i j).oneCell' = true ∧ PR w X (f i j) u) :
    RowOf w X ((List.range (es.length * sz)).map fun k => f (k / sz) (k % sz)).toArray sz es := by
  have hget : ∀ k, k < es.length * sz → (((List.range (es.length * sz)).map fun k => f (k / sz) (k % sz)).toArray).getD k undef = f (k / sz) (k % sz) := by
    intro k hk
    simp [Array.getD_eq_getD_getElem?, hk]
  have hone : ∀ k, k < es.length * sz → (f (k / sz) (k % sz)).oneCell' = true := by
    intro k hk
    have hi : k / sz < es.length := Nat.div_lt_of_lt_mul (by rw [Nat.mul_comm]; exact hk)
    have hj : k % sz < sz := Nat.mod_lt _ hpos
    obtain ⟨a1, a2⟩ := h1 (k / sz) es[k / sz] (by simp [hi])
    exact (a2 (k % sz) es[k / sz].cells[k % sz] (by simp [a1, hj])).1
  refine ⟨by simp, fun v hv => ?_, fun ρ => ⟨by simp, fun i x hx => ⟨(h1 i x hx).1, fun j u hj => ?_⟩⟩⟩
  · simp only [List.mem_map, List.mem_range] at hv
    obtain ⟨k, hk, rfl⟩ := hv
    exact hone k hk
  · have hi : i < es.length := (List.getElem?_eq_some_iff.1 hx).1
    have hj' : j < sz := by rw [← (h1 i x hx).1]; exact (List.getElem?_eq_some_iff.1 hj).1
    have hlt : i * sz + j < es.length * sz := by
      have : (i + 1) * sz ≤ es.length * sz := Nat.mul_le_mul_right _ hi
      rw [Nat.add_mul] at this
      omega
    rw [hget _ hlt]
    have d1 : (i * sz + j) / sz = i := by rw [Nat.mul_comm, Nat.mul_add_div hpos, Nat.div_eq_of_lt hj']; omega
    have d2 : (i * sz + j) % sz = j := by rw [Nat.mul_comm, Nat.mul_add_mod, Nat.mod_eq_of_lt hj']
    rw [d1, d2]
    exact (h1 i x hx).2 j u hj

theorem RowOf.nil {sz : Nat} : RowOf w X #[] sz [] := ⟨by simp, fun v hv => by simp at hv, fun ρ => ⟨by simp, fun i x hx => by simp at hx⟩⟩

theorem RowOf.mono {w' : World} {X' : XT} (hs : Stable w X w' X') {cs : Array Value} {sz : Nat} {es : List AV} (h : RowOf w X cs sz es) : RowOf w' X' cs sz es :=
  ⟨h.size, h.one, fun ρ => (h.el ρ).mono hs (fun _ _ h => h)⟩

/-- A list that is only read, as cells. -/
theorem PR.row {sz : Nat} (hpos : 0 < sz) {xs : List AV} {t : Bool} {a : Option Addr} {cap sz' : Nat} (hs : sz' = sz ∨ xs = []) (h : PR w X (.slice a xs.length cap) (.lst sz' xs t)) :
    ∃ cs, Cells P w sz xs.length (.slice a xs.length cap) cs ∧ RowOf w X cs sz xs := by
  generalize hn : xs.length = n at h
  cases h with
  | lst0 a cap sz' t ht => exact ⟨#[], cells_zero, .nil⟩
  | lst b o n cap sz' t xs f hn' hc ht hsz hx hr =>
    rcases hs with rfl | rfl
    · subst hn
      have row := RowOf.of (w := w) (X := X) (f := f) hpos (es := xs) (fun i x hi => ⟨hsz i x hi, fun j u hj => ⟨(hx i x hi j u hj).2.2, hr i x hi j u hj⟩⟩)
      refine ⟨_, cells_row (fun k => f (k / sz') (k % sz')) (fun k hk => ?_), row⟩
      have hi : k / sz' < xs.length := Nat.div_lt_of_lt_mul (by rw [Nat.mul_comm]; exact hk)
      have hj : k % sz' < sz' := Nat.mod_lt _ hpos
      have hl := hsz (k / sz') xs[k / sz'] (by simp [hi])
      have := (hx (k / sz') xs[k / sz'] (by simp [hi]) (k % sz') xs[k / sz'].cells[k % sz'] (by simp [hl, hj])).2.1
      rw [show k / sz' * sz' + k % sz' = k from Nat.div_add_mod' k sz'] at this
      exact this
    · simp at hn
      subst hn
      exact ⟨#[], cells_zero, .nil⟩

/-- A piece of a block, as cells. -/
theorem BlkAt.row {b : Nat} {k : Blk} (hpos : 0 < k.sz) (hb : BlkAt w X ρ b k) (hbox : k.box = false) {off len cap : Nat} (hl : off + len ≤ k.elems.length) :
    ∃ cs, Cells P w k.sz len (.slice (some ⟨b, off * k.sz, none⟩) len cap) cs ∧ RowOf w X cs k.sz ((k.elems.drop off).take len) := by
  obtain ⟨cs, T, hh, hle, he⟩ := hb.cells hpos
  have hlen : ((k.elems.drop off).take len).length = len := by simp; omega
  have hget : ∀ i x, ((k.elems.drop off).take len)[i]? = some x → k.elems[off + i]? = some x := by
    intro i x hi
    rw [List.getElem?_take, List.getElem?_drop] at hi
    split at hi
    · exact hi
    · cases hi
  have row := RowOf.of (w := w) (X := X) (f := fun i j => cs.getD ((off + i) * k.sz + j) undef) hpos (es := (k.elems.drop off).take len) (fun i x hi => by
    obtain ⟨a1, a2⟩ := he _ _ (hget i x hi)
    refine ⟨a1, fun j u hj => ?_⟩
    have := a2 j u hj
    rw [hbox] at this
    exact this)
  rw [hlen] at row
  refine ⟨_, cells_row (fun q => cs.getD ((off + q / k.sz) * k.sz + q % k.sz) undef) (fun q hq => ?_), row⟩
  rw [cell_of_row w b _ cs T (0, 0) hh]
  have e : (off + q / k.sz) * k.sz + q % k.sz = off * k.sz + q := by
    rw [Nat.add_mul, Nat.add_assoc, Nat.div_add_mod']
  rw [e]
  have : off * k.sz + q < cs.size := by
    have : (off + len) * k.sz ≤ k.elems.length * k.sz := Nat.mul_le_mul_right _ hl
    rw [Nat.add_mul] at this
    omega
  simp [Array.getD_eq_getD_getElem?, this]

theorem srcOf_sound {H : Heap} (hr : HR Y w ρ H) {x : AV} {v : Value} {sz size : Nat} {ys : List AV} {l : List Nm} (hpos : 0 < size) (hv : VR w (XU Y ρ H) ρ v x) (h : srcOf H x = some (sz, ys, l)) (hs : sz = size ∨ ys = []) :
    ∃ cs, Cells P w size ys.length v cs ∧ RowOf w (XU Y ρ H) cs size ys := by
  cases x with
  | lst sz' xs t =>
    simp only [srcOf, Option.some.injEq, Prod.mk.injEq] at h
    obtain ⟨rfl, rfl, rfl⟩ := h
    obtain ⟨a, cap, rfl, _, _, hp⟩ := hv.lstInv
    exact hp.row hpos hs
  | own g sz' off len =>
    simp only [srcOf] at h
    cases hg : get H g with
    | none => simp [hg] at h
    | some k =>
      simp only [hg] at h
      split at h
      · rename_i hc
        obtain ⟨c1, c2, c3, _⟩ := hc
        simp only [Option.some.injEq, Prod.mk.injEq] at h
        obtain ⟨rfl, rfl, rfl⟩ := h
        have hlen : ((k.elems.drop off).take len).length = len := by simp; omega
        rcases hv.ownInv with ⟨a, rfl, rfl⟩ | ⟨b, cap, rfl, hρ, _, _, _⟩
        · simp only [List.take_zero]
          exact ⟨#[], cells_zero, .nil⟩
        · subst c3
          rcases hs with rfl | he
          · have := (hr.at hg hρ).row (P := P) hpos c2 (cap := cap) c1
            rw [hlen]
            exact this
          · rw [he] at hlen
            simp at hlen
            subst hlen
            rw [he]
            exact ⟨#[], cells_zero, .nil⟩
      · cases h
  | _ => simp [srcOf] at h

theorem ElemsAt.app {box : Bool} {cs ds : Array Value} {sz : Nat} {xs ys : List AV} (h : ElemsAt box w X ρ cs sz xs) (hs : cs.size = xs.length * sz) (k : ElemsAt box w X ρ ds sz ys) (ks : ds.size = ys.length * sz) (rest : Array Value) : ElemsAt box w X ρ (cs ++ ds ++ rest) sz (xs ++ ys) := by
  refine ⟨by simp [hs, ks, Nat.add_mul], fun i x hx => ?_⟩
  have hg : ∀ q, q < cs.size → (cs ++ ds ++ rest).getD q undef = cs.getD q undef := by
    intro q hq
    simp only [Array.getD_eq_getD_getElem?]
    rw [Array.getElem?_append_left (by simp; omega), Array.getElem?_append_left hq]
  have hg2 : ∀ q, q < ds.size → (cs ++ ds ++ rest).getD (cs.size + q) undef = ds.getD q undef := by
    intro q hq
    simp only [Array.getD_eq_getD_getElem?]
    rw [Array.getElem?_append_left (by simp; omega), Array.getElem?_append_right (by omega)]
    simp
  rcases Nat.lt_or_ge i xs.length with hi | hi
  · rw [List.getElem?_append_left hi] at hx
    obtain ⟨a1, a2⟩ := h.2 i x hx
    refine ⟨a1, fun j u hj => ?_⟩
    have hj' : j < sz := by rw [← a1]; exact (List.getElem?_eq_some_iff.1 hj).1
    have hlt : i * sz + j < cs.size := by
      rw [hs]
      have : (i + 1) * sz ≤ xs.length * sz := Nat.mul_le_mul_right _ hi
      rw [Nat.add_mul] at this
      omega
    rw [hg _ hlt]
    exact a2 j u hj
  · rw [List.getElem?_append_right hi] at hx
    obtain ⟨a1, a2⟩ := k.2 _ x hx
    refine ⟨a1, fun j u hj => ?_⟩
    have hj' : j < sz := by rw [← a1]; exact (List.getElem?_eq_some_iff.1 hj).1
    have hi2 : i - xs.length < ys.length := (List.getElem?_eq_some_iff.1 hx).1
    have hlt : (i - xs.length) * sz + j < ds.size := by
      rw [ks]
      have : (i - xs.length + 1) * sz ≤ ys.length * sz := Nat.mul_le_mul_right _ hi2
      rw [Nat.add_mul] at this
      omega
    have e : i * sz + j = cs.size + ((i - xs.length) * sz + j) := by
      rw [hs, ← Nat.add_assoc, ← Nat.add_mul]
      congr 2
      omega
    rw [e, hg2 _ hlt]
    exact a2 j u hj

theorem RowOf.append {cs ds : Array Value} {sz : Nat} {xs ys : List AV} (h : RowOf w X cs sz xs) (k : RowOf w X ds sz ys) (rest : Array Value) (ρ : Rho) : ElemsAt false w X ρ (cs ++ ds ++ rest) sz (xs ++ ys) :=
  (h.el ρ).app h.size (k.el ρ) k.size rest

/-- Elements laid behind those of a block. -/
theorem ElemsAt.behindX {box : Bool} {cs ds : Array Value} {sz : Nat} {xs ys : List AV} (h : ElemsAt box w X ρ cs sz xs) (k : ElemsAt box w X ρ ds sz ys) (ks : ds.size = ys.length * sz) (hfit : xs.length * sz + ds.toList.length ≤ cs.size) :
    ElemsAt box w X ρ ((cs.toList.take (xs.length * sz) ++ ds.toList ++ cs.toList.drop (xs.length * sz + ds.toList.length)).toArray) sz (xs ++ ys) := by
  have hds : ds.toList.length = ys.length * sz := by simp [ks]
  refine ⟨by rw [row_written_size _ _ _ hfit]; simp [Nat.add_mul]; omega, fun i x hx => ?_⟩
  rcases Nat.lt_or_ge i xs.length with hi | hi
  · rw [List.getElem?_append_left hi] at hx
    obtain ⟨a1, a2⟩ := h.2 i x hx
    refine ⟨a1, fun j u hj => ?_⟩
    have hj' : j < sz := by rw [← a1]; exact (List.getElem?_eq_some_iff.1 hj).1
    have hlt : i * sz + j < xs.length * sz := by
      have : (i + 1) * sz ≤ xs.length * sz := Nat.mul_le_mul_right _ hi
      rw [Nat.add_mul] at this
      omega
    rw [row_written _ _ _ hfit, if_neg (by omega)]
    exact a2 j u hj
  · rw [List.getElem?_append_right hi] at hx
    obtain ⟨a1, a2⟩ := k.2 _ x hx
    refine ⟨a1, fun j u hj => ?_⟩
    have hj' : j < sz := by rw [← a1]; exact (List.getElem?_eq_some_iff.1 hj).1
    have hi2 : i - xs.length < ys.length := (List.getElem?_eq_some_iff.1 hx).1
    have hlt : (i - xs.length) * sz + j < ys.length * sz := by
      have : (i - xs.length + 1) * sz ≤ ys.length * sz := Nat.mul_le_mul_right _ hi2
      rw [Nat.add_mul] at this
      omega
    have e : i * sz + j = xs.length * sz + ((i - xs.length) * sz + j) := by
      rw [← Nat.add_assoc, ← Nat.add_mul]
      congr 2
      omega
    rw [row_written _ _ _ hfit, if_pos (by omega)]
    have e2 : i * sz + j - xs.length * sz = (i - xs.length) * sz + j := by omega
    rw [e2, toList_getD]
    exact a2 j u hj

theorem ElemsAt.behind {cs ds : Array Value} {sz : Nat} {xs ys : List AV} (h : ElemsAt false w X ρ cs sz xs) (k : RowOf w X ds sz ys) (hfit : xs.length * sz + ds.toList.length ≤ cs.size) :
    ElemsAt false w X ρ ((cs.toList.take (xs.length * sz) ++ ds.toList ++ cs.toList.drop (xs.length * sz + ds.toList.length)).toArray) sz (xs ++ ys) := h.behindX (k.el ρ) k.size hfit

theorem ElemsAt.take {box : Bool} {cs : Array Value} {sz : Nat} {xs : List AV} (h : ElemsAt box w X ρ cs sz xs) (n : Nat) : ElemsAt box w X ρ cs sz (xs.take n) := by
  refine ⟨Nat.le_trans (Nat.mul_le_mul_right _ (by simp; omega)) h.1, fun i x hx => ?_⟩
  rw [List.getElem?_take] at hx
  split at hx
  · exact h.2 i x hx
  · cases hx

theorem opAppend_sound {H : Heap} (hr : HR Y w ρ H) {slot : Nat} (hf : Free H slot) {t ty : TypeId} {s x : AV} {vs vx : Value} {r : Res}
    (hs : VR w (XU Y ρ H) ρ vs s) (hx : VR w (XU Y ρ H) ρ vx x) (h : opAppend P t s x H slot = some r) : Gives P Y w ρ H slot r (Builtin.append_ #[t, t] ty #[vs, vx]) := by
  unfold opAppend at h
  cases he : telem P t with
  | none => simp [he] at h
  | some e =>
    simp only [he] at h
    cases hsz : tsize P e with
    | none => simp [hsz] at h
    | some size =>
      cases hby : tbytes P e with
      | none => simp [hsz, hby] at h
      | some bytes =>
        cases hz : tzero P e with
        | none => simp [hsz, hby, hz] at h
        | some z =>
        cases hsrc : srcOf H x with
        | none => simp [hsz, hby, hz, hsrc] at h
        | some q =>
          obtain ⟨sz', ys, l⟩ := q
          simp only [hsz, hby, hz, hsrc] at h
          split at h
          · rename_i hc
            obtain ⟨c1, c2, c4, c5, c3⟩ := hc
            obtain ⟨ti, hti, hbb, _⟩ := run_tbytes hby w
            have hsi : ti.size = size := by
              unfold tsize at hsz
              rw [hti] at hsz
              simpa using hsz
            obtain ⟨news, hnc, hnr⟩ := srcOf_sound (P := P) hr c1 hx hsrc c3
            obtain ⟨zv, _, hcv, ti', hti', hzv⟩ := run_tzero hz w
            rw [hti] at hti'
            cases hti'
            have hzs : zv.cells.size = ti.size := by
              have h1 : VR w (XU Y ρ H) ρ zv z := by rw [hcv]; exact .pur _ _ (cv_rel w _ zv)
              rw [(h1.aggRel c5).size, c4, hsi]
            rw [← hsi] at hnc
            -- the slice grows into a new block
            have more : ∀ (H1 : Heap) (hl : Less H1 H) (hlen1 : H1.length = H.length) (base : Option Addr) (n cap : Nat) (olds : Array Value) (es : List AV) (frz : Nat), es.length = n → Cells P w ti.size n (.slice base n cap) olds →
                RowOf w (XU Y ρ H) olds size es → cap < n + ys.length → n + ys.length ≤ 4294967296 →
                ∃ v w' ρ', (Builtin.append_ #[t, t] ty #[.slice base n cap, vx]).run P w = .ok v w' ∧
                  Made Y w ρ H w' ρ' (H1.set slot [some ⟨size, es ++ ys, frz, false⟩]) v (.own (slot, 0) size 0 (n + ys.length)) := by
              intro H1 hl hlen1 base n cap olds es frz hn ho hor hg h63
              obtain ⟨nc, rest, g1, g2, g3⟩ := run_append_more (ty := ty) (telem_un he) hti hzv ho hnc hg h63 (by omega) hzs
              have hfr : Free H1 slot := hf.less hl hlen1
              refine ⟨_, _, upd ρ (slot, 0) w.heap.size, g3, ?_⟩
              refine made_new (w1 := w.drew.alloc (.cells (olds ++ news ++ rest) e)) hr hl hfr (Nat.le_refl _) (by simp) rfl rfl rfl (fun i hi => alc_same w.drew _ i hi) ⟨size, es ++ ys, frz, false⟩ (show 0 < size by omega) (heap_alloc_new w.drew _) ?_ (fun X' => ?_)
              · exact (hor.append hnr rest ρ).mono (hl.st.xu Y) (fun _ _ h => h)
              · refine VR.newOwn (heap_alloc_new w.drew _) g1 ?_
                have e1 := hor.size
                have e2 := hnr.size
                simp only [Array.size_append, e1, e2, g2, hn, hsi]
                rw [← Nat.add_mul, ← Nat.add_mul]
                exact Nat.mul_le_mul_right _ (by omega)
            cases s with
            | lst sz xs tight =>
              simp only at h
              split at h
              · rename_i hcc
                obtain ⟨rfl, _⟩ := hcc
                split at h
                · rename_i hsz2
                  cases h
                  obtain ⟨a, cap, rfl, hcap, _, _⟩ := hs.lstInv
                  have hnews : news = #[] := by
                    have := hnr.size
                    simp at this
                    exact this
                  subst hnews
                  have hrun := run_append_room' (ty := ty) (base := a) (n := xs.length) (cap := cap) (w' := w) (telem_un he) hti hnc (by simpa using hcap) (fun a _ => by simp [storeCells]) (fun _ => rfl)
                  refine ⟨_, w, ρ, hrun, ?_⟩
                  have hset : (putAll H []).set slot (([] : List Blk).map some) = H := by
                    show H.set slot [] = H
                    apply List.ext_getElem?
                    intro j
                    rw [List.getElem?_set]
                    split
                    · rename_i e
                      subst e
                      have h2 := hf.2
                      rw [List.getD_eq_getElem?_getD] at h2
                      rw [if_pos hf.1]
                      cases hh : H[slot]? with
                      | none => have := List.getElem?_eq_none_iff.1 hh; have := hf.1; omega
                      | some q => rw [hh] at h2; simp at h2; rw [h2]
                    · rfl
                  show Made Y w ρ H w ρ ((putAll H []).set slot (([] : List Blk).map some)) _ _
                  rw [hset]
                  refine ⟨hr, ?_, Stable.refl w _, fun _ _ h => h⟩
                  rw [hsz2] at hs
                  simpa using hs
                · cases h
              split at h
              · rename_i hcc
                obtain ⟨d1, d2, d3, d4⟩ := hcc
                cases h
                obtain ⟨a, cap, rfl, hcap, htight, hp⟩ := hs.lstInv
                have hcap' := htight d1
                subst hcap'
                by_cases hm : ys.length = 0
                · have hys : ys = [] := List.eq_nil_of_length_eq_zero hm
                  have hxs : xs = [] := by
                    rcases d3 with h | h
                    · exact h
                    · omega
                  subst hys hxs
                  have hnews : news = #[] := by
                    have := hnr.size
                    simp at this
                    exact this
                  subst hnews
                  have hrun := run_append_room' (ty := ty) (base := a) (n := 0) (cap := 0) (w' := w) (telem_un he) hti hnc (Nat.le_refl _) (fun a _ => by simp [storeCells]) (fun _ => rfl)
                  obtain ⟨v1, v2⟩ := hr.virt hf ⟨size, [], 0, false⟩ rfl rfl
                  exact Gives.block (k := ⟨size, [], 0, false⟩) rfl hrun ⟨v1, .own0 _ _ _ _, v2, fun _ _ h => h⟩
                · obtain ⟨olds, hoc, hor⟩ := hp.row (P := P) c1 d2
                  rw [← hsi] at hoc
                  obtain ⟨v, w', ρ', m1, m2⟩ := more H (Less.refl H) rfl a xs.length xs.length olds xs 0 rfl hoc hor (by omega) d4
                  exact Gives.block (k := ⟨size, xs ++ ys, 0, false⟩) rfl m1 m2
              · cases h
            | own g sz off len =>
              simp only at h
              cases hg : get H g with
              | none => simp [hg] at h
              | some k =>
                simp only [hg] at h
                split at h
                · rename_i hcc
                  obtain ⟨d1, d2, d3, d4, d5, d6, d7⟩ := hcc
                  subst d3
                  have htl : (k.elems.take len).length = len := by simp; omega
                  cases h
                  have hl : Less (set H g none) H := Less.set_none H g
                  have hfs : Free (set H g none) slot := hf.less hl (len_set H g none)
                  rcases hs.ownInv with ⟨a, rfl, hlen⟩ | ⟨b, cap, rfl, hρ, hb, hlc, hk⟩
                  · have hes : k.elems.take len = [] := List.eq_nil_of_length_eq_zero (by rw [htl]; exact hlen)
                    by_cases hm : ys.length = 0
                    · have hys : ys = [] := List.eq_nil_of_length_eq_zero hm
                      subst hys
                      have hnews : news = #[] := by
                        have := hnr.size
                        simp at this
                        exact this
                      subst hnews
                      have hrun := run_append_room' (ty := ty) (base := a) (n := 0) (cap := 0) (w' := w) (telem_un he) hti hnc (Nat.le_refl _) (fun a _ => by simp [storeCells]) (fun _ => rfl)
                      obtain ⟨v1, v2⟩ := (hr.less hl).virt hfs ⟨size, k.elems.take len ++ [], k.frz, false⟩ (by rw [hes]; rfl) rfl
                      refine Gives.block (k := ⟨size, k.elems.take len ++ [], k.frz, false⟩) rfl hrun (ρ' := ρ) ⟨v1, ?_, hl.st.trans v2, fun _ _ h => h⟩
                      subst hlen
                      exact .own0 _ _ _ _
                    · obtain ⟨v, w', ρ', m1, m2⟩ := more (set H g none) hl (len_set H g none) a 0 0 #[] (k.elems.take len) k.frz (by rw [hes]; rfl) cells_zero (by rw [hes]; exact .nil) (by omega) (by omega)
                      refine Gives.block (k := ⟨size, k.elems.take len ++ ys, k.frz, false⟩) rfl m1 (ρ' := ρ') ?_
                      subst hlen
                      exact m2
                  · simp only [Nat.zero_mul] at *
                    by_cases hroom : len + ys.length ≤ cap
                    · obtain ⟨cs, T, hh, hel⟩ := (hr.at hg hρ).cells (by rw [d2]; exact c1)
                      have hbs : bsize w b = cs.size := by simp [bsize, hh]
                      have hds : news.toList.length = ys.length * size := by simp [hnr.size]
                      have hfit : len * size + news.toList.length ≤ cs.size := by
                        rw [hds, ← Nat.add_mul, ← hbs]
                        have : (len + ys.length) * size ≤ cap * size := Nat.mul_le_mul_right _ hroom
                        rw [d1] at hk
                        omega
                      have hst := run_storeCells_at P b (len * size) T news.toList 0 cs w hh (by simpa using hfit) hnr.one
                      simp only [Nat.add_zero] at hst
                      have hrun := run_append_room' (ty := ty) (base := some ⟨b, 0, none⟩) (n := len) (cap := cap) (telem_un he) hti hnc hroom (w' := w.setRow b (cs.toList.take (len * size) ++ news.toList ++ cs.toList.drop (len * size + news.toList.length)).toArray) (fun a ha => by
                        cases ha
                        rw [addr_add, hsi, Nat.zero_add]
                        exact hst) (fun h => by cases h)
                      rw [d2, d5] at hel
                      have hbeh := (hel.take len).behind hnr (by rw [htl]; exact hfit)
                      rw [htl] at hbeh
                      have hmove := hr.move hf hg hρ (w1 := w.setRow b (cs.toList.take (len * size) ++ news.toList ++ cs.toList.drop (len * size + news.toList.length)).toArray) (k1 := ⟨size, k.elems.take len ++ ys, k.frz, false⟩)
                        (show 0 < size by omega) rfl rfl rfl (by simp) (fun j hj => setRow_other w b j _ hj) hh (setRow_heap w b cs _ T _ hh) (row_written_size _ _ _ hfit)
                        (fun o ho => row_written_low _ _ _ hfit o (by rw [d2] at ho; exact Nat.lt_of_lt_of_le ho (Nat.mul_le_mul_right _ d6))) d2.symm (Nat.le_refl _) hbeh
                      refine Gives.block (k := ⟨size, k.elems.take len ++ ys, k.frz, false⟩) rfl hrun ⟨hmove.1, ?_, hmove.2.1, hmove.2.2⟩
                      refine VR.newOwn (setRow_heap w b cs _ T _ hh) hroom ?_
                      rw [row_written_size _ _ _ hfit, ← hbs, ← d1]
                      omega
                    · have hpos : 0 < k.sz := by omega
                      obtain ⟨olds, hoc, hor⟩ := (hr.at hg hρ).row (P := P) hpos d5 (off := 0) (len := len) (cap := cap) (by omega)
                      simp only [Nat.zero_mul, List.drop_zero] at hoc hor
                      rw [d2] at hoc hor
                      rw [← hsi] at hoc
                      obtain ⟨v, w', ρ', m1, m2⟩ := more (set H g none) hl (len_set H g none) (some ⟨b, 0, none⟩) len cap olds (k.elems.take len) k.frz htl hoc hor (by omega) d7
                      exact Gives.block (k := ⟨size, k.elems.take len ++ ys, k.frz, false⟩) rfl m1 m2
                · cases h
            | _ => simp at h
          · cases h

/-! ### append to a box -/

theorem ElemsAt.up {box : Bool} {cs : Array Value} {sz : Nat} {es : List AV} (h : ElemsAt box w X ρ cs sz es) : ElemsAt true w X ρ cs sz es :=
  ⟨h.1, fun i x hi => ⟨(h.2 i x hi).1, fun j u hj => ⟨((h.2 i x hi).2 j u hj).1, ((h.2 i x hi).2 j u hj).2.vr⟩⟩⟩

/-- The cells of elements that may lead to other blocks. -/
structure RowX (w : World) (X : XT) (ρ : Rho) (cs : Array Value) (sz : Nat) (es : List AV) : Prop where
  size : cs.size = es.length * sz
  one : ∀ v ∈ cs.toList, v.oneCell' = true
  el : ElemsAt true w X ρ cs sz es

theorem RowOf.x {cs : Array Value} {sz : Nat} {es : List AV} (h : RowOf w X cs sz es) : RowX w X ρ cs sz es := ⟨h.size, h.one, (h.el ρ).up⟩
theorem RowX.nil {sz : Nat} : RowX w X ρ #[] sz [] := RowOf.nil.x

theorem BlkAt.rowX {b : Nat} {k : Blk} (hpos : 0 < k.sz) (hb : BlkAt w X ρ b k) {off len cap : Nat} (hl : off + len ≤ k.elems.length) :
    ∃ cs, Cells P w k.sz len (.slice (some ⟨b, off * k.sz, none⟩) len cap) cs ∧ RowX w X ρ cs k.sz ((k.elems.drop off).take len) := by
  obtain ⟨cs, T, hh, hle, he⟩ := hb.cells hpos
  have hlen : ((k.elems.drop off).take len).length = len := by simp; omega
  have hget : ∀ i x, ((k.elems.drop off).take len)[i]? = some x → k.elems[off + i]? = some x := by
    intro i x hi
    rw [List.getElem?_take, List.getElem?_drop] at hi
    split at hi
    · exact hi
    · cases hi
  have hall : off * k.sz + len * k.sz ≤ cs.size := by
    have : (off + len) * k.sz ≤ k.elems.length * k.sz := Nat.mul_le_mul_right _ hl
    rw [Nat.add_mul] at this
    omega
  let f : Nat → Value := fun q => cs.getD (off * k.sz + q) undef
  have hget2 : ∀ q, q < len * k.sz → (((List.range (len * k.sz)).map f).toArray).getD q undef = f q := by
    intro q hq
    simp [Array.getD_eq_getD_getElem?, hq]
  have hone : ∀ i, i < len → ∀ j, j < k.sz → (f (i * k.sz + j)).oneCell' = true ∧ ∀ x u, ((k.elems.drop off).take len)[i]? = some x → x.cells[j]? = some u → VR w X ρ (f (i * k.sz + j)) u := by
    intro i hi j hj
    obtain ⟨x, hx⟩ : ∃ x, ((k.elems.drop off).take len)[i]? = some x := ⟨_, List.getElem?_eq_getElem (by rw [hlen]; exact hi)⟩
    obtain ⟨a1, a2⟩ := he _ _ (hget i x hx)
    obtain ⟨u, hu⟩ : ∃ u, x.cells[j]? = some u := ⟨_, List.getElem?_eq_getElem (by rw [a1]; exact hj)⟩
    have e : off * k.sz + (i * k.sz + j) = (off + i) * k.sz + j := by rw [Nat.add_mul]; omega
    show (cs.getD (off * k.sz + (i * k.sz + j)) undef).oneCell' = true ∧ ∀ x u, ((k.elems.drop off).take len)[i]? = some x → x.cells[j]? = some u → VR w X ρ (cs.getD (off * k.sz + (i * k.sz + j)) undef) u
    rw [e]
    refine ⟨(a2 j u hu).1, fun x' u' hx' hu' => ?_⟩
    rw [hx] at hx'
    cases hx'
    exact (a2 j u' hu').2.vr
  refine ⟨((List.range (len * k.sz)).map f).toArray, cells_row f (fun q hq => ?_), ⟨by simp [hlen], fun v hv => ?_, ⟨by simp [hlen], fun i x hx => ?_⟩⟩⟩
  · rw [cell_of_row w b _ cs T (0, 0) hh]
    have : off * k.sz + q < cs.size := by omega
    simp [f, Array.getD_eq_getD_getElem?, this]
  · simp only [List.mem_map, List.mem_range] at hv
    obtain ⟨q, hq, rfl⟩ := hv
    have hi : q / k.sz < len := Nat.div_lt_of_lt_mul (by rw [Nat.mul_comm]; exact hq)
    have hj : q % k.sz < k.sz := Nat.mod_lt _ hpos
    have := (hone _ hi _ hj).1
    rw [show q / k.sz * k.sz + q % k.sz = q from Nat.div_add_mod' q k.sz] at this
    exact this
  · have hi : i < len := by rw [← hlen]; exact (List.getElem?_eq_some_iff.1 hx).1
    have a1 := (he _ _ (hget i x hx)).1
    refine ⟨a1, fun j u hj => ?_⟩
    have hj' : j < k.sz := by rw [← a1]; exact (List.getElem?_eq_some_iff.1 hj).1
    have hlt : i * k.sz + j < len * k.sz := by
      have : (i + 1) * k.sz ≤ len * k.sz := Nat.mul_le_mul_right _ hi
      rw [Nat.add_mul] at this
      omega
    rw [hget2 _ hlt]
    exact ⟨(hone i hi j hj').1, (hone i hi j hj').2 x u hx hj⟩

theorem srcX_sound {H : Heap} (hr : HR Y w ρ H) {x : AV} {v : Value} {sz size : Nat} {ys : List AV} {l : List Nm} (hpos : 0 < size) (hv : VR w (XU Y ρ H) ρ v x) (h : srcX H x = some (sz, ys, l)) (hs : sz = size ∨ ys = []) :
    ∃ cs, Cells P w size ys.length v cs ∧ RowX w (XU Y ρ H) ρ cs size ys := by
  cases x with
  | lst sz' xs t =>
    simp only [srcX, Option.some.injEq, Prod.mk.injEq] at h
    obtain ⟨rfl, rfl, rfl⟩ := h
    obtain ⟨a, cap, rfl, _, _, hp⟩ := hv.lstInv
    obtain ⟨cs, h1, h2⟩ := hp.row (P := P) hpos hs
    exact ⟨cs, h1, h2.x⟩
  | slc nl =>
    simp only [srcX, Option.some.injEq, Prod.mk.injEq] at h
    obtain ⟨rfl, rfl, rfl⟩ := h
    cases hv with
    | pur v x h => cases h with
      | slc a cap => exact ⟨#[], cells_zero, .nil⟩
  | own g sz' off len =>
    simp only [srcX] at h
    cases hg : get H g with
    | none => simp [hg] at h
    | some k =>
      simp only [hg] at h
      split at h
      · rename_i hc
        obtain ⟨c1, c3, _⟩ := hc
        simp only [Option.some.injEq, Prod.mk.injEq] at h
        obtain ⟨rfl, rfl, rfl⟩ := h
        have hlen : ((k.elems.drop off).take len).length = len := by simp; omega
        rcases hv.ownInv with ⟨a, rfl, rfl⟩ | ⟨b, cap, rfl, hρ, _, _, _⟩
        · simp only [List.take_zero]
          exact ⟨#[], cells_zero, .nil⟩
        · subst c3
          rcases hs with rfl | he
          · have := (hr.at hg hρ).rowX (P := P) hpos (cap := cap) c1
            rw [hlen]
            exact this
          · rw [he] at hlen
            simp at hlen
            subst hlen
            rw [he]
            exact ⟨#[], cells_zero, .nil⟩
      · cases h
  | _ => simp [srcX] at h

theorem opAppendX_sound {H : Heap} (hr : HR Y w ρ H) {slot : Nat} (hf : Free H slot) {t ty : TypeId} {s x : AV} {vs vx : Value} {r : Res}
    (hs : VR w (XU Y ρ H) ρ vs s) (hx : VR w (XU Y ρ H) ρ vx x) (h : opAppendX P t s x H slot = some r) : Gives P Y w ρ H slot r (Builtin.append_ #[t, t] ty #[vs, vx]) := by
  unfold opAppendX at h
  cases he : telem P t with
  | none => simp [he] at h
  | some e =>
    simp only [he] at h
    cases hsz : tsize P e with
    | none => simp [hsz] at h
    | some size =>
      cases hby : tbytes P e with
      | none => simp [hsz, hby] at h
      | some bytes =>
        cases hz : tzero P e with
        | none => simp [hsz, hby, hz] at h
        | some z =>
        cases hsrc : srcX H x with
        | none => simp [hsz, hby, hz, hsrc] at h
        | some q =>
          obtain ⟨sz', ys, l⟩ := q
          simp only [hsz, hby, hz, hsrc] at h
          split at h
          · rename_i hc
            obtain ⟨c1, c2, c4, c5, c3⟩ := hc
            obtain ⟨ti, hti, hbb, _⟩ := run_tbytes hby w
            have hsi : ti.size = size := by
              unfold tsize at hsz
              rw [hti] at hsz
              simpa using hsz
            obtain ⟨news, hnc, hnr⟩ := srcX_sound (P := P) hr c1 hx hsrc c3
            obtain ⟨zv, _, hcv, ti', hti', hzv⟩ := run_tzero hz w
            rw [hti] at hti'
            cases hti'
            have hzs : zv.cells.size = ti.size := by
              have h1 : VR w (XU Y ρ H) ρ zv z := by rw [hcv]; exact .pur _ _ (cv_rel w _ zv)
              rw [(h1.aggRel c5).size, c4, hsi]
            rw [← hsi] at hnc
            have more : ∀ (H1 : Heap) (hl : Less H1 H) (hlen1 : H1.length = H.length) (base : Option Addr) (n cap : Nat) (olds : Array Value) (es : List AV) (frz : Nat), es.length = n → Cells P w ti.size n (.slice base n cap) olds →
                RowX w (XU Y ρ H) ρ olds size es → cap < n + ys.length → n + ys.length ≤ 4294967296 →
                ∃ v w' ρ', (Builtin.append_ #[t, t] ty #[.slice base n cap, vx]).run P w = .ok v w' ∧
                  Made Y w ρ H w' ρ' (H1.set slot [some ⟨size, es ++ ys, frz, true⟩]) v (.own (slot, 0) size 0 (n + ys.length)) := by
              intro H1 hl hlen1 base n cap olds es frz hn ho hor hg h63
              obtain ⟨nc, rest, g1, g2, g3⟩ := run_append_more (ty := ty) (telem_un he) hti hzv ho hnc hg h63 (by omega) hzs
              have hfr : Free H1 slot := hf.less hl hlen1
              refine ⟨_, _, upd ρ (slot, 0) w.heap.size, g3, ?_⟩
              refine made_new (w1 := w.drew.alloc (.cells (olds ++ news ++ rest) e)) hr hl hfr (Nat.le_refl _) (by simp) rfl rfl rfl (fun i hi => alc_same w.drew _ i hi) ⟨size, es ++ ys, frz, true⟩ (show 0 < size by omega) (heap_alloc_new w.drew _) ?_ (fun X' => ?_)
              · exact (hor.el.app hor.size hnr.el hnr.size rest).mono (hl.st.xu Y) (fun _ _ h => h)
              · refine VR.newOwn (heap_alloc_new w.drew _) g1 ?_
                have e1 := hor.size
                have e2 := hnr.size
                simp only [Array.size_append, e1, e2, g2, hn, hsi]
                rw [← Nat.add_mul, ← Nat.add_mul]
                exact Nat.mul_le_mul_right _ (by omega)
            cases s with
            | lst sz xs tight =>
              simp only at h
              split at h
              · rename_i hcc
                obtain ⟨rfl, d2⟩ := hcc
                cases h
                obtain ⟨a, cap, rfl, hcap, _, _⟩ := hs.lstInv
                have hnews : news = #[] := by
                  have := hnr.size
                  simp at this
                  exact this
                subst hnews
                have hrun := run_append_room' (ty := ty) (base := a) (n := xs.length) (cap := cap) (w' := w) (telem_un he) hti hnc (by simpa using hcap) (fun a _ => by simp [storeCells]) (fun _ => rfl)
                obtain ⟨v1, v2⟩ := hr.virt hf ⟨size, [], 0, false⟩ rfl rfl
                exact Gives.block (k := ⟨size, [], 0, false⟩) rfl hrun ⟨v1, hs.mono (v2.xu Y) (fun _ _ h => h), v2, fun _ _ h => h⟩
              split at h
              · rename_i hcc
                obtain ⟨d0, d1, d2, d4⟩ := hcc
                cases h
                obtain ⟨a, cap, rfl, hcap, htight, hp⟩ := hs.lstInv
                have hcap' := htight d1
                subst hcap'
                have hm : ys.length ≠ 0 := fun e => d0 (List.eq_nil_of_length_eq_zero e)
                obtain ⟨olds, hoc, hor⟩ := hp.row (P := P) c1 d2
                rw [← hsi] at hoc
                obtain ⟨v, w', ρ', m1, m2⟩ := more H (Less.refl H) rfl a xs.length xs.length olds xs 0 rfl hoc hor.x (by omega) d4
                exact Gives.block (k := ⟨size, xs ++ ys, 0, true⟩) rfl m1 m2
              · cases h
            | own g sz off len =>
              simp only at h
              cases hg : get H g with
              | none => simp [hg] at h
              | some k =>
                simp only [hg] at h
                split at h
                · rename_i hcc
                  obtain ⟨d1, d2, d3, d4, d6, d7, d8⟩ := hcc
                  subst d3
                  have htl : (k.elems.take len).length = len := by simp; omega
                  cases h
                  have hl : Less (set H g none) H := Less.set_none H g
                  rcases hs.ownInv with ⟨a, rfl, hlen⟩ | ⟨b, cap, rfl, hρ, hb, hlc, hk⟩
                  · omega
                  · simp only [Nat.zero_mul] at *
                    by_cases hroom : len + ys.length ≤ cap
                    · obtain ⟨cs, T, hh, hel⟩ := (hr.at hg hρ).cells (by rw [d2]; exact c1)
                      have hbs : bsize w b = cs.size := by simp [bsize, hh]
                      have hds : news.toList.length = ys.length * size := by simp [hnr.size]
                      have hfit : len * size + news.toList.length ≤ cs.size := by
                        rw [hds, ← Nat.add_mul, ← hbs]
                        have : (len + ys.length) * size ≤ cap * size := Nat.mul_le_mul_right _ hroom
                        rw [d1] at hk
                        omega
                      have hst := run_storeCells_at P b (len * size) T news.toList 0 cs w hh (by simpa using hfit) hnr.one
                      simp only [Nat.add_zero] at hst
                      have hrun := run_append_room' (ty := ty) (base := some ⟨b, 0, none⟩) (n := len) (cap := cap) (telem_un he) hti hnc hroom (w' := w.setRow b (cs.toList.take (len * size) ++ news.toList ++ cs.toList.drop (len * size + news.toList.length)).toArray) (fun a ha => by
                        cases ha
                        rw [addr_add, hsi, Nat.zero_add]
                        exact hst) (fun h => by cases h)
                      rw [d2] at hel
                      have hbeh := (hel.up.take len).behindX hnr.el hnr.size (by rw [htl]; exact hfit)
                      rw [htl] at hbeh
                      have hmove := hr.move hf hg hρ (w1 := w.setRow b (cs.toList.take (len * size) ++ news.toList ++ cs.toList.drop (len * size + news.toList.length)).toArray) (k1 := ⟨size, k.elems.take len ++ ys, k.frz, true⟩)
                        (show 0 < size by omega) rfl rfl rfl (by simp) (fun j hj => setRow_other w b j _ hj) hh (setRow_heap w b cs _ T _ hh) (row_written_size _ _ _ hfit)
                        (fun o ho => row_written_low _ _ _ hfit o (by rw [d2] at ho; exact Nat.lt_of_lt_of_le ho (Nat.mul_le_mul_right _ d6))) d2.symm (Nat.le_refl _) hbeh
                      refine Gives.block (k := ⟨size, k.elems.take len ++ ys, k.frz, true⟩) rfl hrun ⟨hmove.1, ?_, hmove.2.1, hmove.2.2⟩
                      refine VR.newOwn (setRow_heap w b cs _ T _ hh) hroom ?_
                      rw [row_written_size _ _ _ hfit, ← hbs, ← d1]
                      omega
                    · have hpos : 0 < k.sz := by omega
                      obtain ⟨olds, hoc, hor⟩ := (hr.at hg hρ).rowX (P := P) hpos (off := 0) (len := len) (cap := cap) (by omega)
                      simp only [Nat.zero_mul, List.drop_zero] at hoc hor
                      rw [d2] at hoc hor
                      rw [← hsi] at hoc
                      obtain ⟨v, w', ρ', m1, m2⟩ := more (set H g none) hl (len_set H g none) (some ⟨b, 0, none⟩) len cap olds (k.elems.take len) k.frz htl hoc hor (by omega) d7
                      exact Gives.block (k := ⟨size, k.elems.take len ++ ys, k.frz, true⟩) rfl m1 m2
                · cases h
            | _ => simp at h
          · cases h

/-! ### copy, clear -/

theorem PR.take {sz : Nat} {xs : List AV} {t : Bool} {a : Option Addr} {n cap k : Nat} (h : PR w X (.slice a n cap) (.lst sz xs t)) (hk : k ≤ xs.length) : PR w X (.slice a k cap) (.lst sz (xs.take k) false) := by
  cases h with
  | lst0 a cap sz t ht =>
    have : k = 0 := by simpa using hk
    subst this
    exact .lst0 _ _ _ _ (fun e => by cases e)
  | lst b o n cap sz t xs f hn hc ht hsz hx hr =>
    have get : ∀ {i : Nat} {x : AV}, (xs.take k)[i]? = some x → xs[i]? = some x := by
      intro i x hi
      rw [List.getElem?_take] at hi
      split at hi
      · exact hi
      · cases hi
    exact .lst b o k cap sz false (xs.take k) f (by simp; omega) (by omega) (fun e => by cases e) (fun i x hi => hsz i x (get hi)) (fun i x hi => hx i x (get hi)) (fun i x hi => hr i x (get hi))

/-- The first elements of what is copied. -/
theorem srcOf_first {H : Heap} (hr : HR Y w ρ H) {x : AV} {v : Value} {sz size k : Nat} {ys : List AV} {l : List Nm} (hpos : 0 < size) (hv : VR w (XU Y ρ H) ρ v x) (h : srcOf H x = some (sz, ys, l)) (hs : sz = size ∨ ys = []) (hk : k ≤ ys.length) :
    ∃ cs, (Builtin.lenOf v).run P w = .ok ys.length w ∧ (Builtin.firstCells size k v).run P w = .ok cs w ∧ RowOf w (XU Y ρ H) cs size (ys.take k) := by
  have hfc : ∀ (a : Option Addr) (m m' c c' : Nat), Builtin.firstCells size k (.slice a m c) = Builtin.firstCells size k (.slice a m' c') := fun a m m' c c' => by cases a <;> rfl
  cases x with
  | lst sz' xs t =>
    simp only [srcOf, Option.some.injEq, Prod.mk.injEq] at h
    obtain ⟨rfl, rfl, rfl⟩ := h
    obtain ⟨a, cap, rfl, _, _, hp⟩ := hv.lstInv
    have hl : (xs.take k).length = k := by simp; omega
    have hp2 := hp.take hk
    have hp3 : PR w (XU Y ρ H) (.slice a (xs.take k).length cap) (.lst sz' (xs.take k) false) := by rw [hl]; exact hp2
    obtain ⟨cs, c1, c2⟩ := hp3.row (P := P) hpos (by rcases hs with h | h; exact .inl h; exact .inr (by rw [h]; simp))
    rw [hl] at c1
    exact ⟨cs, rfl, by rw [hfc a xs.length k cap cap]; exact c1.2 w rfl, c2⟩
  | own g sz' off len =>
    simp only [srcOf] at h
    cases hg : get H g with
    | none => simp [hg] at h
    | some b0 =>
      simp only [hg] at h
      split at h
      · rename_i hc
        obtain ⟨c1, c2, c3, _⟩ := hc
        simp only [Option.some.injEq, Prod.mk.injEq] at h
        obtain ⟨rfl, rfl, rfl⟩ := h
        have hlen : ((b0.elems.drop off).take len).length = len := by simp; omega
        rw [hlen] at hk ⊢
        rw [List.take_take, Nat.min_eq_left hk]
        rcases hv.ownInv with ⟨a, rfl, rfl⟩ | ⟨b, cap, rfl, hρ, _, _, _⟩
        · have : k = 0 := by omega
          subst this
          exact ⟨#[], rfl, (cells_zero (P := P) (w := w) (size := size) (c := 0) (a := a)).2 w rfl, by rw [List.take_zero]; exact .nil⟩
        · subst c3
          rcases hs with rfl | he
          · obtain ⟨cs, e1, e2⟩ := (hr.at hg hρ).row (P := P) hpos c2 (off := off) (len := k) (cap := cap) (by omega)
            exact ⟨cs, rfl, by rw [hfc _ len k cap cap]; exact e1.2 w rfl, e2⟩
          · rw [he] at hlen
            have hk0 : k = 0 := by simp at hlen; omega
            subst hk0
            refine ⟨#[], rfl, ?_, by rw [List.take_zero]; exact .nil⟩
            simp [Builtin.firstCells, loadCells, loadCellsFrom]
      · cases h
  | _ => simp [srcOf] at h

/-- Elements laid over those of a block. -/
theorem ElemsAt.mid {cs ds : Array Value} {sz off : Nat} {xs ys : List AV} (h : ElemsAt false w X ρ cs sz xs) (k : RowOf w X ds sz ys) (hle : off + ys.length ≤ xs.length) :
    ElemsAt false w X ρ ((cs.toList.take (off * sz) ++ ds.toList ++ cs.toList.drop (off * sz + ds.toList.length)).toArray) sz (splice xs off ys) := by
  have hds : ds.toList.length = ys.length * sz := by simp [k.size]
  have hfit : off * sz + ds.toList.length ≤ cs.size := by
    rw [hds, ← Nat.add_mul]
    exact Nat.le_trans (Nat.mul_le_mul_right _ hle) h.1
  refine ⟨by rw [row_written_size _ _ _ hfit, length_splice _ _ _ hle]; exact h.1, fun i x hx => ?_⟩
  rw [getD_splice _ _ _ hle] at hx
  split at hx
  · rename_i hi
    obtain ⟨a1, a2⟩ := (k.el ρ).2 _ x hx
    refine ⟨a1, fun j u hj => ?_⟩
    have hj' : j < sz := by rw [← a1]; exact (List.getElem?_eq_some_iff.1 hj).1
    have hi2 : i - off < ys.length := (List.getElem?_eq_some_iff.1 hx).1
    have hlt : (i - off) * sz + j < ys.length * sz := by
      have : (i - off + 1) * sz ≤ ys.length * sz := Nat.mul_le_mul_right _ hi2
      rw [Nat.add_mul] at this
      omega
    have e : i * sz + j = off * sz + ((i - off) * sz + j) := by
      rw [← Nat.add_assoc, ← Nat.add_mul]
      congr 2
      omega
    rw [row_written _ _ _ hfit, if_pos (by omega)]
    have e2 : i * sz + j - off * sz = (i - off) * sz + j := by omega
    rw [e2, toList_getD]
    exact a2 j u hj
  · rename_i hi
    obtain ⟨a1, a2⟩ := h.2 i x hx
    refine ⟨a1, fun j u hj => ?_⟩
    have hj' : j < sz := by rw [← a1]; exact (List.getElem?_eq_some_iff.1 hj).1
    have hne : ¬ (off * sz ≤ i * sz + j ∧ i * sz + j < off * sz + ds.toList.length) := by
      intro ⟨b1, b2⟩
      rw [hds, ← Nat.add_mul] at b2
      apply hi
      constructor
      · refine Nat.le_of_not_lt fun hlt => ?_
        have : (i + 1) * sz ≤ off * sz := Nat.mul_le_mul_right _ hlt
        rw [Nat.add_mul] at this
        omega
      · refine Nat.lt_of_not_le fun hge => ?_
        have : (off + ys.length) * sz ≤ i * sz := Nat.mul_le_mul_right _ hge
        omega
    rw [row_written _ _ _ hfit, if_neg hne]
    exact a2 j u hj

/-- Elements written into a piece of a block. -/
theorem mid_sound {H : Heap} (hr : HR Y w ρ H) {g : Nm} {k : Blk} (hg : get H g = some k) {b : Nat} (hρ : ρ g = some b) (hpos : 0 < k.sz) (hbox : k.box = false) {off : Nat} (hfrz : k.frz ≤ off) {ds : Array Value} {ys : List AV}
    (hd : RowOf w (XU Y ρ H) ds k.sz ys) (hle : off + ys.length ≤ k.elems.length) :
    ∃ w', (storeCells ⟨b, off * k.sz, none⟩ ds.toList).run P w = .ok () w' ∧ HR Y w' ρ (set H g (some { k with elems := splice k.elems off ys })) ∧ Stable w (XX ρ H) w' (XX ρ (set H g (some { k with elems := splice k.elems off ys }))) := by
  obtain ⟨cs, T, hh, hel⟩ := (hr.at hg hρ).cells hpos
  rw [hbox] at hel
  have hds : ds.toList.length = ys.length * k.sz := by simp [hd.size]
  have hfit : off * k.sz + ds.toList.length ≤ cs.size := by
    rw [hds, ← Nat.add_mul]
    exact Nat.le_trans (Nat.mul_le_mul_right _ hle) hel.1
  have hst := run_storeCells_at P b (off * k.sz) T ds.toList 0 cs w hh (by simpa using hfit) hd.one
  simp only [Nat.add_zero] at hst
  refine ⟨_, hst, ?_⟩
  refine hr.write hg hρ hpos rfl rfl rfl (by simp) (fun j hj => setRow_other w b j _ hj) hh (setRow_heap w b cs _ T _ hh) (row_written_size _ _ _ hfit) (fun o ho => row_written_low _ _ _ hfit o ?_) rfl (Nat.le_refl _) ?_
  · exact Nat.lt_of_lt_of_le ho (Nat.mul_le_mul_right _ hfrz)
  · show ElemsAt k.box _ _ _ _ _ _
    rw [hbox]
    exact hel.mid hd hle

theorem splice_nil (xs : List AV) (off : Nat) : splice xs off [] = xs := by simp [splice]
theorem HR.same_set {H : Heap} {g : Nm} {k : Blk} (hr : HR Y w ρ H) (hg : get H g = some k) : HR Y w ρ (set H g (some k)) ∧ Stable w (XX ρ H) w (XX ρ (set H g (some k))) := by
  have hl : Less (set H g (some k)) H := Less.set_stop hg rfl rfl rfl (Nat.le_refl _)
  exact ⟨hr.less hl, hl.st⟩

theorem opCopy_sound {H : Heap} (hr : HR Y w ρ H) {t t' ty : TypeId} {d x : AV} {vd vx : Value} {r : Res} (hd : VR w (XU Y ρ H) ρ vd d) (hx : VR w (XU Y ρ H) ρ vx x) (h : opCopy P t d x H = some r) :
    r.new = [] ∧ ∃ v w', (Builtin.copy_ #[t, t'] ty #[vd, vx]).run P w = .ok v w' ∧ HR Y w' ρ (putAll H r.wr) ∧ Stable w (XX ρ H) w' (XX ρ (putAll H r.wr)) ∧ VR w' (XU Y ρ (putAll H r.wr)) ρ v r.val := by
  unfold opCopy at h
  split at h
  · rename_i e he
    split at h
    · rename_i size g sz off len sz' ys l hsz hsrc
      split at h
      · rename_i k hg
        split at h
        · rename_i hc
          obtain ⟨c1, c2, c3, c4, c5, c6, c7⟩ := hc
          cases h
          subst c1
          obtain ⟨news, n1, n2, n3⟩ := srcOf_first (P := P) (k := min ys.length len) hr c3 hx hsrc c7 (Nat.min_le_left _ _)
          have htk : ys.take len = ys.take (min ys.length len) := by
            rcases Nat.le_total ys.length len with hh | hh
            · rw [Nat.min_eq_left hh, List.take_of_length_le hh, List.take_length]
            · rw [Nat.min_eq_right hh]
          have hsz' : (sizeOf e).run P w = .ok sz w := run_tsize hsz w
          refine ⟨rfl, .int .i64 (min ys.length len : Nat), ?_⟩
          simp only [putAll]
          rw [htk]
          rcases hd.ownInv with ⟨a, rfl, rfl⟩ | ⟨b, cap, rfl, hρ, hb, hlc, hk⟩
          · have hmin : min ys.length 0 = 0 := Nat.min_zero _
            rw [hmin] at n2 n3 ⊢
            have hnews : news = #[] := by
              have := n3.size
              simp at this
              exact this
            subst hnews
            rw [List.take_zero, splice_nil]
            obtain ⟨s1, s2⟩ := hr.same_set hg
            refine ⟨w, ?_, s1, s2, .pur _ _ (.int _ _)⟩
            have hst : ∀ a : Addr, (storeCells a []).run P w = .ok () w := fun a => by simp [storeCells]
            cases a <;> simp [Builtin.copy_, run_underlying (telem_un he), n1, n2, hsz', hst, goInt, Nat.min_def]
          · subst c2
            have hlt : (ys.take (min ys.length len)).length = min ys.length len := by rw [List.length_take]; omega
            obtain ⟨w', hst, s1, s2⟩ := mid_sound (P := P) hr hg hρ c3 c5 c6 n3 (by rw [hlt]; omega)
            refine ⟨w', ?_, s1, s2, .pur _ _ (.int _ _)⟩
            have hmn : Nat.min ys.length len = min ys.length len := rfl
            simp [Builtin.copy_, run_underlying (telem_un he), n1, hmn, n2, hsz', hst, goInt]
        · cases h
      · cases h
    · cases h
  · cases h

theorem RowOf.of_elems {cs : Array Value} {sz : Nat} {es : List AV} (hpos : 0 < sz) (hs : cs.size = es.length * sz) (h : ∀ ρ, ElemsAt false w X ρ cs sz es) : RowOf w X cs sz es := by
  refine ⟨hs, fun v hv => ?_, h⟩
  obtain ⟨q, hq, rfl⟩ := List.mem_iff_getElem.1 hv
  have hq' : q < cs.size := by simpa using hq
  have hi : q / sz < es.length := Nat.div_lt_of_lt_mul (by rw [Nat.mul_comm, ← hs]; exact hq')
  have hj : q % sz < sz := Nat.mod_lt _ hpos
  obtain ⟨a1, a2⟩ := (h (fun _ => none)).2 (q / sz) es[q / sz] (by simp [hi])
  have := (a2 (q % sz) es[q / sz].cells[q % sz] (by simp [a1, hj])).1
  rw [show q / sz * sz + q % sz = q from Nat.div_add_mod' q sz] at this
  simpa [Array.getD, hq'] using this

theorem opClear_sound {H : Heap} (hr : HR Y w ρ H) {t ty : TypeId} {d : AV} {vd : Value} {r : Res} (hd : VR w (XU Y ρ H) ρ vd d) (h : opClear P t d H = some r) :
    r.new = [] ∧ ∃ v w', (Builtin.clear_ #[t] ty #[vd]).run P w = .ok v w' ∧ HR Y w' ρ (putAll H r.wr) ∧ Stable w (XX ρ H) w' (XX ρ (putAll H r.wr)) ∧ VR w' (XU Y ρ (putAll H r.wr)) ρ v r.val := by
  unfold opClear at h
  split at h
  · rename_i e he
    split at h
    · rename_i size z g sz off len hsz hz
      split at h
      · rename_i k hg
        split at h
        · rename_i hc
          obtain ⟨c1, c2, c3, c4, c5, c6, c7, c8⟩ := hc
          cases h
          subst c1
          obtain ⟨zv, hrun, hcv, _⟩ := run_tzeroP hz w
          have hzr : ∀ X', PR w X' zv z := fun X' => by rw [hcv]; exact (cv_rel w X' zv).nt
          refine ⟨rfl, .tuple #[], ?_⟩
          simp only [putAll]
          rcases hd.ownInv with ⟨a, rfl, rfl⟩ | ⟨b, cap, rfl, hρ, hb, hlc, hk⟩
          · rw [List.replicate_zero, splice_nil]
            obtain ⟨s1, s2⟩ := hr.same_set hg
            refine ⟨w, ?_, s1, s2, .tup #[] [] rfl (fun i x hx => by simp at hx)⟩
            cases a <;> simp [Builtin.clear_, run_underlying (telem_un he)]
          · subst c2
            have hzs : zv.cells.size = k.sz := by
              have h1 : VR w (XU Y ρ H) ρ zv z := .pur _ _ (hzr _)
              rw [(h1.aggRel c8).size, c7]
            by_cases h0 : len = 0
            · subst h0
              rw [List.replicate_zero, splice_nil]
              obtain ⟨s1, s2⟩ := hr.same_set hg
              refine ⟨w, ?_, s1, s2, .tup #[] [] rfl (fun i x hx => by simp at hx)⟩
              simp [Builtin.clear_, run_underlying (telem_un he)]
            · have hrow : RowOf w (XU Y ρ H) (Builtin.zeroCells zv.cells len) k.sz (List.replicate len z) := by
                refine RowOf.of_elems c3 (by simp [Builtin.zeroCells, hzs]) (fun ρ' => ?_)
                have := elems_replicate (ρ := ρ') (n := len) (m := len) (hzr (XU Y ρ H)) c8 c7 c3 (Nat.le_refl _)
                simpa [Builtin.zeroCells, hzs] using this
              obtain ⟨w', hst, s1, s2⟩ := mid_sound (P := P) hr hg hρ c3 c5 c6 hrow (by simp; omega)
              refine ⟨w', ?_, s1, s2, .tup #[] [] rfl (fun i x hx => by simp at hx)⟩
              obtain ⟨m, rfl⟩ : ∃ m, len = m + 1 := ⟨len - 1, by omega⟩
              simp [Builtin.clear_, run_underlying (telem_un he), hrun, hst]
        · cases h
      · cases h
    · cases h
  · cases h

end
end Go.Abs
