/- The abstract interpreter: what an operation of the model makes of abstract values and an abstract heap. Nothing is proved here. -/
import Derived.Orders
set_option linter.unusedSimpArgs false
set_option linter.unusedVariables false
namespace Go.Abs
open Go

/-- The name of a block of the abstract heap: its group, its place in the group. -/
abbrev Nm := Nat × Nat

/-- An abstract value. 'lst': a slice that is only read, by its elements. 'own': a slice over a block of the abstract heap. 'fm': a map of functions that is only read: key, function, the functions that it caught. 'fp': the address of a function that is only read. 'lp': the address of a cell of an element of a 'lst'. -/
inductive AV where
  | undef
  | bool (b : Bool)
  | int (k : IntKind) (n : Int)
  | str (s : ByteArray)
  | nilp
  | nilf
  | ptr (g : Nm) (sz i off : Nat)
  | lp (sz : Nat) (xs : List AV) (i off : Nat)
  | lst (sz : Nat) (xs : List AV) (tight : Bool)
  | slc (isNil : Bool)
  | own (g : Nm) (sz off len : Nat)
  | clo (f : FuncId) (caps : List AV)
  | fm (l : List (Int × FuncId × List FuncId))
  | fp (g : FuncId)
  | agg (cs : List AV)
  | tup (vs : List AV)

instance : Inhabited AV := ⟨.undef⟩

def AV.cells : AV → List AV
  | .agg cs => cs
  | v => [v]

def AV.isAgg : AV → Bool
  | .agg _ => true
  | _ => false

/-- A value of one cell that is known. -/
def okC : AV → Bool
  | .undef | .agg _ | .tup _ => false
  | _ => true
def okV : AV → Bool
  | .agg _ => true
  | v => okC v

/-- A block: elements of 'sz' cells each; the first 'frz' of them are not written any more; 'box': a variable. -/
structure Blk where
  sz : Nat
  elems : List AV
  frz : Nat
  box : Bool

abbrev Heap := List (List (Option Blk))

def get (H : Heap) (g : Nm) : Option Blk :=
  match H[g.1]? with
  | some l => (l[g.2]?).join
  | none => none

def set (H : Heap) (g : Nm) (b : Option Blk) : Heap := H.modify g.1 fun l => l.set g.2 b

abbrev Fr := List (Nat × AV)

def look : Fr → Nat → AV
  | [], _ => .undef
  | (s, x) :: r, t => if s = t then x else look r t

def ins (s : Nat) (x : AV) : Fr → Fr
  | [] => [(s, x)]
  | (t, y) :: r => if s < t then (s, x) :: (t, y) :: r else if s = t then (s, x) :: r else (t, y) :: ins s x r

structure St where
  fr : Fr
  hp : Heap

/-- A constant of one cell. -/
def cv1 : Value → AV
  | .bool b => .bool b
  | .int k n => .int k n
  | .string s => .str s
  | .pointer none => .nilp
  | .nilFunc => .nilf
  | .slice none 0 0 => .lst 0 [] true
  | _ => .undef

def cv : Value → AV
  | .agg cs => if (cs.toList.map cv1).all okC then .agg (cs.toList.map cv1) else .undef
  | v => cv1 v

def evO (fr : Fr) : Operand → AV
  | .tmp t => look fr t
  | .const v => cv v
  | .global _ => .undef
  | .func f => .clo f []

/-- What an operation made: its value; the blocks that it looked at; those that it wrote; the blocks that it made (they are the op's own group). -/
structure Res where
  val : AV
  rd : List Nm := []
  wr : List (Nm × Option Blk) := []
  new : List Blk := []

/-- The number of cells of a type, the number of its bytes, whether it is a struct or an array, its zero. -/
def tsize (P : Program) (t : TypeId) : Option Nat := (P.info? t).map (·.size)
def tbytes (P : Program) (t : TypeId) : Option Nat := (P.info? t).map (·.bytes)
def tagg (P : Program) (t : TypeId) : Option Bool :=
  match P.underlying t with
  | some (.struct _) | some (.array _ _) => some true
  | some _ => some false
  | none => none
def tzero (P : Program) (t : TypeId) : Option AV :=
  match P.info? t with
  | some i => match i.zero with
    | some z => some (cv z)
    | none => none
  | none => none
/-- A row that may be appended to is one that may not. -/
def nt1 : AV → AV
  | .lst sz xs _ => .lst sz xs false
  | v => v
def ntV : AV → AV
  | .agg cs => .agg (cs.map nt1)
  | v => nt1 v
def tzeroP (P : Program) (t : TypeId) : Option AV := (tzero P t).map ntV

def telem (P : Program) (t : TypeId) : Option TypeId :=
  match P.underlying t with
  | some (.slice e) => some e
  | _ => none

/-- The size of the elements of a list; of an empty one it is 0. -/
def lsz (sz : Nat) (xs : List AV) : Nat :=
  match xs with
  | [] => 0
  | _ :: _ => sz

/-- A slice over the call's own memory becomes a list that is only read: the blocks are no longer written. -/
def pure1 (H : Heap) : AV → Option (AV × List Nm)
  | .own g sz off len =>
    match get H g with
    | some b => if off + len ≤ b.elems.length ∧ b.box = false ∧ b.sz = sz ∧ 0 < sz then some (.lst (lsz b.sz ((b.elems.drop off).take len)) ((b.elems.drop off).take len) false, [g]) else none
    | none => none
  | .ptr .. => none
  | .clo .. => none
  | .lp .. => none
  | .agg _ => none
  | .tup _ => none
  | .slc _ => none
  | .fm _ => none
  | .fp _ => none
  | .lst sz xs _ => some (.lst (lsz sz xs) xs false, [])
  | v => some (v, [])

def pureL (H : Heap) : List AV → Option (List AV × List Nm)
  | [] => some ([], [])
  | x :: r =>
    match pure1 H x, pureL H r with
    | some (y, l), some (ys, m) => some (y :: ys, l ++ m)
    | _, _ => none

def pureV (H : Heap) : AV → Option (AV × List Nm)
  | .agg cs => match pureL H cs with
    | some (ys, l) => some (.agg ys, l)
    | none => none
  | .tup _ => none
  | v => pure1 H v

def Blk.stop (b : Blk) : Blk := { b with frz := max b.frz b.elems.length }

/-- The writes that say of some blocks that they are no longer written. -/
def stops (H : Heap) (l : List Nm) : List (Nm × Option Blk) := l.map fun g => (g, (get H g).map Blk.stop)

/-- The cells from 'off' on replaced. -/
def splice (cs : List AV) (off : Nat) (new : List AV) : List AV := cs.take off ++ new ++ cs.drop (off + new.length)

/-- A value of a type out of cells. -/
def ofCells (agg : Bool) (cs : List AV) : Option AV :=
  if agg then some (.agg cs) else match cs with
    | [c] => some c
    | _ => none

def loadAt (size : Nat) (agg : Bool) (x : AV) (off : Nat) : Option AV :=
  if off + size ≤ x.cells.length then
    (if off = 0 ∧ size = x.cells.length ∧ x.isAgg = agg then some x else ofCells agg ((x.cells.drop off).take size))
  else none

def opLoad (P : Program) (t : TypeId) (p : AV) (H : Heap) : Option Res :=
  match tsize P t, tagg P t with
  | some size, some agg =>
    match p with
    | .ptr g sz i off =>
      match get H g with
      | some b => if b.sz = sz ∧ 0 < sz then
          match b.elems[i]? with
          | some x => (loadAt size agg x off).map fun v => { val := v, rd := [g] }
          | none => none
        else none
      | none => none
    | .lp sz xs i off =>
      match xs[i]? with
      | some x => if x.cells.length = sz then (loadAt size agg x off).map fun v => { val := v } else none
      | none => none
    | .fp g => if size = 1 ∧ agg = false then some { val := .clo g [] } else none
    | _ => none
  | _, _ => none

/-- A function out of a map of functions. -/
def fmAt (l : List (Int × FuncId × List FuncId)) (n : Int) : AV × Bool :=
  match l with
  | [] => (.nilf, false)
  | (k, f, gs) :: r => if n = k then (.clo f (gs.map .fp), true) else fmAt r n

def opLookup (P : Program) (t : TypeId) (m k : AV) (ok : Bool) : Option AV :=
  match P.underlying t, m, k with
  | some (.map kt et), .fm l, .int .i64 n =>
    match P.underlying kt, tzero P et with
    | some (.int .i64), some .nilf => some (if ok then .tup [(fmAt l n).1, .bool (fmAt l n).2] else (fmAt l n).1)
    | _, _ => none
  | _, _, _ => none

/-! ### A map from numbers, in a block: the block's elements have size 0; each is a pair of key and value. The map itself is the pointer '.ptr g 0 0 0'. -/

/-- A value of an entry. -/
def okS : AV → Bool
  | .bool _ | .int _ _ | .str _ => true
  | _ => false

def mpFind (n : Int) : List AV → Option AV
  | .agg [.int .i64 k, x] :: r => if n = k then some x else mpFind n r
  | _ => none

def mpPut (n : Int) (v : AV) : List AV → List AV
  | .agg [.int .i64 k, x] :: r => if n = k then .agg [.int .i64 k, v] :: r else .agg [.int .i64 k, x] :: mpPut n v r
  | _ => [.agg [.int .i64 n, v]]

/-- The block of a map. -/
def mpBlk (H : Heap) : AV → Option (Nm × Blk)
  | .ptr g 0 0 0 => match get H g with
    | some b => if b.sz = 0 ∧ b.box = false then some (g, b) else none
    | none => none
  | _ => none

/-- A type of maps from numbers. -/
def mpTy (P : Program) (t : TypeId) : Option TypeId :=
  match P.underlying t with
  | some (.map kt et) => match P.underlying kt with
    | some (.int .i64) => some et
    | _ => none
  | _ => none

def opLookupM (P : Program) (t : TypeId) (m k : AV) (ok : Bool) (H : Heap) : Option Res :=
  match mpTy P t, mpBlk H m, k with
  | some et, some (g, b), .int .i64 n => match tzero P et with
    | some z => if okS z then some { val := if ok then .tup [(mpFind n b.elems).getD z, .bool (mpFind n b.elems).isSome] else (mpFind n b.elems).getD z, rd := [g] } else none
    | none => none
  | _, _, _ => none

def opMapUpdate (P : Program) (t : TypeId) (m k v : AV) (H : Heap) : Option Res :=
  match mpTy P t, mpBlk H m, k with
  | some _, some (g, b), .int .i64 n => if okS v then some { val := .tup [], rd := [g], wr := [(g, some { b with elems := mpPut n v b.elems })] } else none
  | _, _, _ => none

/-- An element of which a part is written. -/
def newElem (x : AV) (off size sz : Nat) (u : AV) : Option AV :=
  if off = 0 ∧ size = sz then some u else if x.isAgg then some (.agg (splice x.cells off u.cells)) else none

def opStore (P : Program) (t : TypeId) (p v : AV) (H : Heap) : Option Res :=
  match tsize P t with
  | some size =>
    match p with
    | .ptr g sz i off =>
      match get H g with
      | some b =>
        if b.sz = sz ∧ b.frz ≤ i ∧ 0 < sz then
          match b.elems[i]? with
          | some x =>
            if b.box then
              (if v.cells.length = size ∧ off + size ≤ sz ∧ okV v then
                match newElem x off size sz v with
                | some x' => some { val := .tup [], rd := [g], wr := [(g, some { b with elems := b.elems.set i x' })] }
                | none => none
              else none)
            else
              match pureV H v with
              | some (u, l) =>
                if u.cells.length = size ∧ off + size ≤ sz ∧ ¬ g ∈ l ∧ okV u then
                  match newElem x off size sz u with
                  | some x' => some { val := .tup [], rd := g :: l, wr := stops H l ++ [(g, some { b with elems := b.elems.set i x' })] }
                  | none => none
                else none
              | none => none
          | none => none
        else none
      | none => none
    | _ => none
  | none => none

def fieldOf (P : Program) (t : TypeId) (f : Nat) : Option (Nat × TypeId) :=
  match P.underlying t with
  | some (.struct fs) => match fs[f]? with
    | some x => some (x.offset, x.type)
    | none => none
  | _ => none

def opFieldAddr (P : Program) (t : TypeId) (p : AV) (f : Nat) : Option AV :=
  match fieldOf P t f with
  | some (o, ft) =>
    if tsize P ft = none ∨ tsize P ft = some 0 then none else
    match p with
    | .ptr g sz i off => if 0 < sz then some (.ptr g sz i (off + o)) else none
    | .lp sz xs i off => some (.lp sz xs i (off + o))
    | _ => none
  | none => none

def partOf (P : Program) (t : TypeId) (cs : List AV) (off : Nat) : Option AV :=
  match tsize P t, tagg P t with
  | some size, some agg => if off + size ≤ cs.length then ofCells agg ((cs.drop off).take size) else none
  | _, _ => none

def opField (P : Program) (t : TypeId) (x : AV) (f : Nat) : Option AV :=
  match fieldOf P t f, x with
  | some (o, ft), .agg cs => partOf P ft cs o
  | _, _ => none

def opIndexAddr (P : Program) (t : TypeId) (x i : AV) : Option AV :=
  match P.underlying t, i with
  | some (.slice e), .int _ n =>
    match x with
    | .own g sz off len => if tsize P e = some sz ∧ 0 ≤ n ∧ n < len ∧ 0 < sz then some (.ptr g sz (off + n.toNat) 0) else none
    | .lst sz xs _ => if 0 ≤ n ∧ n < xs.length ∧ tsize P e = some sz then some (.lp sz xs n.toNat 0) else none
    | _ => none
  | some (.array len e), .int _ n =>
    match x with
    | .ptr g sz j off => match tsize P e with
      | some es => if 0 ≤ n ∧ n < len ∧ 0 < sz then some (.ptr g sz j (off + n.toNat * es)) else none
      | none => none
    | _ => none
  | _, _ => none

def opIndex (P : Program) (t : TypeId) (x i : AV) : Option AV :=
  match P.underlying t, x, i with
  | some (.array len e), .agg cs, .int _ n =>
    match tsize P e with
    | some es => if 0 ≤ n ∧ n < len then partOf P e cs (n.toNat * es) else none
    | none => none
  | some .string, .str s, .int _ n =>
    match (if 0 ≤ n then s[n.toNat]? else none) with
    | some b => some (.int .u8 b.toNat)
    | none => none
  | _, _, _ => none

/-- The bits of two numbers of a kind. -/
def bitI (op : BinOp) (k : IntKind) (a b : Int) : Int :=
  match op with
  | .and => k.wrap (BitVec.ofInt k.bits a &&& BitVec.ofInt k.bits b).toNat
  | .or => k.wrap (BitVec.ofInt k.bits a ||| BitVec.ofInt k.bits b).toNat
  | .xor => k.wrap (BitVec.ofInt k.bits a ^^^ BitVec.ofInt k.bits b).toNat
  | _ => 0
def shlI (k : IntKind) (a b : Int) : Int := k.wrap (a * 2 ^ (min b.toNat k.bits))
def shrI (k : IntKind) (a b : Int) : Int := a.fdiv (2 ^ (min b.toNat k.bits))

def opBin (op : BinOp) (x y : AV) : Option AV :=
  match x, y with
  | .int k a, .int k' b =>
    match op with
    | .and => if k = k' then some (.int k (bitI .and k a b)) else none
    | .or => if k = k' then some (.int k (bitI .or k a b)) else none
    | .xor => if k = k' then some (.int k (bitI .xor k a b)) else none
    | .shl => if 0 ≤ b then some (.int k (shlI k a b)) else none
    | .shr => if 0 ≤ b then some (.int k (shrI k a b)) else none
    | .add => if k = k' then some (.int k (k.wrap (a + b))) else none
    | .sub => if k = k' then some (.int k (k.wrap (a - b))) else none
    | .mul => if k = k' then some (.int k (k.wrap (a * b))) else none
    | .quo => if k = k' ∧ b ≠ 0 then some (.int k (k.wrap (a.tdiv b))) else none
    | .rem => if k = k' ∧ b ≠ 0 then some (.int k (a.tmod b)) else none
    | .eql => if k = k' then some (.bool (a == b)) else none
    | .neq => if k = k' then some (.bool (a != b)) else none
    | .lss => if k = k' then some (.bool (a < b)) else none
    | .leq => if k = k' then some (.bool (a ≤ b)) else none
    | .gtr => if k = k' then some (.bool (a > b)) else none
    | .geq => if k = k' then some (.bool (a ≥ b)) else none
    | _ => none
  | .str a, .str b =>
    match op with
    | .add => if a.size + b.size ≤ 4294967296 then some (.str (a ++ b)) else none
    | .eql => some (.bool (a.toList == b.toList))
    | .neq => some (.bool (!(a.toList == b.toList)))
    | .lss => some (.bool (Op.bytesLess a.toList b.toList))
    | .leq => some (.bool (Op.bytesLess a.toList b.toList || a.toList == b.toList))
    | .gtr => some (.bool (!(Op.bytesLess a.toList b.toList || a.toList == b.toList)))
    | .geq => some (.bool (!(Op.bytesLess a.toList b.toList)))
    | _ => none
  | _, _ => none

/-- Whether two values of a type are equal, field by field. -/
def eqFields (P : Program) (eq : TypeId → AV → AV → Option Bool) (xs ys : List AV) : List Field → Option Bool
  | [] => some true
  | f :: r =>
    if f.name = "_" then none else
    match partOf P f.type xs f.offset, partOf P f.type ys f.offset with
    | some a, some b => match eq f.type a b, eqFields P eq xs ys r with
      | some c, some d => some (c && d)
      | _, _ => none
    | _, _ => none

def eqElems (P : Program) (eq : TypeId → AV → AV → Option Bool) (e : TypeId) (size : Nat) (xs ys : List AV) : Nat → Nat → Option Bool
  | 0, _ => some true
  | n + 1, i =>
    match partOf P e xs (i * size), partOf P e ys (i * size) with
    | some a, some b => match eq e a b, eqElems P eq e size xs ys n (i + 1) with
      | some c, some d => some (c && d)
      | _, _ => none
    | _, _ => none

def eqA (P : Program) : Nat → TypeId → AV → AV → Option Bool
  | 0, _, _, _ => none
  | d + 1, t, x, y =>
    match P.underlying t, x, y with
    | some .bool, .bool a, .bool b => some (a == b)
    | some (.int _), .int k a, .int k' b => if k = k' then some (a == b) else none
    | some .string, .str a, .str b => some (a == b)
    | some (.struct fs), .agg xs, .agg ys => if P.stoodInHeld t then none else eqFields P (eqA P d) xs ys fs.toList
    | some (.array n e), .agg xs, .agg ys =>
      match tsize P e with
      | some size => eqElems P (eqA P d) e size xs ys n 0
      | none => none
    | _, _, _ => none

def opEql (P : Program) (t : TypeId) (x y : AV) : Option Bool :=
  match x, y with
  | .bool a, .bool b => eqA P 8 t (.bool a) (.bool b)
  | .agg xs, .agg ys => if P.eqGuardType P.depth t then none else eqA P 8 t (.agg xs) (.agg ys)
  | _, _ => none

def opBin2 (P : Program) (op : BinOp) (t : TypeId) (x y : AV) : Option AV :=
  match opBin op x y with
  | some v => some v
  | none => match op with
    | .eql => (opEql P t x y).map .bool
    | .neq => (opEql P t x y).map fun b => .bool (!b)
    | _ => none

def opUn (op : UnOp) (x : AV) : Option AV :=
  match op, x with
  | .neg, .int k n => some (.int k (k.wrap (0 - n)))
  | .not, .bool b => some (.bool !b)
  | _, _ => none

def opConvert (P : Program) (src dst : TypeId) (x : AV) : Option AV :=
  match P.underlying src, P.underlying dst, x with
  | some (.int _), some (.int k), .int _ n => some (.int k (k.wrap n))
  | some .string, some .string, .str s => some (.str s)
  | _, _, _ => none

/-- The bounds of a slice expression: low, high. -/
def bound (o : Option AV) (dflt : Nat) : Option Nat :=
  match o with
  | none => some dflt
  | some (.int _ n) => if 0 ≤ n then some n.toNat else none
  | some _ => none

def opSlice (P : Program) (t : TypeId) (x : AV) (lo hi mx : Option AV) (H : Heap) : Option Res :=
  match P.underlying t, x with
  | some .string, .str s =>
    match mx, bound lo 0, bound hi s.size with
    | none, some l, some h => if l ≤ h ∧ h ≤ s.size then some { val := .str (s.extract l h) } else none
    | _, _, _ => none
  | some (.slice e), .lst sz xs tight =>
    if (tsize P e).isSome && (decide (tsize P e = some sz) || xs.isEmpty) then
      match mx, bound lo 0, bound hi xs.length with
      | none, some l, some h => if l ≤ h ∧ h ≤ xs.length then some { val := .lst (lsz sz ((xs.drop l).take (h - l))) ((xs.drop l).take (h - l)) (tight && hi.isNone) } else none
      | some m, some l, some h => match bound (some m) 0 with
        | some m => if l ≤ h ∧ h ≤ m ∧ m ≤ xs.length ∧ hi.isSome then some { val := .lst (lsz sz ((xs.drop l).take (h - l))) ((xs.drop l).take (h - l)) (h == m) } else none
        | none => none
      | _, _, _ => none
    else none
  | some (.slice e), .own g sz off len =>
    if tsize P e = some sz then
      match mx, bound lo 0, bound hi len with
      | none, some l, some h => if l ≤ h ∧ h ≤ len then some { val := .own g sz (off + l) (h - l) } else none
      | some m, some l, some h => match bound (some m) 0, get H g with
        | some m, some b => if l ≤ h ∧ h ≤ m ∧ m ≤ len ∧ off + len ≤ b.elems.length ∧ b.box = false ∧ b.sz = sz ∧ hi.isSome ∧ 0 < sz then
            some { val := .lst (lsz sz ((b.elems.drop (off + l)).take (h - l))) ((b.elems.drop (off + l)).take (h - l)) (h == m), rd := [g], wr := stops H [g] } else none
        | _, _ => none
      | _, _, _ => none
    else none
  | _, _ => none

/-- The parts of a struct laid over its zero. -/
def fillA (place : Nat → Option (Nat × Nat)) (cells : List AV) : List (Nat × AV) → Option (List AV)
  | [] => some cells
  | (i, v) :: rest =>
    match place i with
    | none => none
    | some (off, size) => if v.cells.length = size ∧ off + size ≤ cells.length ∧ okV v then fillA place (splice cells off v.cells) rest else none

def opBuild (P : Program) (t : TypeId) (parts : List (Nat × AV)) : Option AV :=
  match tzero P t, P.underlying t with
  | some (.agg z), some (.struct fs) =>
    if !(fs.toList.all fun f => (tsize P f.type).isSome) then none else
    (fillA (fun i => match fs[i]? with
      | some f => (tsize P f.type).map fun s => (f.offset, s)
      | none => none) z parts).map .agg
  | some (.agg z), some (.array _ e) =>
    match tsize P e with
    | some s => (fillA (fun i => some (i * s, s)) z parts).map .agg
    | none => none
  | _, _ => none

/-- The elements of a slice literal. -/
def fillS (H : Heap) (size : Nat) (agg : Bool) (es : List AV) (l : List Nm) : List (Nat × AV) → Option (List AV × List Nm)
  | [] => some (es, l)
  | (i, v) :: rest =>
    match pureV H v with
    | some (u, m) => if u.cells.length = size ∧ u.isAgg = agg ∧ i < es.length ∧ okV u then fillS H size agg (es.set i u) (l ++ m) rest else none
    | none => none

def opBuildSlice (P : Program) (t : TypeId) (len : Nat) (parts : List (Nat × AV)) (H : Heap) (slot : Nat) : Option Res :=
  match telem P t with
  | some e =>
    match tsize P e, tagg P e, tzeroP P e with
    | some size, some agg, some z =>
      if len * size ≤ 65536 ∧ 0 < size ∧ z.cells.length = size ∧ okV z then
        match fillS H size agg (List.replicate len z) [] parts with
        | some (es, l) => some { val := .own (slot, 0) size 0 len, rd := l, wr := stops H l, new := [⟨size, es, 0, false⟩] }
        | none => none
      else none
    | _, _, _ => none
  | none => none

def opMakeSlice (P : Program) (t : TypeId) (l c : AV) (slot : Nat) : Option Res :=
  match telem P t, l, c with
  | some e, .int _ n, .int _ m =>
    match tsize P e, tbytes P e, tzeroP P e with
    | some size, some bytes, some z =>
      if 0 ≤ n ∧ n ≤ m ∧ m ≤ 4294967296 ∧ bytes ≤ 32768 ∧ 0 < size ∧ z.cells.length = size ∧ okV z then
        some { val := .own (slot, 0) size 0 n.toNat, new := [⟨size, List.replicate n.toNat z, 0, false⟩] }
      else none
    | _, _, _ => none
  | _, _, _ => none

/-- The elements that are appended. -/
def srcOf (H : Heap) : AV → Option (Nat × List AV × List Nm)
  | .lst sz xs _ => some (sz, xs, [])
  | .own g sz off len =>
    match get H g with
    | some b => if off + len ≤ b.elems.length ∧ b.box = false ∧ b.sz = sz ∧ 0 < sz then some (sz, (b.elems.drop off).take len, [g]) else none
    | none => none
  | _ => none

def opAppend (P : Program) (t : TypeId) (s x : AV) (H : Heap) (slot : Nat) : Option Res :=
  match telem P t with
  | some e =>
    match tsize P e, tbytes P e, tzero P e, srcOf H x with
    | some size, some bytes, some z, some (sz', ys, l) =>
      if 0 < size ∧ bytes ≤ 32768 ∧ z.cells.length = size ∧ okV z ∧ (sz' = size ∨ ys = []) then
        match s with
        | .lst sz xs tight =>
          if ys = [] ∧ xs ≠ [] then (if sz = size then some { val := .lst size xs tight, rd := l } else none)
          else if tight = true ∧ (sz = size ∨ xs = []) ∧ (xs = [] ∨ 0 < ys.length) ∧ xs.length + ys.length ≤ 4294967296 then
            some { val := .own (slot, 0) size 0 (xs.length + ys.length), rd := l, new := [⟨size, xs ++ ys, 0, false⟩] }
          else none
        | .own g sz off len =>
          match get H g with
          | some b =>
            if sz = size ∧ b.sz = size ∧ off = 0 ∧ len ≤ b.elems.length ∧ b.box = false ∧ b.frz ≤ len ∧ len + ys.length ≤ 4294967296 then
              some { val := .own (slot, 0) size 0 (len + ys.length), rd := g :: l, wr := [(g, none)], new := [⟨size, b.elems.take len ++ ys, b.frz, false⟩] }
            else none
          | none => none
        | _ => none
      else none
    | _, _, _, _ => none
  | none => none

/-- Elements written into a piece of a block. -/
def opCopy (P : Program) (t : TypeId) (d x : AV) (H : Heap) : Option Res :=
  match telem P t with
  | some e =>
    match tsize P e, d, srcOf H x with
    | some size, .own g sz off len, some (sz', ys, l) =>
      match get H g with
      | some b =>
        if sz = size ∧ b.sz = size ∧ 0 < size ∧ off + len ≤ b.elems.length ∧ b.box = false ∧ b.frz ≤ off ∧ (sz' = size ∨ ys = []) then
          some { val := .int .i64 (min ys.length len : Nat), rd := g :: l, wr := [(g, some { b with elems := splice b.elems off (ys.take len) })] }
        else none
      | none => none
    | _, _, _ => none
  | none => none

def opClear (P : Program) (t : TypeId) (d : AV) (H : Heap) : Option Res :=
  match telem P t with
  | some e =>
    match tsize P e, tzeroP P e, d with
    | some size, some z, .own g sz off len =>
      match get H g with
      | some b =>
        if sz = size ∧ b.sz = size ∧ 0 < size ∧ off + len ≤ b.elems.length ∧ b.box = false ∧ b.frz ≤ off ∧ z.cells.length = size ∧ okV z then
          some { val := .tup [], rd := [g], wr := [(g, some { b with elems := splice b.elems off (List.replicate len z) })] }
        else none
      | none => none
    | _, _, _ => none
  | none => none

def lenOf : AV → Option Nat
  | .lst _ xs _ => some xs.length
  | .own _ _ _ len => some len
  | .str s => some s.size
  | _ => none

def opLen (P : Program) (t : TypeId) (x : AV) : Option AV :=
  match P.underlying t with
  | some (.array n _) => some (.int .i64 n)
  | some (.slice _) => match x with
    | .lst _ xs _ => some (.int .i64 xs.length)
    | .own _ _ _ len => some (.int .i64 len)
    | _ => none
  | some .string => match x with
    | .str s => some (.int .i64 s.size)
    | _ => none
  | _ => none

def minA : AV → List AV → Option AV
  | x, [] => some x
  | .int k a, .int k' b :: r => if k = k' then minA (.int k (if b < a then b else a)) r else none
  | _, _ => none

def maxA : AV → List AV → Option AV
  | x, [] => some x
  | .int k a, .int k' b :: r => if k = k' then maxA (.int k (if b > a then b else a)) r else none
  | _, _ => none

end Go.Abs
