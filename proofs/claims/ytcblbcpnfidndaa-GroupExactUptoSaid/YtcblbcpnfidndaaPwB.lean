/- The abstract interpreter, second part: calls, regions, loops, functions. Nothing is proved here. -/
import Derived.Test.YtcblbcpnfidndaaPwA
set_option linter.unusedSimpArgs false
set_option linter.unusedVariables false
namespace Go.Abs
open Go

/-! ### Names -/

/-- The names in a value (a 'lst' has none). -/
def refs1 : AV → List Nm
  | .ptr g _ _ _ => [g]
  | .own g _ _ _ => [g]
  | _ => []
def refsC : AV → List Nm
  | .clo _ cs => cs.flatMap refs1
  | v => refs1 v
def refsV : AV → List Nm
  | .agg cs => cs.flatMap refsC
  | .tup vs => vs.flatMap fun v => match v with
    | .agg cs => cs.flatMap refsC
    | v => refsC v
  | v => refsC v

/-- The names that an argument hands over to be written: its pointers, those of a closure. -/
def seeds1 : AV → List Nm
  | .ptr g _ _ _ => [g]
  | .clo _ cs => cs.flatMap refs1
  | _ => []
def seedsV : AV → List Nm
  | .agg cs => cs.flatMap seeds1
  | v => seeds1 v

def refsB (H : Heap) (g : Nm) : List Nm :=
  match get H g with
  | some b => if b.box then b.elems.flatMap refsV else []
  | none => []

def addNew (l : List Nm) : List Nm → List Nm
  | [] => l
  | g :: r => if g ∈ l then addNew l r else addNew (l ++ [g]) r

def grow (H : Heap) (l : List Nm) : List Nm := addNew l (l.flatMap (refsB H))
/-- What can be reached from some names. -/
def reach (H : Heap) (l : List Nm) : List Nm := grow H (grow H (grow H (addNew [] l)))

abbrev Ren := Nm → Option Nm
def ren1 (f : Ren) : AV → AV
  | .ptr g sz i off => match f g with
    | some g' => .ptr g' sz i off
    | none => .undef
  | .own g sz off len => match f g with
    | some g' => .own g' sz off len
    | none => .undef
  | .clo _ _ => .undef
  | .agg _ => .undef
  | .tup _ => .undef
  | v => v
def renC (f : Ren) : AV → AV
  | .clo fn cs => .clo fn (cs.map (ren1 f))
  | v => ren1 f v
def renA (f : Ren) : AV → AV
  | .agg cs => .agg (cs.map (renC f))
  | v => renC f v
def renV (f : Ren) : AV → AV
  | .tup vs => .tup (vs.map (renA f))
  | v => renA f v
def renB (f : Ren) (b : Blk) : Blk := if b.box then { b with elems := b.elems.map (renA f) } else b

def idxOf (g : Nm) : List Nm → Nat → Option Nat
  | [], _ => none
  | h :: r, i => if h = g then some i else idxOf g r (i + 1)

/-- The first 'm' groups keep their names; what else can be reached from 'roots' follows, a group each. -/
def renTo (m : Nat) (R : List Nm) : Ren := fun g => if g.1 < m then (if g.2 = 0 then some g else none) else (idxOf g R 0).map fun i => (m + i, 0)

def firstNames (m : Nat) : List Nm := (List.range m).map fun j => (j, 0)

def outside (m : Nat) (R : List Nm) : List Nm := R.filter fun g => !decide (g.1 < m)

/-- The heap behind a compaction. -/
def packH (H : Heap) (m : Nat) (f : Ren) (R : List Nm) : Heap :=
  ((firstNames m) ++ R).map fun g => [(get H g).map (renB f)]

/-- The blocks that are reached and lie outside the first 'm', in the order in which they are met. -/
def reached (H : Heap) (m : Nat) (roots : List Nm) : List Nm := outside m (reach H (addNew (firstNames m) roots))

def tidy (m : Nat) (s : St) : St :=
  let R := reached s.hp m (s.fr.flatMap fun p => refsV p.2)
  let f := renTo m R
  { fr := s.fr.map fun p => (p.1, renV f p.2), hp := packH s.hp m f R }

/-! ### What a table says of each function -/

/-- Of a function: whether it may be run; the slots that are kept behind a region; whether slices that are handed in may be written; the pairs of operations of each region whose blocks are compared. -/
structure Note where
  on : Bool
  locs : List Nat
  share : Bool
  pairs : Nat → List (Nat × Nat)

abbrev Out := AV × List (Option Blk) × List Blk
abbrev CL := FuncId → List AV → List Blk → Option Out

/-! ### A call -/

/-- An argument that is handed over: a slice over the caller's own memory as a list to be read ('share': as it is). -/
def lend1 (H : Heap) (share : Bool) (f : Ren) (x : AV) : Option AV :=
  match x with
  | .own g sz off len => if share then (match f g with
      | some g' => some (.own g' sz off len)
      | none => none)
    else (pure1 H (.own g sz off len)).map (·.1)
  | .lst sz xs _ => some (.lst (lsz sz xs) xs false)
  | x => some (renC f x)
def lendV (H : Heap) (share : Bool) (f : Ren) : AV → Option AV
  | .agg cs => (cs.mapM (lend1 H share f)).map .agg
  | v => lend1 H share f v

def lentNames : AV → List Nm
  | .agg cs => cs.flatMap fun c => match c with
    | .own g _ _ _ => [g]
    | _ => []
  | .own g _ _ _ => [g]
  | _ => []

def scal1 : AV → Bool
  | .bool _ | .int _ _ | .str _ | .nilp | .nilf | .undef => true
  | _ => false
def scalA : AV → Bool
  | .agg cs => cs.all scal1
  | v => scal1 v
/-- No part of the value leads to memory. -/
def scal : AV → Bool
  | .tup vs => vs.all scalA
  | v => scalA v

/-- The callee's names, said in the caller's. -/
def renBack (R : List Nm) (slot : Nat) : Ren := fun g =>
  if g.2 = 0 then (if g.1 < R.length then R[g.1]? else some (slot, g.1 - R.length)) else none

def opCall (share : Bool) (call : List AV → List Blk → Option Out) (args : List AV) (H : Heap) (slot : Nat) : Option Res :=
  let lent := if share then [] else args.flatMap lentNames
  let R := reach H (args.flatMap (if share then fun v => seedsV v ++ lentNames v else seedsV))
  let f : Ren := fun g => (idxOf g R 0).map fun i => (i, 0)
  if lent.any (fun g => R.contains g) then none else
  match args.mapM (lendV H share f), R.mapM (fun g => (get H g).map (renB f)) with
  | some args', some sub =>
    match call args' sub with
    | some (v, sub', new) =>
      if sub'.length = R.length then
        let b := renBack R slot
        some { val := renV b v, rd := R ++ lent,
               wr := (R.zip sub').map (fun p => (p.1, p.2.map (renB b))) ++ (if scal v && new.isEmpty && R.isEmpty then [] else stops H lent),
               new := new.map (renB b) }
      else none
    | none => none
  | _, _ => none

/-! ### An operation -/

def partsOf (fr : Fr) (ps : Array (Nat × Operand)) : List (Nat × AV) := ps.toList.map fun p => (p.1, evO fr p.2)

def one (v : Option AV) : Option Res := v.map fun v => { val := v }

def boolIte (c : Bool) (a b : AV) : AV :=
  match a, b with
  | .bool p, .bool q => .bool (if c then p else q)
  | a, b => if c then a else b

/-- A whole variable made new. -/
def opBox (P : Program) (t : TypeId) (v : AV) (slot : Nat) : Option Res :=
  match tsize P t with
  | some size => if v.cells.length = size ∧ okV v ∧ 0 < size then some { val := .ptr (slot, 0) size 0 0, new := [⟨size, [v], 0, true⟩] } else none
  | none => none

def opAssign (P : Program) (fr : Fr) (t : TypeId) (x : Operand) (slot : Nat) : Option Res :=
  match x with
  | .const (.slice none 0 0) =>
    match telem P t with
    | some e => match tsize P e with
      | some size => some { val := .own (slot, 0) size 0 0, new := [⟨size, [], 0, false⟩] }
      | none => none
    | none => none
  | x => some { val := evO fr x }

/-- A slice against nil. -/
def nilCmp (P : Program) (op : BinOp) (t : TypeId) (x : AV) (oy : Operand) : Option AV :=
  match op, P.underlying t, oy, x with
  | .eql, some (.slice _), .const (.slice none 0 0), .slc b => some (.bool b)
  | .eql, some (.slice _), .const (.slice none 0 0), .lst _ (_ :: _) _ => some (.bool false)
  | _, _, _, _ => none
def opBin3 (P : Program) (op : BinOp) (t : TypeId) (x y : AV) (oy : Operand) : Option AV :=
  match opBin2 P op t x y with
  | some v => some v
  | none => nilCmp P op t x oy

def stepOp (P : Program) (N : FuncId → Note) (call : CL) (o : Oper) (fr : Fr) (H : Heap) (slot : Nat) : Option Res :=
  let ev := evO fr
  match o.op with
  | .move x => some { val := ev x }
  | .assign x => opAssign P fr o.type x slot
  | .pick c a b => match ev c with
    | .bool p => some { val := boolIte p (ev a) (ev b) }
    | _ => none
  | .alloc t => match tzero P t with
    | some z => opBox P t z slot
    | none => none
  | .box t x => opBox P t (ev x) slot
  | .build t ps => one (opBuild P t (partsOf fr ps))
  | .buildSlice t n ps => opBuildSlice P t n (partsOf fr ps) H slot
  | .load t a => opLoad P t (ev a) H
  | .store t a x => opStore P t (ev a) (ev x) H
  | .nilCheck x => match ev x with
    | .ptr g sz i off => if 0 < sz then some { val := .ptr g sz i off } else none
    | .lp sz xs i off => some { val := .lp sz xs i off }
    | _ => none
  | .binOp op t x y _ => one (opBin3 P op t (ev x) (ev y) y)
  | .unOp op _ x => one (opUn op (ev x))
  | .convert a b x => one (opConvert P a b (ev x))
  | .makeFunc (.func f) first caps => if first.isEmpty then some { val := .clo f (caps.toList.map ev) } else none
  | .makeSlice t l c => opMakeSlice P t (ev l) (ev c) slot
  | .slice t x lo hi mx => opSlice P t (ev x) (lo.map ev) (hi.map ev) (mx.map ev) H
  | .fieldAddr t x f => one (opFieldAddr P t (ev x) f)
  | .field t x f => one (opField P t (ev x) f)
  | .indexAddr t x i => one (opIndexAddr P t (ev x) (ev i))
  | .index t x i => one (opIndex P t (ev x) (ev i))
  | .lookup t m k ok => match opLookup P t (ev m) (ev k) ok with
    | some v => some { val := v }
    | none => opLookupM P t (ev m) (ev k) ok H
  | .mapUpdate t m k v => opMapUpdate P t (ev m) (ev k) (ev v) H
  | .makeMap _ none => some { val := .ptr (slot, 0) 0 0 0, new := [⟨0, [], 0, false⟩] }
  | .extract x i => match ev x with
    | .tup vs => match vs[i]? with
      | some v => some { val := v }
      | none => none
    | _ => none
  | .call c => match c.callee with
    | .value f => match ev f with
      | .clo fn caps => opCall (N fn).share (call fn) (c.args.toList.map ev ++ caps) H slot
      | _ => none
    | .builtin .len => match c.args.toList, c.argTypes.toList with
      | [x], [t] => one (opLen P t (ev x))
      | _, _ => none
    | .builtin .append => match c.args.toList, c.argTypes.toList with
      | [s, x], [t, t'] => if t = t' then opAppend P t (ev s) (ev x) H slot else none
      | _, _ => none
    | .builtin .copy => match c.args.toList, c.argTypes.toList with
      | [d, x], [t, _] => opCopy P t (ev d) (ev x) H
      | _, _ => none
    | .builtin .clear => match c.args.toList, c.argTypes.toList with
      | [d], [t] => opClear P t (ev d) H
      | _, _ => none
    | .builtin .min => match c.args.toList.map ev with
      | x :: r => one (minA x r)
      | [] => none
    | .builtin .max => match c.args.toList.map ev with
      | x :: r => one (maxA x r)
      | [] => none
    | _ => none
  | _ => none

/-! ### A region -/

def makes : Op → Bool
  | .alloc _ | .box .. | .buildSlice .. | .makeSlice .. | .assign (.const (.slice none 0 0)) => true
  | .makeMap _ none => true
  | .call { callee := .value _, .. } => true
  | .call { callee := .builtin .append, .. } => true
  | _ => false

def putAll (H : Heap) : List (Nm × Option Blk) → Heap
  | [] => H
  | (g, b) :: r => putAll (set H g b) r

def putDst (fr : Fr) : Option Nat → AV → Fr
  | some d, v => ins d v fr
  | none, _ => fr

/-- The group of operation i of a region whose groups begin at 'base'. -/
def slotOf (ops : Array Oper) (base i : Nat) : Nat := base + ((ops.toList.take i).filter fun o => makes o.op).length

def goesOn (ops : Array Oper) (fr : Fr) (o : Oper) : Option Bool :=
  match o.guard with
  | none => some true
  | some (j, want) =>
    match (ops[j]?).bind (·.dst) with
    | some d => match look fr d with
      | .bool b => some (b == want)
      | .tup [] => some false
      | _ => none
    | none => none

def newGroup (H : Heap) (slot : Nat) (mk : Bool) (new : List Blk) : Option Heap :=
  if mk then some (H.set slot (new.map some)) else if new.isEmpty then some H else none

structure Env where
  P : Program
  N : FuncId → Note
  call : Nat → CL
  nt : Nat
  locs : List Nat
  pairs : Nat → List (Nat × Nat)
  keep : Nat

def dstOk (nt : Nat) : Option Nat → Bool
  | some d => decide (d < nt)
  | none => true

def stepI (E : Env) (ops : Array Oper) (base i : Nat) (s : St) : Option (St × Option Res) :=
  match ops[i]? with
  | none => some (s, none)
  | some o =>
    if dstOk E.nt o.dst then
      match goesOn ops s.fr o with
      | none => none
      | some false => some ({ s with fr := putDst s.fr o.dst (.tup []) }, none)
      | some true =>
        match stepOp E.P E.N (E.call (slotOf ops base i)) o s.fr s.hp (slotOf ops base i) with
        | some r =>
          match newGroup (putAll s.hp r.wr) (slotOf ops base i) (makes o.op) r.new with
          | some H => some ({ fr := putDst s.fr o.dst r.val, hp := H }, some r)
          | none => none
        | none => none
    else none

/-- Some operations, one behind the other. -/
def runL (E : Env) (ops : Array Oper) (base : Nat) : List Nat → St → Option (St × List (Option Res))
  | [], s => some (s, [])
  | i :: r, s => match stepI E ops base i s with
    | some (s', x) => match runL E ops base r s' with
      | some (s'', xs) => some (s'', x :: xs)
      | none => none
    | none => none

/-- Two operations do not meet in a block that one of them writes. -/
def apart2 (x y : Option Res) : Bool :=
  match x, y with
  | some a, some b => (b.rd ++ b.wr.map (·.1)).all (fun g => !(a.wr.map (·.1)).contains g) && a.rd.all (fun g => !(b.wr.map (·.1)).contains g)
  | _, _ => true

/-- None of the blocks lies in the other's group. -/
def noSlot (mk : Bool) (slot : Nat) (x : Option Res) : Bool :=
  !mk || match x with
    | some r => (r.rd ++ r.wr.map (·.1)).all fun g => g.1 != slot
    | none => true

def makesAt (ops : Array Oper) (i : Nat) : Bool :=
  match ops[i]? with
  | some o => makes o.op
  | none => false

def apart3 (ops : Array Oper) (base i j : Nat) (x y : Option Res) : Bool :=
  apart2 x y && noSlot (makesAt ops i) (slotOf ops base i) y && noSlot (makesAt ops j) (slotOf ops base j) x

/-- Whether the operation looks at blocks, or makes some. -/
def hot : Op → Bool
  | .load .. | .store .. | .lookup .. | .mapUpdate .. => true
  | .slice _ _ _ _ (some _) => true
  | .call { callee := .builtin .copy, .. } => true
  | .call { callee := .builtin .clear, .. } => true
  | op => makes op
def isLoad : Op → Bool
  | .load .. => true
  | _ => false

/-- What is asked of a region that draws its order, once and for all: operations in no order do not meet in a slot, and those that look at blocks are compared ('pairs'). -/
def okDraw (pairs : List (Nat × Nat)) (ops : Array Oper) : Bool :=
  let b := Region.before ops
  (List.range ops.size).all fun j =>
    match ops[j]? with
    | none => false
    | some y => (y.after.toList.all fun e => !Region.binds .any e || decide (e.on < j)) &&
      (List.range j).all fun i => (b.getD j 0).testBit i ||
        match ops[i]? with
        | none => false
        | some x => x.apart ops y && (!hot x.op || !hot y.op || (isLoad x.op && isLoad y.op) || pairs.contains (i, j))

def okCode (pairs : Nat → List (Nat × Nat)) : Code → Bool
  | .region id ops draw => !draw || okDraw (pairs id) ops
  | .seq a b => okCode pairs a && okCode pairs b
  | .cond _ a b => okCode pairs a && okCode pairs b
  | .block _ b => okCode pairs b
  | .loop b => okCode pairs b
  | .scope b => okCode pairs b
  | _ => true

def clear (locs : List Nat) (fr : Fr) : Fr := fr.filter fun p => locs.contains p.1

def nMakes (ops : Array Oper) : Nat := (ops.toList.filter fun o => makes o.op).length

def runRegion (E : Env) (id : Nat) (ops : Array Oper) (draw : Bool) (s : St) : Option St :=
  match runL E ops s.hp.length (List.range ops.size) { s with hp := s.hp ++ List.replicate (nMakes ops) [] } with
  | some (s', xs) =>
    if draw && !((E.pairs id).all fun p => apart3 ops s.hp.length p.1 p.2 (xs.getD p.1 none) (xs.getD p.2 none)) then none
    else some { s' with fr := clear E.locs s'.fr }
  | none => none

/-! ### Code -/

inductive Ex where
  | normal
  | exit (id : Nat)
  | ret

/-! ### Functions -/

def frOf : List AV → Nat → Fr
  | [], _ => []
  | x :: r, i => (i, x) :: frOf r (i + 1)

def resOf (P : Program) (fr : Fr) (H : Heap) : ResultVar → Option AV
  | .tmp t => some (look fr t)
  | .cell a t => (opLoad P t (look fr a) H).map (·.val)

def resAll (P : Program) (fr : Fr) (H : Heap) (rs : List ResultVar) : Option AV :=
  match rs.mapM (resOf P fr H) with
  | some [v] => some v
  | some vs => some (.tup vs)
  | none => none

def finish (P : Program) (fn : Func) (m : Nat) (s : St) : Option Out :=
  match resAll P s.fr s.hp fn.results.toList with
  | some v =>
    let R := reached s.hp m (refsV v)
    let f := renTo m R
    match R.mapM (fun g => (get s.hp g).map (renB f)) with
    | some new => some (renV f v, (firstNames m).map (fun g => (get s.hp g).map (renB f)), new)
    | none => none
  | none => none

def envOf (P : Program) (N : FuncId → Note) (call : Nat → CL) (f : FuncId) (fn : Func) (m : Nat) : Env :=
  { P, N, call, nt := fn.ntmps, locs := (N f).locs, pairs := (N f).pairs, keep := m }

end Go.Abs
