/- A run on typed values that are not known: operations, calls, code. Definitions. -/
import Derived.Test.YtcblbcpnfidndaaPwY
set_option linter.unusedSimpArgs false
set_option linter.unusedVariables false
namespace Go.Abs
open Go

/-! ### Operands -/

def svC1 : Value → SV
  | .bool b => .bool b
  | .int k n => .int k n
  | .string s => .str s
  | .pointer none => .nilp
  | .nilFunc => .nilf
  | .slice none 0 0 => .row .unit [] true
  | _ => .undef
def svC : Value → SV
  | .agg cs => if (cs.toList.map svC1).all okSC then .agg (cs.toList.map svC1) else .undef
  | v => svC1 v

def evS (fr : SFr) : Operand → SV
  | .tmp t => lookS fr t
  | .const v => svC v
  | .global _ => .undef
  | .func f => .clo f []

structure SRes where
  val : SV
  rd : List Nm := []
  wr : List (Nm × SB) := []
  new : List SB := []

def val1 (v : SV) : SRes := { val := v }

/-! ### Types -/

def tyOf (P : Program) : Nat → TypeId → Option Ty
  | 0, _ => none
  | d + 1, t =>
    match P.underlying t with
    | some (.int k) => some (.int k)
    | some .bool => some .bool
    | some .string => some .str
    | some (.slice e) => (tyOf P d e).map .row
    | some (.struct fs) => fs.toList.foldr (fun f r => match tyOf P d f.type, r with
      | some a, some b => some (.cons a b)
      | _, _ => none) (some .unit)
    | some (.array n e) => match tyOf P d e with
      | some a => some ((List.replicate n a).foldr .cons .unit)
      | none => none
    | _ => none

/-! ### Operations -/

def isOne : SV → Bool
  | .agg _ | .tup _ => false
  | _ => true
def isCap : SV → Bool
  | .agg _ | .tup _ | .clo .. => false
  | _ => true
def notTup : SV → Bool
  | .tup _ => false
  | _ => true

def ofCellsS (agg : Bool) (cs : List SV) : Option SV :=
  match agg with
  | true => some (.agg cs)
  | false => match cs with
    | [c] => if isOne c = true then some c else none
    | _ => none

def loadAtS (size : Nat) (agg : Bool) (x : SV) (off : Nat) : Option SV :=
  if off + size ≤ x.cells.length then
    (if off = 0 ∧ size = x.cells.length ∧ x.isAgg = agg then (if notTup x = true then some x else none) else ofCellsS agg ((x.cells.drop off).take size))
  else none

def opLoadS (P : Program) (t : TypeId) (p : SV) (H : SHeap) : Tr SRes :=
  match tsize P t, tagg P t with
  | some size, some agg =>
    match p with
    | .ptr g sz i off =>
      match getS H g with
      | some (.box sz' v) => .when (decide (sz' = sz ∧ i = 0 ∧ 0 < sz)) ((Tr.of (loadAtS size agg v off)).map fun u => { val := u, rd := [g] })
      | some (.arr t' l _) => .when (decide (t'.size = sz ∧ 0 < sz)) (.ask l[i]? fun x => (Tr.of (loadAtS size agg (unT t' x) off)).map fun u => { val := u, rd := [g] })
      | _ => .fail
    | .lp t' _ _ x _ off => (Tr.of (loadAtS size agg (unT t' x) off)).map val1
    | .fp g => .when (decide (size = 1 ∧ agg = false)) (.ret (val1 (.clo g [])))
    | _ => .fail
  | _, _ => .fail

def spliceS (cs : List SV) (off : Nat) (new : List SV) : List SV := cs.take off ++ new ++ cs.drop (off + new.length)

/-- All rows may not be appended to. -/
def slack1 : SV → Bool
  | .row _ _ tight => !tight
  | .agg _ => false
  | _ => true
def slack : SV → Bool
  | .agg cs => cs.all slack1
  | v => slack1 v

def fzNeed (z : Fz) (len i : Nat) (t : Tr SRes) : Tr SRes :=
  match z with
  | .zero => t
  | z => .need (decide (z.n len ≤ i)) t

def opStoreS (P : Program) (t : TypeId) (p v : SV) (H : SHeap) : Tr SRes :=
  match tsize P t with
  | some size =>
    match p with
    | .ptr g sz i off =>
      match getS H g with
      | some (.box sz' x) =>
        .when (decide (sz' = sz ∧ i = 0 ∧ v.cells.length = size ∧ off + size ≤ sz ∧ okSV v = true ∧ 0 < sz)) (
          if off = 0 ∧ size = sz then .ret { val := .tup [], rd := [g], wr := [(g, .box sz' v)] }
          else if x.isAgg = true then .ret { val := .tup [], rd := [g], wr := [(g, .box sz' (.agg (spliceS x.cells off v.cells)))] }
          else .fail)
      | some (.arr t' l z) =>
        (pureVS H v).bind fun ul =>
          .when (decide (t'.size = sz ∧ ul.1.cells.length = size ∧ off + size ≤ sz ∧ ¬ g ∈ ul.2 ∧ okSV ul.1 = true ∧ slack ul.1 = true ∧ 0 < sz)) (
            fzNeed z l.length i (
              if off = 0 ∧ size = sz then
                .need (decide (i < l.length)) ((Tr.of (paT t' ul.1)).bind fun y =>
                  .ret { val := .tup [], rd := g :: ul.2, wr := stopsS H ul.2 ++ [(g, .arr t' (l.set i y) z)] })
              else
                .ask l[i]? fun x => .when t'.agg ((Tr.of (paT t' (.agg (spliceS (unC t' x) off ul.1.cells)))).bind fun y =>
                  .ret { val := .tup [], rd := g :: ul.2, wr := stopsS H ul.2 ++ [(g, .arr t' (l.set i y) z)] })))
      | _ => .fail
    | _ => .fail
  | none => .fail

def opFieldAddrS (P : Program) (t : TypeId) (p : SV) (f : Nat) : Option SV :=
  match fieldOf P t f with
  | some (o, ft) =>
    if tsize P ft = none ∨ tsize P ft = some 0 then none else
    match p with
    | .ptr g sz i off => if 0 < sz then some (.ptr g sz i (off + o)) else none
    | .lp t l i x h off => some (.lp t l i x h (off + o))
    | _ => none
  | none => none

def partOfS (P : Program) (t : TypeId) (cs : List SV) (off : Nat) : Option SV :=
  match tsize P t, tagg P t with
  | some size, some agg => if off + size ≤ cs.length then ofCellsS agg ((cs.drop off).take size) else none
  | _, _ => none

def opFieldS (P : Program) (t : TypeId) (x : SV) (f : Nat) : Option SV :=
  match fieldOf P t f, x with
  | some (o, ft), .agg cs => partOfS P ft cs o
  | _, _ => none

def opIndexAddrS (P : Program) (t : TypeId) (x i : SV) (H : SHeap) : Tr SV :=
  match P.underlying t, i with
  | some (.slice e), .int _ n =>
    match x with
    | .own t' g => match getS H g with
      | some b => .when (decide (tsize P e = some t'.size ∧ 0 < t'.size)) (.need (decide (0 ≤ n ∧ n < b.len)) (.ret (.ptr g t'.size n.toNat 0)))
      | none => .fail
    | .part t' g off len => .when (decide (tsize P e = some t'.size ∧ 0 < t'.size)) (.need (decide (0 ≤ n ∧ n < len)) (.ret (.ptr g t'.size (off + n.toNat) 0)))
    | .row t' l _ => .when (decide (tsize P e = some t'.size)) (.look l n fun x h => .ret (.lp t' l n.toNat x h 0))
    | _ => .fail
  | some (.array len e), .int _ n =>
    match x with
    | .ptr g sz j off => match tsize P e with
      | some es => .when (decide (0 < sz)) (.need (decide (0 ≤ n ∧ n < len)) (.ret (.ptr g sz j (off + n.toNat * es))))
      | none => .fail
    | _ => .fail
  | _, _ => .fail

def opIndexS (P : Program) (t : TypeId) (x i : SV) : Tr SV :=
  match P.underlying t, x, i with
  | some (.array len e), .agg cs, .int _ n =>
    match tsize P e with
    | some es => .need (decide (0 ≤ n ∧ n < len)) (Tr.of (partOfS P e cs (n.toNat * es)))
    | none => .fail
  | some .string, .str s, .int _ n => .need (decide (0 ≤ n ∧ n < s.size)) (.ret (.int .u8 ((s[n.toNat]?.getD 0).toNat : Nat)))
  | _, _, _ => .fail

/-- The elements of an array. -/
def arrL (P : Program) (e : TypeId) (ty : Ty) (cs : List SV) (es : Nat) : Nat → Nat → Option (List ty.den)
  | 0, _ => some []
  | n + 1, i => match partOfS P e cs (i * es), arrL P e ty cs es n (i + 1) with
    | some v, some r => if slack v = true then (paT ty v).map fun x => x :: r else none
    | _, _ => none

/-- An element of an array, whose place is not known. -/
def opIndexVS (P : Program) (t : TypeId) (x i : SV) : Tr SV :=
  match P.underlying t, x, i with
  | some (.array len e), .agg cs, .int _ n =>
    match tsize P e, tyOf P 12 e with
    | some es, some ty => (Tr.of (arrL P e ty cs es len 0)).bind fun l => .look l n fun x _ => .ret (unT ty x)
    | _, _ => .fail
  | _, _, _ => opIndexS P t x i

def opIndex3S (P : Program) (t : TypeId) (x i : SV) : Operand → Tr SV
  | .const _ => opIndexS P t x i
  | _ => opIndexVS P t x i

/-- A function out of a map of functions. -/
def fmAtS (l : List (Int × FuncId × List FuncId)) (n : Int) (k : SV → Bool → Tr SV) : Tr SV :=
  match l with
  | [] => k .nilf false
  | (m, f, gs) :: r => .br (n == m) (k (.clo f (gs.map .fp)) true) (fmAtS r n k)

def opLookupS (P : Program) (t : TypeId) (m k : SV) (ok : Bool) : Tr SV :=
  match P.underlying t, m, k with
  | some (.map kt et), .fm l, .int .i64 n =>
    match P.underlying kt, tzero P et with
    | some (.int .i64), some .nilf => fmAtS l n fun v b => .ret (if ok then .tup [v, .bool b] else v)
    | _, _ => .fail
  | _, _, _ => .fail

/-- A type of the values of a map. -/
def okTy : Ty → Bool
  | .int _ | .bool | .str => true
  | _ => false

def mpGet {α : Type} (n : Int) : List (Int × α) → Option α
  | [] => none
  | p :: r => if n = p.1 then some p.2 else mpGet n r

def mpSet {α : Type} (n : Int) (x : α) : List (Int × α) → List (Int × α)
  | [] => [(n, x)]
  | p :: r => if n = p.1 then (p.1, x) :: r else p :: mpSet n x r

def binI (op : BinOp) (k : IntKind) (a b : Int) : Tr SV :=
  match op with
  | .add => .ret (.int k (k.wrap (a + b)))
  | .sub => .ret (.int k (k.wrap (a - b)))
  | .mul => .ret (.int k (k.wrap (a * b)))
  | .quo => .need (decide (b ≠ 0)) (.ret (.int k (k.wrap (a.tdiv b))))
  | .rem => .need (decide (b ≠ 0)) (.ret (.int k (a.tmod b)))
  | .eql => .ret (.bool (a == b))
  | .neq => .ret (.bool (a != b))
  | .lss => .ret (.bool (decide (a < b)))
  | .leq => .ret (.bool (decide (a ≤ b)))
  | .gtr => .ret (.bool (decide (a > b)))
  | .geq => .ret (.bool (decide (a ≥ b)))
  | .and => .ret (.int k (bitI .and k a b))
  | .or => .ret (.int k (bitI .or k a b))
  | .xor => .ret (.int k (bitI .xor k a b))
  | _ => .fail

/-- Shifts: the count may be of another kind. -/
def shiftI (op : BinOp) (k : IntKind) (a b : Int) : Tr SV :=
  match op with
  | .shl => .need (decide (0 ≤ b)) (.ret (.int k (shlI k a b)))
  | .shr => .need (decide (0 ≤ b)) (.ret (.int k (shrI k a b)))
  | _ => .fail
def isShift : BinOp → Bool
  | .shl | .shr => true
  | _ => false

def binS (op : BinOp) (a b : ByteArray) : Tr SV :=
  match op with
  | .add => .need (decide (a.size + b.size ≤ 4294967296)) (.ret (.str (a ++ b)))
  | .eql => .ret (.bool (a.toList == b.toList))
  | .neq => .ret (.bool (!(a.toList == b.toList)))
  | .lss => .ret (.bool (Op.bytesLess a.toList b.toList))
  | .leq => .ret (.bool (Op.bytesLess a.toList b.toList || a.toList == b.toList))
  | .gtr => .ret (.bool (!(Op.bytesLess a.toList b.toList || a.toList == b.toList)))
  | .geq => .ret (.bool (!(Op.bytesLess a.toList b.toList)))
  | _ => .fail

def eqFieldsS (P : Program) (eq : TypeId → SV → SV → Option Bool) (xs ys : List SV) : List Field → Option Bool
  | [] => some true
  | f :: r =>
    if f.name = "_" then none else
    match partOfS P f.type xs f.offset, partOfS P f.type ys f.offset with
    | some a, some b => match eq f.type a b, eqFieldsS P eq xs ys r with
      | some c, some d => some (c && d)
      | _, _ => none
    | _, _ => none

def eqElemsS (P : Program) (eq : TypeId → SV → SV → Option Bool) (e : TypeId) (size : Nat) (xs ys : List SV) : Nat → Nat → Option Bool
  | 0, _ => some true
  | n + 1, i =>
    match partOfS P e xs (i * size), partOfS P e ys (i * size) with
    | some a, some b => match eq e a b, eqElemsS P eq e size xs ys n (i + 1) with
      | some c, some d => some (c && d)
      | _, _ => none
    | _, _ => none

def eqAS (P : Program) : Nat → TypeId → SV → SV → Option Bool
  | 0, _, _, _ => none
  | d + 1, t, x, y =>
    match P.underlying t, x, y with
    | some .bool, .bool a, .bool b => some (a == b)
    | some (.int _), .int k a, .int k' b => if k = k' then some (a == b) else none
    | some .string, .str a, .str b => some (a == b)
    | some (.struct fs), .agg xs, .agg ys => if P.stoodInHeld t then none else eqFieldsS P (eqAS P d) xs ys fs.toList
    | some (.array n e), .agg xs, .agg ys =>
      match tsize P e with
      | some size => eqElemsS P (eqAS P d) e size xs ys n 0
      | none => none
    | _, _, _ => none

def opEqlS (P : Program) (t : TypeId) (x y : SV) : Option Bool :=
  match x, y with
  | .bool a, .bool b => eqAS P 8 t (.bool a) (.bool b)
  | .agg xs, .agg ys => if P.eqGuardType P.depth t then none else eqAS P 8 t (.agg xs) (.agg ys)
  | _, _ => none

def opBinS (P : Program) (op : BinOp) (t : TypeId) (x y : SV) : Tr SV :=
  match x, y with
  | .int k a, .int k' b => match isShift op with
    | true => shiftI op k a b
    | false => .when (decide (k = k')) (binI op k a b)
  | .str a, .str b => binS op a b
  | x, y => match op with
    | .eql => (Tr.of (opEqlS P t x y)).map .bool
    | .neq => (Tr.of (opEqlS P t x y)).map fun b => .bool (!b)
    | _ => .fail

/-- A row that is not empty against nil. -/
def nilCmpS (P : Program) (op : BinOp) (t : TypeId) (l : Nat) (oy : Operand) : Tr SV :=
  match op, P.underlying t, oy with
  | .eql, some (.slice _), .const (.slice none 0 0) => .need (decide (0 < l)) (.ret (.bool false))
  | _, _, _ => .fail
def opBin3S (P : Program) (op : BinOp) (t : TypeId) (x y : SV) (oy : Operand) : Tr SV :=
  match x with
  | .row _ l _ => nilCmpS P op t l.length oy
  | x => opBinS P op t x y

def opUnS (op : UnOp) (x : SV) : Option SV :=
  match op, x with
  | .neg, .int k n => some (.int k (k.wrap (0 - n)))
  | .not, .bool b => some (.bool !b)
  | _, _ => none

def opConvertS (P : Program) (src dst : TypeId) (x : SV) : Option SV :=
  match P.underlying src, P.underlying dst, x with
  | some (.int _), some (.int k), .int _ n => some (.int k (k.wrap n))
  | some .string, some .string, .str s => some (.str s)
  | _, _, _ => none

def boundS (o : Option SV) (dflt : Nat) : Tr Nat :=
  match o with
  | none => .ret dflt
  | some (.int _ n) => .need (decide (0 ≤ n)) (.ret n.toNat)
  | some _ => .fail

def opSliceS (P : Program) (t : TypeId) (x : SV) (lo hi mx : Option SV) (H : SHeap) : Tr SRes :=
  match P.underlying t, x with
  | some .string, .str s =>
    match mx with
    | none => (boundS lo 0).bind fun l => (boundS hi s.size).bind fun h => .need (decide (l ≤ h ∧ h ≤ s.size)) (.ret { val := .str (s.extract l h) })
    | some _ => .fail
  | some (.slice e), .row t' xs tight =>
    .when (decide (tsize P e = some t'.size)) (
      match mx with
      | none => (boundS lo 0).bind fun l => (boundS hi xs.length).bind fun h => .need (decide (l ≤ h ∧ h ≤ xs.length)) (.ret { val := .row t' ((xs.drop l).take (h - l)) (tight && hi.isNone) })
      | some m => (boundS lo 0).bind fun l => (boundS hi xs.length).bind fun h => (boundS (some m) 0).bind fun m =>
        .when hi.isSome (.need (decide (l ≤ h ∧ h = m ∧ m ≤ xs.length)) (.ret { val := .row t' ((xs.drop l).take (h - l)) true })))
  | some (.slice e), .own t' g =>
    match getS H g with
    | some (.arr t2 l2 _) =>
      if h2 : t2 = t' then
      .when (decide (tsize P e = some t'.size)) (
        match mx with
        | none => match lo, hi with
          | none, none => .ret { val := .own t' g }
          | lo, hi => (boundS lo 0).bind fun l => (boundS hi l2.length).bind fun h => .need (decide (l ≤ h ∧ h ≤ l2.length)) (.ret { val := .part t' g l (h - l) })
        | some m => (boundS lo 0).bind fun l => (boundS hi l2.length).bind fun h => (boundS (some m) 0).bind fun m =>
          .when (hi.isSome && decide (0 < t'.size)) (.need (decide (l ≤ h ∧ h = m ∧ m ≤ l2.length))
            (.ret { val := .row t' (((h2 ▸ l2 : List t'.den).drop l).take (h - l)) true, rd := [g], wr := stopsS H [g] })))
      else .fail
    | _ => .fail
  | some (.slice e), .part t' g off len =>
    .when (decide (tsize P e = some t'.size)) (
      match mx with
      | none => (boundS lo 0).bind fun l => (boundS hi len).bind fun h => .need (decide (l ≤ h ∧ h ≤ len)) (.ret { val := .part t' g (off + l) (h - l) })
      | some _ => .fail)
  | _, _ => .fail

def fillAS (place : Nat → Option (Nat × Nat)) (cells : List SV) : List (Nat × SV) → Option (List SV)
  | [] => some cells
  | (i, v) :: rest =>
    match place i with
    | none => none
    | some (off, size) => if v.cells.length = size ∧ off + size ≤ cells.length ∧ okSV v = true then fillAS place (spliceS cells off v.cells) rest else none

def szero (P : Program) (t : TypeId) : Option SV :=
  match P.info? t with
  | some i => match i.zero with
    | some z => some (svC z)
    | none => none
  | none => none

def opBuildS (P : Program) (t : TypeId) (parts : List (Nat × SV)) : Option SV :=
  match szero P t, P.underlying t with
  | some (.agg z), some (.struct fs) =>
    if !(fs.toList.all fun f => (tsize P f.type).isSome) then none else
    (fillAS (fun i => match fs[i]? with
      | some f => (tsize P f.type).map fun s => (f.offset, s)
      | none => none) z parts).map .agg
  | some (.agg z), some (.array _ e) =>
    match tsize P e with
    | some s => (fillAS (fun i => some (i * s, s)) z parts).map .agg
    | none => none
  | _, _ => none

/-- The zero of the elements of a slice. -/
def dzero (P : Program) (e : TypeId) (t : Ty) : Option t.den := (szero P e).bind (paT t)

def fillSS (H : SHeap) (size : Nat) (t : Ty) (es : List t.den) (l : List Nm) : List (Nat × SV) → Tr (List t.den × List Nm)
  | [] => .ret (es, l)
  | (i, v) :: rest => (pureVS H v).bind fun p => .when (decide (p.1.cells.length = size ∧ p.1.isAgg = t.agg ∧ okSV p.1 = true ∧ slack p.1 = true)) (
      (Tr.of (paT t p.1)).bind fun y => .need (decide (i < es.length)) (fillSS H size t (es.set i y) (l ++ p.2) rest))

def opBuildSliceS (P : Program) (t : TypeId) (len : Nat) (parts : List (Nat × SV)) (H : SHeap) (slot : Nat) : Tr SRes :=
  match telem P t with
  | some e =>
    match tsize P e, tagg P e, tyOf P 12 e with
    | some size, some agg, some ty =>
      .when (decide (len * size ≤ 65536 ∧ 0 < size ∧ ty.size = size ∧ ty.agg = agg)) (
        (Tr.of (dzero P e ty)).bind fun z =>
        (fillSS H size ty (List.replicate len z) [] parts).bind fun p => .ret { val := .own ty (slot, 0), rd := p.2, wr := stopsS H p.2, new := [.arr ty p.1 .zero] })
    | _, _, _ => .fail
  | none => .fail

def opMakeSliceS (P : Program) (t : TypeId) (l c : SV) (slot : Nat) : Tr SRes :=
  match telem P t, l, c with
  | some e, .int _ n, .int _ m =>
    match tsize P e, tbytes P e, tyOf P 12 e with
    | some size, some bytes, some ty =>
      .when (decide (bytes ≤ 32768 ∧ 0 < size ∧ ty.size = size)) ((Tr.of (dzero P e ty)).bind fun z => .need (decide (0 ≤ n ∧ n ≤ m ∧ m ≤ 4294967296))
        (.ret { val := .own ty (slot, 0), new := [.arr ty (List.replicate n.toNat z) .zero] }))
    | _, _, _ => .fail
  | _, _, _ => .fail

/-- The elements that are appended. -/
def srcOfS (H : SHeap) (ty : Ty) : SV → Tr (List ty.den × List Nm)
  | .row t l _ => (Tr.of (castL (t := t) (t' := ty) l)).map fun l => (l, [])
  | .own t g => match getS H g with
    | some (.arr t' l _) => .when (decide (t' = t ∧ 0 < t'.size)) ((Tr.of (castL (t := t') (t' := ty) l)).map fun l => (l, [g]))
    | _ => .fail
  | .part t g off len => match getS H g with
    | some (.arr t' l _) => .when (decide (t' = t ∧ 0 < t'.size)) (.need (decide (off + len ≤ l.length)) ((Tr.of (castL (t := t') (t' := ty) l)).map fun l => ((l.drop off).take len, [g])))
    | _ => .fail
  | _ => .fail

def Fz.grow (z : Fz) (n : Nat) : Fz :=
  match z with
  | .zero => .zero
  | .all => .low n
  | .low k => .low (k + n)

def opAppendS (P : Program) (t : TypeId) (s x : SV) (H : SHeap) (slot : Nat) : Tr SRes :=
  match telem P t with
  | some e =>
    match tsize P e, tbytes P e, tzero P e, tyOf P 12 e with
    | some size, some bytes, some z, some ty =>
      .when (decide (0 < size ∧ bytes ≤ 32768 ∧ z.cells.length = size ∧ okV z = true ∧ ty.size = size)) (
        (srcOfS H ty x).bind fun q =>
        match s with
        | .row t' l true => (Tr.of (castL (t := t') (t' := ty) l)).bind fun l => .br l.isEmpty
            (.need (decide (l.length + q.1.length ≤ 4294967296)) (.ret { val := .own ty (slot, 0), rd := q.2, new := [.arr ty (l ++ q.1) .zero] }))
            (.br q.1.isEmpty (.ret { val := .row ty l true, rd := q.2 })
              (.need (decide (l.length + q.1.length ≤ 4294967296)) (.ret { val := .own ty (slot, 0), rd := q.2, new := [.arr ty (l ++ q.1) .zero] })))
        | .own t' g => match getS H g with
          | some (.arr t2 l z) => if h : t2 = ty then .when (decide (t' = ty)) (.need (decide (l.length + q.1.length ≤ 4294967296))
              (.ret { val := .own ty (slot, 0), rd := g :: q.2, wr := [(g, .dead l.length)], new := [.arr ty ((h ▸ l : List ty.den) ++ q.1) (z.grow q.1.length)] })) else .fail
          | _ => .fail
        | .part t' g off len => match getS H g with
          | some (.arr t2 l z) => if h : t2 = ty then .when (decide (t' = ty)) (match z with
            | .zero => .need (decide (off = 0 ∧ len ≤ l.length ∧ len + q.1.length ≤ 4294967296))
              (.ret { val := .own ty (slot, 0), rd := g :: q.2, wr := [(g, .dead l.length)], new := [.arr ty ((h ▸ l : List ty.den).take len ++ q.1) .zero] })
            | z => .need (decide (off = 0 ∧ len = l.length ∧ l.length + q.1.length ≤ 4294967296))
              (.ret { val := .own ty (slot, 0), rd := g :: q.2, wr := [(g, .dead l.length)], new := [.arr ty ((h ▸ l : List ty.den) ++ q.1) (z.grow q.1.length)] })) else .fail
          | _ => .fail
        | _ => .fail)
    | _, _, _, _ => .fail
  | none => .fail

/-- Elements laid over those of a list. -/
def spliceL {α : Type} (l : List α) (off : Nat) (new : List α) : List α := l.take off ++ new ++ l.drop (off + new.length)

def opCopyS (P : Program) (t : TypeId) (d x : SV) (H : SHeap) : Tr SRes :=
  match telem P t with
  | some e =>
    match tsize P e, tyOf P 12 e with
    | some size, some ty => .when (decide (0 < size ∧ ty.size = size)) ((srcOfS H ty x).bind fun q =>
        match d with
        | .own t' g => match getS H g with
          | some (.arr t2 l .zero) => if h : t2 = ty then .when (decide (t' = ty)) (.ret { val := .int .i64 (min q.1.length l.length : Nat), rd := g :: q.2, wr := [(g, .arr ty (spliceL (h ▸ l : List ty.den) 0 (q.1.take l.length)) .zero)] }) else .fail
          | _ => .fail
        | .part t' g off len => match getS H g with
          | some (.arr t2 l .zero) => if h : t2 = ty then .when (decide (t' = ty)) (.need (decide (off + len ≤ l.length)) (.ret { val := .int .i64 (min q.1.length len : Nat), rd := g :: q.2, wr := [(g, .arr ty (spliceL (h ▸ l : List ty.den) off (q.1.take len)) .zero)] })) else .fail
          | _ => .fail
        | _ => .fail)
    | _, _ => .fail
  | none => .fail

def opClearS (P : Program) (t : TypeId) (d : SV) (H : SHeap) : Tr SRes :=
  match telem P t with
  | some e =>
    match tsize P e, tyOf P 12 e with
    | some size, some ty => .when (decide (0 < size ∧ ty.size = size)) ((Tr.of (dzero P e ty)).bind fun z =>
        match d with
        | .own t' g => match getS H g with
          | some (.arr t2 l .zero) => if h : t2 = ty then .when (decide (t' = ty)) (.ret { val := .tup [], rd := [g], wr := [(g, .arr ty (spliceL (h ▸ l : List ty.den) 0 (List.replicate l.length z)) .zero)] }) else .fail
          | _ => .fail
        | .part t' g off len => match getS H g with
          | some (.arr t2 l .zero) => if h : t2 = ty then .when (decide (t' = ty)) (.need (decide (off + len ≤ l.length)) (.ret { val := .tup [], rd := [g], wr := [(g, .arr ty (spliceL (h ▸ l : List ty.den) off (List.replicate len z)) .zero)] })) else .fail
          | _ => .fail
        | _ => .fail)
    | _, _ => .fail
  | none => .fail

def opLenS (P : Program) (t : TypeId) (x : SV) (H : SHeap) : Option SV :=
  match P.underlying t with
  | some (.array n _) => some (.int .i64 n)
  | some (.slice _) => match x with
    | .row _ xs _ => some (.int .i64 xs.length)
    | .own _ g => match getS H g with
      | some b => some (.int .i64 b.len)
      | none => none
    | .part _ _ _ len => some (.int .i64 len)
    | _ => none
  | some .string => match x with
    | .str s => some (.int .i64 s.size)
    | _ => none
  | _ => none

def minS : SV → List SV → Option SV
  | x, [] => if isOne x = true then some x else none
  | .int k a, .int k' b :: r => if k = k' then minS (.int k (if b < a then b else a)) r else none
  | _, _ => none

def maxS : SV → List SV → Option SV
  | x, [] => if isOne x = true then some x else none
  | .int k a, .int k' b :: r => if k = k' then maxS (.int k (if b > a then b else a)) r else none
  | _, _ => none

/-! ### Calls -/

abbrev SOut := SV × List SB × List SB
abbrev SCall := List SV → List SB → Tr SOut

def lend1S (H : SHeap) (share : Bool) (f : Ren) (x : SV) : Tr SV :=
  match x with
  | .own t g => if share then (match f g with
      | some g' => .ret (.own t g')
      | none => .fail)
    else (pure1S H (.own t g)).map (·.1)
  | .part t g off len => if share then (match f g with
      | some g' => .ret (.part t g' off len)
      | none => .fail)
    else (pure1S H (.part t g off len)).map (·.1)
  | .row t l _ => .ret (.row t l false)
  | .agg _ => .fail
  | .tup _ => .fail
  | x => .ret (renCS f x)
def lendVS (H : SHeap) (share : Bool) (f : Ren) : SV → Tr SV
  | .agg cs => (Tr.mapM (lend1S H share f) cs).map .agg
  | v => lend1S H share f v

def lentNamesS : SV → List Nm
  | .agg cs => cs.flatMap fun c => match c with
    | .own _ g => [g]
    | .part _ g _ _ => [g]
    | _ => []
  | .own _ g => [g]
  | .part _ g _ _ => [g]
  | _ => []

/-- No part of the value leads to memory. -/
def scalS (v : SV) : Bool := scal (dV (fun _ => 0) v)

def SB.alive : SB → Bool
  | .dead _ => false
  | _ => true

def lensEq : List SB → List SB → Bool
  | .box .. :: r, .box .. :: r' => lensEq r r'
  | b :: r, b' :: r' => decide (b'.len = b.len) && lensEq r r'
  | [], [] => true
  | _, _ => false

def opCallS (share : Bool) (call : SCall) (args : List SV) (H : SHeap) (slot : Nat) : Tr SRes :=
  let lent := if share then [] else args.flatMap lentNamesS
  let R := reachS H (args.flatMap (if share then fun v => seedsVS v ++ lentNamesS v else seedsVS))
  let f : Ren := fun g => (idxOf g R 0).map fun i => (i, 0)
  if lent.any (fun g => R.contains g) || !args.all notTup then .fail else
  (Tr.mapM (lendVS H share f) args).bind fun args' =>
  match R.mapM (fun g => (getS H g).bind fun b => if b.alive = true then some (renBS f b) else none) with
  | some sub =>
    (call args' sub).bind fun out =>
      .need (lensEq sub out.2.1) (.when (out.2.2.all SB.alive) (
        let b := renBack R slot
        .ret { val := renVS b out.1, rd := R ++ lent,
               wr := (R.zip out.2.1).map (fun p => (p.1, renBS b p.2)) ++ (if scalS out.1 && out.2.2.isEmpty && R.isEmpty then [] else stopsS H lent),
               new := out.2.2.map (renBS b) }))
  | none => .fail

/-! ### An operation -/

def partsOfS (fr : SFr) (ps : Array (Nat × Operand)) : List (Nat × SV) := ps.toList.map fun p => (p.1, evS fr p.2)

def pickS (c : Bool) (a b : SV) : Tr SV :=
  match a, b with
  | .bool p, .bool q => .ret (.bool (cond c p q))
  | a, b => .br c (.ret a) (.ret b)

def opBoxS (P : Program) (t : TypeId) (v : SV) (slot : Nat) : Tr SRes :=
  match tsize P t with
  | some size => .when (decide (v.cells.length = size ∧ okSV v = true ∧ 0 < size)) (.ret { val := .ptr (slot, 0) size 0 0, new := [.box size v] })
  | none => .fail

def opAssignS (P : Program) (fr : SFr) (t : TypeId) (x : Operand) (slot : Nat) : Tr SRes :=
  match x with
  | .const (.slice none 0 0) =>
    match telem P t with
    | some e => match tsize P e, tyOf P 12 e with
      | some size, some ty => .when (decide (ty.size = size)) (.ret { val := .own ty (slot, 0), new := [.arr ty [] .zero] })
      | _, _ => .fail
    | none => .fail
  | x => .ret { val := evS fr x }

/-- Calls in a piece of code: by the number of the operation. -/
abbrev Ks := Nat → FuncId → SCall

def opLookupMS (P : Program) (t : TypeId) (m k : SV) (ok : Bool) (H : SHeap) : Tr SRes :=
  match mpTy P t, m, k with
  | some et, .ptr g 0 0 0, .int .i64 n => match getS H g, szero P et with
    | some (.mp ty l), some z => .when (okTy ty) ((Tr.of (paT ty z)).bind fun z =>
        .ret { val := if ok then .tup [unT ty ((mpGet n l).getD z), .bool (mpGet n l).isSome] else unT ty ((mpGet n l).getD z), rd := [g] })
    | _, _ => .fail
  | _, _, _ => .fail

def opMapUpdateS (P : Program) (t : TypeId) (m k v : SV) (H : SHeap) : Tr SRes :=
  match mpTy P t, m, k with
  | some _, .ptr g 0 0 0, .int .i64 n => match getS H g with
    | some (.mp ty l) => .when (okTy ty) ((Tr.of (paT ty v)).bind fun x => .ret { val := .tup [], rd := [g], wr := [(g, .mp ty (mpSet n x l))] })
    | _ => .fail
  | _, _, _ => .fail

def opMakeMapS (P : Program) (t : TypeId) (slot : Nat) : Tr SRes :=
  match (mpTy P t).bind (tyOf P 12) with
  | some ty => .ret { val := .ptr (slot, 0) 0 0 0, new := [.mp ty []] }
  | none => .fail

def stepOpS (P : Program) (N : FuncId → Note) (call : FuncId → SCall) (o : Oper) (fr : SFr) (H : SHeap) (slot : Nat) : Tr SRes :=
  let ev := evS fr
  match o.op with
  | .move x => .ret { val := ev x }
  | .assign x => opAssignS P fr o.type x slot
  | .pick c a b => match ev c with
    | .bool p => (pickS p (ev a) (ev b)).map val1
    | _ => .fail
  | .alloc t => match szero P t with
    | some z => opBoxS P t z slot
    | none => .fail
  | .box t x => opBoxS P t (ev x) slot
  | .build t ps => (Tr.of (opBuildS P t (partsOfS fr ps))).map val1
  | .buildSlice t n ps => opBuildSliceS P t n (partsOfS fr ps) H slot
  | .load t a => opLoadS P t (ev a) H
  | .store t a x => opStoreS P t (ev a) (ev x) H
  | .nilCheck x => match ev x with
    | .ptr g sz i off => .when (decide (0 < sz)) (.ret { val := .ptr g sz i off })
    | .lp t l i x h off => .ret { val := .lp t l i x h off }
    | _ => .fail
  | .binOp op t x y _ => (opBin3S P op t (ev x) (ev y) y).map val1
  | .unOp op _ x => (Tr.of (opUnS op (ev x))).map val1
  | .convert a b x => (Tr.of (opConvertS P a b (ev x))).map val1
  | .makeFunc (.func f) first caps => if first.isEmpty then .when (caps.toList.all fun c => isCap (ev c)) (.ret { val := .clo f (caps.toList.map ev) }) else .fail
  | .makeSlice t l c => opMakeSliceS P t (ev l) (ev c) slot
  | .slice t x lo hi mx => opSliceS P t (ev x) (lo.map ev) (hi.map ev) (mx.map ev) H
  | .fieldAddr t x f => (Tr.of (opFieldAddrS P t (ev x) f)).map val1
  | .field t x f => (Tr.of (opFieldS P t (ev x) f)).map val1
  | .indexAddr t x i => (opIndexAddrS P t (ev x) (ev i) H).map val1
  | .index t x i => (opIndex3S P t (ev x) (ev i) i).map val1
  | .lookup t m k ok => match ev m with
    | .ptr g sz i off => opLookupMS P t (.ptr g sz i off) (ev k) ok H
    | m => (opLookupS P t m (ev k) ok).map val1
  | .mapUpdate t m k v => opMapUpdateS P t (ev m) (ev k) (ev v) H
  | .makeMap t none => opMakeMapS P t slot
  | .extract x i => match ev x with
    | .tup vs => match vs[i]? with
      | some v => .when (notTup v) (.ret { val := v })
      | none => .fail
    | _ => .fail
  | .call c => match c.callee with
    | .value f => match ev f with
      | .clo fn caps => .when (caps.all isCap) (opCallS (N fn).share (call fn) (c.args.toList.map ev ++ caps) H slot)
      | _ => .fail
    | .builtin .len => match c.args.toList, c.argTypes.toList with
      | [x], [t] => (Tr.of (opLenS P t (ev x) H)).map val1
      | _, _ => .fail
    | .builtin .append => match c.args.toList, c.argTypes.toList with
      | [s, x], [t, t'] => .when (decide (t = t')) (opAppendS P t (ev s) (ev x) H slot)
      | _, _ => .fail
    | .builtin .copy => match c.args.toList, c.argTypes.toList with
      | [d, x], [t, _] => opCopyS P t (ev d) (ev x) H
      | _, _ => .fail
    | .builtin .clear => match c.args.toList, c.argTypes.toList with
      | [d], [t] => opClearS P t (ev d) H
      | _, _ => .fail
    | .builtin .min => match c.args.toList.map ev with
      | x :: r => (Tr.of (minS x r)).map val1
      | [] => .fail
    | .builtin .max => match c.args.toList.map ev with
      | x :: r => (Tr.of (maxS x r)).map val1
      | [] => .fail
    | _ => .fail
  | _ => .fail

/-! ### A region -/

def newGroupS (H : SHeap) (slot : Nat) (mk : Bool) (new : List SB) : Option SHeap :=
  match mk with
  | true => match H[slot]? with
    | some [] => if new.all SB.alive = true then some (H.set slot new) else none
    | _ => none
  | false => match new with
    | [] => some H
    | _ => none

def putDstS (fr : SFr) : Option Nat → SV → SFr
  | some d, v => insS d v fr
  | none, _ => fr

/-- The names of a result. -/
def resN (r : SRes) : Res := { val := .undef, rd := r.rd, wr := r.wr.map fun p => (p.1, none) }

structure SEnv where
  P : Program
  N : FuncId → Note
  nt : Nat
  locs : List Nat
  pairs : Nat → List (Nat × Nat)
  keep : Nat

/-- A slot whose value has been asked for. -/
def setLit (x : SV) (d : Nat) : SFr → SFr
  | [] => []
  | (s, y) :: r => if s = d then (s, x) :: r else (s, y) :: setLit x d r

def stepIS (E : SEnv) (call : Nat → FuncId → SCall) (ops : Array Oper) (base i : Nat) (s : SSt) : Tr (SSt × Option SRes) :=
  match ops[i]? with
  | none => .ret (s, none)
  | some o =>
    .when (dstOk E.nt o.dst) (
      let skip (fr : SFr) : Tr (SSt × Option SRes) := .ret ({ s with fr := putDstS fr o.dst (.tup []) }, none)
      let doit (fr : SFr) : Tr (SSt × Option SRes) := (stepOpS E.P E.N (call i) o fr s.hp (slotOf ops base i)).bind fun r =>
        match newGroupS (putAllS s.hp r.wr) (slotOf ops base i) (makes o.op) r.new with
        | some H => .ret ({ fr := putDstS fr o.dst r.val, hp := H }, some r)
        | none => .fail
      match o.guard with
      | none => doit s.fr
      | some (j, want) =>
        match (ops[j]?).bind (·.dst) with
        | some d => match lookS s.fr d with
          | .bool b => match want with
            | true => .br b (doit (setLit (.bool true) d s.fr)) (skip (setLit (.bool false) d s.fr))
            | false => .br b (skip (setLit (.bool true) d s.fr)) (doit (setLit (.bool false) d s.fr))
          | .tup [] => skip s.fr
          | _ => .fail
        | none => .fail)

def runLS (E : SEnv) (call : Nat → FuncId → SCall) (ops : Array Oper) (base : Nat) : List Nat → SSt → Tr (SSt × List (Option SRes))
  | [], s => .ret (s, [])
  | i :: r, s => (stepIS E call ops base i s).bind fun p => (runLS E call ops base r p.1).bind fun q => .ret (q.1, p.2 :: q.2)

def clearS (locs : List Nat) (fr : SFr) : SFr := fr.filter fun p => locs.contains p.1

def runRegionS (E : SEnv) (call : Nat → FuncId → SCall) (id : Nat) (ops : Array Oper) (draw : Bool) (s : SSt) : Tr SSt :=
  (runLS E call ops s.hp.length (List.range ops.size) { s with hp := s.hp ++ List.replicate (nMakes ops) [] }).bind fun p =>
    if draw && !((E.pairs id).all fun q => apart3 ops s.hp.length q.1 q.2 ((p.2.getD q.1 none).map resN) ((p.2.getD q.2 none).map resN)) then .fail
    else .ret { p.1 with fr := clearS E.locs p.1.fr }

/-! ### Code -/

/-- The number of the first region of a piece of code. -/
def firstId : Code → Nat
  | .region id _ _ => id
  | .seq a _ => firstId a
  | .cond _ a _ => firstId a
  | .block _ b => firstId b
  | .loop b => firstId b
  | .scope b => firstId b
  | _ => 0

def exEq : Ex → Ex → Bool
  | .normal, .normal => true
  | .exit a, .exit b => a == b
  | .ret, .ret => true
  | _, _ => false

/-- The ways in which a piece of code is left, with the shape of each. -/
inductive Outs where
  | one (e : Ex) (σ : Sg)
  | more (e : Ex) (σ : Sg) (r : Outs)

def Outs.den : Outs → Type
  | .one _ σ => σ.den
  | .more _ σ r => σ.den ⊕ r.den

end Go.Abs
