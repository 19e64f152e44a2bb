/- Lemmas for the statement of the last text of this claim. -/
import Derived.Carry
import Derived.OpenShut
import Derived.ChangeSame
import Derived.Deep.OwnRows
import Derived.Test.YtcelhemfoehedaaGreatV7B
set_option linter.unusedSimpArgs false
set_option linter.unusedVariables false
set_option linter.unusedSimpArgs false
set_option linter.unusedVariables false
namespace Go.Abs
open Go
def svC1:Value→SV
  | .bool b=>.bool b
  | .int k n=>.int k n
  | .string s=>.str s
  | .pointer none=>.nilp
  | .nilFunc=>.nilf
  | .slice none 0 0=>.row .unit [] true
  |_=>.undef
def svC:Value→SV
  | .agg cs=>if(cs.toList.map svC1).all okSC then .agg (cs.toList.map svC1)else .undef
  |v=>svC1 v
def evS(fr:SFr):Operand→SV
  | .tmp t=>lookS fr t
  | .const v=>svC v
  | .global _=>.undef
  | .func f=>.clo f []
structure SRes where
  val:SV
  rd:List Nm:=[]
  wr:List (Nm×SB):=[]
  new:List SB:=[]
def val1(v:SV):SRes:={val:=v}
def tyOf (P:Program):Nat→TypeId→Option Ty
  |0,_=>none
  | d +1,t=>
    match P.underlying t with
    |some (.int k)=>some (.int k)
    |some .bool=>some .bool
    |some .string=>some .str
    |some (.slice e)=>(tyOf P d e).map .row
    | some (.struct fs)=>fs.toList.foldr (fun f r=>match tyOf P d f.type,r with
      |some a,some b=>some (.cons a b)
      |_,_=>none) (some .unit)
    | some (.array n e)=>match tyOf P d e with
      |some a=>some ((List.replicate n a).foldr .cons .unit)
      |none=>none
    |_=>none
def isOne:SV→Bool
  | .agg _| .tup _=>false
  |_=>true
def isCap:SV→Bool
  | .agg _| .tup _| .clo ..=>false
  |_=>true
def notTup:SV→Bool
  | .tup _=>false
  |_=>true
def ofCellsS (agg:Bool) (cs:List SV):Option SV:=
  match agg with
  |true=>some (.agg cs)
  | false=>match cs with
    | [c]=>if isOne c=true then some c else none
    |_=>none
def loadAtS (size:Nat) (agg:Bool) (x:SV) (off:Nat):Option SV:=
  if off+size≤x.cells.length then
    (if off=0∧size=x.cells.length∧x.isAgg=agg then(if notTup x=true then some x else none)else ofCellsS agg ((x.cells.drop off).take size))
  else none
def opLoadS (P:Program) (t:TypeId) (p:SV) (H:SHeap):Tr SRes:=
  match tsize P t,tagg P t with
  | some size,some agg=>
    match p with
    | .ptr g sz i off=>
      match getS H g with
      |some (.box sz' v)=>.when (decide (sz'=sz∧i=0∧0<sz)) ((Tr.of (loadAtS size agg v off)).map fun u=>{val:=u,rd:=[g]})
      |some (.arr t' l _)=>.when (decide (t'.size=sz∧0<sz)) (.ask l[i]? fun x=>(Tr.of (loadAtS size agg (unT t' x) off)).map fun u=>{val:=u,rd:=[g]})
      |_=>.fail
    | .lp t' _ _ x _ off=>(Tr.of (loadAtS size agg (unT t' x) off)).map val1
    | .fp g=>.when (decide (size=1∧agg=false)) (.ret (val1 (.clo g [])))
    |_=>.fail
  |_,_=>.fail
def spliceS(cs:List SV)(off:Nat)(new:List SV):List SV:=cs.take off++new++cs.drop (off+new.length)
def slack1:SV→Bool
  | .row _ _ tight=> !tight
  | .agg _=>false
  |_=>true
def slack:SV→Bool
  | .agg cs=>cs.all slack1
  |v=>slack1 v
def fzNeed(z:Fz)(len i:Nat)(t:Tr SRes):Tr SRes:=
  match z with
  | .zero=>t
  |z=>.need (decide (z.n len≤i)) t
def opStoreS (P : Program) (t:TypeId) (p v:SV) (H:SHeap):Tr SRes:=
  match tsize P t with
  | some size =>
    match p with
    | .ptr g sz i off=>
      match getS H g with
      | some (.box sz' x)=>
        .when (decide (sz'=sz∧i=0∧v.cells.length=size∧off+size≤sz∧okSV v=true∧0<sz)) (
          if off=0∧size=sz then .ret {val:=.tup [],rd:=[g],wr:=[(g,.box sz' v)]}
          else if x.isAgg=true then .ret {val:=.tup [],rd:=[g],wr:=[(g,.box sz' (.agg (spliceS x.cells off v.cells)))]}
          else .fail)
      | some (.arr t' l z)=>
        (pureVS H v).bind fun ul=>
          .when (decide (t'.size=sz∧ul.1.cells.length=size∧off+size≤sz∧¬ g∈ul.2∧okSV ul.1=true∧slack ul.1=true∧0<sz)) (
            fzNeed z l.length i (
              if off=0∧size=sz then
                .need (decide (i<l.length)) ((Tr.of (paT t' ul.1)).bind fun y=>
                  .ret {val:=.tup [],rd:=g::ul.2,wr:=stopsS H ul.2++ [(g,.arr t' (l.set i y) z)]})
              else
                .ask l[i]? fun x=>.when t'.agg ((Tr.of (paT t' (.agg (spliceS (unC t' x) off ul.1.cells)))).bind fun y=>
                  .ret {val:=.tup [],rd:=g::ul.2,wr:=stopsS H ul.2++ [(g,.arr t' (l.set i y) z)]})))
      |_=>.fail
    |_=>.fail
  |none=>.fail
def opFieldAddrS (P:Program) (t:TypeId) (p:SV) (f:Nat):Option SV:=
  match fieldOf P t f with
  | some (o,ft)=>
    if tsize P ft=none∨tsize P ft=some 0 then none else
    match p with
    | .ptr g sz i off=>if 0<sz then some (.ptr g sz i (off+o))else none
    | .lp t l i x h off=>some (.lp t l i x h (off+o))
    |_=>none
  |none=>none
def partOfS(P:Program)(t:TypeId)(cs:List SV)(off:Nat):Option SV:=
  match tsize P t,tagg P t with
  |some size,some agg=>if off+size≤cs.length then ofCellsS agg ((cs.drop off).take size)else none
  |_,_=>none
def opFieldS(P:Program)(t:TypeId)(x:SV)(f:Nat):Option SV:=
  match fieldOf P t f,x with
  |some (o,ft),.agg cs=>partOfS P ft cs o
  |_,_=>none
def opIndexAddrS (P:Program) (t:TypeId) (x i:SV) (H:SHeap):Tr SV:=
  match P.underlying t,i with
  | some (.slice e),.int _ n=>
    match x with
    | .own t' g=>match getS H g with
      |some b=>.when (decide (tsize P e=some t'.size∧0<t'.size)) (.need (decide (0≤n∧n<b.len)) (.ret (.ptr g t'.size n.toNat 0)))
      |none=>.fail
    | .part t' g off len=>.when (decide (tsize P e=some t'.size∧0<t'.size)) (.need (decide (0≤n∧n<len)) (.ret (.ptr g t'.size (off+n.toNat) 0)))
    | .row t' l _=>.when (decide (tsize P e=some t'.size)) (.look l n fun x h=>.ret (.lp t' l n.toNat x h 0))
    |_=>.fail
  | some (.array len e),.int _ n=>
    match x with
    | .ptr g sz j off=>match tsize P e with
      |some es=>.when (decide (0<sz)) (.need (decide (0≤n∧n<len)) (.ret (.ptr g sz j (off+n.toNat*es))))
      |none=>.fail
    |_=>.fail
  |_,_=>.fail
def opIndexS (P:Program) (t:TypeId) (x i:SV):Tr SV:=
  match P.underlying t,x,i with
  | some (.array len e),.agg cs,.int _ n=>
    match tsize P e with
    |some es=>.need (decide (0≤n∧n<len)) (Tr.of (partOfS P e cs (n.toNat*es)))
    |none=>.fail
  |some .string,.str s,.int _ n=>.need (decide (0≤n∧n<s.size)) (.ret (.int .u8 ((s[n.toNat]?.getD 0).toNat:Nat)))
  |_,_,_=>.fail
def arrL (P:Program) (e:TypeId) (ty:Ty) (cs:List SV) (es:Nat):Nat→Nat→Option (List ty.den)
  |0,_=>some []
  | n+1,i=>match partOfS P e cs (i*es),arrL P e ty cs es n (i+1)with
    |some v,some r=>if slack v=true then(paT ty v).map fun x=>x::r else none
    |_,_=>none
def opIndexVS (P:Program) (t:TypeId) (x i:SV):Tr SV:=
  match P.underlying t,x,i with
  | some (.array len e),.agg cs,.int _ n=>
    match tsize P e,tyOf P 12 e with
    |some es,some ty=>(Tr.of (arrL P e ty cs es len 0)).bind fun l=>.look l n fun x _=>.ret (unT ty x)
    |_,_=>.fail
  |_,_,_=>opIndexS P t x i
def opIndex3S(P:Program)(t:TypeId)(x i:SV):Operand→Tr SV
  | .const _=>opIndexS P t x i
  |_=>opIndexVS P t x i
def fmAtS(l:List (Int×FuncId×List FuncId))(n:Int)(k:SV→Bool→Tr SV):Tr SV:=
  match l with
  | []=>k .nilf false
  |(m,f,gs)::r=>.br (n==m) (k (.clo f (gs.map .fp)) true) (fmAtS r n k)
def opLookupS (P:Program) (t:TypeId) (m k:SV) (ok:Bool):Tr SV:=
  match P.underlying t,m,k with
  | some (.map kt et),.fm l,.int .i64 n=>
    match P.underlying kt,tzero P et with
    |some (.int .i64),some .nilf=>fmAtS l n fun v b=>.ret (if ok then .tup [v,.bool b]else v)
    |_,_=>.fail
  |_,_,_=>.fail
def okTy:Ty→Bool
  | .int _| .bool| .str=>true
  |_=>false
def mpGet{α:Type}(n:Int):List (Int×α)→Option α
  | []=>none
  |p::r=>if n=p.1 then some p.2 else mpGet n r
def mpSet{α:Type}(n:Int)(x:α):List (Int×α)→List (Int×α)
  | []=> [(n,x)]
  |p::r=>if n=p.1 then(p.1,x)::r else p::mpSet n x r
def binI(op:BinOp)(k:IntKind)(a b:Int):Tr SV:=
  match op with
  | .add=>.ret (.int k (k.wrap (a+b)))
  | .sub=>.ret (.int k (k.wrap (a-b)))
  | .mul=>.ret (.int k (k.wrap (a*b)))
  | .quo=>.need (decide (b≠0)) (.ret (.int k (k.wrap (a.tdiv b))))
  | .rem=>.need (decide (b≠0)) (.ret (.int k (a.tmod b)))
  | .eql=>.ret (.bool (a==b))
  | .neq=>.ret (.bool (a !=b))
  | .lss=>.ret (.bool (decide (a<b)))
  | .leq=>.ret (.bool (decide (a≤b)))
  | .gtr=>.ret (.bool (decide (a>b)))
  | .geq=>.ret (.bool (decide (a≥b)))
  | .and=>.ret (.int k (bitI .and k a b))
  | .or=>.ret (.int k (bitI .or k a b))
  | .xor=>.ret (.int k (bitI .xor k a b))
  |_=>.fail
def shiftI(op:BinOp)(k:IntKind)(a b:Int):Tr SV:=
  match op with
  | .shl=>.need (decide (0≤b)) (.ret (.int k (shlI k a b)))
  | .shr=>.need (decide (0≤b)) (.ret (.int k (shrI k a b)))
  |_=>.fail
def isShift:BinOp→Bool
  | .shl| .shr=>true
  |_=>false
def binS(op:BinOp)(a b:ByteArray):Tr SV:=
  match op with
  | .add=>.need (decide (a.size+b.size≤4294967296)) (.ret (.str (a++b)))
  | .eql=>.ret (.bool (a.toList==b.toList))
  | .neq=>.ret (.bool (!(a.toList==b.toList)))
  | .lss=>.ret (.bool (Op.bytesLess a.toList b.toList))
  | .leq=>.ret (.bool (Op.bytesLess a.toList b.toList||a.toList==b.toList))
  | .gtr=>.ret (.bool (!(Op.bytesLess a.toList b.toList||a.toList==b.toList)))
  | .geq=>.ret (.bool (!(Op.bytesLess a.toList b.toList)))
  |_=>.fail
def eqFieldsS (P:Program) (eq:TypeId→SV→SV→Option Bool) (xs ys:List SV):List Field→Option Bool
  | []=>some true
  | f ::r=>
    if f.name = "_" then none else
    match partOfS P f.type xs f.offset,partOfS P f.type ys f.offset with
    | some a,some b=>match eq f.type a b,eqFieldsS P eq xs ys r with
      |some c,some d=>some (c&&d)
      |_,_=>none
    |_,_=>none
def eqElemsS (P:Program) (eq:TypeId→SV→SV→Option Bool) (e:TypeId) (size:Nat) (xs ys:List SV):Nat→Nat→Option Bool
  |0,_=>some true
  | n +1,i=>
    match partOfS P e xs (i*size),partOfS P e ys (i*size)with
    | some a,some b=>match eq e a b,eqElemsS P eq e size xs ys n (i+1)with
      |some c,some d=>some (c&&d)
      |_,_=>none
    |_,_=>none
def eqAS (P:Program):Nat→TypeId→SV→SV→Option Bool
  |0,_,_,_=>none
  | d +1,t,x,y=>
    match P.underlying t,x,y with
    |some .bool,.bool a,.bool b=>some (a==b)
    |some (.int _),.int k a,.int k' b=>if k=k' then some (a==b)else none
    |some .string,.str a,.str b=>some (a==b)
    |some (.struct fs),.agg xs,.agg ys=>if P.stoodInHeld t then none else eqFieldsS P (eqAS P d) xs ys fs.toList
    | some (.array n e),.agg xs,.agg ys=>
      match tsize P e with
      |some size=>eqElemsS P (eqAS P d) e size xs ys n 0
      |none=>none
    |_,_,_=>none
def opEqlS(P:Program)(t:TypeId)(x y:SV):Option Bool:=
  match x,y with
  | .bool a,.bool b=>eqAS P 8 t (.bool a) (.bool b)
  | .agg xs,.agg ys=>if P.eqGuardType P.depth t then none else eqAS P 8 t (.agg xs) (.agg ys)
  |_,_=>none
def opBinS (P:Program) (op:BinOp) (t:TypeId) (x y:SV):Tr SV:=
  match x,y with
  | .int k a,.int k' b=>match isShift op with
    |true=>shiftI op k a b
    |false=>.when (decide (k=k')) (binI op k a b)
  | .str a,.str b=>binS op a b
  | x,y=>match op with
    | .eql=>(Tr.of (opEqlS P t x y)).map .bool
    | .neq=>(Tr.of (opEqlS P t x y)).map fun b=>.bool (!b)
    |_=>.fail
def nilCmpS(P:Program)(op:BinOp)(t:TypeId)(l:Nat)(oy:Operand):Tr SV:=
  match op,P.underlying t,oy with
  | .eql,some (.slice _),.const (.slice none 0 0)=>.need (decide (0<l)) (.ret (.bool false))
  |_,_,_=>.fail
def opBin3S(P:Program)(op:BinOp)(t:TypeId)(x y:SV)(oy:Operand):Tr SV:=
  match x with
  | .row _ l _=>nilCmpS P op t l.length oy
  |x=>opBinS P op t x y
def opUnS(op:UnOp)(x:SV):Option SV:=
  match op,x with
  | .neg,.int k n=>some (.int k (k.wrap (0-n)))
  | .not,.bool b=>some (.bool !b)
  |_,_=>none
def opConvertS(P:Program)(src dst:TypeId)(x:SV):Option SV:=
  match P.underlying src,P.underlying dst,x with
  |some (.int _),some (.int k),.int _ n=>some (.int k (k.wrap n))
  |some .string,some .string,.str s=>some (.str s)
  |_,_,_=>none
def boundS(o:Option SV)(dflt:Nat):Tr Nat:=
  match o with
  |none=>.ret dflt
  |some (.int _ n)=>.need (decide (0≤n)) (.ret n.toNat)
  |some _=>.fail
def opSliceS (P:Program) (t:TypeId) (x:SV) (lo hi mx:Option SV) (H:SHeap):Tr SRes:=
  match P.underlying t,x with
  | some .string,.str s=>
    match mx with
    |none=>(boundS lo 0).bind fun l=>(boundS hi s.size).bind fun h=>.need (decide (l≤h∧h≤s.size)) (.ret {val:=.str (s.extract l h)})
    |some _=>.fail
  | some (.slice e),.row t' xs tight=>
    .when (decide (tsize P e=some t'.size)) (
      match mx with
      |none=>(boundS lo 0).bind fun l=>(boundS hi xs.length).bind fun h=>.need (decide (l≤h∧h≤xs.length)) (.ret {val:=.row t' ((xs.drop l).take (h-l)) (tight&&hi.isNone)})
      | some m=>(boundS lo 0).bind fun l=>(boundS hi xs.length).bind fun h=>(boundS (some m) 0).bind fun m=>
        .when hi.isSome (.need (decide (l≤h∧h=m∧m≤xs.length)) (.ret {val:=.row t' ((xs.drop l).take (h-l)) true})))
  | some (.slice e),.own t' g=>
    match getS H g with
    | some (.arr t2 l2 _)=>
      if h2:t2=t' then
      .when (decide (tsize P e=some t'.size)) (
        match mx with
        | none=>match lo,hi with
          |none,none=>.ret {val:=.own t' g}
          |lo,hi=>(boundS lo 0).bind fun l=>(boundS hi l2.length).bind fun h=>.need (decide (l≤h∧h≤l2.length)) (.ret {val:=.part t' g l (h-l)})
        | some m=>(boundS lo 0).bind fun l=>(boundS hi l2.length).bind fun h=>(boundS (some m) 0).bind fun m=>
          .when (hi.isSome&&decide (0<t'.size)) (.need (decide (l≤h∧h=m∧m≤l2.length))
            (.ret {val:=.row t' (((h2 ▸ l2:List t'.den).drop l).take (h-l)) true,rd:=[g],wr:=stopsS H [g]})))
      else .fail
    |_=>.fail
  | some (.slice e),.part t' g off len=>
    .when (decide (tsize P e=some t'.size)) (
      match mx with
      |none=>(boundS lo 0).bind fun l=>(boundS hi len).bind fun h=>.need (decide (l≤h∧h≤len)) (.ret {val:=.part t' g (off+l) (h-l)})
      |some _=>.fail)
  |_,_=>.fail
def fillAS (place:Nat→Option (Nat×Nat)) (cells:List SV):List (Nat×SV)→Option (List SV)
  | []=>some cells
  | (i,v)::rest=>
    match place i with
    |none=>none
    |some (off,size)=>if v.cells.length=size∧off+size≤cells.length∧okSV v=true then fillAS place (spliceS cells off v.cells) rest else none
def szero (P:Program) (t:TypeId):Option SV:=
  match P.info? t with
  | some i=>match i.zero with
    |some z=>some (svC z)
    |none=>none
  |none=>none
def opBuildS (P:Program) (t:TypeId) (parts:List (Nat×SV)):Option SV:=
  match szero P t,P.underlying t with
  | some (.agg z),some (.struct fs)=>
    if !(fs.toList.all fun f=>(tsize P f.type).isSome)then none else
    (fillAS (fun i=>match fs[i]? with
      |some f=>(tsize P f.type).map fun s=>(f.offset,s)
      |none=>none) z parts).map .agg
  | some (.agg z),some (.array _ e)=>
    match tsize P e with
    |some s=>(fillAS (fun i=>some (i*s,s)) z parts).map .agg
    |none=>none
  |_,_=>none
def dzero(P:Program)(e:TypeId)(t:Ty):Option t.den:=(szero P e).bind (paT t)
def fillSS(H:SHeap)(size:Nat)(t:Ty)(es:List t.den)(l:List Nm):List (Nat×SV)→Tr (List t.den×List Nm)
  | []=>.ret (es,l)
  |(i,v)::rest=>(pureVS H v).bind fun p=>.when (decide (p.1.cells.length=size∧p.1.isAgg=t.agg∧okSV p.1=true∧slack p.1=true)) (
      (Tr.of (paT t p.1)).bind fun y=>.need (decide (i<es.length)) (fillSS H size t (es.set i y) (l++p.2) rest))
def opBuildSliceS (P:Program) (t:TypeId) (len:Nat) (parts:List (Nat×SV)) (H:SHeap) (slot:Nat):Tr SRes:=
  match telem P t with
  | some e=>
    match tsize P e,tagg P e,tyOf P 12 e with
    | some size,some agg,some ty=>
      .when (decide (len*size≤65536∧0<size∧ty.size=size∧ty.agg=agg)) (
        (Tr.of (dzero P e ty)).bind fun z=>
        (fillSS H size ty (List.replicate len z) [] parts).bind fun p=>.ret {val:=.own ty (slot,0),rd:=p.2,wr:=stopsS H p.2,new:=[.arr ty p.1 .zero]})
    |_,_,_=>.fail
  |none=>.fail
def opMakeSliceS (P:Program) (t:TypeId) (l c:SV) (slot:Nat):Tr SRes:=
  match telem P t,l,c with
  | some e,.int _ n,.int _ m=>
    match tsize P e,tbytes P e,tyOf P 12 e with
    | some size,some bytes,some ty=>
      .when (decide (bytes≤32768∧0<size∧ty.size=size)) ((Tr.of (dzero P e ty)).bind fun z=>.need (decide (0≤n∧n≤m∧m≤4294967296))
        (.ret {val:=.own ty (slot,0),new:=[.arr ty (List.replicate n.toNat z) .zero]}))
    |_,_,_=>.fail
  |_,_,_=>.fail
def srcOfS (H:SHeap) (ty:Ty):SV→Tr (List ty.den×List Nm)
  | .row t l _=>(Tr.of (castL (t:=t) (t':=ty) l)).map fun l=>(l,[])
  | .own t g=>match getS H g with
    |some (.arr t' l _)=>.when (decide (t'=t∧0<t'.size)) ((Tr.of (castL (t:=t') (t':=ty) l)).map fun l=>(l,[g]))
    |_=>.fail
  | .part t g off len=>match getS H g with
    |some (.arr t' l _)=>.when (decide (t'=t∧0<t'.size)) (.need (decide (off+len≤l.length)) ((Tr.of (castL (t:=t') (t':=ty) l)).map fun l=>((l.drop off).take len,[g])))
    |_=>.fail
  |_=>.fail
def Fz.grow(z:Fz)(n:Nat):Fz:=
  match z with
  | .zero=>.zero
  | .all=>.low n
  | .low k=>.low (k+n)
def opAppendS (P:Program) (t:TypeId) (s x:SV) (H:SHeap) (slot:Nat):Tr SRes:=
  match telem P t with
  | some e=>
    match tsize P e,tbytes P e,tzero P e,tyOf P 12 e with
    | some size,some bytes,some z,some ty=>
      .when (decide (0<size∧bytes≤32768∧z.cells.length=size∧okV z=true∧ty.size=size)) (
        (srcOfS H ty x).bind fun q=>
        match s with
        | .row t' l true=>(Tr.of (castL (t:=t') (t':=ty) l)).bind fun l=>.br l.isEmpty
            (.need (decide (l.length+q.1.length≤4294967296)) (.ret {val:=.own ty (slot,0),rd:=q.2,new:=[.arr ty (l++q.1) .zero]}))
            (.br q.1.isEmpty (.ret {val:=.row ty l true,rd:=q.2})
              (.need (decide (l.length+q.1.length≤4294967296)) (.ret {val:=.own ty (slot,0),rd:=q.2,new:=[.arr ty (l++q.1) .zero]})))
        | .own t' g=>match getS H g with
          |some (.arr t2 l z)=>if h:t2=ty then .when (decide (t'=ty)) (.need (decide (l.length+q.1.length≤4294967296))
              (.ret {val:=.own ty (slot,0),rd:=g::q.2,wr:=[(g,.dead l.length)],new:=[.arr ty ((h ▸ l:List ty.den)++q.1) (z.grow q.1.length)]}))else .fail
          |_=>.fail
        | .part t' g off len=>match getS H g with
          | some (.arr t2 l z)=>if h:t2=ty then .when (decide (t'=ty)) (match z with
            | .zero=>.need (decide (off=0∧len≤l.length∧len+q.1.length≤4294967296))
              (.ret {val:=.own ty (slot,0),rd:=g::q.2,wr:=[(g,.dead l.length)],new:=[.arr ty ((h ▸ l:List ty.den).take len++q.1) .zero]})
            | z=>.need (decide (off=0∧len=l.length∧l.length+q.1.length≤4294967296))
              (.ret {val:=.own ty (slot,0),rd:=g::q.2,wr:=[(g,.dead l.length)],new:=[.arr ty ((h ▸ l:List ty.den)++q.1) (z.grow q.1.length)]}))else .fail
          |_=>.fail
        |_=>.fail)
    |_,_,_,_=>.fail
  |none=>.fail
def spliceL{α:Type}(l:List α)(off:Nat)(new:List α):List α:=l.take off++new++l.drop (off+new.length)
def opCopyS (P:Program) (t:TypeId) (d x:SV) (H:SHeap):Tr SRes:=
  match telem P t with
  | some e=>
    match tsize P e,tyOf P 12 e with
    |some size,some ty=>.when (decide (0<size∧ty.size=size)) ((srcOfS H ty x).bind fun q=>
        match d with
        | .own t' g=>match getS H g with
          |some (.arr t2 l .zero)=>if h:t2=ty then .when (decide (t'=ty)) (.ret {val:=.int .i64 (min q.1.length l.length:Nat),rd:=g::q.2,wr:=[(g,.arr ty (spliceL (h ▸ l:List ty.den) 0 (q.1.take l.length)) .zero)]})else .fail
          |_=>.fail
        | .part t' g off len=>match getS H g with
          |some (.arr t2 l .zero)=>if h:t2=ty then .when (decide (t'=ty)) (.need (decide (off+len≤l.length)) (.ret {val:=.int .i64 (min q.1.length len:Nat),rd:=g::q.2,wr:=[(g,.arr ty (spliceL (h ▸ l:List ty.den) off (q.1.take len)) .zero)]}))else .fail
          |_=>.fail
        |_=>.fail)
    |_,_=>.fail
  |none=>.fail
def opClearS (P:Program) (t:TypeId) (d:SV) (H:SHeap):Tr SRes:=
  match telem P t with
  | some e=>
    match tsize P e,tyOf P 12 e with
    |some size,some ty=>.when (decide (0<size∧ty.size=size)) ((Tr.of (dzero P e ty)).bind fun z=>
        match d with
        | .own t' g=>match getS H g with
          |some (.arr t2 l .zero)=>if h:t2=ty then .when (decide (t'=ty)) (.ret {val:=.tup [],rd:=[g],wr:=[(g,.arr ty (spliceL (h ▸ l:List ty.den) 0 (List.replicate l.length z)) .zero)]})else .fail
          |_=>.fail
        | .part t' g off len=>match getS H g with
          |some (.arr t2 l .zero)=>if h:t2=ty then .when (decide (t'=ty)) (.need (decide (off+len≤l.length)) (.ret {val:=.tup [],rd:=[g],wr:=[(g,.arr ty (spliceL (h ▸ l:List ty.den) off (List.replicate len z)) .zero)]}))else .fail
          |_=>.fail
        |_=>.fail)
    |_,_=>.fail
  |none=>.fail
def opLenS (P:Program) (t:TypeId) (x:SV) (H:SHeap):Option SV:=
  match P.underlying t with
  |some (.array n _)=>some (.int .i64 n)
  | some (.slice _)=>match x with
    | .row _ xs _=>some (.int .i64 xs.length)
    | .own _ g=>match getS H g with
      |some b=>some (.int .i64 b.len)
      |none=>none
    | .part _ _ _ len=>some (.int .i64 len)
    |_=>none
  | some .string=>match x with
    | .str s=>some (.int .i64 s.size)
    |_=>none
  |_=>none
def minS:SV→List SV→Option SV
  |x,[]=>if isOne x=true then some x else none
  | .int k a,.int k' b::r=>if k=k' then minS (.int k (if b<a then b else a)) r else none
  |_,_=>none
def maxS:SV→List SV→Option SV
  |x,[]=>if isOne x=true then some x else none
  | .int k a,.int k' b::r=>if k=k' then maxS (.int k (if b>a then b else a)) r else none
  |_,_=>none
abbrev SOut:=SV×List SB×List SB
abbrev SCall:=List SV→List SB→Tr SOut
def lend1S (H:SHeap) (share:Bool) (f:Ren) (x:SV):Tr SV:=
  match x with
  | .own t g=>if share then(match f g with
      |some g'=>.ret (.own t g')
      |none=>.fail)
    else(pure1S H (.own t g)).map (·.1)
  | .part t g off len=>if share then(match f g with
      |some g'=>.ret (.part t g' off len)
      |none=>.fail)
    else(pure1S H (.part t g off len)).map (·.1)
  | .row t l _=>.ret (.row t l false)
  | .agg _=>.fail
  | .tup _=>.fail
  |x=>.ret (renCS f x)
def lendVS(H:SHeap)(share:Bool)(f:Ren):SV→Tr SV
  | .agg cs=>(Tr.mapM (lend1S H share f) cs).map .agg
  |v=>lend1S H share f v
def lentNamesS:SV→List Nm
  | .agg cs=>cs.flatMap fun c=>match c with
    | .own _ g=> [g]
    | .part _ g _ _=> [g]
    |_=> []
  | .own _ g=> [g]
  | .part _ g _ _=> [g]
  |_=> []
def scalS(v:SV):Bool:=scal (dV (fun _=>0) v)
def SB.alive:SB→Bool
  | .dead _=>false
  |_=>true
def lensEq:List SB→List SB→Bool
  | .box ..::r,.box ..::r'=>lensEq r r'
  |b::r,b'::r'=>decide (b'.len=b.len)&&lensEq r r'
  | [],[]=>true
  |_,_=>false
def opCallS (share:Bool) (call:SCall) (args:List SV) (H:SHeap) (slot:Nat):Tr SRes:=
  let lent:=if share then []else args.flatMap lentNamesS
  let R:=reachS H (args.flatMap (if share then fun v=>seedsVS v++lentNamesS v else seedsVS))
  let f:Ren:=fun g=>(idxOf g R 0).map fun i=>(i,0)
  if lent.any (fun g=>R.contains g)|| !args.all notTup then .fail else
  (Tr.mapM (lendVS H share f) args).bind fun args'=>
  match R.mapM (fun g=>(getS H g).bind fun b=>if b.alive=true then some (renBS f b)else none)with
  | some sub=>
    (call args' sub).bind fun out=>
      .need (lensEq sub out.2.1) (.when (out.2.2.all SB.alive) (
        let b:=renBack R slot
        .ret { val:=renVS b out.1,rd:=R++lent,
               wr:=(R.zip out.2.1).map (fun p=>(p.1,renBS b p.2))++(if scalS out.1&&out.2.2.isEmpty&&R.isEmpty then []else stopsS H lent),
               new:=out.2.2.map (renBS b)}))
  |none=>.fail
def partsOfS(fr:SFr)(ps:Array (Nat×Operand)):List (Nat×SV):=ps.toList.map fun p=>(p.1,evS fr p.2)
def pickS(c:Bool)(a b:SV):Tr SV:=
  match a,b with
  | .bool p,.bool q=>.ret (.bool (cond c p q))
  |a,b=>.br c (.ret a) (.ret b)
def opBoxS(P:Program)(t:TypeId)(v:SV)(slot:Nat):Tr SRes:=
  match tsize P t with
  |some size=>.when (decide (v.cells.length=size∧okSV v=true∧0<size)) (.ret {val:=.ptr (slot,0) size 0 0,new:=[.box size v]})
  |none=>.fail
def opAssignS (P:Program) (fr:SFr) (t:TypeId) (x:Operand) (slot:Nat):Tr SRes:=
  match x with
  | .const (.slice none 0 0)=>
    match telem P t with
    | some e=>match tsize P e,tyOf P 12 e with
      |some size,some ty=>.when (decide (ty.size=size)) (.ret {val:=.own ty (slot,0),new:=[.arr ty [] .zero]})
      |_,_=>.fail
    |none=>.fail
  |x=>.ret {val:=evS fr x}
def opLookupMS (P:Program) (t:TypeId) (m k:SV) (ok:Bool) (H:SHeap):Tr SRes:=
  match mpTy P t,m,k with
  | some et,.ptr g 0 0 0,.int .i64 n=>match getS H g,szero P et with
    |some (.mp ty l),some z=>.when (okTy ty) ((Tr.of (paT ty z)).bind fun z=>
        .ret {val:=if ok then .tup [unT ty ((mpGet n l).getD z),.bool (mpGet n l).isSome]else unT ty ((mpGet n l).getD z),rd:=[g]})
    |_,_=>.fail
  |_,_,_=>.fail
def opMapUpdateS (P:Program) (t:TypeId) (m k v:SV) (H:SHeap):Tr SRes:=
  match mpTy P t,m,k with
  | some _,.ptr g 0 0 0,.int .i64 n=>match getS H g with
    |some (.mp ty l)=>.when (okTy ty) ((Tr.of (paT ty v)).bind fun x=>.ret {val:=.tup [],rd:=[g],wr:=[(g,.mp ty (mpSet n x l))]})
    |_=>.fail
  |_,_,_=>.fail
def opMakeMapS(P:Program)(t:TypeId)(slot:Nat):Tr SRes:=
  match(mpTy P t).bind (tyOf P 12)with
  |some ty=>.ret {val:=.ptr (slot,0) 0 0 0,new:=[.mp ty []]}
  |none=>.fail
def stepOpS (P:Program) (N:FuncId→Note) (call:FuncId→SCall) (o:Oper) (fr:SFr) (H:SHeap) (slot:Nat):Tr SRes:=
  let ev:=evS fr
  match o.op with
  | .move x=>.ret {val:=ev x}
  | .assign x=>opAssignS P fr o.type x slot
  | .pick c a b=>match ev c with
    | .bool p=>(pickS p (ev a) (ev b)).map val1
    |_=>.fail
  | .alloc t=>match szero P t with
    |some z=>opBoxS P t z slot
    |none=>.fail
  | .box t x=>opBoxS P t (ev x) slot
  | .build t ps=>(Tr.of (opBuildS P t (partsOfS fr ps))).map val1
  | .buildSlice t n ps=>opBuildSliceS P t n (partsOfS fr ps) H slot
  | .load t a=>opLoadS P t (ev a) H
  | .store t a x=>opStoreS P t (ev a) (ev x) H
  | .nilCheck x=>match ev x with
    | .ptr g sz i off=>.when (decide (0<sz)) (.ret {val:=.ptr g sz i off})
    | .lp t l i x h off=>.ret {val:=.lp t l i x h off}
    |_=>.fail
  | .binOp op t x y _=>(opBin3S P op t (ev x) (ev y) y).map val1
  | .unOp op _ x=>(Tr.of (opUnS op (ev x))).map val1
  | .convert a b x=>(Tr.of (opConvertS P a b (ev x))).map val1
  | .makeFunc (.func f) first caps=>if first.isEmpty then .when (caps.toList.all fun c=>isCap (ev c)) (.ret {val:=.clo f (caps.toList.map ev)})else .fail
  | .makeSlice t l c=>opMakeSliceS P t (ev l) (ev c) slot
  | .slice t x lo hi mx=>opSliceS P t (ev x) (lo.map ev) (hi.map ev) (mx.map ev) H
  | .fieldAddr t x f=>(Tr.of (opFieldAddrS P t (ev x) f)).map val1
  | .field t x f=>(Tr.of (opFieldS P t (ev x) f)).map val1
  | .indexAddr t x i=>(opIndexAddrS P t (ev x) (ev i) H).map val1
  | .index t x i=>(opIndex3S P t (ev x) (ev i) i).map val1
  | .lookup t m k ok=>match ev m with
    | .ptr g sz i off=>opLookupMS P t (.ptr g sz i off) (ev k) ok H
    |m=>(opLookupS P t m (ev k) ok).map val1
  | .mapUpdate t m k v=>opMapUpdateS P t (ev m) (ev k) (ev v) H
  | .makeMap t none=>opMakeMapS P t slot
  | .extract x i=>match ev x with
    | .tup vs=>match vs[i]? with
      |some v=>.when (notTup v) (.ret {val:=v})
      |none=>.fail
    |_=>.fail
  | .call c=>match c.callee with
    | .value f=>match ev f with
      | .clo fn caps=>.when (caps.all isCap) (opCallS (N fn).share (call fn) (c.args.toList.map ev++caps) H slot)
      |_=>.fail
    | .builtin .len=>match c.args.toList,c.argTypes.toList with
      | [x],[t]=>(Tr.of (opLenS P t (ev x) H)).map val1
      |_,_=>.fail
    | .builtin .append=>match c.args.toList,c.argTypes.toList with
      | [s,x],[t,t']=>.when (decide (t=t')) (opAppendS P t (ev s) (ev x) H slot)
      |_,_=>.fail
    | .builtin .copy=>match c.args.toList,c.argTypes.toList with
      | [d,x],[t,_]=>opCopyS P t (ev d) (ev x) H
      |_,_=>.fail
    | .builtin .clear=>match c.args.toList,c.argTypes.toList with
      | [d],[t]=>opClearS P t (ev d) H
      |_,_=>.fail
    | .builtin .min=>match c.args.toList.map ev with
      |x::r=>(Tr.of (minS x r)).map val1
      | []=>.fail
    | .builtin .max=>match c.args.toList.map ev with
      |x::r=>(Tr.of (maxS x r)).map val1
      | []=>.fail
    |_=>.fail
  |_=>.fail
def newGroupS (H:SHeap) (slot:Nat) (mk:Bool) (new:List SB):Option SHeap:=
  match mk with
  | true=>match H[slot]? with
    |some []=>if new.all SB.alive=true then some (H.set slot new)else none
    |_=>none
  | false=>match new with
    | []=>some H
    |_=>none
def putDstS(fr:SFr):Option Nat→SV→SFr
  |some d,v=>insS d v fr
  |none,_=>fr
def resN(r:SRes):Res:={val:=.undef,rd:=r.rd,wr:=r.wr.map fun p=>(p.1,none)}
structure SEnv where
  P:Program
  N:FuncId→Note
  nt:Nat
  locs:List Nat
  pairs:Nat→List (Nat×Nat)
  keep:Nat
def setLit(x:SV)(d:Nat):SFr→SFr
  | []=> []
  |(s,y)::r=>if s=d then(s,x)::r else(s,y)::setLit x d r
def stepIS (E:SEnv) (call:Nat→FuncId→SCall) (ops:Array Oper) (base i:Nat) (s:SSt):Tr (SSt×Option SRes):=
  match ops[i]? with
  |none=>.ret (s,none)
  | some o=>
    .when (dstOk E.nt o.dst) (
      let skip (fr:SFr):Tr (SSt×Option SRes):=.ret ({s with fr:=putDstS fr o.dst (.tup [])},none)
      let doit (fr:SFr):Tr (SSt×Option SRes):=(stepOpS E.P E.N (call i) o fr s.hp (slotOf ops base i)).bind fun r=>
        match newGroupS (putAllS s.hp r.wr) (slotOf ops base i) (makes o.op) r.new with
        |some H=>.ret ({fr:=putDstS fr o.dst r.val,hp:=H},some r)
        |none=>.fail
      match o.guard with
      |none=>doit s.fr
      | some (j,want)=>
        match(ops[j]?).bind (·.dst)with
        | some d=>match lookS s.fr d with
          | .bool b=>match want with
            |true=>.br b (doit (setLit (.bool true) d s.fr)) (skip (setLit (.bool false) d s.fr))
            |false=>.br b (skip (setLit (.bool true) d s.fr)) (doit (setLit (.bool false) d s.fr))
          | .tup []=>skip s.fr
          |_=>.fail
        |none=>.fail)
def runLS(E:SEnv)(call:Nat→FuncId→SCall)(ops:Array Oper)(base:Nat):List Nat→SSt→Tr (SSt×List (Option SRes))
  | [],s=>.ret (s,[])
  |i::r,s=>(stepIS E call ops base i s).bind fun p=>(runLS E call ops base r p.1).bind fun q=>.ret (q.1,p.2::q.2)
def clearS(locs:List Nat)(fr:SFr):SFr:=fr.filter fun p=>locs.contains p.1
def runRegionS (E:SEnv) (call:Nat→FuncId→SCall) (id:Nat) (ops:Array Oper) (draw:Bool) (s:SSt):Tr SSt:=
  (runLS E call ops s.hp.length (List.range ops.size) {s with hp:=s.hp++List.replicate (nMakes ops) []}).bind fun p=>
    if draw&& !((E.pairs id).all fun q=>apart3 ops s.hp.length q.1 q.2 ((p.2.getD q.1 none).map resN) ((p.2.getD q.2 none).map resN))then .fail
    else .ret {p.1 with fr:=clearS E.locs p.1.fr}
def firstId:Code→Nat
  | .region id _ _=>id
  | .seq a _=>firstId a
  | .cond _ a _=>firstId a
  | .block _ b=>firstId b
  | .loop b=>firstId b
  | .scope b=>firstId b
  |_=>0
def exEq:Ex→Ex→Bool
  | .normal,.normal=>true
  | .exit a,.exit b=>a==b
  | .ret,.ret=>true
  |_,_=>false
inductive Outs where
  |one (e:Ex) (σ:Sg)
  |more (e:Ex) (σ:Sg) (r:Outs)
def Outs.den:Outs→Type
  | .one _ σ=>σ.den
  | .more _ σ r=>σ.den⊕r.den
end Go.Abs
set_option linter.unusedSimpArgs false
set_option linter.unusedVariables false
namespace Go.Abs
open Go
def dN(ℓ:Lens)(b:SB):Blk:=match dB ℓ b with
  |some k=>k
  |none=>⟨0,[],0,false⟩
def dW(ℓ:Lens)(wr:List (Nm×SB)):List (Nm×Option Blk):=wr.map fun p=>(p.1,dB ℓ p.2)
def dR(ℓ:Lens)(r:SRes):Res:={val:=dV ℓ r.val,rd:=r.rd,wr:=dW ℓ r.wr,new:=r.new.map (dN ℓ)}
def NewOK(ℓ:Lens)(slot:Nat)(new:List SB):Prop:=∀(k:Nat) (b:SB),new[k]?=some b→ℓ (slot,k)=b.len
theorem svC1_d(ℓ:Lens)(v:Value):d1 ℓ (svC1 v)=cv1 v∧dC ℓ (svC1 v)=cv1 v∧dA ℓ (svC1 v)=cv1 v∧dV ℓ (svC1 v)=cv1 v:=by
  cases v with
  |pointer p=>cases p<;>exact⟨rfl,rfl,rfl,rfl⟩
  | slice a n c=>
    cases a with
    |some _=>exact⟨rfl,rfl,rfl,rfl⟩
    | none=>
      cases n with
      |succ n=>exact⟨rfl,rfl,rfl,rfl⟩
      |zero=>cases c<;>exact⟨rfl,rfl,rfl,rfl⟩
  |_=>exact⟨rfl,rfl,rfl,rfl⟩
theorem okSC_svC1(v:Value):okSC (svC1 v)=okC (cv1 v):=by
  cases v with
  |pointer p=>cases p<;>rfl
  | slice a n c=>
    cases a with
    |some _=>rfl
    | none=>
      cases n with
      |succ n=>rfl
      |zero=>cases c<;>rfl
  |_=>rfl
theorem svC_d (ℓ:Lens) (v:Value):dA ℓ (svC v)=cv v∧dV ℓ (svC v)=cv v:=by
  cases v with
  | agg cs=>
    have e:(cs.toList.map svC1).all okSC=(cs.toList.map cv1).all okC:=by
      simp only[List.all_map]
      congr 1
      funext v
      exact okSC_svC1 v
    simp only[svC,cv,e]
    split
    · have:List.map (dC ℓ) (cs.toList.map svC1)=cs.toList.map cv1:=by
        simp only[List.map_map]
        exact List.map_congr_left fun v _=>(svC1_d ℓ v).2.1
      exact⟨by simp only[dA,this],by simp only[dV,dA,this]⟩
    · exact⟨rfl,rfl⟩
  |_=>first|exact⟨(svC1_d ℓ _).2.2.1,(svC1_d ℓ _).2.2.2⟩|exact⟨rfl,rfl⟩
theorem dV_int(ℓ:Lens)(k:IntKind)(n:Int):dV ℓ (.int k n)= .int k n:=rfl
theorem dV_bool(ℓ:Lens)(b:Bool):dV ℓ (.bool b)= .bool b:=rfl
theorem dV_str(ℓ:Lens)(s:ByteArray):dV ℓ (.str s)= .str s:=rfl
theorem dV_row(ℓ:Lens)(t:Ty)(l:List t.den)(b:Bool):dV ℓ (.row t l b)=rowAV t l b:=rfl
theorem dV_own(ℓ:Lens)(t:Ty)(g:Nm):dV ℓ (.own t g)= .own g t.size 0 (ℓ g):=rfl
theorem dV_part(ℓ:Lens)(t:Ty)(g:Nm)(off len:Nat):dV ℓ (.part t g off len)= .own g t.size off len:=rfl
theorem dV_ptr(ℓ:Lens)(g:Nm)(sz i off:Nat):dV ℓ (.ptr g sz i off)= .ptr g sz i off:=rfl
theorem dV_lp(ℓ:Lens)(t:Ty)(l:List t.den)(i:Nat)(x:t.den)(h:l[i]?=some x)(off:Nat):dV ℓ (.lp t l i x h off)= .lp t.size (l.map (enc t)) i off:=rfl
theorem dV_clo(ℓ:Lens)(f:FuncId)(cs:List SV):dV ℓ (.clo f cs)= .clo f (cs.map (d1 ℓ)):=rfl
theorem dV_agg(ℓ:Lens)(cs:List SV):dV ℓ (.agg cs)= .agg (cs.map (dC ℓ)):=rfl
theorem dV_tup(ℓ:Lens)(vs:List SV):dV ℓ (.tup vs)= .tup (vs.map (dA ℓ)):=rfl
theorem evS_d(ℓ:Lens)(fr:SFr)(x:Operand):dV ℓ (evS fr x)=evO (dF ℓ fr) x:=by
  cases x with
  |tmp t=>exact(look_dF ℓ fr t).symm
  |const v=>exact(svC_d ℓ v).2
  |global g=>rfl
  |func f=>rfl
theorem isOne_d{v:SV}(h:isOne v=true)(ℓ:Lens):dV ℓ v=dC ℓ v∧dA ℓ v=dC ℓ v:=by cases v<;>first|exact⟨rfl,rfl⟩|cases h
theorem notTup_d{v:SV}(h:notTup v=true)(ℓ:Lens):dV ℓ v=dA ℓ v:=by cases v<;>first|rfl|cases h
theorem ofCellsS_spec {agg:Bool} {cs:List SV} {u:SV} (h:ofCellsS agg cs=some u) (ℓ:Lens):ofCells agg (cs.map (dC ℓ))=some (dV ℓ u):=by
  cases agg with
  |true=>cases h;rfl
  | false=>
    cases cs with
    |nil=>cases h
    | cons c r=>
      cases r with
      |cons _ _=>cases h
      | nil=>
        simp only[ofCellsS]at h
        split at h
        · rename_i h1;cases h;rw[(isOne_d h1 ℓ).1];rfl
        · cases h
theorem loadAtS_spec{size off:Nat}{agg:Bool}{x u:SV}(h:loadAtS size agg x off=some u)(ℓ:Lens):loadAt size agg (dA ℓ x) off=some (dV ℓ u):=by
  unfold loadAtS at h
  unfold loadAt
  rw[cells_dA,List.length_map,isAgg_dA]
  split at h
  · rename_i h1
    rw[if_pos h1]
    split at h
    · rename_i h2
      rw[if_pos h2]
      split at h
      · rename_i h3;cases h;rw[notTup_d h3]
      · cases h
    · rename_i h2
      rw[if_neg h2,←List.map_drop,←List.map_take]
      exact ofCellsS_spec h ℓ
  · cases h
theorem partOfS_spec{P:Program}{t:TypeId}{cs:List SV}{off:Nat}{u:SV}(h:partOfS P t cs off=some u)(ℓ:Lens):partOf P t (cs.map (dC ℓ)) off=some (dV ℓ u):=by
  unfold partOfS at h
  unfold partOf
  split at h
  · rename_i size agg h1 h2
    simp only[h1,h2,List.length_map]
    split at h
    · rename_i h3
      rw[if_pos h3,←List.map_drop,←List.map_take]
      exact ofCellsS_spec h ℓ
    · cases h
  · cases h
section
variable{P:Program}{H:SHeap}{ℓ:Lens}
theorem opLoadS_spec {t:TypeId} {p:SV} {r:SRes} (h:(opLoadS P t p H).mean=some r):opLoad P t (dV ℓ p) (dH ℓ H)=some (dR ℓ r)∧r.wr=[]:=by
  unfold opLoadS at h
  unfold opLoad
  split at h
  · rename_i size agg h1 h2
    simp only[h1,h2]
    cases p with
    | ptr g sz i off=>
      simp only at h
      simp only[dV_ptr,get_dH]
      split at h
      · rename_i sz' v hg
        obtain⟨h3,h4⟩:=Tr.mean_when h
        obtain⟨rfl,rfl,h0⟩:=of_decide_eq_true h3
        obtain⟨u,h5,rfl⟩:=Tr.mean_map h4
        have:=loadAtS_spec (Tr.mean_of h5) ℓ
        simp[hg,dB,this,dR,dW,h0]
      · rename_i t' l z hg
        obtain⟨h3,h4⟩:=Tr.mean_when h
        have h3:=of_decide_eq_true h3
        simp only[Tr.mean]at h4
        obtain⟨x,h5,h6⟩:=Option.bind_eq_some_iff.1 h4
        obtain⟨u,h7,rfl⟩:=Tr.mean_map h6
        have:=loadAtS_spec (Tr.mean_of h7) ℓ
        rw[unT_enc]at this
        simp[hg,dB,h3,h5,this,dR,dW]
      · exact(Tr.mean_fail h).elim
    | lp t' l i x hx off=>
      simp only at h
      obtain⟨u,h7,rfl⟩:=Tr.mean_map h
      have:=loadAtS_spec (Tr.mean_of h7) ℓ
      rw[unT_enc]at this
      simp[dV_lp,hx,cells_enc,length_encC,this,dR,dW,val1]
    | fp g=>
      simp only at h
      obtain⟨h3,h4⟩:=Tr.mean_when h
      have h3:=of_decide_eq_true h3
      have:=Tr.mean_ret h4;subst this
      simp only[show dV ℓ (.fp g)= .fp g from rfl]
      rw[if_pos h3]
      exact⟨rfl,rfl⟩
    |_=>exact(Tr.mean_fail h).elim
  · exact(Tr.mean_fail h).elim
theorem paC_exact:∀(t:Ty) (cs:List SV) (x:t.den) (r:List SV),paC t cs=some (x,r)→(∀c∈cs,slack1 c=true)→∃pre,cs=pre++r∧pre.map (dC ℓ)=encC t x:=by
  intro t
  induction t with
  | int k=>
    intro cs x r h _
    cases cs with
    |nil=>cases h
    | cons c cs=>
      cases c<;>first|(cases h;done)|skip
      simp only[paC]at h
      split at h
      · rename_i e;subst e;cases h;exact⟨[_],rfl,rfl⟩
      · cases h
  | bool=>
    intro cs x r h _
    cases cs with
    |nil=>cases h
    | cons c cs => cases c<;>first|(cases h;done)|skip
                   cases h;exact⟨[_],rfl,rfl⟩
  | str=>
    intro cs x r h _
    cases cs with
    |nil=>cases h
    | cons c cs => cases c<;>first|(cases h;done)|skip
                   cases h;exact⟨[_],rfl,rfl⟩
  | row t ih=>
    intro cs x r h hs
    cases cs with
    |nil=>cases h
    | cons c cs=>
      have hc:=hs c (by simp)
      cases c<;>first|cases h|skip
      rename_i t' l tg
      cases tg with
      |true=>cases hc
      | false=>
        simp only[paC]at h
        split at h
        · rename_i l' hl
          cases h
          exact⟨[_],rfl,by simp only[List.map_cons,List.map_nil,dC,d1,castL_spec hl false];rfl⟩
        · cases h
  |unit=>intro cs x r h _;cases h;exact⟨[],rfl,rfl⟩
  | cons a b iha ihb=>
    intro cs x r h hs
    simp only[paC]at h
    split at h
    · rename_i y r1 h1
      split at h
      · rename_i z r2 h2
        cases h
        obtain⟨p1,rfl,f1⟩:=iha _ _ _ h1 hs
        obtain⟨p2,rfl,f2⟩:=ihb _ _ _ h2 (fun c hc=>hs c (by simp at hc ⊢;right;exact hc))
        exact⟨p1++p2,by simp,by rw[List.map_append,f1,f2];rfl⟩
      · cases h
    · cases h
theorem paT_exact {t:Ty} {v:SV} {x:t.den} (h:paT t v=some x) (hs:slack v=true):dA ℓ v=enc t x:=by
  unfold paT at h
  split at h
  · rename_i hagg
    split at h
    · rename_i y hy
      cases h
      have hsl:∀c∈v.cells,slack1 c=true:=by
        cases v with
        |agg cs=>simpa[slack,SV.cells]using hs
        |_=>intro c hc;simp[SV.cells]at hc;subst hc;exact hs
      obtain⟨pre,h1,h2⟩:=paC_exact (ℓ:=ℓ) t _ _ _ hy hsl
      rw[List.append_nil]at h1
      subst h1
      rw[←cells_dA]at h2
      unfold enc wrap
      rw[←h2,←hagg,←isAgg_dA ℓ]
      generalize dA ℓ v=z
      cases z<;>rfl
    · cases h
  · cases h
theorem spliceS_d(cs:List SV)(off:Nat)(new:List SV):(spliceS cs off new).map (dC ℓ)=splice (cs.map (dC ℓ)) off (new.map (dC ℓ)):=by
  simp[spliceS,splice,List.map_take,List.map_drop]
theorem LenOK.append{wr wr':List (Nm×SB)}(h:LenOK H wr)(k:LenOK H wr'):LenOK H (wr++wr'):=by
  intro p hp
  rcases List.mem_append.1 hp with hp|hp
  · exact h p hp
  · exact k p hp
theorem LenOK.nil:LenOK H []:=fun p hp=>by simp at hp
theorem LenOK.one{g:Nm}{b b0:SB}(h:getS H g=some b0)(hl:b.len=b0.len):LenOK H [(g,b)]:=by
  intro p hp x hx
  simp at hp
  subst hp
  rw[h]at hx
  cases hx
  exact hl
theorem set_map_enc{t:Ty}(l:List t.den)(i:Nat)(y:t.den):(l.map (enc t)).set i (enc t y)=(l.set i y).map (enc t):=by rw[List.map_set]
theorem fzNeed_spec{z:Fz}{len i:Nat}{t:Tr SRes}{r:SRes}(h:(fzNeed z len i t).mean=some r):z.n len≤i∧t.mean=some r:=by
  cases z with
  |zero=>exact⟨Nat.zero_le _,h⟩
  |all=>obtain⟨h1,h2⟩:=Tr.mean_need h;exact⟨of_decide_eq_true h1,h2⟩
  |low k=>obtain⟨h1,h2⟩:=Tr.mean_need h;exact⟨of_decide_eq_true h1,h2⟩
theorem okSV_notTup{v:SV}(h:okSV v=true):notTup v=true:=by cases v<;>first|rfl|cases h
theorem opStoreS_spec (ha:Agr ℓ H) {t:TypeId} {p v:SV} {r:SRes} (h:(opStoreS P t p v H).mean=some r):opStore P t (dV ℓ p) (dV ℓ v) (dH ℓ H)=some (dR ℓ r)∧LenOK H r.wr∧r.new=[]:=by
  unfold opStoreS at h
  unfold opStore
  split at h
  · rename_i size h1
    simp only[h1]
    cases p with
    | ptr g sz i off=>
      simp only at h
      simp only[dV_ptr,get_dH]
      split at h
      · rename_i sz' x hg
        obtain⟨h2,h3⟩:=Tr.mean_when h
        obtain⟨rfl,rfl,h4,h5,h6,h0⟩:=of_decide_eq_true h2
        have hv:dV ℓ v=dA ℓ v:=notTup_d (okSV_notTup h6) ℓ
        have hc:(dA ℓ v).cells.length=size∧off+size≤sz'∧okV (dA ℓ v)=true:=⟨by rw[cells_dA,List.length_map];exact h4,h5,by rw[okV_dA];exact h6⟩
        simp only[hg,Option.bind_some,dB,true_and,Nat.le_refl,h0,if_true,List.getElem?_cons_zero,show dV ℓ v=dA ℓ v from hv]
        rw[if_pos hc]
        split at h3
        · rename_i he
          have:=Tr.mean_ret h3
          subst this
          refine⟨?_,LenOK.one hg rfl,rfl⟩
          unfold newElem
          rw[if_pos he]
          rfl
        · rename_i he
          split at h3
          · rename_i hx
            have:=Tr.mean_ret h3
            subst this
            refine⟨?_,LenOK.one hg rfl,rfl⟩
            unfold newElem
            rw[if_neg he,isAgg_dA,if_pos hx]
            simp only[cells_dA,←spliceS_d]
            rfl
          · exact(Tr.mean_fail h3).elim
      · rename_i t' l z hg
        obtain⟨⟨u,m⟩,h2,h3⟩:=Tr.mean_bind h
        obtain⟨h4,h5⟩:=Tr.mean_when h3
        obtain⟨rfl,c1,c2,c3,c4,c5,h0⟩:=of_decide_eq_true h4
        obtain⟨c6,h6⟩:=fzNeed_spec h5
        obtain⟨e1,e2⟩:=pureVS_spec ha h2
        have hv:dV ℓ v=dA ℓ v:=by
          cases v<;>first|rfl|exact(Tr.mean_fail h2).elim
        have hcc:(dA ℓ u).cells.length=size∧off+size≤t'.size∧¬ g∈m∧okV (dA ℓ u)=true:=⟨by rw[cells_dA,List.length_map];exact c1,c2,c3,by rw[okV_dA];exact c4⟩
        have hwr:∀y:t'.den,LenOK H (stopsS H m++ [(g,.arr t' (l.set i y) z)]):=fun y=>(stopsS_len m).append (LenOK.one hg (by simp[SB.len]))
        have hdw:∀y:t'.den,dW ℓ (stopsS H m++ [(g,.arr t' (l.set i y) z)])=stops (dH ℓ H) m++ [(g,some ⟨t'.size,(l.set i y).map (enc t'),z.n l.length,false⟩)]:=fun y=>by
          rw[←stopsS_spec e2]
          simp only[dW,List.map_append,List.map_cons,List.map_nil,dB,List.length_set]
        simp only[hg,Option.bind_some,dB,true_and,show dV ℓ v=dA ℓ v from hv,e1,Bool.false_eq_true,if_false]
        rw[if_pos ⟨c6,h0⟩]
        split at h6
        · rename_i he
          obtain⟨c7,h7⟩:=Tr.mean_need h6
          obtain⟨y,h8,h9⟩:=Tr.mean_bind h7
          have:=Tr.mean_ret h9
          subst this
          have hi:=of_decide_eq_true c7
          have hy:=paT_exact (ℓ:=ℓ) (Tr.mean_of h8) c5
          refine⟨?_,hwr y,rfl⟩
          simp only[List.getElem?_map,List.getElem?_eq_getElem hi,Option.map_some]
          rw[if_pos hcc]
          unfold newElem
          rw[if_pos he]
          simp only[dR,hdw,hy,set_map_enc,dV_tup,List.map_nil]
        · rename_i he
          simp only[Tr.mean]at h6
          obtain⟨x,h7,h8⟩:=Option.bind_eq_some_iff.1 h6
          obtain⟨h9,h10⟩:=Tr.mean_when h8
          obtain⟨y,h11,h12⟩:=Tr.mean_bind h10
          have:=Tr.mean_ret h12
          subst this
          have hx:dA ℓ (SV.agg (spliceS (unC t' x) off u.cells))= .agg (splice (enc t' x).cells off (dA ℓ u).cells):=by
            rw[cells_enc,cells_dA,←(enc_cells t' x ℓ).2,←spliceS_d]
            rfl
          have hsl:slack (SV.agg (spliceS (unC t' x) off u.cells))=true:=by
            simp only[slack,List.all_eq_true]
            intro c hc
            have h1:∀c∈unC t' x,slack1 c=true:=by
              have:∀(t:Ty) (x:t.den),∀c∈unC t x,slack1 c=true:=by
                intro t
                induction t with
                |cons a b iha ihb=>intro x c hc;simp only[unC,List.mem_append]at hc;exact hc.elim (iha _ c) (ihb _ c)
                |unit=>intro x c hc;cases hc
                |_=>intro x c hc;simp[unC]at hc;subst hc;rfl
              exact this t' x
            have h2:∀c∈u.cells,slack1 c=true:=by
              cases u with
              |agg cs=>simpa[slack,SV.cells]using c5
              |_=>intro c hc;simp[SV.cells]at hc;subst hc;exact c5
            simp only[spliceS,List.mem_append]at hc
            rcases hc with(hc|hc)|hc
            · exact h1 c (List.mem_of_mem_take hc)
            · exact h2 c hc
            · exact h1 c (List.mem_of_mem_drop hc)
          have hy:=paT_exact (ℓ:=ℓ) (Tr.mean_of h11) hsl
          refine⟨?_,hwr y,rfl⟩
          simp only[List.getElem?_map,h7,Option.map_some]
          rw[if_pos hcc]
          unfold newElem
          rw[if_neg he,isAgg_enc,if_pos h9,←hx,hy]
          simp only[dR,hdw,set_map_enc,dV_tup,List.map_nil]
      · exact(Tr.mean_fail h).elim
    |_=>exact(Tr.mean_fail h).elim
  · exact(Tr.mean_fail h).elim
end
end Go.Abs
set_option linter.unusedSimpArgs false
set_option linter.unusedVariables false
namespace Go.Abs
open Go
section
variable{P:Program}{H:SHeap}{ℓ:Lens}
theorem rowAt_some{A B:Type}{l:List A}{n:Int}{k:(x:A)→l[n.toNat]?=some x→Option B}{b:B}(h:rowAt l n k=some b):0≤n∧n<l.length∧∃x,∃hx:l[n.toNat]?=some x,k x hx=some b:=by
  unfold rowAt at h
  cases hn:decide (0≤n)with
  |false=>rw[hn]at h;cases h
  | true=>
    rw[hn]at h
    have h0:=of_decide_eq_true hn
    obtain⟨x,hx,hk⟩:=Option.pbind_eq_some_iff.1 (show Option.pbind l[n.toNat]? k=some b from h)
    have:=(List.getElem?_eq_some_iff.1 hx).1
    exact⟨h0,by omega,x,hx,hk⟩
theorem opFieldAddrS_spec {t:TypeId} {p u:SV} {f:Nat} (h:opFieldAddrS P t p f=some u):opFieldAddr P t (dV ℓ p) f=some (dV ℓ u):=by
  unfold opFieldAddrS at h
  unfold opFieldAddr
  split at h
  · rename_i o ft hf
    simp only[hf]
    split at h
    · cases h
    · rename_i hs
      rw[if_neg hs]
      cases p with
      | ptr g sz i off=>
        by_cases h0:0<sz
        · simp only[if_pos h0]at h
          cases h
          simp only[dV_ptr,if_pos h0]
        · simp only[if_neg h0]at h
          cases h
      |lp t l i x hx off=>cases h;rfl
      |_=>cases h
  · cases h
theorem opFieldS_spec{t:TypeId}{p u:SV}{f:Nat}(h:opFieldS P t p f=some u):opField P t (dV ℓ p) f=some (dV ℓ u):=by
  unfold opFieldS at h
  split at h
  · rename_i o ft cs hf
    simp only[dV_agg,opField,hf]
    exact partOfS_spec h ℓ
  · cases h
theorem lsz_pos{sz:Nat}{xs:List AV}(h:0<xs.length):lsz sz xs=sz:=by
  cases xs with
  |nil=>simp at h
  |cons _ _=>rfl
theorem opIndexAddrS_spec (ha:Agr ℓ H) {t:TypeId} {x i u:SV} (h:(opIndexAddrS P t x i H).mean=some u):opIndexAddr P t (dV ℓ x) (dV ℓ i)=some (dV ℓ u):=by
  unfold opIndexAddrS at h
  split at h
  · rename_i e k n hu
    unfold opIndexAddr
    simp only[dV_int,hu]
    cases x with
    | own t' g=>
      simp only at h
      split at h
      · rename_i b hb
        obtain⟨h1,h2⟩:=Tr.mean_when h
        obtain⟨h3,h4⟩:=Tr.mean_need h2
        have:=Tr.mean_ret h4
        subst this
        obtain⟨h5,h6⟩:=of_decide_eq_true h3
        obtain⟨h1,h7⟩:=of_decide_eq_true h1
        simp only[dV_own,ha g b hb]
        rw[if_pos ⟨h1,h5,h6,h7⟩]
        simp only[dV_ptr,Nat.zero_add]
      · exact(Tr.mean_fail h).elim
    | part t' g off len=>
      obtain⟨h1,h2⟩:=Tr.mean_when h
      obtain⟨h3,h4⟩:=Tr.mean_need h2
      have:=Tr.mean_ret h4
      subst this
      obtain⟨h5,h6⟩:=of_decide_eq_true h3
      obtain⟨h1,h7⟩:=of_decide_eq_true h1
      simp only[dV_part]
      rw[if_pos ⟨h1,h5,h6,h7⟩]
      rfl
    | row t' l tg=>
      obtain⟨h1,h2⟩:=Tr.mean_when h
      simp only[Tr.mean]at h2
      obtain⟨h3,h4,y,hy,h5⟩:=rowAt_some h2
      have h5:=Option.some.inj h5
      subst h5
      have hl:lsz t'.size (l.map (enc t'))=t'.size:=lsz_pos (by simp;omega)
      simp only[dV_row,rowAV,hl]
      rw[if_pos ⟨h3,by simpa using h4,of_decide_eq_true h1⟩]
      rfl
    |_=>exact(Tr.mean_fail h).elim
  · rename_i len e k n hu
    unfold opIndexAddr
    simp only[dV_int,hu]
    cases x with
    | ptr g sz j off=>
      simp only at h
      simp only[dV_ptr]
      split at h
      · rename_i es he
        obtain⟨h0,h⟩:=Tr.mean_when h
        obtain⟨h3,h4⟩:=Tr.mean_need h
        have:=Tr.mean_ret h4
        subst this
        simp only[he]
        rw[if_pos ⟨(of_decide_eq_true h3).1,(of_decide_eq_true h3).2,of_decide_eq_true h0⟩]
        rfl
      · exact(Tr.mean_fail h).elim
    |_=>exact(Tr.mean_fail h).elim
  · exact(Tr.mean_fail h).elim
theorem fmAtS_spec {n:Int} {k:SV→Bool→Tr SV} {u:SV}:∀(l:List (Int×FuncId×List FuncId)),(fmAtS l n k).mean=some u→∃v b,(k v b).mean=some u∧dV ℓ v=(fmAt l n).1∧notTup v=true∧b=(fmAt l n).2:=by
  intro l
  induction l with
  |nil=>intro h;exact⟨_,_,h,rfl,rfl,rfl⟩
  | cons p r ih=>
    intro h
    obtain⟨m,f,gs⟩:=p
    simp only[fmAtS,Tr.mean]at h
    by_cases hn:n=m
    · rw[show(n==m)=true by simpa using hn,cond_true]at h
      refine⟨_,_,h,?_,rfl,?_⟩
      · simp only[dV_clo,fmAt,if_pos hn,List.map_map]
        rfl
      · simp only[fmAt,if_pos hn]
    · rw[show(n==m)=false by simpa using hn,cond_false]at h
      simp only[fmAt,if_neg hn]
      exact ih h
theorem opLookupS_spec {t:TypeId} {m k u:SV} {ok:Bool} (h:(opLookupS P t m k ok).mean=some u):opLookup P t (dV ℓ m) (dV ℓ k) ok=some (dV ℓ u):=by
  unfold opLookupS at h
  split at h
  · rename_i kt et l n hu
    split at h
    · rename_i hkt hz
      obtain⟨v,b,h1,h2,h3,h4⟩:=fmAtS_spec (ℓ:=ℓ) l h
      have:=Tr.mean_ret h1;subst this
      simp only[show dV ℓ (.fm l)= .fm l from rfl,dV_int,opLookup,hu,hkt,hz]
      cases ok
      · simp only[Bool.false_eq_true,if_false,h2]
      · simp only[if_true,dV_tup,List.map_cons,List.map_nil,←h2,←h4,notTup_d h3]
        rfl
    · exact(Tr.mean_fail h).elim
  · exact(Tr.mean_fail h).elim
theorem opIndexS_spec{t:TypeId}{x i u:SV}(h:(opIndexS P t x i).mean=some u):opIndex P t (dV ℓ x) (dV ℓ i)=some (dV ℓ u):=by
  unfold opIndexS at h
  split at h
  · rename_i len e cs k n hu
    simp only[opIndex,dV_agg,dV_int,hu]
    split at h
    · rename_i es he
      obtain⟨h3,h4⟩:=Tr.mean_need h
      simp only[he]
      rw[if_pos (of_decide_eq_true h3)]
      exact partOfS_spec (Tr.mean_of h4) ℓ
    · exact(Tr.mean_fail h).elim
  · rename_i s k n hu
    obtain⟨h3,h4⟩:=Tr.mean_need h
    have:=Tr.mean_ret h4
    subst this
    obtain⟨h5,h6⟩:=of_decide_eq_true h3
    have hlt:n.toNat<s.size:=by omega
    simp only[opIndex,dV_str,dV_int,hu,h5,if_true]
    have:s[n.toNat]?=some s[n.toNat]:=by simp[hlt]
    simp[this]
  · exact(Tr.mean_fail h).elim
theorem arrL_spec {e:TypeId} {ty:Ty} {cs:List SV} {es:Nat}:∀(n i:Nat) (l:List ty.den),arrL P e ty cs es n i=some l→∀(k:Nat) (x:ty.den),l[k]?=some x→k<n∧partOf P e (cs.map (dC ℓ)) ((i+k)*es)=some (dV ℓ (unT ty x)):=by
  intro n
  induction n with
  |zero=>intro i l h k x hx;cases h;simp at hx
  | succ n ih=>
    intro i l h k x hx
    simp only[arrL]at h
    split at h
    · rename_i v r h1 h2
      split at h
      · rename_i hs
        obtain⟨y,h3,rfl⟩:=Option.map_eq_some_iff.1 h
        cases k with
        | zero=>
          simp only[List.getElem?_cons_zero,Option.some.injEq]at hx
          subst hx
          refine⟨Nat.succ_pos n,?_⟩
          rw[Nat.add_zero,partOfS_spec h1 ℓ]
          have hv:dV ℓ v=dA ℓ v:=by
            cases v<;>first|rfl|(exfalso;cases ty<;>simp[paT,paC,SV.cells,SV.isAgg,Ty.agg]at h3)
          have hu:dV ℓ (unT ty y)=dA ℓ (unT ty y):=by cases ty<;>rfl
          rw[hv,paT_exact h3 hs,hu,unT_enc]
        | succ k=>
          simp only[List.getElem?_cons_succ]at hx
          obtain⟨a1,a2⟩:=ih _ _ h2 k x hx
          exact⟨Nat.succ_lt_succ a1,by rw[show i+(k+1)=i+1+k by omega];exact a2⟩
      · cases h
    · cases h
theorem opIndexVS_spec{t:TypeId}{x i u:SV}(h:(opIndexVS P t x i).mean=some u):opIndex P t (dV ℓ x) (dV ℓ i)=some (dV ℓ u):=by
  unfold opIndexVS at h
  split at h
  · rename_i len e cs k n hu
    split at h
    · rename_i es ty he hty
      obtain⟨l,h1,h2⟩:=Tr.mean_bind h
      have h1:=Tr.mean_of h1
      simp only[Tr.mean]at h2
      obtain⟨h3,h4,y,hy,h5⟩:=rowAt_some h2
      have h5:=Option.some.inj h5
      subst h5
      obtain⟨a1,a2⟩:=arrL_spec (ℓ:=ℓ) _ _ _ h1 _ _ hy
      simp only[opIndex,dV_agg,dV_int,hu,he]
      rw[if_pos ⟨h3,by omega⟩]
      rw[Nat.zero_add]at a2
      exact a2
    · exact(Tr.mean_fail h).elim
  · exact opIndexS_spec h
theorem opIndex3S_spec{t:TypeId}{x i u:SV}{oi:Operand}(h:(opIndex3S P t x i oi).mean=some u):opIndex P t (dV ℓ x) (dV ℓ i)=some (dV ℓ u):=by
  unfold opIndex3S at h
  split at h
  · exact opIndexS_spec h
  · exact opIndexVS_spec h
theorem binI_spec{op:BinOp}{k:IntKind}{a b:Int}{u:SV}(h:(binI op k a b).mean=some u):opBin op (.int k a) (.int k b)=some (dV ℓ u):=by
  unfold binI at h
  split at h<;>first
    |(have:=Tr.mean_ret h;subst this;simp[opBin,dV_int,dV_bool];done)
    |(obtain⟨h1,h2⟩:=Tr.mean_need h;have:=Tr.mean_ret h2;subst this;have h1:=of_decide_eq_true h1;simp[opBin,dV_int,h1];done)
    |exact(Tr.mean_fail h).elim
theorem shiftI_spec{op:BinOp}{k k':IntKind}{a b:Int}{u:SV}(h:(shiftI op k a b).mean=some u):opBin op (.int k a) (.int k' b)=some (dV ℓ u):=by
  unfold shiftI at h
  split at h<;>first
    |(obtain⟨h1,h2⟩:=Tr.mean_need h;have:=Tr.mean_ret h2;subst this;have h1:=of_decide_eq_true h1;simp[opBin,dV_int,h1];done)
    |exact(Tr.mean_fail h).elim
theorem binS_spec{op:BinOp}{a b:ByteArray}{u:SV}(h:(binS op a b).mean=some u):opBin op (.str a) (.str b)=some (dV ℓ u):=by
  unfold binS at h
  split at h<;>first
    |(have:=Tr.mean_ret h;subst this;simp[opBin,dV_str,dV_bool];done)
    |(obtain⟨h1,h2⟩:=Tr.mean_need h;have:=Tr.mean_ret h2;subst this;have h1:=of_decide_eq_true h1;simp[opBin,dV_str,h1];done)
    |exact(Tr.mean_fail h).elim
theorem eqFieldsS_spec {eq:TypeId→SV→SV→Option Bool} {eq':TypeId→AV→AV→Option Bool} (he:∀t x y b,eq t x y=some b→eq' t (dV ℓ x) (dV ℓ y)=some b) (xs ys:List SV):
    ∀(fs:List Field) (b:Bool),eqFieldsS P eq xs ys fs=some b→eqFields P eq' (xs.map (dC ℓ)) (ys.map (dC ℓ)) fs=some b:=by
  intro fs
  induction fs with
  |nil=>intro b h;exact h
  | cons f r ih=>
    intro b h
    simp only[eqFieldsS]at h
    simp only[eqFields]
    split at h
    · cases h
    · rename_i hn
      rw[if_neg hn]
      split at h
      · rename_i x y h1 h2
        simp only[partOfS_spec h1 ℓ,partOfS_spec h2 ℓ]
        split at h
        · rename_i c d h3 h4
          simp only[he _ _ _ _ h3,ih _ h4]
          exact h
        · cases h
      · cases h
theorem eqElemsS_spec {eq:TypeId→SV→SV→Option Bool} {eq':TypeId→AV→AV→Option Bool} (he:∀t x y b,eq t x y=some b→eq' t (dV ℓ x) (dV ℓ y)=some b) (e:TypeId) (size:Nat) (xs ys:List SV):
    ∀(n i:Nat) (b:Bool),eqElemsS P eq e size xs ys n i=some b→eqElems P eq' e size (xs.map (dC ℓ)) (ys.map (dC ℓ)) n i=some b:=by
  intro n
  induction n with
  |zero=>intro i b h;exact h
  | succ n ih=>
    intro i b h
    simp only[eqElemsS]at h
    simp only[eqElems]
    split at h
    · rename_i x y h1 h2
      simp only[partOfS_spec h1 ℓ,partOfS_spec h2 ℓ]
      split at h
      · rename_i c d h3 h4
        simp only[he _ _ _ _ h3,ih _ _ h4]
        exact h
      · cases h
    · cases h
theorem eqAS_spec:∀(d:Nat) (t:TypeId) (x y:SV) (b:Bool),eqAS P d t x y=some b→eqA P d t (dV ℓ x) (dV ℓ y)=some b:=by
  intro d
  induction d with
  |zero=>intro t x y b h;cases h
  | succ d ih=>
    intro t x y b h
    unfold eqAS at h
    split at h
    · rename_i hu;simp only[eqA,dV_bool,hu];exact h
    · rename_i hu;simp only[eqA,dV_int,hu];exact h
    · rename_i hu;simp only[eqA,dV_str,hu];exact h
    · rename_i fs xs ys hu
      simp only[eqA,dV_agg,hu]
      split at h
      · cases h
      · rename_i hs
        rw[if_neg hs]
        exact eqFieldsS_spec ih xs ys _ _ h
    · rename_i n e xs ys hu
      simp only[eqA,dV_agg,hu]
      split at h
      · rename_i size he
        simp only[he]
        exact eqElemsS_spec ih e size xs ys n 0 b h
      · cases h
    · cases h
theorem opEqlS_spec{t:TypeId}{x y:SV}{b:Bool}(h:opEqlS P t x y=some b):opEql P t (dV ℓ x) (dV ℓ y)=some b:=by
  unfold opEqlS at h
  split at h
  · simp only[opEql,dV_bool]
    exact eqAS_spec (ℓ:=ℓ) 8 t _ _ b h
  · simp only[opEql,dV_agg]
    split at h
    · cases h
    · rename_i hg
      rw[if_neg hg]
      exact eqAS_spec (ℓ:=ℓ) 8 t _ _ b h
  · cases h
theorem opBinS_spec{op:BinOp}{t:TypeId}{x y u:SV}(h:(opBinS P op t x y).mean=some u):opBin2 P op t (dV ℓ x) (dV ℓ y)=some (dV ℓ u):=by
  unfold opBinS at h
  split at h
  · rename_i k a k' b
    split at h
    · have:=shiftI_spec (ℓ:=ℓ) (k':=k') h
      simp only[opBin2,dV_int,this]
    · obtain⟨h1,h2⟩:=Tr.mean_when h
      have h1:=of_decide_eq_true h1
      subst h1
      have:=binI_spec (ℓ:=ℓ) h2
      simp only[opBin2,dV_int,this]
  · rename_i a b
    have:=binS_spec (ℓ:=ℓ) h
    simp only[opBin2,dV_str,this]
  · rename_i hn1 hn2
    have hx:∀z b,opEqlS P t x y=some b→opBin z (dV ℓ x) (dV ℓ y)=none:=by
      intro z b hb
      unfold opEqlS at hb
      split at hb
      · rfl
      · rfl
      · cases hb
    split at h
    · obtain⟨b,h1,rfl⟩:=Tr.mean_map h
      have h1:=Tr.mean_of h1
      simp only[opBin2,hx _ b h1,opEqlS_spec (ℓ:=ℓ) h1,Option.map_some,dV_bool]
    · obtain⟨b,h1,rfl⟩:=Tr.mean_map h
      have h1:=Tr.mean_of h1
      simp only[opBin2,hx _ b h1,opEqlS_spec (ℓ:=ℓ) h1,Option.map_some,dV_bool]
    · exact(Tr.mean_fail h).elim
theorem opBin3S_spec {op:BinOp} {t:TypeId} {x y u:SV} {oy:Operand} (h:(opBin3S P op t x y oy).mean=some u):opBin3 P op t (dV ℓ x) (dV ℓ y) oy=some (dV ℓ u):=by
  unfold opBin3S at h
  split at h
  · rename_i ty l tight
    unfold nilCmpS at h
    split at h
    · rename_i e ht
      obtain⟨h1,h2⟩:=Tr.mean_need h
      have:=Tr.mean_ret h2
      subst this
      have h1:=of_decide_eq_true h1
      cases l with
      |nil=>simp at h1
      | cons a r=>
        have e1:opBin2 P .eql t (dV ℓ (.row ty (a::r) tight)) (dV ℓ y)=none:=by
          simp only[opBin2,dV,dA,dC,d1,rowAV,opBin,opEql,Option.map_none]
        simp only[opBin3,e1]
        simp only[nilCmp,ht,dV,dA,dC,d1,rowAV,List.map_cons]
    · exact(Tr.mean_fail h).elim
  · simp only[opBin3,opBinS_spec (ℓ:=ℓ) h]
theorem opUnS_spec{op:UnOp}{x u:SV}(h:opUnS op x=some u):opUn op (dV ℓ x)=some (dV ℓ u):=by
  unfold opUnS at h
  split at h
  · cases h;rfl
  · cases h;rfl
  · cases h
theorem opConvertS_spec{a b:TypeId}{x u:SV}(h:opConvertS P a b x=some u):opConvert P a b (dV ℓ x)=some (dV ℓ u):=by
  unfold opConvertS at h
  split at h
  · rename_i h1 h2;cases h;simp only[opConvert,dV_int,h1,h2]
  · rename_i h1 h2;cases h;simp only[opConvert,dV_str,h1,h2]
  · cases h
theorem boundS_spec{o:Option SV}{d r:Nat}(h:(boundS o d).mean=some r):bound (o.map (dV ℓ)) d=some r:=by
  unfold boundS at h
  split at h
  · have:=Tr.mean_ret h;subst this;rfl
  · obtain⟨h1,h2⟩:=Tr.mean_need h
    have:=Tr.mean_ret h2;subst this
    simp only[Option.map_some,dV_int,bound]
    rw[if_pos (of_decide_eq_true h1)]
  · exact(Tr.mean_fail h).elim
theorem opSliceS_spec (ha:Agr ℓ H) {t:TypeId} {x:SV} {lo hi mx:Option SV} {r:SRes} (h:(opSliceS P t x lo hi mx H).mean=some r):
    opSlice P t (dV ℓ x) (lo.map (dV ℓ)) (hi.map (dV ℓ)) (mx.map (dV ℓ)) (dH ℓ H)=some (dR ℓ r)∧LenOK H r.wr∧r.new=[]:=by
  unfold opSliceS at h
  split at h
  · rename_i s hu
    simp only[opSlice,dV_str,hu]
    cases mx with
    |some _=>exact(Tr.mean_fail h).elim
    | none=>
      obtain⟨l,h1,h⟩:=Tr.mean_bind h
      obtain⟨hh,h2,h⟩:=Tr.mean_bind h
      obtain⟨h3,h⟩:=Tr.mean_need h
      have:=Tr.mean_ret h;subst this
      refine⟨?_,LenOK.nil,rfl⟩
      simp only[Option.map_none,boundS_spec (ℓ:=ℓ) h1,boundS_spec (ℓ:=ℓ) h2]
      rw[if_pos (of_decide_eq_true h3)]
      rfl
  · rename_i e t' xs tight hu
    obtain⟨h0,h⟩:=Tr.mean_when h
    have h0:=of_decide_eq_true h0
    have hsz:((tsize P e).isSome&&(decide (tsize P e=some (lsz t'.size (xs.map (enc t'))))||(xs.map (enc t')).isEmpty))=true:=by
      rw[h0]
      cases xs with
      |nil=>simp
      |cons y ys=>simp[lsz]
    have hlz:∀l k,lsz (lsz t'.size (xs.map (enc t'))) (((xs.map (enc t')).drop l).take k)=lsz t'.size (((xs.drop l).take k).map (enc t')):=by
      intro l k
      rw[←List.map_drop,←List.map_take]
      cases xs with
      |nil=>simp[lsz]
      |cons y ys=>rfl
    simp only[opSlice,dV_row,rowAV,hu]
    rw[if_pos hsz]
    simp only[List.length_map]
    cases mx with
    | none=>
      obtain⟨l,h1,h⟩:=Tr.mean_bind h
      obtain⟨hh,h2,h⟩:=Tr.mean_bind h
      obtain⟨h3,h⟩:=Tr.mean_need h
      have:=Tr.mean_ret h;subst this
      refine⟨?_,LenOK.nil,rfl⟩
      simp only[Option.map_none,boundS_spec (ℓ:=ℓ) h1,boundS_spec (ℓ:=ℓ) h2]
      rw[if_pos (of_decide_eq_true h3),hlz]
      simp only[dR,dV_row,rowAV,List.map_drop,List.map_take,dW,List.map_nil,Option.isNone_map]
    | some m=>
      obtain⟨l,h1,h⟩:=Tr.mean_bind h
      obtain⟨hh,h2,h⟩:=Tr.mean_bind h
      obtain⟨mm,h4,h⟩:=Tr.mean_bind h
      obtain⟨h5,h⟩:=Tr.mean_when h
      obtain⟨h3,h⟩:=Tr.mean_need h
      have:=Tr.mean_ret h;subst this
      obtain⟨c1,rfl,c3⟩:=of_decide_eq_true h3
      refine⟨?_,LenOK.nil,rfl⟩
      have h4':=boundS_spec (ℓ:=ℓ) h4
      simp only[Option.map_some]at h4'
      simp only[Option.map_some,boundS_spec (ℓ:=ℓ) h1,boundS_spec (ℓ:=ℓ) h2,h4']
      rw[if_pos ⟨c1,Nat.le_refl _,c3,by simpa using h5⟩,hlz]
      simp only[dR,dV_row,rowAV,List.map_drop,List.map_take,dW,List.map_nil,beq_self_eq_true]
  · rename_i e t' g hu
    split at h
    · rename_i t2 l2 z hg
      split at h
      · rename_i ht
        subst ht
        obtain⟨h0,h⟩:=Tr.mean_when h
        have h0:=of_decide_eq_true h0
        have hlen:ℓ g=l2.length:=ha g _ hg
        simp only[opSlice,dV_own,hu]
        rw[if_pos h0]
        simp only[hlen]
        cases mx with
        | none=>
          have gen:∀(lo hi:Option SV),((boundS lo 0).bind fun l=>(boundS hi l2.length).bind fun h=>Tr.need (decide (l≤h∧h≤l2.length)) (.ret {val:=SV.part t2 g l (h-l)})).mean=some r→
              (match(none:Option AV),bound (lo.map (dV ℓ)) 0,bound (hi.map (dV ℓ)) l2.length with
              |none,some l,some h=>if l≤h∧h≤l2.length then some {val:=AV.own g t2.size (0+l) (h-l)} else none
              | some m,some l,some h=>match bound (some m) 0,get (dH ℓ H) g with
                |some m,some b=>if l≤h∧h≤m∧m≤l2.length∧0+l2.length≤b.elems.length∧b.box=false∧b.sz=t2.size∧(hi.map (dV ℓ)).isSome=true∧0<t2.size then
                    some {val:=.lst (lsz t2.size ((b.elems.drop (0+l)).take (h-l))) ((b.elems.drop (0+l)).take (h-l)) (h==m),rd:=[g],wr:=stops (dH ℓ H) [g]} else none
                |_,_=>none
              |_,_,_=>none)=some (dR ℓ r)∧LenOK H r.wr∧r.new=[]:=by
            intro lo hi h
            obtain⟨l,h1,h⟩:=Tr.mean_bind h
            obtain⟨hh,h2,h⟩:=Tr.mean_bind h
            obtain⟨h3,h⟩:=Tr.mean_need h
            have:=Tr.mean_ret h;subst this
            refine⟨?_,LenOK.nil,rfl⟩
            simp only[boundS_spec (ℓ:=ℓ) h1,boundS_spec (ℓ:=ℓ) h2]
            rw[if_pos (of_decide_eq_true h3)]
            simp only[dR,dV_part,dW,List.map_nil,Nat.zero_add]
          simp only at h
          split at h
          · have:=Tr.mean_ret h;subst this
            refine⟨?_,LenOK.nil,rfl⟩
            simp[bound,dR,dV_own,hlen,dW]
          · exact gen lo hi h
        | some m=>
          obtain⟨l,h1,h⟩:=Tr.mean_bind h
          obtain⟨hh,h2,h⟩:=Tr.mean_bind h
          obtain⟨mm,h4,h⟩:=Tr.mean_bind h
          obtain⟨h5,h⟩:=Tr.mean_when h
          obtain⟨h3,h⟩:=Tr.mean_need h
          have:=Tr.mean_ret h;subst this
          obtain⟨c1,rfl,c3⟩:=of_decide_eq_true h3
          have hs:∀g'∈ [g],IsArr H g':=fun g' hg'=>by simp at hg';subst hg';exact⟨_,_,_,hg⟩
          refine⟨?_,stopsS_len _,rfl⟩
          have h4':=boundS_spec (ℓ:=ℓ) h4
          simp only[Option.map_some]at h4'
          simp only[Option.map_some,boundS_spec (ℓ:=ℓ) h1,boundS_spec (ℓ:=ℓ) h2,h4',get_dH,hg,Option.bind_some,dB]
          simp only[Bool.and_eq_true,decide_eq_true_eq]at h5
          rw[if_pos (by simp[c1,c3,h5])]
          simp only[dR,dV_row,rowAV,List.map_drop,List.map_take,dW,stopsS_spec hs,List.map_nil,Nat.zero_add,beq_self_eq_true]
      · exact(Tr.mean_fail h).elim
    · exact(Tr.mean_fail h).elim
  · rename_i e t' g off len hu
    obtain⟨h0,h⟩:=Tr.mean_when h
    have h0:=of_decide_eq_true h0
    simp only[opSlice,dV_part,hu]
    rw[if_pos h0]
    cases mx with
    |some _=>exact(Tr.mean_fail h).elim
    | none=>
      obtain⟨l,h1,h⟩:=Tr.mean_bind h
      obtain⟨hh,h2,h⟩:=Tr.mean_bind h
      obtain⟨h3,h⟩:=Tr.mean_need h
      have:=Tr.mean_ret h;subst this
      refine⟨?_,LenOK.nil,rfl⟩
      simp only[Option.map_none,boundS_spec (ℓ:=ℓ) h1,boundS_spec (ℓ:=ℓ) h2]
      rw[if_pos (of_decide_eq_true h3)]
      rfl
  · exact(Tr.mean_fail h).elim
end
end Go.Abs
set_option linter.unusedSimpArgs false
set_option linter.unusedVariables false
namespace Go.Abs
open Go
section
variable{P:Program}{H:SHeap}{ℓ:Lens}
theorem fillAS_spec {place:Nat→Option (Nat×Nat)}:∀(ps:List (Nat×SV)) (cells r:List SV),fillAS place cells ps=some r→fillA place (cells.map (dC ℓ)) (ps.map fun p=>(p.1,dV ℓ p.2))=some (r.map (dC ℓ)):=by
  intro ps
  induction ps with
  |nil=>intro cells r h;cases h;rfl
  | cons p ps ih=>
    intro cells r h
    obtain⟨i,v⟩:=p
    simp only[fillAS]at h
    simp only[List.map_cons,fillA]
    split at h
    · cases h
    · rename_i off size hp
      simp only[hp]
      split at h
      · rename_i hc
        obtain⟨h1,h2,h3⟩:=hc
        rw[notTup_d (okSV_notTup h3)]
        rw[if_pos ⟨by rw[cells_dA,List.length_map];exact h1,by simpa using h2,by rw[okV_dA];exact h3⟩]
        have:=ih _ _ h
        rw[spliceS_d,←cells_dA]at this
        exact this
      · cases h
theorem szero_spec{t:TypeId}{v:SV}(h:szero P t=some v):∃z,tzero P t=some (cv z)∧v=svC z:=by
  unfold szero at h
  unfold tzero
  split at h
  · rename_i i hi
    split at h
    · rename_i z hz
      cases h
      exact⟨z,by simp only[hi,hz],rfl⟩
    · cases h
  · cases h
theorem partsOfS_d(fr:SFr)(ps:Array (Nat×Operand)):(partsOfS fr ps).map (fun p=>(p.1,dV ℓ p.2))=partsOf (dF ℓ fr) ps:=by
  simp only[partsOfS,partsOf,List.map_map]
  refine List.map_congr_left fun p _=> ?_
  simp only[Function.comp,evS_d]
theorem opBuildS_spec{t:TypeId}{ps:List (Nat×SV)}{u:SV}(h:opBuildS P t ps=some u):opBuild P t (ps.map fun p=>(p.1,dV ℓ p.2))=some (dV ℓ u):=by
  unfold opBuildS at h
  split at h
  · rename_i z fs hz hu
    obtain⟨zv,h1,h2⟩:=szero_spec hz
    have hcv:cv zv= .agg (z.map (dC ℓ)):=by rw[←(svC_d ℓ zv).1,←h2];rfl
    simp only[opBuild,h1,hcv,hu]
    split at h
    · cases h
    · rename_i hs
      rw[if_neg hs]
      obtain⟨r,h3,rfl⟩:=Option.map_eq_some_iff.1 h
      exact congrArg (Option.map AV.agg) (fillAS_spec (ℓ:=ℓ) _ _ _ h3)
  · rename_i z n e hz hu
    obtain⟨zv,h1,h2⟩:=szero_spec hz
    have hcv:cv zv= .agg (z.map (dC ℓ)):=by rw[←(svC_d ℓ zv).1,←h2];rfl
    simp only[opBuild,h1,hcv,hu]
    split at h
    · rename_i s hs
      simp only[hs]
      obtain⟨r,h3,rfl⟩:=Option.map_eq_some_iff.1 h
      exact congrArg (Option.map AV.agg) (fillAS_spec (ℓ:=ℓ) _ _ _ h3)
    · cases h
  · cases h
theorem paC_nt : ∀ (t:Ty) (cs:List SV) (x:t.den) (r:List SV),paC t cs=some (x,r)→∃pre,cs=pre++r∧pre.map (fun c=>nt1 (dC ℓ c))=encC t x:=by
  intro t
  induction t with
  | int k=>
    intro cs x r h
    cases cs with
    |nil=>cases h
    | cons c cs=>
      cases c<;>first|(cases h;done)|skip
      simp only[paC]at h
      split at h
      · rename_i e;subst e;cases h;exact⟨[_],rfl,rfl⟩
      · cases h
  | bool=>
    intro cs x r h
    cases cs with
    |nil=>cases h
    | cons c cs => cases c<;>first|(cases h;done)|skip
                   cases h;exact⟨[_],rfl,rfl⟩
  | str=>
    intro cs x r h
    cases cs with
    |nil=>cases h
    | cons c cs => cases c<;>first|(cases h;done)|skip
                   cases h;exact⟨[_],rfl,rfl⟩
  | row t ih=>
    intro cs x r h
    cases cs with
    |nil=>cases h
    | cons c cs=>
      cases c<;>first|cases h|skip
      rename_i t' l tg
      simp only[paC]at h
      split at h
      · rename_i l' hl
        cases h
        refine⟨[_],rfl,?_⟩
        have:=castL_spec hl false
        simp only[List.map_cons,List.map_nil,dC,d1]
        show [nt1 (rowAV t' l tg)]=_
        rw[show nt1 (rowAV t' l tg)=rowAV t' l false from rfl,this]
        rfl
      · cases h
  |unit=>intro cs x r h;cases h;exact⟨[],rfl,rfl⟩
  | cons a b iha ihb=>
    intro cs x r h
    simp only[paC]at h
    split at h
    · rename_i y r1 h1
      split at h
      · rename_i z r2 h2
        cases h
        obtain⟨p1,rfl,f1⟩:=iha _ _ _ h1
        obtain⟨p2,rfl,f2⟩:=ihb _ _ _ h2
        exact⟨p1++p2,by simp,by rw[List.map_append,f1,f2];rfl⟩
      · cases h
    · cases h
theorem dzero_spec{e:TypeId}{t:Ty}{x:t.den}(h:dzero P e t=some x):tzeroP P e=some (enc t x):=by
  unfold dzero at h
  obtain⟨v,h1,h2⟩:=Option.bind_eq_some_iff.1 h
  obtain⟨zv,h3,rfl⟩:=szero_spec h1
  unfold tzeroP
  rw[h3,Option.map_some,←(svC_d (fun _=>0) zv).1]
  congr 1
  generalize svC zv=v at h2
  unfold paT at h2
  split at h2
  · rename_i hagg
    split at h2
    · rename_i y hy
      cases h2
      obtain⟨pre,e1,e2⟩:=paC_nt (ℓ:=fun _=>0) t _ _ _ hy
      rw[List.append_nil]at e1
      subst e1
      unfold enc wrap
      rw[←e2,←hagg]
      cases v<;>first|rfl|(simp[SV.isAgg,SV.cells,dA,ntV];done)
    · cases h2
  · cases h2
theorem fillSS_spec(ha:Agr ℓ H){size:Nat}{t:Ty}:∀(ps:List (Nat×SV)) (es:List t.den) (l:List Nm) (r:List t.den×List Nm),(fillSS H size t es l ps).mean=some r→(∀g∈l,IsArr H g)→
    fillS (dH ℓ H) size t.agg (es.map (enc t)) l (ps.map fun p=>(p.1,dV ℓ p.2))=some (r.1.map (enc t),r.2)∧(∀g∈r.2,IsArr H g):=by
  intro ps
  induction ps with
  |nil=>intro es l r h hl;have:=Tr.mean_ret h;subst this;exact⟨rfl,hl⟩
  | cons p ps ih=>
    intro es l r h hl
    obtain⟨i,v⟩:=p
    simp only[fillSS]at h
    obtain⟨⟨u,m⟩,h1,h2⟩:=Tr.mean_bind h
    obtain⟨h3,h4⟩:=Tr.mean_when h2
    obtain⟨c1,c2,c3,c4⟩:=of_decide_eq_true h3
    obtain⟨y,h5,h6⟩:=Tr.mean_bind h4
    obtain⟨h7,h8⟩:=Tr.mean_need h6
    obtain⟨e1,e2⟩:=pureVS_spec ha h1
    have hv:dV ℓ v=dA ℓ v:=by cases v<;>first|rfl|exact(Tr.mean_fail h1).elim
    have hy:=paT_exact (ℓ:=ℓ) (Tr.mean_of h5) c4
    simp only[List.map_cons,fillS,hv,e1]
    rw[if_pos ⟨by rw[cells_dA,List.length_map];exact c1,by rw[isAgg_dA];exact c2,by simpa using of_decide_eq_true h7,by rw[okV_dA];exact c3⟩,hy,set_map_enc]
    exact ih _ _ _ h8 (fun g hg=>(List.mem_append.1 hg).elim (hl g) (e2 g))
theorem NewOK.one{slot:Nat}{b:SB}{new:List SB}(h:NewOK ℓ slot (b::new)):ℓ (slot,0)=b.len:=h 0 b rfl
theorem opBuildSliceS_spec (ha:Agr ℓ H) {t:TypeId} {n:Nat} {ps:List (Nat×SV)} {slot:Nat} {r:SRes} (h:(opBuildSliceS P t n ps H slot).mean=some r) (hn:NewOK ℓ slot r.new):
    opBuildSlice P t n (ps.map fun p=>(p.1,dV ℓ p.2)) (dH ℓ H) slot=some (dR ℓ r)∧LenOK H r.wr:=by
  unfold opBuildSliceS at h
  unfold opBuildSlice
  split at h
  · rename_i e he
    simp only[he]
    split at h
    · rename_i size agg ty h1 h2 h3
      obtain⟨h4,hA⟩:=Tr.mean_when h
      obtain⟨c1,c2,c3,c4⟩:=of_decide_eq_true h4
      clear h h4
      subst c3
      subst c4
      obtain⟨z,h5,h⟩:=Tr.mean_bind hA
      obtain⟨⟨es,l⟩,h6,h⟩:=Tr.mean_bind h
      have:=Tr.mean_ret h;subst this
      obtain⟨e1,e2⟩:=fillSS_spec ha _ _ _ _ h6 (fun g hg=>by simp at hg)
      rw[List.map_replicate]at e1
      simp only[h1,h2,dzero_spec (Tr.mean_of h5)]
      rw[if_pos ⟨c1,c2,by rw[cells_enc,length_encC],okV_enc ty z⟩]
      simp only[e1]
      refine⟨?_,stopsS_len _⟩
      have hl:=hn.one
      have hlen:∀(ps:List (Nat×SV)) (es:List ty.den) (l:List Nm) (r:List ty.den×List Nm),(fillSS H ty.size ty es l ps).mean=some r→r.1.length=es.length:=by
        intro ps
        induction ps with
        |nil=>intro es l r h;have:=Tr.mean_ret h;subst this;rfl
        | cons p ps ih=>
          intro es l r h
          obtain⟨i,v⟩:=p
          simp only[fillSS]at h
          obtain⟨_,_,h⟩:=Tr.mean_bind h
          obtain⟨_,h⟩:=Tr.mean_when h
          obtain⟨_,_,h⟩:=Tr.mean_bind h
          obtain⟨_,h⟩:=Tr.mean_need h
          rw[ih _ _ _ h,List.length_set]
      have hl2:=hlen _ _ _ _ h6
      simp only[List.length_replicate]at hl2
      simp only[SB.len]at hl
      have hw:dW ℓ (stopsS H l)=stops (dH ℓ H) l:=stopsS_spec e2
      simp only[dR,dV_own,hl,hl2,hw,List.map_cons,List.map_nil,dN,dB,Fz.n]
    · exact(Tr.mean_fail h).elim
  · exact(Tr.mean_fail h).elim
theorem opMakeSliceS_spec{t:TypeId}{l c:SV}{slot:Nat}{r:SRes}(h:(opMakeSliceS P t l c slot).mean=some r)(hn:NewOK ℓ slot r.new):
    opMakeSlice P t (dV ℓ l) (dV ℓ c) slot=some (dR ℓ r)∧LenOK H r.wr:=by
  unfold opMakeSliceS at h
  split at h
  · rename_i e k n k' m he
    split at h
    · rename_i size bytes ty h1 h2 h3
      obtain⟨h4,hA⟩:=Tr.mean_when h
      obtain⟨c1,c2,c3⟩:=of_decide_eq_true h4
      clear h h4
      subst c3
      obtain⟨z,h5,h⟩:=Tr.mean_bind hA
      obtain⟨h6,h⟩:=Tr.mean_need h
      have:=Tr.mean_ret h;subst this
      obtain⟨d1,d2,d3⟩:=of_decide_eq_true h6
      have hl:=hn.one
      simp only[SB.len,List.length_replicate]at hl
      simp only[opMakeSlice,he,dV_int,h1,h2,dzero_spec (Tr.mean_of h5)]
      rw[if_pos ⟨d1,d2,d3,c1,c2,by rw[cells_enc,length_encC],okV_enc ty z⟩]
      refine⟨?_,LenOK.nil⟩
      simp only[dR,dV_own,hl,dW,List.map_nil,List.map_cons,dN,dB,Fz.n,List.map_replicate]
    · exact(Tr.mean_fail h).elim
  · exact(Tr.mean_fail h).elim
theorem castL_map{t t':Ty}{l:List t.den}{l':List t'.den}(h:castL l=some l'):l.map (enc t)=l'.map (enc t')∧(t'=t∨l'=[]):=by
  unfold castL at h
  split at h
  · rename_i e;subst e;cases h;exact⟨rfl,.inl rfl⟩
  · split at h
    · cases h;exact⟨rfl,.inr rfl⟩
    · cases h
theorem srcOfS_spec (ha:Agr ℓ H) {ty:Ty} {x:SV} {q:List ty.den×List Nm} (h:(srcOfS H ty x).mean=some q):∃sz,srcOf (dH ℓ H) (dV ℓ x)=some (sz,q.1.map (enc ty),q.2)∧(sz=ty.size∨q.1.map (enc ty)=[]):=by
  unfold srcOfS at h
  split at h
  · rename_i t l tg
    obtain⟨l',h1,rfl⟩:=Tr.mean_map h
    obtain⟨e1,e2⟩:=castL_map (Tr.mean_of h1)
    simp only[dV_row,rowAV,srcOf,e1]
    refine⟨_,rfl,?_⟩
    cases l' with
    |nil=>exact .inr rfl
    | cons y ys=>
      rcases e2 with rfl|e2
      · exact .inl rfl
      · cases e2
  · rename_i t g
    split at h
    · rename_i t' l z hg
      obtain⟨h0,hA⟩:=Tr.mean_when h
      obtain⟨h0,hps⟩:=of_decide_eq_true h0
      subst h0
      obtain⟨l',h1,rfl⟩:=Tr.mean_map hA
      obtain⟨e1,e2⟩:=castL_map (Tr.mean_of h1)
      have hl:ℓ g=l.length:=ha g _ hg
      simp only[dV_own,srcOf,get_dH,hg,Option.bind_some,dB,hl]
      refine⟨t'.size,?_,?_⟩
      · rw[if_pos (by simp[hps])]
        simp only[List.drop_zero]
        rw[List.take_of_length_le (by simp),e1]
      · rcases e2 with rfl|e2
        · exact .inl rfl
        · exact .inr (by rw[e2];rfl)
    · exact(Tr.mean_fail h).elim
  · rename_i t g off len
    split at h
    · rename_i t' l z hg
      obtain⟨h0,hA⟩:=Tr.mean_when h
      obtain⟨h0,hps⟩:=of_decide_eq_true h0
      subst h0
      obtain⟨h2,hB⟩:=Tr.mean_need hA
      obtain⟨l',h1,rfl⟩:=Tr.mean_map hB
      obtain⟨e1,e2⟩:=castL_map (Tr.mean_of h1)
      simp only[dV_part,srcOf,get_dH,hg,Option.bind_some,dB]
      refine⟨t'.size,?_,?_⟩
      · rw[if_pos (by simpa[hps]using of_decide_eq_true h2)]
        simp only[e1,List.map_drop,List.map_take]
      · rcases e2 with rfl|e2
        · exact .inl rfl
        · exact .inr (by rw[e2];simp)
    · exact(Tr.mean_fail h).elim
  · exact(Tr.mean_fail h).elim
theorem fz_grow(z:Fz)(a b:Nat):(z.grow b).n (a+b)=z.n a:=by
  cases z<;>simp only[Fz.grow,Fz.n]<;>omega
theorem fz_le(z:Fz)(a:Nat):z.n a≤a:=by
  cases z<;>simp only[Fz.n]<;>omega
theorem opAppendS_spec (ha:Agr ℓ H) {t:TypeId} {s x:SV} {slot:Nat} {r:SRes} (h:(opAppendS P t s x H slot).mean=some r) (hn:NewOK ℓ slot r.new):
    opAppend P t (dV ℓ s) (dV ℓ x) (dH ℓ H) slot=some (dR ℓ r)∧LenOK H r.wr:=by
  unfold opAppendS at h
  unfold opAppend
  split at h
  · rename_i e he
    simp only[he]
    split at h
    · rename_i size bytes z ty h1 h2 h3 h4
      obtain⟨h5,hA⟩:=Tr.mean_when h
      obtain⟨c1,c2,c3,c4,c5⟩:=of_decide_eq_true h5
      clear h h5
      subst c5
      obtain⟨⟨ys,m⟩,h6,h⟩:=Tr.mean_bind hA
      obtain⟨sz,e1,e2⟩:=srcOfS_spec ha h6
      simp only[h1,h2,h3,e1]
      rw[if_pos ⟨c1,c2,c3,c4,e2⟩]
      simp only at h
      have grown:∀(g:Nm) (l:List ty.den) (len:Nat) (z zz:Fz),getS H g=some (.arr ty l z)→len≤l.length→z.n l.length≤len→zz.n (len+ys.length)=z.n l.length→len+ys.length≤4294967296→
          r={val:=.own ty (slot,0),rd:=g::m,wr:=[(g,.dead l.length)],new:=[.arr ty (l.take len++ys) zz]}→
          (if True∧True∧True∧len≤(l.map (enc ty)).length∧True∧z.n l.length≤len∧len+(ys.map (enc ty)).length≤4294967296 then
            some ({val:=.own (slot,0) ty.size 0 (len+(ys.map (enc ty)).length),rd:=g::m,wr:=[(g,none)],new:=[⟨ty.size,(l.map (enc ty)).take len++ys.map (enc ty),z.n l.length,false⟩]}:Res)else none)=some (dR ℓ r)∧LenOK H r.wr:=by
        intro g l len z zz hg hlen hz hzz hle hr
        subst hr
        have hl:=hn.one
        have htl:(l.take len).length=len:=by simp;omega
        simp only[SB.len,List.length_append,htl]at hl
        rw[if_pos ⟨trivial,trivial,trivial,by simpa using hlen,trivial,hz,by simpa using hle⟩]
        refine⟨?_,LenOK.one hg rfl⟩
        simp only[dR,dV_own,hl,dW,List.map_cons,List.map_nil,dB,dN,List.map_append,List.length_append,htl,hzz,List.length_map,List.map_take]
      split at h
      · rename_i t' l
        obtain⟨l',h7,h⟩:=Tr.mean_bind h
        obtain⟨f1,f2⟩:=castL_map (Tr.mean_of h7)
        have key:((l'=[]∨ys≠ [])∧(Tr.need (decide (l'.length+ys.length≤4294967296)) (.ret ({val:=.own ty (slot,0),rd:=m,new:=[.arr ty (l'++ys) .zero]}:SRes))).mean=some r)∨(l'≠ []∧ys=[]∧({val:=.row ty l' true,rd:=m}:SRes)=r):=by
          have h:cond l'.isEmpty _ _=some r:=h
          cases hle:l'.isEmpty
          · rw[hle]at h
            have h:cond ys.isEmpty _ _=some r:=h
            cases hye:ys.isEmpty
            · rw[hye]at h
              exact .inl ⟨.inr (fun e=>by subst e;cases hye),h⟩
            · rw[hye]at h
              exact .inr ⟨(fun e=>by subst e;cases hle),List.isEmpty_iff.1 hye,Tr.mean_ret h⟩
          · rw[hle]at h
            exact .inl ⟨.inl (List.isEmpty_iff.1 hle),h⟩
        clear h
        rcases key with⟨hc,h⟩|⟨hln,hy,hr⟩
        · obtain⟨h8,h⟩:=Tr.mean_need h
          have:=Tr.mean_ret h;subst this
          have h8:=of_decide_eq_true h8
          have hl:=hn.one
          simp only[SB.len,List.length_append]at hl
          simp only[dV_row,rowAV,f1]
          rw[if_neg (by
            rintro⟨a,b⟩
            rcases hc with hc|hc
            · exact b (by rw[hc];rfl)
            · exact hc (List.map_eq_nil_iff.1 a)),if_pos]
          · refine⟨?_,LenOK.nil⟩
            simp only[dR,dV_own,hl,dW,List.map_cons,List.map_nil,dB,dN,List.map_append,Fz.n,List.length_map]
          · refine⟨trivial,?_,?_,?_⟩
            · cases l' with
              |nil=>exact .inr rfl
              | cons y ys=>
                rcases f2 with rfl|f2
                · exact .inl rfl
                · cases f2
            · rcases hc with hc|hc
              · exact .inl (by rw[hc];rfl)
              · exact .inr (by simpa using List.length_pos_iff.2 hc)
            · simpa using h8
        · subst hy hr
          simp only[dV_row,rowAV,f1]
          cases l' with
          |nil=>exact absurd rfl hln
          | cons y ys=>
            rw[if_pos ⟨rfl,fun e=>by cases e⟩,if_pos (by
              rcases f2 with rfl|f2
              · rfl
              · cases f2)]
            exact⟨by simp only[dR,dV_row,rowAV,dW,List.map_nil];rfl,LenOK.nil⟩
      · rename_i t' g
        split at h
        · rename_i t2 l z hg
          split at h
          · rename_i ht
            subst ht
            obtain⟨h7,h⟩:=Tr.mean_when h
            have h7:=of_decide_eq_true h7
            subst h7
            obtain⟨h8,h⟩:=Tr.mean_need h
            have:=Tr.mean_ret h
            have hlen:ℓ g=l.length:=ha g _ hg
            simp only[dV_own,get_dH,hg,Option.bind_some,dB,hlen]
            exact grown g l l.length z (z.grow ys.length) hg (Nat.le_refl _) (fz_le z _) (fz_grow z _ _) (of_decide_eq_true h8) (by rw[List.take_length];exact this.symm)
          · exact(Tr.mean_fail h).elim
        · exact(Tr.mean_fail h).elim
      · rename_i t' g off len
        split at h
        · rename_i t2 l z hg
          split at h
          · rename_i ht
            subst ht
            obtain⟨h7,h⟩:=Tr.mean_when h
            have h7:=of_decide_eq_true h7
            subst h7
            split at h
            · obtain⟨h8,h⟩:=Tr.mean_need h
              have:=Tr.mean_ret h
              obtain⟨rfl,h8,h9⟩:=of_decide_eq_true h8
              simp only[dV_part,get_dH,hg,Option.bind_some,dB]
              exact grown g l len .zero .zero hg h8 (Nat.zero_le _) rfl h9 this.symm
            · obtain⟨h8,h⟩:=Tr.mean_need h
              have:=Tr.mean_ret h
              obtain⟨rfl,rfl,h9⟩:=of_decide_eq_true h8
              simp only[dV_part,get_dH,hg,Option.bind_some,dB]
              exact grown g l l.length z (z.grow ys.length) hg (Nat.le_refl _) (fz_le z _) (fz_grow z _ _) h9 (by rw[List.take_length];exact this.symm)
          · exact(Tr.mean_fail h).elim
        · exact(Tr.mean_fail h).elim
      · exact(Tr.mean_fail h).elim
    · exact(Tr.mean_fail h).elim
  · exact(Tr.mean_fail h).elim
theorem spliceL_map{α β:Type}(f:α→β)(l:List α)(off:Nat)(new:List α):(spliceL l off new).map f=(l.map f).take off++new.map f++(l.map f).drop (off+(new.map f).length):=by
  simp[spliceL,List.map_append,List.map_take,List.map_drop]
theorem spliceL_length{α:Type}{l:List α}{off:Nat}{new:List α}(h:off+new.length≤l.length):(spliceL l off new).length=l.length:=by
  simp[spliceL];omega
theorem midS{g:Nm}{ty:Ty}{l:List ty.den}{off:Nat}{new:List ty.den}{v:SV}{rd:List Nm}(hg:getS H g=some (.arr ty l .zero))(hle:off+new.length≤l.length):
    dR ℓ ({val:=v,rd:=rd,wr:=[(g,.arr ty (spliceL l off new) .zero)]}:SRes)=({val:=dV ℓ v,rd:=rd,wr:=[(g,some ⟨ty.size,splice (l.map (enc ty)) off (new.map (enc ty)),0,false⟩)]}:Res)∧LenOK H [(g,.arr ty (spliceL l off new) .zero)]:=by
  refine⟨?_,LenOK.one hg (spliceL_length hle)⟩
  simp only[dR,dW,List.map_cons,List.map_nil,dB,spliceL_map,Fz.n,splice]
theorem opCopyS_spec (ha:Agr ℓ H) {t:TypeId} {d x:SV} {r:SRes} (h:(opCopyS P t d x H).mean=some r):opCopy P t (dV ℓ d) (dV ℓ x) (dH ℓ H)=some (dR ℓ r)∧LenOK H r.wr:=by
  unfold opCopyS at h
  unfold opCopy
  split at h
  · rename_i e he
    simp only[he]
    split at h
    · rename_i size ty h1 h2
      obtain⟨h3,hA⟩:=Tr.mean_when h
      obtain⟨c1,c2⟩:=of_decide_eq_true h3
      clear h h3
      subst c2
      obtain⟨⟨ys,m⟩,h4,h⟩:=Tr.mean_bind hA
      obtain⟨sz,e1,e2⟩:=srcOfS_spec ha h4
      simp only[h1,e1]
      simp only at h
      split at h
      · rename_i t' g
        split at h
        · rename_i t2 l hg
          split at h
          · rename_i ht
            subst ht
            obtain⟨h5,h⟩:=Tr.mean_when h
            have h5:=of_decide_eq_true h5
            subst h5
            have:=Tr.mean_ret h;subst this
            have hlen:ℓ g=l.length:=ha g _ hg
            have hle:0+(ys.take l.length).length≤l.length:=by simp;omega
            obtain⟨m1,m2⟩:=midS (ℓ:=ℓ) (v:=.int .i64 (min ys.length l.length:Nat)) (rd:=g::m) hg hle
            simp only[dV_own,get_dH,hg,Option.bind_some,dB,hlen]
            rw[if_pos ⟨trivial,trivial,c1,by simp,trivial,Nat.le_refl _,e2⟩,m1]
            exact⟨by simp only[List.map_take,List.length_map,dV_int,Fz.n],m2⟩
          · exact(Tr.mean_fail h).elim
        · exact(Tr.mean_fail h).elim
      · rename_i t' g off len
        split at h
        · rename_i t2 l hg
          split at h
          · rename_i ht
            subst ht
            obtain⟨h5,h⟩:=Tr.mean_when h
            have h5:=of_decide_eq_true h5
            subst h5
            obtain⟨h6,h⟩:=Tr.mean_need h
            have h6:=of_decide_eq_true h6
            have:=Tr.mean_ret h;subst this
            have hle:off+(ys.take len).length≤l.length:=by simp;omega
            obtain⟨m1,m2⟩:=midS (ℓ:=ℓ) (v:=.int .i64 (min ys.length len:Nat)) (rd:=g::m) hg hle
            simp only[dV_part,get_dH,hg,Option.bind_some,dB]
            rw[if_pos ⟨trivial,trivial,c1,by simpa using h6,trivial,Nat.zero_le _,e2⟩,m1]
            exact⟨by simp only[List.map_take,List.length_map,dV_int,Fz.n],m2⟩
          · exact(Tr.mean_fail h).elim
        · exact(Tr.mean_fail h).elim
      · exact(Tr.mean_fail h).elim
    · exact(Tr.mean_fail h).elim
  · exact(Tr.mean_fail h).elim
theorem opClearS_spec (ha:Agr ℓ H) {t:TypeId} {d:SV} {r:SRes} (h:(opClearS P t d H).mean=some r):opClear P t (dV ℓ d) (dH ℓ H)=some (dR ℓ r)∧LenOK H r.wr:=by
  unfold opClearS at h
  unfold opClear
  split at h
  · rename_i e he
    simp only[he]
    split at h
    · rename_i size ty h1 h2
      obtain⟨h3,hA⟩:=Tr.mean_when h
      obtain⟨c1,c2⟩:=of_decide_eq_true h3
      clear h h3
      subst c2
      obtain⟨z,h4,h⟩:=Tr.mean_bind hA
      have z1:=dzero_spec (Tr.mean_of h4)
      have z2:(enc ty z).cells.length=ty.size:=by rw[cells_enc,length_encC]
      have z3:okV (enc ty z)=true:=okV_enc ty z
      simp only[h1,z1]
      split at h
      · rename_i t' g
        split at h
        · rename_i t2 l hg
          split at h
          · rename_i ht
            subst ht
            obtain⟨h5,h⟩:=Tr.mean_when h
            have h5:=of_decide_eq_true h5
            subst h5
            have:=Tr.mean_ret h;subst this
            have hlen:ℓ g=l.length:=ha g _ hg
            have hle:0+(List.replicate l.length z).length≤l.length:=by simp
            obtain⟨m1,m2⟩:=midS (ℓ:=ℓ) (v:=.tup []) (rd:=[g]) hg hle
            simp only[dV_own,get_dH,hg,Option.bind_some,dB,hlen]
            rw[if_pos ⟨trivial,trivial,c1,by simp,trivial,Nat.le_refl _,z2,z3⟩,m1]
            exact⟨by simp only[List.map_replicate,List.length_map,dV_tup,List.map_nil,Fz.n],m2⟩
          · exact(Tr.mean_fail h).elim
        · exact(Tr.mean_fail h).elim
      · rename_i t' g off len
        split at h
        · rename_i t2 l hg
          split at h
          · rename_i ht
            subst ht
            obtain⟨h5,h⟩:=Tr.mean_when h
            have h5:=of_decide_eq_true h5
            subst h5
            obtain⟨h6,h⟩:=Tr.mean_need h
            have h6:=of_decide_eq_true h6
            have:=Tr.mean_ret h;subst this
            have hle:off+(List.replicate len z).length≤l.length:=by simp;omega
            obtain⟨m1,m2⟩:=midS (ℓ:=ℓ) (v:=.tup []) (rd:=[g]) hg hle
            simp only[dV_part,get_dH,hg,Option.bind_some,dB]
            rw[if_pos ⟨trivial,trivial,c1,by simpa using h6,trivial,Nat.zero_le _,z2,z3⟩,m1]
            exact⟨by simp only[List.map_replicate,List.length_map,dV_tup,List.map_nil,Fz.n],m2⟩
          · exact(Tr.mean_fail h).elim
        · exact(Tr.mean_fail h).elim
      · exact(Tr.mean_fail h).elim
    · exact(Tr.mean_fail h).elim
  · exact(Tr.mean_fail h).elim
theorem opLenS_spec (ha:Agr ℓ H) {t:TypeId} {x u:SV} (h:opLenS P t x H=some u):opLen P t (dV ℓ x)=some (dV ℓ u):=by
  unfold opLenS at h
  unfold opLen
  split at h
  · rename_i hu;cases h;simp only[hu];rfl
  · rename_i hu
    simp only[hu]
    cases x with
    |row t l b=>cases h;simp[dV_row,rowAV,dV_int]
    | own t g=>
      simp only at h
      split at h
      · rename_i b hb
        cases h
        simp only[dV_own,dV_int,ha g b hb]
      · cases h
    |part t g off len=>cases h;simp only[dV_part,dV_int]
    |_=>cases h
  · rename_i hu
    simp only[hu]
    cases x with
    |str s=>cases h;rfl
    |_=>cases h
  · cases h
theorem minS_spec:∀(r:List SV) (x u:SV),minS x r=some u→minA (dV ℓ x) (r.map (dV ℓ))=some (dV ℓ u):=by
  intro r
  induction r with
  | nil=>
    intro x u h
    unfold minS at h
    split at h
    · cases h;rfl
    · cases h
  | cons y r ih=>
    intro x u h
    unfold minS at h
    split at h
    · rename_i e;cases e
    · rename_i e
      cases e
      split at h
      · rename_i e;subst e
        simp only[List.map_cons,dV_int,minA,if_true]
        exact ih _ _ h
      · cases h
    · cases h
theorem maxS_spec:∀(r:List SV) (x u:SV),maxS x r=some u→maxA (dV ℓ x) (r.map (dV ℓ))=some (dV ℓ u):=by
  intro r
  induction r with
  | nil=>
    intro x u h
    unfold maxS at h
    split at h
    · cases h;rfl
    · cases h
  | cons y r ih=>
    intro x u h
    unfold maxS at h
    split at h
    · rename_i e;cases e
    · rename_i e
      cases e
      split at h
      · rename_i e;subst e
        simp only[List.map_cons,dV_int,maxA,if_true]
        exact ih _ _ h
      · cases h
    · cases h
end
end Go.Abs
set_option linter.unusedSimpArgs false
set_option linter.unusedVariables false
namespace Go.Abs
open Go
def SubAgr(ℓ:Lens)(sub:List SB):Prop:=∀(j:Nat) (b:SB),sub[j]?=some b→ℓ (j,0)=b.len
def dO(ℓ:Lens)(out:SOut):Out:=(dV ℓ out.1,out.2.1.map (dB ℓ),out.2.2.map (dN ℓ))
def CallOK(P:Program)(f:FuncId)(c:SCall):Prop:=∀(args:List SV) (sub:List SB) (out:SOut),(c args sub).mean=some out→
  ∀ℓ0 ℓ':Lens,SubAgr ℓ0 sub→SubAgr ℓ' (out.2.1++out.2.2)→Entered P f∧Contract P f (args.map (dV ℓ0)) (sub.map (dN ℓ0)) (dO ℓ' out)
open Classical in
noncomputable def only(f:FuncId)(args:List AV)(sub:List Blk)(out:Out):CL:=fun f' args' sub'=>if f'=f∧args'=args∧sub'=sub then some out else none
theorem only_self(f:FuncId)(args:List AV)(sub:List Blk)(out:Out):only f args sub out f args sub=some out:=by simp[only]
theorem only_sound{P:Program}{f:FuncId}{args:List AV}{sub:List Blk}{out:Out}(h:Entered P f∧Contract P f args sub out):Sound P (only f args sub out):=by
  intro f' args' sub' out' h'
  unfold only at h'
  split at h'
  · rename_i e
    obtain⟨rfl,rfl,rfl⟩:=e
    cases h'
    exact h
  · cases h'
theorem none_sound{P:Program}:Sound P (fun _ _ _=>none):=fun _ _ _ _ h=>by cases h
section
variable{P:Program}{H:SHeap}{ℓ ℓ0 ℓ':Lens}
theorem dN_alive{b:SB}(h:b.alive=true):dB ℓ b=some (dN ℓ b):=by cases b<;>first|rfl|cases h
theorem pure1S_row {v u:SV} {l:List Nm} (h:(pure1S H v).mean=some (u,l)):(∀ℓ ℓ':Lens,dC ℓ u=dC ℓ' u)∧isOne u=true:=by
  cases v with
  | own t g=>
    simp only[pure1S]at h
    split at h
    · split at h
      · split at h
        · have:=Tr.mean_ret h;cases this;exact⟨fun _ _=>rfl,rfl⟩
        · exact(Tr.mean_fail h).elim
      · exact(Tr.mean_fail h).elim
    · exact(Tr.mean_fail h).elim
  | part t g off len=>
    simp only[pure1S]at h
    split at h
    · split at h
      · split at h
        · obtain⟨_,h⟩:=Tr.mean_need h
          have:=Tr.mean_ret h;cases this;exact⟨fun _ _=>rfl,rfl⟩
        · exact(Tr.mean_fail h).elim
      · exact(Tr.mean_fail h).elim
    · exact(Tr.mean_fail h).elim
  |row t l' tg=>have:=Tr.mean_ret h;cases this;exact⟨fun _ _=>rfl,rfl⟩
  |undef|int k n|bool b|str s|nilp|nilf=>have:=Tr.mean_ret h;cases this;exact⟨fun _ _=>rfl,rfl⟩
  |_=>exact(Tr.mean_fail h).elim
theorem lend1S_spec (ha:Agr ℓ H) {share:Bool} {f:Ren} (hg:Goes f ℓ ℓ0) {v u:SV} (h:(lend1S H share f v).mean=some u):
    lend1 (dH ℓ H) share f (dC ℓ v)=some (dC ℓ0 u)∧isOne v=true∧isOne u=true∧(share=false→∀g∈lentNamesS v,IsArr H g):=by
  have own:∀(w:SV),(match share with|true=>False|false=>True)→w.isAgg=false→dC ℓ w=d1 ℓ w→((pure1S H w).map (·.1)).mean=some u→
      (pure1 (dH ℓ H) (dC ℓ w)).map (·.1)=some (dC ℓ0 u)∧isOne u=true∧∃l,(pure1S H w).mean=some (u,l):=by
    intro w _ _ hd hm
    obtain⟨⟨u',l⟩,h1,rfl⟩:=Tr.mean_map hm
    obtain⟨e1,_,_,_,_,e2⟩:=pure1S_spec ha h1
    obtain⟨e3,e4⟩:=pure1S_row h1
    refine⟨?_,e4,l,h1⟩
    rw[hd,e1,Option.map_some]
    simp only
    rw[←e2,e3 ℓ ℓ0]
  cases v with
  | own t g=>
    cases share with
    | true=>
      simp only[lend1S,if_true]at h
      split at h
      · rename_i g' hgg
        have:=Tr.mean_ret h;subst this
        exact⟨by simp only[dC,d1,lend1,if_true,hgg,hg g g' hgg],rfl,rfl,fun e=>by cases e⟩
      · exact(Tr.mean_fail h).elim
    | false=>
      simp only[lend1S,Bool.false_eq_true,if_false]at h
      obtain⟨e1,e2,l,e3⟩:=own _ trivial rfl rfl h
      refine⟨e1,rfl,e2,fun _ g' hg'=> ?_⟩
      simp[lentNamesS]at hg'
      subst hg'
      simp only[pure1S]at e3
      split at e3
      · rename_i hq;exact⟨_,_,_,hq⟩
      · exact(Tr.mean_fail e3).elim
  | part t g off len=>
    cases share with
    | true=>
      simp only[lend1S,if_true]at h
      split at h
      · rename_i g' hgg
        have:=Tr.mean_ret h;subst this
        exact⟨by simp only[dC,d1,lend1,if_true,hgg],rfl,rfl,fun e=>by cases e⟩
      · exact(Tr.mean_fail h).elim
    | false=>
      simp only[lend1S,Bool.false_eq_true,if_false]at h
      obtain⟨e1,e2,l,e3⟩:=own _ trivial rfl rfl h
      refine⟨e1,rfl,e2,fun _ g' hg'=> ?_⟩
      simp[lentNamesS]at hg'
      subst hg'
      simp only[pure1S]at e3
      split at e3
      · rename_i hq;exact⟨_,_,_,hq⟩
      · exact(Tr.mean_fail e3).elim
  | row t l tg=>
    have:=Tr.mean_ret h;subst this
    refine⟨?_,rfl,rfl,fun _ g' hg'=>by simp[lentNamesS]at hg'⟩
    simp only[dC,d1,rowAV,lend1,lsz_idem]
  |agg cs=>exact(Tr.mean_fail h).elim
  |tup vs=>exact(Tr.mean_fail h).elim
  | ptr g sz i off=>
    have:=Tr.mean_ret h;subst this
    refine⟨?_,rfl,?_,fun _ g' hg'=>by simp[lentNamesS]at hg'⟩
    · rw[←renC_d hg];rfl
    · simp only[renCS,ren1S];cases f g<;>rfl
  | clo fn cs=>
    have:=Tr.mean_ret h;subst this
    exact⟨by rw[←renC_d hg];rfl,rfl,rfl,fun _ g' hg'=>by simp[lentNamesS]at hg'⟩
  | _=>
    have:=Tr.mean_ret h;subst this
    exact⟨by rw[←renC_d hg];rfl,rfl,rfl,fun _ g' hg'=>by simp[lentNamesS]at hg'⟩
theorem flatMap_same{α β:Type}{l:List α}{f g:α→List β}(h:∀a∈l,f a=g a):l.flatMap f=l.flatMap g:=by
  induction l with
  |nil=>rfl
  |cons a r ih=>rw[List.flatMap_cons,List.flatMap_cons,h a (by simp),ih (fun x hx=>h x (by simp[hx]))]
theorem mapM_of{α β:Type}{f:α→Option β}:∀{l:List α} {m:List β},m.length=l.length→(∀(i:Nat) (a:α),l[i]?=some a→∃b,m[i]?=some b∧f a=some b)→l.mapM f=some m:=by
  intro l
  induction l with
  | nil=>
    intro m hl _
    cases m with
    |nil=>rfl
    |cons _ _=>cases hl
  | cons a r ih=>
    intro m hl h
    cases m with
    |nil=>cases hl
    | cons b m=>
      obtain⟨b',h1,h2⟩:=h 0 a rfl
      cases h1
      rw[List.mapM_cons,h2,ih (by simpa using hl) (fun i x hx=>h (i+1) x (by simpa using hx))]
      rfl
theorem lendVS_spec (ha:Agr ℓ H) {share:Bool} {f:Ren} (hg:Goes f ℓ ℓ0) {v u:SV} (hv:notTup v=true) (h:(lendVS H share f v).mean=some u):
    lendV (dH ℓ H) share f (dV ℓ v)=some (dV ℓ0 u)∧(share=false→∀g∈lentNamesS v,IsArr H g):=by
  have one:(lend1S H share f v).mean=some u→v.isAgg=false→lendV (dH ℓ H) share f (dV ℓ v)=some (dV ℓ0 u)∧(share=false→∀g∈lentNamesS v,IsArr H g):=by
    intro h hagg
    obtain⟨e1,e2,e3,e4⟩:=lend1S_spec ha hg h
    rw[(isOne_d e2 ℓ).1,(isOne_d e3 ℓ0).1]
    refine⟨?_,e4⟩
    rw[←e1]
    cases v<;>first|rfl|cases hagg
  cases v with
  | agg cs=>
    obtain⟨us,h1,rfl⟩:=Tr.mean_map h
    obtain⟨e1,e2⟩:=Tr.mean_mapM h1
    refine⟨?_,fun hs g hgm=> ?_⟩
    · simp only[dV_agg,lendV]
      rw[mapM_of (m:=us.map (dC ℓ0)) (by simp[e1]) (fun i a hi=> ?_)]
      · rfl
      · rw[List.getElem?_map]at hi
        obtain⟨c,h2,rfl⟩:=Option.map_eq_some_iff.1 hi
        obtain⟨b,h3,h4⟩:=e2 i c h2
        exact⟨dC ℓ0 b,by rw[List.getElem?_map,h3];rfl,(lend1S_spec ha hg h4).1⟩
    · simp only[lentNamesS,List.mem_flatMap]at hgm
      obtain⟨c,hc,hgc⟩:=hgm
      obtain⟨i,hi⟩:=List.getElem?_of_mem hc
      obtain⟨b,h3,h4⟩:=e2 i c hi
      refine(lend1S_spec ha hg h4).2.2.2 hs g ?_
      cases c<;>first|exact hgc|(simp at hgc;done)
  |tup vs=>cases hv
  |_=>exact one h rfl
theorem lentNames_d{v:SV}(hv:notTup v=true):lentNames (dV ℓ v)=lentNamesS v:=by
  cases v with
  | agg cs=>
    simp only[dV_agg,lentNames,lentNamesS,List.flatMap_map]
    congr 1
    funext c
    cases c<;>rfl
  |tup vs=>cases hv
  |_=>rfl
theorem scal_d(v:SV):scal (dV ℓ v)=scalS v:=by
  have h1:∀c,scal1 (d1 ℓ c)=scal1 (d1 (fun _=>0) c):=fun c=>by cases c<;>rfl
  have hC:∀c,scal1 (dC ℓ c)=scal1 (dC (fun _=>0) c):=fun c=>by cases c<;>rfl
  have hA:∀c,scalA (dA ℓ c)=scalA (dA (fun _=>0) c):=fun c=>by
    cases c with
    |agg cs=>simp only[dA,scalA,List.all_map];congr 1;funext c;exact hC c
    |_=>rfl
  unfold scalS
  cases v with
  |tup vs=>simp only[dV,scal,List.all_map];congr 1;funext c;exact hA c
  |agg cs=>exact hA (.agg cs)
  |_=>rfl
theorem lensEq_spec:∀(a b:List SB),lensEq a b=true→b.length=a.length∧∀(i:Nat) (x y:SB),a[i]?=some x→b[i]?=some y→y.len=x.len:=by
  intro a
  induction a with
  | nil=>
    intro b h
    cases b with
    |nil=>exact⟨rfl,fun i x y h=>by simp at h⟩
    |cons _ _=>simp[lensEq]at h
  | cons x r ih=>
    intro b h
    cases b with
    |nil=>cases x<;>simp[lensEq]at h
    | cons y r'=>
      have key:y.len=x.len∧lensEq r r'=true:=by
        unfold lensEq at h
        split at h
        · rename_i e1 e2;cases e1;cases e2;exact⟨rfl,h⟩
        · rename_i e1 e2;cases e1;cases e2;simpa using h
        · rename_i e1 e2;cases e1
        · cases h
      obtain⟨h1,h2⟩:=ih r' key.2
      refine⟨by simp[h1],fun i u w e1 e2=> ?_⟩
      cases i with
      |zero=>simp at e1 e2;subst e1;subst e2;exact key.1
      |succ i=>exact h2 i u w (by simpa using e1) (by simpa using e2)
theorem renBS_alive(f:Ren)(b:SB):(renBS f b).alive=b.alive:=by cases b<;>rfl
theorem opCallS_spec (ha:Agr ℓ H) {f:FuncId} {share:Bool} {call:SCall} (hc:CallOK P f call) {args:List SV} {slot:Nat} {r:SRes} (h:(opCallS share call args H slot).mean=some r) (hn:NewOK ℓ slot r.new):
    ∃c:CL,Sound P c∧opCall share (c f) (args.map (dV ℓ)) (dH ℓ H) slot=some (dR ℓ r)∧LenOK H r.wr:=by
  unfold opCallS at h
  simp only at h
  generalize hlent:(if share=true then []else args.flatMap lentNamesS)=lent at h
  generalize hR:reachS H (args.flatMap (if share=true then fun v=>seedsVS v++lentNamesS v else seedsVS))=R at h
  split at h
  · exact(Tr.mean_fail h).elim
  · rename_i hcond
    simp only[Bool.or_eq_true,not_or,Bool.not_eq_true,Bool.not_eq_false',Bool.not_eq_eq_eq_not,Bool.not_true,Bool.not_false]at hcond
    obtain⟨hdis,hnt⟩:=hcond
    have hnt:∀v∈args,notTup v=true:=by simpa using hnt
    obtain⟨args',h1,h⟩:=Tr.mean_bind h
    split at h
    · rename_i sub hsub
      obtain⟨out,h2,h⟩:=Tr.mean_bind h
      obtain⟨h3,h⟩:=Tr.mean_need h
      obtain⟨h4,h⟩:=Tr.mean_when h
      have:=Tr.mean_ret h;subst this
      obtain⟨L1,L2⟩:=lensEq_spec _ _ h3
      have hal:∀b∈out.2.2,b.alive=true:=by simpa using h4
      obtain⟨S1,S2⟩:=mapM_some _ _ _ hsub
      let f0:Ren:=fun g=>(idxOf g R 0).map fun i=>(i,0)
      let l0:Lens:=fun g=>match R[g.1]? with
        |some g'=>ℓ g'
        |none=>0
      let b:=renBack R slot
      let l1:Lens:=fun g=>match b g with
        |some g'=>ℓ g'
        |none=>0
      have hg0:Goes f0 ℓ l0:=by
        intro g g' e
        obtain⟨i,hi,rfl⟩:=Option.map_eq_some_iff.1 e
        obtain⟨_,hR⟩:=idxOf_spec g R 0 i hi
        simp only[Nat.sub_zero]at hR
        show(match R[i]? with|some g'=>ℓ g'|none=>0)=ℓ g
        rw[hR]
      have hg1:Goes b l1 ℓ:=by
        intro g g' e
        show ℓ g'=(match b g with|some g'=>ℓ g'|none=>0)
        rw[e]
      have hsub0:SubAgr l0 sub:=by
        intro j x hj
        have hjR:j<R.length:=by rw[←S1];exact(List.getElem?_eq_some_iff.1 hj).1
        obtain⟨y,e1,e2⟩:=S2 j R[j] (List.getElem?_eq_getElem hjR)
        rw[hj]at e1
        cases e1
        obtain⟨b0,e3,e4⟩:=Option.bind_eq_some_iff.1 e2
        split at e4
        · cases e4
          show(match R[j]? with|some g'=>ℓ g'|none=>0)=_
          rw[List.getElem?_eq_getElem hjR,renBS_len]
          exact ha _ _ e3
        · cases e4
      have hlenR:out.2.1.length=R.length:=by rw[L1,S1]
      have hout:SubAgr l1 (out.2.1++out.2.2):=by
        intro j x hj
        rcases Nat.lt_or_ge j R.length with hlt|hge
        · rw[List.getElem?_append_left (by omega)]at hj
          have hb:b (j,0)=some R[j]:=by simp[b,renBack,hlt]
          show(match b (j,0)with|some g'=>ℓ g'|none=>0)=_
          rw[hb]
          have hjs:j<sub.length:=by omega
          obtain⟨y,e1,e2⟩:=S2 j R[j] (List.getElem?_eq_getElem hlt)
          obtain⟨b0,e3,e4⟩:=Option.bind_eq_some_iff.1 e2
          split at e4
          · cases e4
            rw[L2 j _ x e1 hj,renBS_len]
            exact ha _ _ e3
          · cases e4
        · rw[List.getElem?_append_right (by omega),hlenR]at hj
          have hb:b (j,0)=some (slot,j-R.length):=by simp[b,renBack,Nat.not_lt.2 hge]
          show(match b (j,0)with|some g'=>ℓ g'|none=>0)=_
          rw[hb]
          simp only
          rw[hn (j-R.length) (renBS b x) (by simp only[List.getElem?_map,hj];rfl),renBS_len]
      have hcall:=hc args' sub out h2 l0 l1 hsub0 hout
      refine⟨only f (args'.map (dV l0)) (sub.map (dN l0)) (dO l1 out),only_sound hcall,?_,?_⟩
      ·
        unfold opCall
        simp only
        have elent:(if share=true then []else(args.map (dV ℓ)).flatMap lentNames)=lent:=by
          rw[←hlent]
          split
          · rfl
          · rw[List.flatMap_map]
            exact flatMap_same fun v hv=>lentNames_d (hnt v hv)
        have eR:reach (dH ℓ H) ((args.map (dV ℓ)).flatMap (if share=true then fun v=>seedsV v++lentNames v else seedsV))=R:=by
          rw[←hR,reach_d,List.flatMap_map]
          congr 1
          refine flatMap_same fun v hv=> ?_
          have hs:seedsV (dV ℓ v)=seedsVS v:=by rw[notTup_d (hnt v hv)];exact seedsV_d ℓ v
          split
          · simp only[hs,lentNames_d (hnt v hv)]
          · exact hs
        rw[elent,eR]
        obtain⟨M1,M2⟩:=Tr.mean_mapM h1
        have eargs:(args.map (dV ℓ)).mapM (lendV (dH ℓ H) share f0)=some (args'.map (dV l0)):=by
          refine mapM_of (by simp[M1]) (fun i a hi=> ?_)
          rw[List.getElem?_map]at hi
          obtain⟨v,e1,rfl⟩:=Option.map_eq_some_iff.1 hi
          obtain⟨u,e2,e3⟩:=M2 i v e1
          exact⟨dV l0 u,by rw[List.getElem?_map,e2];rfl,(lendVS_spec ha hg0 (hnt v (List.mem_of_getElem? e1)) e3).1⟩
        have esub:R.mapM (fun g=>(get (dH ℓ H) g).map (renB f0))=some (sub.map (dN l0)):=by
          refine mapM_of (by simp[S1]) (fun i g hi=> ?_)
          obtain⟨y,e1,e2⟩:=S2 i g hi
          obtain⟨b0,e3,e4⟩:=Option.bind_eq_some_iff.1 e2
          split at e4
          · rename_i hb0
            cases e4
            refine⟨dN l0 (renBS f0 b0),by rw[List.getElem?_map,e1];rfl,?_⟩
            rw[get_dH,e3,Option.bind_some,renB_d hg0]
            exact dN_alive (by rw[renBS_alive];exact hb0)
          · cases e4
        rw[if_neg (by simpa using hdis)]
        show(match(args.map (dV ℓ)).mapM (lendV (dH ℓ H) share f0),R.mapM (fun g=>(get (dH ℓ H) g).map (renB f0))with
          |some args',some sub=>_
          |_,_=>none)=_
        rw[eargs,esub]
        simp only[only_self,dO]
        rw[if_pos (by simpa using hlenR)]
        have harr:∀g∈lent,IsArr H g:=by
          intro g hg
          rw[←hlent]at hg
          split at hg
          · cases hg
          · rename_i hs
            obtain⟨v,hv,hgv⟩:=List.mem_flatMap.1 hg
            obtain⟨i,hi⟩:=List.getElem?_of_mem hv
            obtain⟨u,e2,e3⟩:=M2 i v hi
            exact(lendVS_spec ha hg0 (hnt v hv) e3).2 (by simpa using hs) g hgv
        have ewr:((R.zip (out.2.1.map (dB l1))).map fun p=>(p.1,p.2.map (renB (renBack R slot))))=dW ℓ ((R.zip out.2.1).map fun p=>(p.1,renBS (renBack R slot) p.2)):=by
          simp only[dW,List.map_map,List.zip_map_right]
          refine List.map_congr_left fun p _=> ?_
          simp only[Function.comp,Prod.map,id]
          exact congrArg (Prod.mk p.1) (renB_d hg1 p.2)
        have enew:(out.2.2.map (dN l1)).map (renB (renBack R slot))=(out.2.2.map (renBS (renBack R slot))).map (dN ℓ):=by
          simp only[List.map_map]
          refine List.map_congr_left fun x hx=> ?_
          have e:=renB_d hg1 x
          rw[dN_alive (hal x hx),Option.map_some,dN_alive (by rw[renBS_alive];exact hal x hx)]at e
          exact Option.some.inj e
        have eval:renV (renBack R slot) (dV l1 out.1)=dV ℓ (renVS (renBack R slot) out.1):=renV_d hg1 out.1
        have ewr2:(if(scalS out.1&&out.2.2.isEmpty&&R.isEmpty)=true then []else stops (dH ℓ H) lent)=dW ℓ (if(scalS out.1&&out.2.2.isEmpty&&R.isEmpty)=true then []else stopsS H lent):=by
          split
          · rfl
          · exact(stopsS_spec harr).symm
        simp only[dR,eval,ewr,enew,scal_d,List.isEmpty_map,ewr2]
        simp only[dW,List.map_append]
      ·
        refine LenOK.append ?_ ?_
        · intro p hp x hx
          simp only[List.mem_map]at hp
          obtain⟨⟨g,y⟩,hz,rfl⟩:=hp
          obtain⟨i,hi⟩:=List.getElem?_of_mem hz
          rw[List.getElem?_zip_eq_some]at hi
          obtain⟨i1,i2⟩:=hi
          obtain⟨z,e1,e2⟩:=S2 i g i1
          obtain⟨b0,e3,e4⟩:=Option.bind_eq_some_iff.1 e2
          split at e4
          · cases e4
            simp only at hx
            rw[e3]at hx
            cases hx
            simp only[renBS_len]
            rw[L2 i _ y e1 i2,renBS_len]
          · cases e4
        · split
          · exact LenOK.nil
          · exact stopsS_len _
    · exact(Tr.mean_fail h).elim
theorem pickS_spec {c:Bool} {a b u:SV} (h:(pickS c a b).mean=some u):boolIte c (dV ℓ a) (dV ℓ b)=dV ℓ u:=by
  unfold pickS at h
  split at h
  · have:=Tr.mean_ret h;subst this
    simp only[dV_bool,boolIte]
    cases c<;>rfl
  · rename_i hn
    have key:boolIte c (dV ℓ a) (dV ℓ b)=if c then dV ℓ a else dV ℓ b:=by
      unfold boolIte
      split
      · rename_i p q e1 e2
        cases a<;>first|(cases e1;done)|skip
        cases b<;>first|(cases e2;done)|skip
        exact absurd rfl (hn _ _ rfl)
      · rfl
    rw[key]
    cases c with
    |true=>have:=Tr.mean_ret (show(Tr.ret a).mean=some u from h);subst this;rfl
    |false=>have:=Tr.mean_ret (show(Tr.ret b).mean=some u from h);subst this;rfl
theorem okTy_enc{ty:Ty}(h:okTy ty=true)(x:ty.den):okS (enc ty x)=true∧dV ℓ (unT ty x)=enc ty x∧dA ℓ (unT ty x)=enc ty x:=by
  cases ty<;>first|exact⟨rfl,rfl,rfl⟩|cases h
theorem okTy_pa{ty:Ty}(h:okTy ty=true){v:SV}{x:ty.den}(hx:paT ty v=some x):dV ℓ v=enc ty x∧dA ℓ v=enc ty x:=by
  unfold paT at hx
  split at hx
  · split at hx
    · rename_i y hy
      cases hx
      cases ty with
      |int k=>cases v<;>simp[SV.cells,paC]at hy<;>first|(obtain⟨rfl,hy⟩:=hy;cases hy;exact⟨rfl,rfl⟩)|(rename_i ha;simp[SV.isAgg,Ty.agg]at ha)
      |bool=>cases v<;>simp[SV.cells,paC]at hy<;>first|(cases hy;exact⟨rfl,rfl⟩)|(rename_i ha;simp[SV.isAgg,Ty.agg]at ha)
      |str=>cases v<;>simp[SV.cells,paC]at hy<;>first|(cases hy;exact⟨rfl,rfl⟩)|(rename_i ha;simp[SV.isAgg,Ty.agg]at ha)
      |_=>cases h
    · cases hx
  · cases hx
theorem mpFind_map{ty:Ty}(n:Int):∀l:List (Int×ty.den),mpFind n (l.map fun p=>AV.agg [.int .i64 p.1,enc ty p.2])=(mpGet n l).map (enc ty)
  | []=>rfl
  | p::r=>by
    simp only[List.map_cons,mpFind,mpGet]
    split
    · rfl
    · exact mpFind_map n r
theorem mpPut_map{ty:Ty}(n:Int)(x:ty.den):∀l:List (Int×ty.den),mpPut n (enc ty x) (l.map fun p=>AV.agg [.int .i64 p.1,enc ty p.2])=(mpSet n x l).map fun p=>AV.agg [.int .i64 p.1,enc ty p.2]
  | []=>rfl
  | p::r=>by
    simp only[List.map_cons,mpPut,mpSet]
    split
    · rfl
    · simp only[List.map_cons,mpPut_map n x r]
theorem mpBlk_d{g:Nm}{ty:Ty}{l:List (Int×ty.den)}(hg:getS H g=some (.mp ty l)):mpBlk (dH ℓ H) (.ptr g 0 0 0)=some (g,⟨0,l.map fun p=>AV.agg [.int .i64 p.1,enc ty p.2],0,false⟩):=by
  simp only[mpBlk,get_dH,hg,Option.bind_some,dB,true_and,if_true]
theorem opLookupMS_spec{t:TypeId}{m k:SV}{ok:Bool}{r:SRes}(h:(opLookupMS P t m k ok H).mean=some r):opLookupM P t (dV ℓ m) (dV ℓ k) ok (dH ℓ H)=some (dR ℓ r)∧LenOK H r.wr:=by
  unfold opLookupMS at h
  split at h
  · rename_i et g n ht
    split at h
    · rename_i ty l z hg hz
      obtain⟨h1,h⟩:=Tr.mean_when h
      obtain⟨x,h2,h⟩:=Tr.mean_bind h
      have:=Tr.mean_ret h;subst this
      refine⟨?_,LenOK.nil⟩
      obtain⟨zv,h3,rfl⟩:=szero_spec hz
      have h4:cv zv=enc ty x:=by rw[←(svC_d ℓ zv).2];exact(okTy_pa h1 (Tr.mean_of h2)).1
      have h5:=fun y=>okTy_enc (ℓ:=ℓ) h1 y
      have h6:(Option.map (enc ty) (mpGet n l)).getD (enc ty x)=enc ty ((mpGet n l).getD x):=by cases mpGet n l<;>rfl
      have h7:(Option.map (enc ty) (mpGet n l)).isSome=(mpGet n l).isSome:=by cases mpGet n l<;>rfl
      simp only[opLookupM,ht,dV_ptr,dV_int,mpBlk_d hg,h3,h4,mpFind_map,h6,h7]
      rw[if_pos (h5 x).1]
      cases ok with
      |true=>simp only[if_true,dR,dV_tup,List.map_cons,List.map_nil,(h5 _).2.2,dW];rfl
      |false=>simp only[Bool.false_eq_true,if_false,dR,(h5 _).2.1,dW,List.map_nil]
    · exact(Tr.mean_fail h).elim
  · exact(Tr.mean_fail h).elim
theorem opMapUpdateS_spec{t:TypeId}{m k v:SV}{r:SRes}(h:(opMapUpdateS P t m k v H).mean=some r):opMapUpdate P t (dV ℓ m) (dV ℓ k) (dV ℓ v) (dH ℓ H)=some (dR ℓ r)∧LenOK H r.wr:=by
  unfold opMapUpdateS at h
  split at h
  · rename_i et g n ht
    split at h
    · rename_i ty l hg
      obtain⟨h1,h⟩:=Tr.mean_when h
      obtain⟨x,h2,h⟩:=Tr.mean_bind h
      have:=Tr.mean_ret h;subst this
      refine⟨?_,LenOK.one hg rfl⟩
      simp only[opMapUpdate,ht,dV_ptr,dV_int,mpBlk_d hg,(okTy_pa (ℓ:=ℓ) h1 (Tr.mean_of h2)).1,mpPut_map]
      rw[if_pos (okTy_enc (ℓ:=ℓ) h1 x).1]
      rfl
    · exact(Tr.mean_fail h).elim
  · exact(Tr.mean_fail h).elim
theorem opBoxS_spec{t:TypeId}{v:SV}{slot:Nat}{r:SRes}(h:(opBoxS P t v slot).mean=some r):opBox P t (dV ℓ v) slot=some (dR ℓ r)∧LenOK H r.wr:=by
  unfold opBoxS at h
  unfold opBox
  split at h
  · rename_i size hs
    obtain⟨h1,h⟩:=Tr.mean_when h
    obtain⟨c1,c2,c3⟩:=of_decide_eq_true h1
    have:=Tr.mean_ret h;subst this
    simp only[hs,notTup_d (okSV_notTup c2)]
    rw[if_pos ⟨by rw[cells_dA,List.length_map];exact c1,by rw[okV_dA];exact c2,c3⟩]
    exact⟨rfl,LenOK.nil⟩
  · exact(Tr.mean_fail h).elim
theorem opAssignS_spec {fr:SFr} {t:TypeId} {x:Operand} {slot:Nat} {r:SRes} (h:(opAssignS P fr t x slot).mean=some r) (hn:NewOK ℓ slot r.new):opAssign P (dF ℓ fr) t x slot=some (dR ℓ r)∧LenOK H r.wr:=by
  unfold opAssignS at h
  split at h
  · unfold opAssign
    split at h
    · rename_i e he
      split at h
      · rename_i size ty h1 h2
        obtain⟨h3,h⟩:=Tr.mean_when h
        have h3:=of_decide_eq_true h3
        have:=Tr.mean_ret h;subst this
        have hl:=hn.one
        simp only[SB.len,List.length_nil]at hl
        simp only[he,h1]
        refine⟨?_,LenOK.nil⟩
        simp only[dR,dV_own,hl,h3,dW,List.map_nil,List.map_cons,dN,dB,Fz.n]
      · exact(Tr.mean_fail h).elim
    · exact(Tr.mean_fail h).elim
  · rename_i hx
    have:=Tr.mean_ret h;subst this
    refine⟨?_,LenOK.nil⟩
    have e:opAssign P (dF ℓ fr) t x slot=some {val:=evO (dF ℓ fr) x}:=by
      unfold opAssign
      split
      · exact absurd rfl hx
      · rfl
    rw[e]
    simp only[dR,evS_d,dW,List.map_nil]
theorem isCap_d{v:SV}(h:isCap v=true)(ℓ:Lens):dV ℓ v=d1 ℓ v:=by cases v<;>first|rfl|cases h
theorem stepOpS_spec {N:FuncId→Note} {call:FuncId→SCall} (hc:∀f,CallOK P f (call f)) {o:Oper} {fr:SFr} {slot:Nat} {r:SRes} (ha:Agr ℓ H) (h:(stepOpS P N call o fr H slot).mean=some r) (hn:NewOK ℓ slot r.new):
    ∃c:CL,Sound P c∧stepOp P N c o (dF ℓ fr) (dH ℓ H) slot=some (dR ℓ r)∧LenOK H r.wr:=by
  obtain⟨dst,op,type,pos,after,guard⟩:=o
  have plain:(∀c:CL,stepOp P N c ⟨dst,op,type,pos,after,guard⟩ (dF ℓ fr) (dH ℓ H) slot=some (dR ℓ r))∧LenOK H r.wr→∃c:CL,Sound P c∧stepOp P N c ⟨dst,op,type,pos,after,guard⟩ (dF ℓ fr) (dH ℓ H) slot=some (dR ℓ r)∧LenOK H r.wr:=
    fun h=>⟨fun _ _ _=>none,none_sound,h.1 _,h.2⟩
  have val:∀{t:Tr SV},(t.map val1).mean=some r→∃u,t.mean=some u∧dR ℓ r={val:=dV ℓ u}∧LenOK H r.wr:=by
    intro t h
    obtain⟨u,h1,rfl⟩:=Tr.mean_map h
    exact⟨u,h1,rfl,LenOK.nil⟩
  cases op with
  | move x=>
    have:=Tr.mean_ret h;subst this
    exact plain ⟨fun c=>by simp only[stepOp,dR,evS_d,dW,List.map_nil],LenOK.nil⟩
  | assign x=>
    obtain⟨e1,e2⟩:=opAssignS_spec (H:=H) (show(opAssignS P fr type x slot).mean=some r from h) hn
    exact plain ⟨fun c=>e1,e2⟩
  | pick c a b=>
    simp only[stepOpS]at h
    split at h
    · rename_i p hp
      obtain⟨u,h1,e1,e2⟩:=val h
      refine plain ⟨fun c'=> ?_,e2⟩
      have:=evS_d ℓ fr c
      rw[hp]at this
      simp only[stepOp,←evS_d,e1]
      rw[show dV ℓ (evS fr c)= .bool p from by rw[hp];rfl]
      simp only[pickS_spec h1]
    · exact(Tr.mean_fail h).elim
  | alloc t=>
    simp only[stepOpS]at h
    split at h
    · rename_i z hz
      obtain⟨zv,h1,rfl⟩:=szero_spec hz
      obtain⟨e1,e2⟩:=opBoxS_spec (ℓ:=ℓ) (H:=H) h
      rw[(svC_d ℓ zv).2]at e1
      exact plain ⟨fun c=>by simp only[stepOp,h1,e1],e2⟩
    · exact(Tr.mean_fail h).elim
  | box t x=>
    obtain⟨e1,e2⟩:=opBoxS_spec (ℓ:=ℓ) (H:=H) (show(opBoxS P t (evS fr x) slot).mean=some r from h)
    exact plain ⟨fun c=>by simp only[stepOp,←evS_d,e1],e2⟩
  | build t ps=>
    obtain⟨u,h1,e1,e2⟩:=val h
    have:=opBuildS_spec (ℓ:=ℓ) (Tr.mean_of h1)
    rw[partsOfS_d]at this
    exact plain ⟨fun c=>by simp only[stepOp,one,this,e1,Option.map_some],e2⟩
  | buildSlice t n ps=>
    obtain⟨e1,e2⟩:=opBuildSliceS_spec ha (show(opBuildSliceS P t n (partsOfS fr ps) H slot).mean=some r from h) hn
    rw[partsOfS_d]at e1
    exact plain ⟨fun c=>e1,e2⟩
  | load t a=>
    obtain⟨e1,e2⟩:=opLoadS_spec (ℓ:=ℓ) (show(opLoadS P t (evS fr a) H).mean=some r from h)
    exact plain ⟨fun c=>by simp only[stepOp,←evS_d,e1],by rw[e2];exact LenOK.nil⟩
  | store t a x=>
    obtain⟨e1,e2,_⟩:=opStoreS_spec ha (show(opStoreS P t (evS fr a) (evS fr x) H).mean=some r from h)
    exact plain ⟨fun c=>by simp only[stepOp,←evS_d,e1],e2⟩
  | nilCheck x=>
    simp only[stepOpS]at h
    split at h
    · rename_i hx
      obtain⟨h0,h⟩:=Tr.mean_when h
      have:=Tr.mean_ret h;subst this
      exact plain ⟨fun c=>by simp only[stepOp,←evS_d,hx,dV_ptr];rw[if_pos (of_decide_eq_true h0)];rfl,LenOK.nil⟩
    · rename_i hx
      have:=Tr.mean_ret h;subst this
      exact plain ⟨fun c=>by simp only[stepOp,←evS_d,hx];rfl,LenOK.nil⟩
    · exact(Tr.mean_fail h).elim
  | binOp op t x y yt=>
    obtain⟨u,h1,e1,e2⟩:=val h
    exact plain ⟨fun c=>by simp only[stepOp,one,←evS_d,opBin3S_spec (ℓ:=ℓ) h1,e1,Option.map_some],e2⟩
  | unOp op t x=>
    obtain⟨u,h1,e1,e2⟩:=val h
    exact plain ⟨fun c=>by simp only[stepOp,one,←evS_d,opUnS_spec (ℓ:=ℓ) (Tr.mean_of h1),e1,Option.map_some],e2⟩
  | convert a b x=>
    obtain⟨u,h1,e1,e2⟩:=val h
    exact plain ⟨fun c=>by simp only[stepOp,one,←evS_d,opConvertS_spec (ℓ:=ℓ) (Tr.mean_of h1),e1,Option.map_some],e2⟩
  | makeFunc fn first caps=>
    cases fn with
    | func f=>
      simp only[stepOpS]at h
      split at h
      · rename_i hf
        obtain⟨h1,h⟩:=Tr.mean_when h
        have:=Tr.mean_ret h;subst this
        refine plain ⟨fun c=> ?_,LenOK.nil⟩
        simp only[stepOp]
        rw[if_pos hf]
        simp only[dR,dV_clo,dW,List.map_nil,List.map_map]
        congr 3
        refine List.map_congr_left fun x hx=> ?_
        simp only[Function.comp,←evS_d]
        have:isCap (evS fr x)=true:=(List.all_eq_true.1 h1) x hx
        exact isCap_d this ℓ
      · exact(Tr.mean_fail h).elim
    |_=>exact(Tr.mean_fail h).elim
  | makeSlice t l c=>
    obtain⟨e1,e2⟩:=opMakeSliceS_spec (ℓ:=ℓ) (H:=H) (show(opMakeSliceS P t (evS fr l) (evS fr c) slot).mean=some r from h) hn
    exact plain ⟨fun c=>by simp only[stepOp,←evS_d,e1],e2⟩
  | slice t x lo hi mx=>
    obtain⟨e1,e2,_⟩:=opSliceS_spec ha (show(opSliceS P t (evS fr x) (lo.map (evS fr)) (hi.map (evS fr)) (mx.map (evS fr)) H).mean=some r from h)
    refine plain ⟨fun c=> ?_,e2⟩
    simp only[stepOp,←evS_d]
    have conv:∀o:Option Operand,Option.map (fun x=>dV ℓ (evS fr x)) o=(o.map (evS fr)).map (dV ℓ):=fun o=>by cases o<;>rfl
    have ev':evO (dF ℓ fr)=fun x=>dV ℓ (evS fr x):=funext fun x=>(evS_d ℓ fr x).symm
    rw[ev',conv,conv,conv]
    exact e1
  | fieldAddr t x f=>
    obtain⟨u,h1,e1,e2⟩:=val h
    exact plain ⟨fun c=>by simp only[stepOp,one,←evS_d,opFieldAddrS_spec (ℓ:=ℓ) (Tr.mean_of h1),e1,Option.map_some],e2⟩
  | field t x f=>
    obtain⟨u,h1,e1,e2⟩:=val h
    exact plain ⟨fun c=>by simp only[stepOp,one,←evS_d,opFieldS_spec (ℓ:=ℓ) (Tr.mean_of h1),e1,Option.map_some],e2⟩
  | indexAddr t x i=>
    obtain⟨u,h1,e1,e2⟩:=val h
    exact plain ⟨fun c=>by simp only[stepOp,one,←evS_d,opIndexAddrS_spec ha h1,e1,Option.map_some],e2⟩
  | index t x i=>
    obtain⟨u,h1,e1,e2⟩:=val h
    exact plain ⟨fun c=>by simp only[stepOp,one,←evS_d,opIndex3S_spec (ℓ:=ℓ) h1,e1,Option.map_some],e2⟩
  | lookup t m k ok=>
    simp only[stepOpS]at h
    split at h
    · rename_i hm
      obtain⟨e1,e2⟩:=opLookupMS_spec (ℓ:=ℓ) h
      have h0:∀(g:Nm) (a b c:Nat) (w:AV),opLookup P t (.ptr g a b c) w ok=none:=fun g a b c w=>by
        unfold opLookup
        split
        · exact AV.noConfusion ‹AV.ptr g a b c=AV.fm _›
        · rfl
      rw[dV_ptr]at e1
      exact plain ⟨fun c=>by simp only[stepOp,←evS_d,hm,dV_ptr,h0];exact e1,e2⟩
    · obtain⟨u,h1,e1,e2⟩:=val h
      exact plain ⟨fun c=>by simp only[stepOp,←evS_d,opLookupS_spec (ℓ:=ℓ) h1];exact congrArg some e1.symm,e2⟩
  | mapUpdate t m k v=>
    obtain⟨e1,e2⟩:=opMapUpdateS_spec (ℓ:=ℓ) (show(opMapUpdateS P t (evS fr m) (evS fr k) (evS fr v) H).mean=some r from h)
    exact plain ⟨fun c=>by simp only[stepOp,←evS_d,e1],e2⟩
  | makeMap t rv=>
    cases rv with
    | none=>
      have h:(opMakeMapS P t slot).mean=some r:=h
      unfold opMakeMapS at h
      split at h
      · have:=Tr.mean_ret h;subst this
        exact plain ⟨fun c=>rfl,LenOK.nil⟩
      · exact(Tr.mean_fail h).elim
    |some _=>exact(Tr.mean_fail h).elim
  | extract x i=>
    simp only[stepOpS]at h
    split at h
    · rename_i vs hx
      split at h
      · rename_i v hv
        obtain⟨h1,h⟩:=Tr.mean_when h
        have:=Tr.mean_ret h;subst this
        refine plain ⟨fun c=> ?_,LenOK.nil⟩
        simp only[stepOp,←evS_d,hx,dV_tup,List.getElem?_map,hv,Option.map_some,dR,notTup_d h1,dW,List.map_nil]
      · exact(Tr.mean_fail h).elim
    · exact(Tr.mean_fail h).elim
  | call c=>
    simp only[stepOpS]at h
    split at h
    · rename_i f hcal
      split at h
      · rename_i fn caps hf
        obtain⟨h1,h⟩:=Tr.mean_when h
        obtain⟨cl,s1,s2,s3⟩:=opCallS_spec ha (hc fn) h hn
        refine⟨cl,s1,?_,s3⟩
        simp only[stepOp,hcal,←evS_d,hf,dV_clo]
        have ev':evO (dF ℓ fr)=fun x=>dV ℓ (evS fr x):=funext fun x=>(evS_d ℓ fr x).symm
        rw[ev',←s2,List.map_append,List.map_map]
        congr 2
        refine List.map_congr_left fun x hx=> ?_
        have:isCap x=true:=(List.all_eq_true.1 h1) x hx
        exact(isCap_d this ℓ).symm
      · exact(Tr.mean_fail h).elim
    · rename_i hcal
      split at h
      · rename_i x t hx ht
        obtain⟨u,h1,e1,e2⟩:=val h
        exact plain ⟨fun c'=>by simp only[stepOp,hcal,hx,ht,one,←evS_d,opLenS_spec ha (Tr.mean_of h1),e1,Option.map_some],e2⟩
      · exact(Tr.mean_fail h).elim
    · rename_i hcal
      split at h
      · rename_i s x t t' hx ht
        obtain⟨h1,h⟩:=Tr.mean_when h
        obtain⟨e1,e2⟩:=opAppendS_spec ha h hn
        exact plain ⟨fun c'=>by simp only[stepOp,hcal,hx,ht];rw[if_pos (of_decide_eq_true h1),←evS_d,←evS_d];exact e1,e2⟩
      · exact(Tr.mean_fail h).elim
    · rename_i hcal
      split at h
      · rename_i d x t t' hx ht
        obtain⟨e1,e2⟩:=opCopyS_spec ha h
        exact plain ⟨fun c'=>by simp only[stepOp,hcal,hx,ht];rw[←evS_d,←evS_d];exact e1,e2⟩
      · exact(Tr.mean_fail h).elim
    · rename_i hcal
      split at h
      · rename_i d t hx ht
        obtain⟨e1,e2⟩:=opClearS_spec ha h
        exact plain ⟨fun c'=>by simp only[stepOp,hcal,hx,ht];rw[←evS_d];exact e1,e2⟩
      · exact(Tr.mean_fail h).elim
    · rename_i hcal
      split at h
      · rename_i x rr hx
        obtain⟨u,h1,e1,e2⟩:=val h
        have:=minS_spec (ℓ:=ℓ) _ _ _ (Tr.mean_of h1)
        refine plain ⟨fun c'=> ?_,e2⟩
        have ev':evO (dF ℓ fr)=fun x=>dV ℓ (evS fr x):=funext fun x=>(evS_d ℓ fr x).symm
        simp only[stepOp,hcal]
        rw[ev',show c.args.toList.map (fun x=>dV ℓ (evS fr x))=(c.args.toList.map (evS fr)).map (dV ℓ)from by rw[List.map_map];rfl,hx]
        simp only[List.map_cons,one,this,e1,Option.map_some]
      · exact(Tr.mean_fail h).elim
    · rename_i hcal
      split at h
      · rename_i x rr hx
        obtain⟨u,h1,e1,e2⟩:=val h
        have:=maxS_spec (ℓ:=ℓ) _ _ _ (Tr.mean_of h1)
        refine plain ⟨fun c'=> ?_,e2⟩
        have ev':evO (dF ℓ fr)=fun x=>dV ℓ (evS fr x):=funext fun x=>(evS_d ℓ fr x).symm
        simp only[stepOp,hcal]
        rw[ev',show c.args.toList.map (fun x=>dV ℓ (evS fr x))=(c.args.toList.map (evS fr)).map (dV ℓ)from by rw[List.map_map];rfl,hx]
        simp only[List.map_cons,one,this,e1,Option.map_some]
      · exact(Tr.mean_fail h).elim
    · exact(Tr.mean_fail h).elim
  |_=>exact(Tr.mean_fail h).elim
end
end Go.Abs
set_option linter.unusedSimpArgs false
set_option linter.unusedVariables false
namespace Go.Abs
open Go
section
variable{P:Program}{N:FuncId→Note}{ℓ:Lens}
theorem stepOp_nocall{o:Oper}{fr:Fr}{H:Heap}{slot:Nat}(hm:makes o.op=false)(c c':CL):stepOp P N c o fr H slot=stepOp P N c' o fr H slot:=by
  obtain⟨dst,op,type,pos,after,guard⟩:=o
  cases op with
  | call cl=>
    simp only[stepOp]
    cases hcal:cl.callee with
    | value f=>
      obtain⟨callee,args,argTypes⟩:=cl
      simp only at hcal
      subst hcal
      cases hm
    |builtin b=>cases b<;>rfl
    |invoke r m=>rfl
  |makeFunc fn first caps=>cases fn<;>rfl
  |makeMap t rv=>cases rv<;>rfl
  |_=>rfl
theorem getS_group{H:SHeap}{slot:Nat}{new:List SB}(h:H[slot]?=some []):(∀g b,getS H g=some b→getS (H.set slot new) g=some b)∧∀(k:Nat) (b:SB),new[k]?=some b→getS (H.set slot new) (slot,k)=some b:=by
  have hlt:slot<H.length:=(List.getElem?_eq_some_iff.1 h).1
  refine⟨fun g b hg=> ?_,fun k b hk=> ?_⟩
  · by_cases e:slot=g.1
    · simp only[getS,←e,h]at hg
      simp at hg
    · simp only[getS]at hg ⊢
      rw[List.getElem?_set_ne e]
      exact hg
  · simp[getS,hlt,hk]
theorem newGroupS_spec {H H':SHeap} {slot:Nat} {mk:Bool} {new:List SB} (h:newGroupS H slot mk new=some H'):
    (∀ℓ:Lens,newGroup (dH ℓ H) slot mk (new.map (dN ℓ))=some (dH ℓ H'))∧(∀ℓ,Agr ℓ H'→Agr ℓ H∧NewOK ℓ slot new)∧(new≠ []→H[slot]?=some []):=by
  cases mk with
  | true=>
    simp only[newGroupS]at h
    split at h
    · rename_i hs
      split at h
      · rename_i hal
        cases h
        have hal:∀b∈new,b.alive=true:=by simpa using hal
        obtain⟨h1,h2⟩:=getS_group (new:=new) hs
        refine⟨fun ℓ=> ?_,fun ℓ ha=>⟨fun g b hg=>ha g b (h1 g b hg),fun k b hk=>ha _ b (h2 k b hk)⟩,fun _=>hs⟩
        simp only[newGroup,if_true,dH,List.map_set,List.map_map]
        congr 2
        refine List.map_congr_left fun b hb=> ?_
        simp only[Function.comp,dN_alive (hal b hb)]
      · cases h
    · cases h
  | false=>
    simp only[newGroupS]at h
    split at h
    · cases h
      exact⟨fun ℓ=>rfl,fun ℓ ha=>⟨ha,fun k b hk=>by simp at hk⟩,fun e=>absurd rfl e⟩
    · cases h
theorem group_putAllS {slot:Nat}:∀(wr:List (Nm×SB)) (H:SHeap),(putAllS H wr)[slot]?=some []→H[slot]?=some []:=by
  intro wr
  induction wr with
  |nil=>intro H h;exact h
  | cons p r ih=>
    intro H h
    obtain⟨g,b⟩:=p
    have:=ih _ h
    unfold setS at this
    by_cases e:g.1=slot
    · subst e
      cases hl:H[g.1]? with
      |none=>simp[hl]at this
      | some l=>
        simp[hl]at this
        rw[this]
    · rw[List.getElem?_modify_ne _ _ e]at this
      exact this
theorem lenOK_of{call:FuncId→SCall}(hc:∀f,CallOK P f (call f)){o:Oper}{fr:SFr}{H H':SHeap}{slot:Nat}{mk:Bool}{r:SRes}(h:(stepOpS P N call o fr H slot).mean=some r)(hg:newGroupS (putAllS H r.wr) slot mk r.new=some H'):LenOK H r.wr:=by
  let l:Lens:=fun g=>match getS H g with
    |some b=>b.len
    | none=>match r.new[g.2]? with
      |some b=>b.len
      |none=>0
  have ha:Agr l H:=fun g b hb=>by show(match getS H g with|some b=>b.len|none=>_)=_;rw[hb]
  have hn:NewOK l slot r.new:=by
    intro k b hk
    have hs:=group_putAllS r.wr H ((newGroupS_spec hg).2.2 (fun e=>by rw[e]at hk;simp at hk))
    show(match getS H (slot,k)with|some b=>b.len|none=>match r.new[k]? with|some b=>b.len|none=>0)=_
    have:getS H (slot,k)=none:=by simp[getS,hs]
    rw[this,hk]
  exact(stepOpS_spec hc ha h hn).choose_spec.2.2
def EnvIs(E:SEnv)(E':Env):Prop:=E'.P=E.P∧E'.N=E.N∧E'.nt=E.nt∧E'.locs=E.locs∧E'.pairs=E.pairs∧E'.keep=E.keep
theorem putDst_dF(fr:SFr)(d:Option Nat)(v:SV):putDst (dF ℓ fr) d (dV ℓ v)=dF ℓ (putDstS fr d v):=by
  cases d with
  |none=>rfl
  |some d=>exact(ins_dF ℓ d v fr).symm
variable{E:SEnv}{ops:Array Oper}{base:Nat}
theorem setLit_same{x:SV}{d:Nat}:∀(fr:SFr),lookS fr d=x→setLit x d fr=fr:=by
  intro fr
  induction fr with
  |nil=>intro _;rfl
  | cons p r ih=>
    intro h
    obtain⟨s,y⟩:=p
    simp only[lookS]at h
    simp only[setLit]
    split at h
    · rename_i e;rw[if_pos e,h]
    · rename_i e;rw[if_neg e,ih h]
theorem stepIS_spec {call:Nat→FuncId→SCall} {i:Nat} (hc:∀f,CallOK E.P f (call i f)) {s s':SSt} {x:Option SRes} (h:(stepIS E call ops base i s).mean=some (s',x)) (ha':Agr ℓ s'.hp):
    Agr ℓ s.hp∧∃c:CL,Sound E.P c∧∀E':Env,EnvIs E E'→(makesAt ops i=true→E'.call (slotOf ops base i)=c)→stepI E' ops base i (dS ℓ s)=some (dS ℓ s',x.map (dR ℓ)):=by
  unfold stepIS at h
  split at h
  · rename_i ho
    have:=Tr.mean_ret h
    cases this
    refine⟨ha',fun _ _ _=>none,none_sound,fun E' _ _=> ?_⟩
    unfold stepI
    simp only[ho,Option.map_none]
  · rename_i o ho
    obtain⟨hd,h⟩:=Tr.mean_when h
    simp only at h
    have skip:∀h:(Tr.ret (({s with fr:=putDstS s.fr o.dst (.tup [])}:SSt),(none:Option SRes))).mean=some (s',x),goesOn ops (dS ℓ s).fr o=some false→
        Agr ℓ s.hp∧∃c:CL,Sound E.P c∧∀E':Env,EnvIs E E'→(makesAt ops i=true→E'.call (slotOf ops base i)=c)→stepI E' ops base i (dS ℓ s)=some (dS ℓ s',x.map (dR ℓ)):=by
      intro h hgo
      have:=Tr.mean_ret h
      cases this
      refine⟨ha',fun _ _ _=>none,none_sound,fun E' hE _=> ?_⟩
      unfold stepI
      simp only[ho,hE.2.2.1]
      rw[if_pos hd]
      simp only[hgo,Option.map_none]
      have:=putDst_dF (ℓ:=ℓ) s.fr o.dst (.tup [])
      simp only[dV_tup,List.map_nil]at this
      simp only[dS,this]
    have doit:((stepOpS E.P E.N (call i) o s.fr s.hp (slotOf ops base i)).bind fun r=>
        match newGroupS (putAllS s.hp r.wr) (slotOf ops base i) (makes o.op) r.new with
        |some H=>Tr.ret (({fr:=putDstS s.fr o.dst r.val,hp:=H}:SSt),some r)
        |none=>.fail).mean=some (s',x)→goesOn ops (dS ℓ s).fr o=some true→
        Agr ℓ s.hp∧∃c:CL,Sound E.P c∧∀E':Env,EnvIs E E'→(makesAt ops i=true→E'.call (slotOf ops base i)=c)→stepI E' ops base i (dS ℓ s)=some (dS ℓ s',x.map (dR ℓ)):=by
      intro h hgo
      obtain⟨r,h1,h2⟩:=Tr.mean_bind h
      split at h2
      · rename_i H hH
        have:=Tr.mean_ret h2
        cases this
        obtain⟨g1,g2,g3⟩:=newGroupS_spec hH
        have hlen:=lenOK_of hc h1 hH
        obtain⟨a1,a2⟩:=g2 ℓ ha'
        have a0:=a1.putAllS hlen
        obtain⟨c,c1,c2,_⟩:=stepOpS_spec hc a0 h1 a2
        refine⟨a0,c,c1,fun E' hE hcall=> ?_⟩
        unfold stepI
        simp only[ho,hE.1,hE.2.1,hE.2.2.1]
        rw[if_pos hd]
        simp only[hgo]
        have hop:stepOp E.P E.N (E'.call (slotOf ops base i)) o (dS ℓ s).fr (dS ℓ s).hp (slotOf ops base i)=some (dR ℓ r):=by
          cases hm:makes o.op with
          |true=>rw[hcall (by rw[makesAt_some ho];exact hm)];exact c2
          |false=>rw[stepOp_nocall hm _ c];exact c2
        rw[hop]
        simp only
        have:=g1 ℓ
        rw[dH_putAllS]at this
        rw[show newGroup (putAll (dS ℓ s).hp (dR ℓ r).wr) (slotOf ops base i) (makes o.op) (dR ℓ r).new=some (dH ℓ H)from this]
        simp only[Option.map_some,dS,←putDst_dF]
        rfl
      · exact(Tr.mean_fail h2).elim
    split at h
    · rename_i hg
      exact doit h (by simp[goesOn,hg])
    · rename_i j want hg
      split at h
      · rename_i d hdj
        have hlook:look (dS ℓ s).fr d=dV ℓ (lookS s.fr d):=look_dF ℓ s.fr d
        split at h
        · rename_i b hb
          have hgo:goesOn ops (dS ℓ s).fr o=some (b==want):=by
            simp only[goesOn,hg,hdj,hlook,hb,dV_bool]
          cases want with
          | true=>
            cases b with
            |true=>simp only[Tr.mean,cond_true,setLit_same _ hb]at h;exact doit h hgo
            |false=>simp only[Tr.mean,cond_false,setLit_same _ hb]at h;exact skip h hgo
          | false=>
            cases b with
            |true=>simp only[Tr.mean,cond_true,setLit_same _ hb]at h;exact skip h hgo
            |false=>simp only[Tr.mean,cond_false,setLit_same _ hb]at h;exact doit h hgo
        · rename_i hb
          exact skip h (by simp only[goesOn,hg,hdj,hlook,hb,dV_tup,List.map_nil])
        · exact(Tr.mean_fail h).elim
      · exact(Tr.mean_fail h).elim
theorem runLS_spec {call:Nat→FuncId→SCall} (hc:∀i f,CallOK E.P f (call i f)):∀(l:List Nat) (s s':SSt) (xs:List (Option SRes)),(runLS E call ops base l s).mean=some (s',xs)→l.Pairwise (· < ·)→Agr ℓ s'.hp→
    Agr ℓ s.hp∧∃calls:Nat→CL,(∀k,Sound E.P (calls k))∧∀E':Env,EnvIs E E'→(∀i∈l,makesAt ops i=true→E'.call (slotOf ops base i)=calls (slotOf ops base i))→
      runL E' ops base l (dS ℓ s)=some (dS ℓ s',xs.map (Option.map (dR ℓ))):=by
  intro l
  induction l with
  | nil=>
    intro s s' xs h _ ha
    have:=Tr.mean_ret h
    cases this
    exact⟨ha,fun _ _ _ _=>none,fun _=>none_sound,fun E' _ _=>rfl⟩
  | cons i r ih=>
    intro s s' xs h hp ha
    simp only[runLS]at h
    obtain⟨⟨s1,x⟩,h1,h⟩:=Tr.mean_bind h
    obtain⟨⟨s2,ys⟩,h2,h⟩:=Tr.mean_bind h
    have:=Tr.mean_ret h
    cases this
    rw[List.pairwise_cons]at hp
    obtain⟨a1,calls,c1,c2⟩:=ih s1 _ _ h2 hp.2 ha
    obtain⟨a0,c,c3,c4⟩:=stepIS_spec (hc i) h1 a1
    refine⟨a0,fun k=>if k=slotOf ops base i∧makesAt ops i=true then c else calls k,fun k=> ?_,fun E' hE hcall=> ?_⟩
    · simp only
      split
      · exact c3
      · exact c1 k
    · simp only[runL]
      rw[c4 E' hE (fun hm=>by rw[hcall i (by simp) hm];exact if_pos ⟨rfl,hm⟩)]
      simp only
      rw[c2 E' hE (fun j hj hm=> ?_)]
      · rfl
      · rw[hcall j (by simp[hj]) hm]
        show(if slotOf ops base j=slotOf ops base i∧makesAt ops i=true then c else calls (slotOf ops base j))=_
        split
        · rename_i hh
          exact absurd hh.1 (Ne.symm (slotOf_ne (Nat.ne_of_lt (hp.1 j hj)) hh.2 hm))
        · rfl
theorem apart3_names{i j:Nat}{x y:Option SRes}:apart3 ops base i j (x.map (dR ℓ)) (y.map (dR ℓ))=apart3 ops base i j (x.map resN) (y.map resN):=by
  have hw:∀r:SRes,(dR ℓ r).wr.map (·.1)=(resN r).wr.map (·.1):=fun r=>by simp[dR,resN,dW]
  have hr:∀r:SRes,(dR ℓ r).rd=(resN r).rd:=fun r=>rfl
  cases x<;>cases y<;>simp only[apart3,apart2,noSlot,Option.map_none,Option.map_some,hw,hr]
theorem clear_dF(locs:List Nat)(fr:SFr):clear locs (dF ℓ fr)=dF ℓ (clearS locs fr):=by
  simp only[clear,clearS,dF,List.filter_map]
  rfl
theorem Agr.more{H:SHeap}{n:Nat}(h:Agr ℓ (H++List.replicate n [])):Agr ℓ H:=h.append
theorem runRegionS_spec {call:Nat→FuncId→SCall} (hc:∀i f,CallOK E.P f (call i f)) {id:Nat} {ops:Array Oper} {draw:Bool} {s s':SSt} (h:(runRegionS E call id ops draw s).mean=some s') (ha:Agr ℓ s'.hp):
    Agr ℓ s.hp∧∃calls:Nat→CL,(∀k,Sound E.P (calls k))∧∀E':Env,EnvIs E E'→E'.call=calls→runRegion E' id ops draw (dS ℓ s)=some (dS ℓ s'):=by
  unfold runRegionS at h
  obtain⟨⟨s1,xs⟩,h1,h2⟩:=Tr.mean_bind h
  split at h2
  · exact(Tr.mean_fail h2).elim
  · rename_i hd
    have:=Tr.mean_ret h2
    subst this
    obtain⟨a1,calls,c1,c2⟩:=runLS_spec (ℓ:=ℓ) hc _ _ _ _ h1 List.pairwise_lt_range ha
    refine⟨a1.more,calls,c1,fun E' hE hcall=> ?_⟩
    have:=c2 E' hE (fun i _ _=>by rw[hcall])
    unfold runRegion
    have hrep:dH ℓ (s.hp++List.replicate (nMakes ops) [])=(dS ℓ s).hp++List.replicate (nMakes ops) []:=by
      rw[dH_append]
      simp[dS,dH]
    have hlen:(dS ℓ s).hp.length=s.hp.length:=length_dH ℓ s.hp
    rw[hlen]
    have e:({dS ℓ s with hp:=(dS ℓ s).hp++List.replicate (nMakes ops) []}:St)=dS ℓ {s with hp:=s.hp++List.replicate (nMakes ops) []}:=by
      simp only[dS]at hrep ⊢
      rw[hrep]
    rw[e,this]
    simp only
    have hpairs:((E'.pairs id).all fun p=>apart3 ops s.hp.length p.1 p.2 ((xs.map (Option.map (dR ℓ))).getD p.1 none) ((xs.map (Option.map (dR ℓ))).getD p.2 none))=
        (E.pairs id).all fun q=>apart3 ops s.hp.length q.1 q.2 ((xs.getD q.1 none).map resN) ((xs.getD q.2 none).map resN):=by
      rw[hE.2.2.2.2.1]
      congr 1
      funext p
      have hgd:∀i,(xs.map (Option.map (dR ℓ))).getD i none=(xs.getD i none).map (dR ℓ):=fun i=>by
        simp only[List.getD_eq_getElem?_getD,List.getElem?_map]
        cases xs[i]?<;>rfl
      rw[hgd,hgd,apart3_names]
    rw[hpairs,if_neg (by simpa using hd)]
    simp only[dS,hE.2.2.2.1,clear_dF]
def validV(H:SHeap)(v:SV):Bool:=(refsVS v).all fun g=>(getS H g).isSome
def validA(H:SHeap)(v:SV):Bool:=(refsAS v).all fun g=>(getS H g).isSome
def validB(H:SHeap):SB→Bool
  | .box _ v=>validA H v
  |_=>true
def validS(s:SSt):Bool:=(s.fr.all fun p=>validV s.hp p.2)&&s.hp.all fun l=>l.all (validB s.hp)
section
variable{ℓ':Lens}
theorem d1_congr{v:SV}(h:∀g∈refs1S v,ℓ g=ℓ' g):d1 ℓ v=d1 ℓ' v:=by
  cases v with
  |own t g=>simp only[d1,h g (by simp[refs1S])]
  |_=>rfl
theorem map_congr'{d d':SV→AV}{rf:SV→List Nm}(hd:∀v,(∀g∈rf v,ℓ g=ℓ' g)→d v=d' v){l:List SV}(h:∀g∈l.flatMap rf,ℓ g=ℓ' g):l.map d=l.map d':=
  List.map_congr_left fun v hv=>hd v fun g hg=>h g (List.mem_flatMap.2 ⟨v,hv,hg⟩)
theorem dC_congr{v:SV}(h:∀g∈refsCS v,ℓ g=ℓ' g):dC ℓ v=dC ℓ' v:=by
  cases v with
  |clo f cs=>simp only[dC];rw[map_congr' (fun v hv=>d1_congr hv) h]
  |own t g=>exact d1_congr (v:=.own t g) h
  |_=>rfl
theorem dA_congr{v:SV}(h:∀g∈refsAS v,ℓ g=ℓ' g):dA ℓ v=dA ℓ' v:=by
  cases v with
  |agg cs=>simp only[dA];rw[map_congr' (fun v hv=>dC_congr hv) h]
  |clo f cs=>exact dC_congr (v:=.clo f cs) h
  |own t g=>exact d1_congr (v:=.own t g) h
  |_=>rfl
theorem dV_congr{v:SV}(h:∀g∈refsVS v,ℓ g=ℓ' g):dV ℓ v=dV ℓ' v:=by
  cases v with
  |tup vs=>simp only[dV];rw[map_congr' (fun v hv=>dA_congr hv) h]
  |agg cs=>exact dA_congr (v:=.agg cs) h
  |clo f cs=>exact dA_congr (v:=.clo f cs) h
  |own t g=>exact d1_congr (v:=.own t g) h
  |_=>rfl
theorem agr_eq{H:SHeap}(ha:Agr ℓ H)(hb:Agr ℓ' H){g:Nm}(h:(getS H g).isSome=true):ℓ g=ℓ' g:=by
  obtain⟨b,hb'⟩:=Option.isSome_iff_exists.1 h
  rw[ha g b hb',hb g b hb']
theorem dS_congr{s:SSt}(hv:validS s=true)(ha:Agr ℓ s.hp)(hb:Agr ℓ' s.hp):dS ℓ s=dS ℓ' s:=by
  simp only[validS,Bool.and_eq_true,List.all_eq_true]at hv
  obtain⟨h1,h2⟩:=hv
  simp only[dS,dF,dH]
  congr 1
  · refine List.map_congr_left fun p hp=> ?_
    rw[dV_congr fun g hg=>agr_eq ha hb ((List.all_eq_true.1 (h1 p hp)) g hg)]
  · refine List.map_congr_left fun l hl=>List.map_congr_left fun b hb'=> ?_
    have:=h2 l hl b hb'
    cases b with
    |box sz v=>simp only[dB,dA_congr fun g hg=>agr_eq ha hb ((List.all_eq_true.1 this) g hg)]
    |_=>rfl
end
end
end Go.Abs
set_option linter.unusedSimpArgs false
set_option linter.unusedVariables false
namespace Go.Abs
open Go
def loopN {A D:Type} (f:A→Option (A⊕D)):Nat→A→Option D
  |0,_=>none
  | n+1,a=>match f a with
    |some (.inl a')=>loopN f n a'
    |some (.inr d)=>some d
    |none=>none
open Classical in
noncomputable def loopT{A D:Type}(f:A→Option (A⊕D))(a:A):Option D:=
  match loopN f 4096 a with
  |some d=>some d
  |none=>if h:∃d,∃n,loopN f n a=some d then some h.choose else none
section
variable{A D:Type}{f:A→Option (A⊕D)}
theorem loopN_succ:∀(n:Nat) (a:A) (d:D),loopN f n a=some d→loopN f (n+1) a=some d:=by
  intro n
  induction n with
  |zero=>intro a d h;cases h
  | succ n ih=>
    intro a d h
    rw[loopN]at h ⊢
    split at h
    · rename_i a' e;exact ih a' d h
    · exact h
    · cases h
theorem loopN_le{n m:Nat}(hle:n≤m){a:A}{d:D}(h:loopN f n a=some d):loopN f m a=some d:=by
  induction hle with
  |refl=>exact h
  |step _ ih=>exact loopN_succ _ _ _ ih
theorem loopN_det{n m:Nat}{a:A}{d e:D}(h:loopN f n a=some d)(h':loopN f m a=some e):d=e:=by
  have h1:=loopN_le (Nat.le_max_left n m) h
  have h2:=loopN_le (Nat.le_max_right n m) h'
  rw[h1]at h2
  exact Option.some.inj h2
theorem loopT_iff{a:A}{d:D}:loopT f a=some d↔∃n,loopN f n a=some d:=by
  unfold loopT
  split
  · rename_i e he
    exact⟨fun h=>⟨_,h ▸ he⟩,fun⟨n,h⟩=>by rw[loopN_det he h]⟩
  constructor
  · intro h
    split at h
    · rename_i hh
      cases h
      exact hh.choose_spec
    · cases h
  · rintro⟨n,h⟩
    have hh:∃d,∃n,loopN f n a=some d:=⟨d,n,h⟩
    rw[dif_pos hh]
    obtain⟨m,hm⟩:=hh.choose_spec
    have h1:=loopN_le (Nat.le_max_left n m) h
    have h2:=loopN_le (Nat.le_max_right n m) hm
    rw[h1]at h2
    exact h2.symm
theorem loopT_inr{a:A}{d:D}(h:f a=some (.inr d)):loopT f a=some d:=loopT_iff.2 ⟨1,by rw[loopN,h]⟩
theorem loopT_inl{a a':A}(h:f a=some (.inl a')):loopT f a=loopT f a':=by
  have key:∀d,loopT f a=some d↔loopT f a'=some d:=by
    intro d
    rw[loopT_iff,loopT_iff]
    constructor
    · rintro⟨n,hn⟩
      cases n with
      |zero=>cases hn
      |succ n=>rw[loopN,h]at hn;exact⟨n,hn⟩
    · rintro⟨n,hn⟩
      exact⟨n+1,by rw[loopN,h];exact hn⟩
  cases h1:loopT f a' with
  | none=>
    cases h2:loopT f a with
    |none=>rfl
    |some d=>rw[(key d).1 h2]at h1;cases h1
  |some d=>exact(key d).2 h1
end
def Outs.fit (m:Nat):(o:Outs)→Ex→SSt→Tr o.den
  | .one e σ,e',s=>.when (exEq e e') (Abs.fit m σ s)
  | .more e σ r,e',s=>match exEq e e' with
    |true=>(Abs.fit m σ s).map .inl
    |false=>(Outs.fit m r e' s).map .inr
def Outs.split{α:Type}:(o:Outs)→o.den→(Ex→SSt→Tr α)→Tr α
  | .one e σ,d,k=>k e (σ.un d)
  | .more e σ r,d,k=>.cs d (fun x=>k e (σ.un x)) (fun y=>Outs.split r y k)
theorem exEq_spec{a b:Ex}(h:exEq a b=true):a=b:=by
  cases a<;>cases b<;>first|rfl|(cases h;done)|(simp[exEq]at h;rw[h])
theorem Outs.spec{α:Type}{m:Nat}{e:Ex}{s:SSt}{k:Ex→SSt→Tr α}{r:α}:∀(o:Outs) (d:o.den),(o.fit m e s).mean=some d→(o.split d k).mean=some r→
    ∃(σ:Sg) (v:σ.den),(Abs.fit m σ s).mean=some v∧(k e (σ.un v)).mean=some r:=by
  intro o
  induction o with
  | one e' σ=>
    intro d h1 h2
    obtain⟨h3,h4⟩:=Tr.mean_when h1
    have:=exEq_spec h3
    subst this
    exact⟨σ,d,h4,h2⟩
  | more e' σ r ih=>
    intro d h1 h2
    simp only[Outs.fit]at h1
    split at h1
    · rename_i h3
      have:=exEq_spec h3
      subst this
      obtain⟨v,h4,rfl⟩:=Tr.mean_map h1
      exact⟨σ,v,h4,h2⟩
    · obtain⟨v,h4,rfl⟩:=Tr.mean_map h1
      exact ih v h4 h2
structure LAn where
  σ:Sg
  outs:Outs
structure FAn where
  reg:Nat→Option Sg:=fun _=>none
  seq:Nat→Option (Sg×Option Outs):=fun _=>none
  loop:Nat→Option LAn:=fun _=>none
  inl:Nat→Nat→Nat:=fun _ _=>0
noncomputable def execS(E:SEnv)(call:Nat→Nat→FuncId→SCall)(an:FAn):Code→SSt→Tr (Ex×SSt)
  | .skip,s=>.ret (.normal,s)
  | .region id ops draw,s=>match an.reg id with
    |none=>(runRegionS E (call id) id ops draw s).bind fun s=>.ret (.normal,s)
    |some σ=>.ask ((runRegionS E (call id) id ops draw s).bind fun s=>fit E.keep σ s).mean fun v=>.ret (.normal,σ.un v)
  | .seq a b,s=>match an.seq (firstId b)with
    | none=>(execS E call an a s).bind fun p=>match p.1 with
      | .normal=>execS E call an b p.2
      |e=>.ret (e,p.2)
    | some (σ,none)=>.ask ((execS E call an a s).bind fun p=>match p.1 with
      | .normal=>fit E.keep σ p.2
      |_=>.fail).mean fun v=>execS E call an b (σ.un v)
    | some (σ,some o)=>.ask ((execS E call an a s).bind fun p=>match p.1 with
      | .normal=>(fit E.keep σ p.2).bind fun v=>.ret (Sum.inl v)
      |e=>(o.fit E.keep e p.2).bind fun d=>.ret (Sum.inr d)).mean fun r=>.cs r (fun v=>execS E call an b (σ.un v)) (fun d=>o.split d fun e s=>.ret (e,s))
  | .cond c a b,s=>match evS s.fr c with
    | .bool p=>.br p (execS E call an a s) (execS E call an b s)
    |_=>.fail
  | .block id b,s=>(execS E call an b s).bind fun p=>.ret (leave id p.1,p.2)
  | .scope b,s=>execS E call an b s
  | .loop b,s=>match an.loop (firstId b)with
    |some la=>(fit E.keep la.σ s).bind fun v=>.ask (loopT (fun v=>((execS E call an b (la.σ.un v)).bind fun p=>match p.1 with
        | .normal=>(fit E.keep la.σ p.2).bind fun v=>.ret (Sum.inl v)
        |e=>(la.outs.fit E.keep e p.2).bind fun d=>.ret (Sum.inr d)).mean) v) fun d=>la.outs.split d fun e s=>.ret (e,s)
    |none=>.fail
  | .exit id,s=>.ret (.exit id,s)
  | .label _,s=>.ret (.normal,s)
  | .ret,s=>.ret (.ret,s)
  |_,_=>.fail
theorem Tr.mean_ask{α A:Type}{m:Option A}{k:A→Tr α}{b:α}(h:(Tr.ask m k).mean=some b):∃a,m=some a∧(k a).mean=some b:=Option.bind_eq_some_iff.1 h
section
variable{E:SEnv}{call:Nat→Nat→FuncId→SCall}{an:FAn}
theorem execS_spec (hm:E.P.follows .mixedOrders=true) (hc:∀r i f,CallOK E.P f (call r i f)):∀(c:Code),okCode E.pairs c=true→∀(s s':SSt) (e:Ex),(execS E call an c s).mean=some (e,s')→∀ℓ':Lens,Agr ℓ' s'.hp→
    ∃ℓ,Agr ℓ s.hp∧To E.P E.nt E.keep c (dS ℓ s) e (dS ℓ' s'):=by
  have fitted:∀{c:Code} {s s1 s':SSt} {e:Ex} {σ:Sg} {v:σ.den},(∀ℓ':Lens,Agr ℓ' s1.hp→∃ℓ,Agr ℓ s.hp∧To E.P E.nt E.keep c (dS ℓ s) e (dS ℓ' s1))→(fit E.keep σ s1).mean=some v→σ.un v=s'→
      ∀ℓ':Lens,Agr ℓ' s'.hp→∃ℓ,Agr ℓ s.hp∧To E.P E.nt E.keep c (dS ℓ s) e (dS ℓ' s'):=by
    intro c s s1 s' e σ v h hf hs ℓ' ha
    subst hs
    obtain⟨l1,a1,w1⟩:=fit_spec (nt:=E.nt) hf ha
    obtain⟨l0,a0,t0⟩:=h l1 a1
    exact⟨l0,a0,t0.post w1⟩
  intro c
  induction c with
  | skip=>
    intro _ s s' e h ℓ' ha
    have:=Tr.mean_ret h
    cases this
    exact⟨ℓ',ha,To.skip⟩
  | label l=>
    intro _ s s' e h ℓ' ha
    have:=Tr.mean_ret h
    cases this
    exact⟨ℓ',ha,To.label⟩
  | exit id=>
    intro _ s s' e h ℓ' ha
    have:=Tr.mean_ret h
    cases this
    exact⟨ℓ',ha,To.exit⟩
  | ret=>
    intro _ s s' e h ℓ' ha
    have:=Tr.mean_ret h
    cases this
    exact⟨ℓ',ha,To.ret⟩
  | region id ops draw=>
    intro hok s s' e h
    have run:∀s1,(runRegionS E (call id) id ops draw s).mean=some s1→∀ℓ':Lens,Agr ℓ' s1.hp→∃ℓ,Agr ℓ s.hp∧To E.P E.nt E.keep (.region id ops draw) (dS ℓ s) .normal (dS ℓ' s1):=by
      intro s1 h1 ℓ' ha
      obtain⟨a1,calls,c1,c2⟩:=runRegionS_spec (ℓ:=ℓ') (hc id) h1 ha
      refine⟨ℓ',a1,?_⟩
      have:=c2 ⟨E.P,E.N,calls,E.nt,E.locs,E.pairs,E.keep⟩ ⟨rfl,rfl,rfl,rfl,rfl,rfl⟩ rfl
      exact To.region (E:=⟨E.P,E.N,calls,E.nt,E.locs,E.pairs,E.keep⟩) c1 hm hok this
    simp only[execS]at h
    split at h
    · obtain⟨s1,h1,h2⟩:=Tr.mean_bind h
      have:=Tr.mean_ret h2
      simp only[Prod.mk.injEq]at this
      obtain⟨rfl,rfl⟩:=this
      exact run _ h1
    · obtain⟨v,h1,h2⟩:=Tr.mean_ask h
      have:=Tr.mean_ret h2
      cases this
      obtain⟨s1,h3,h4⟩:=Tr.mean_bind h1
      exact fitted (run s1 h3) h4 rfl
  | seq x y ihx ihy=>
    intro hok s s' e h
    simp only[okCode,Bool.and_eq_true]at hok
    have both:∀{s1:SSt},(∀ℓ':Lens,Agr ℓ' s1.hp→∃ℓ,Agr ℓ s.hp∧To E.P E.nt E.keep x (dS ℓ s) .normal (dS ℓ' s1))→(execS E call an y s1).mean=some (e,s')→
        ∀ℓ':Lens,Agr ℓ' s'.hp→∃ℓ,Agr ℓ s.hp∧To E.P E.nt E.keep (.seq x y) (dS ℓ s) e (dS ℓ' s'):=by
      intro s1 h1 h2 ℓ' ha
      obtain⟨l1,a1,t1⟩:=ihy hok.2 s1 s' e h2 ℓ' ha
      obtain⟨l0,a0,t0⟩:=h1 l1 a1
      exact⟨l0,a0,t0.seq t1⟩
    have out:∀{e1:Ex} {s1:SSt},e1≠ .normal→(∀ℓ':Lens,Agr ℓ' s1.hp→∃ℓ,Agr ℓ s.hp∧To E.P E.nt E.keep x (dS ℓ s) e1 (dS ℓ' s1))→
        ∀ℓ':Lens,Agr ℓ' s1.hp→∃ℓ,Agr ℓ s.hp∧To E.P E.nt E.keep (.seq x y) (dS ℓ s) e1 (dS ℓ' s1):=by
      intro e1 s1 he h1 ℓ' ha
      obtain⟨l0,a0,t0⟩:=h1 ℓ' ha
      exact⟨l0,a0,t0.seq_out he⟩
    simp only[execS]at h
    split at h
    · obtain⟨⟨e1,s1⟩,h1,h2⟩:=Tr.mean_bind h
      cases e1 with
      |normal=>exact both (ihx hok.1 s s1 _ h1) h2
      | exit id=>
        have:=Tr.mean_ret h2
        cases this
        exact out (fun e=>by cases e) (ihx hok.1 s s1 _ h1)
      | ret=>
        have:=Tr.mean_ret h2
        cases this
        exact out (fun e=>by cases e) (ihx hok.1 s s1 _ h1)
    · obtain⟨v,h1,h2⟩:=Tr.mean_ask h
      obtain⟨⟨e1,s1⟩,h3,h4⟩:=Tr.mean_bind h1
      cases e1 with
      |normal=>exact both (fitted (ihx hok.1 s s1 _ h3) h4 rfl) h2
      |exit id=>exact(Tr.mean_fail h4).elim
      |ret=>exact(Tr.mean_fail h4).elim
    · rename_i σ o _
      obtain⟨rr,h1,h2⟩:=Tr.mean_ask h
      obtain⟨⟨e1,s1⟩,h3,h4⟩:=Tr.mean_bind h1
      have left:∀{e1:Ex},e1≠ .normal→(execS E call an x s).mean=some (e1,s1)→((o.fit E.keep e1 s1).bind fun d=>.ret (Sum.inr d)).mean=some rr→
          ∀ℓ':Lens,Agr ℓ' s'.hp→∃ℓ,Agr ℓ s.hp∧To E.P E.nt E.keep (.seq x y) (dS ℓ s) e (dS ℓ' s'):=by
        intro e1 he h3 h4
        obtain⟨d,h5,h6⟩:=Tr.mean_bind h4
        have:=Tr.mean_ret h6
        subst this
        obtain⟨σ',v,h7,h8⟩:=Outs.spec o d h5 h2
        have:=Tr.mean_ret h8
        cases this
        exact out he (fitted (ihx hok.1 s s1 _ h3) h7 rfl)
      cases e1 with
      | normal=>
        obtain⟨v,h5,h6⟩:=Tr.mean_bind h4
        have:=Tr.mean_ret h6
        subst this
        exact both (fitted (ihx hok.1 s s1 _ h3) h5 rfl) h2
      |exit id=>exact left (fun e=>by cases e) h3 h4
      |ret=>exact left (fun e=>by cases e) h3 h4
  | cond c x y ihx ihy=>
    intro hok s s' e h ℓ' ha
    simp only[okCode,Bool.and_eq_true]at hok
    simp only[execS]at h
    split at h
    · rename_i p hp
      have hev:∀ℓ,evO (dS ℓ s).fr c= .bool p:=fun ℓ=>by
        rw[show evO (dS ℓ s).fr c=dV ℓ (evS s.fr c)from(evS_d ℓ s.fr c).symm,hp];rfl
      cases p with
      | true=>
        obtain⟨l0,a0,t0⟩:=ihx hok.1 s s' e h ℓ' ha
        exact⟨l0,a0,To.cond (hev l0) (by simpa using t0)⟩
      | false=>
        obtain⟨l0,a0,t0⟩:=ihy hok.2 s s' e h ℓ' ha
        exact⟨l0,a0,To.cond (hev l0) (by simpa using t0)⟩
    · exact(Tr.mean_fail h).elim
  | block id b ih=>
    intro hok s s' e h ℓ' ha
    obtain⟨⟨e1,s1⟩,h1,h2⟩:=Tr.mean_bind h
    have:=Tr.mean_ret h2
    cases this
    obtain⟨l0,a0,t0⟩:=ih (by simpa[okCode]using hok) s s1 e1 h1 ℓ' ha
    exact⟨l0,a0,t0.block⟩
  | scope b ih=>
    intro hok s s' e h ℓ' ha
    obtain⟨l0,a0,t0⟩:=ih (by simpa[okCode]using hok) s s' e h ℓ' ha
    exact⟨l0,a0,t0.scope⟩
  | loop b ih =>
    intro hok s s' e h
    have hok':okCode E.pairs b=true:=by simpa[okCode]using hok
    simp only[execS]at h
    split at h
    · rename_i la hla
      obtain⟨v,h1,h2⟩:=Tr.mean_bind h
      obtain⟨d,h3,h4⟩:=Tr.mean_ask h2
      obtain⟨n,hn⟩:=loopT_iff.1 h3
      have key:∀(n:Nat) (v:la.σ.den),loopN (fun v=>((execS E call an b (la.σ.un v)).bind fun p=>match p.1 with
          | .normal=>(fit E.keep la.σ p.2).bind fun v=>.ret (Sum.inl v)
          |e=>(la.outs.fit E.keep e p.2).bind fun d=>.ret (Sum.inr d)).mean) n v=some d→
          ∀ℓ':Lens,Agr ℓ' s'.hp→∃ℓ,Agr ℓ (la.σ.un v).hp∧Iter E.P E.nt E.keep b (dS ℓ (la.σ.un v)) e (dS ℓ' s'):=by
        intro n
        induction n with
        |zero=>intro v h;cases h
        | succ n ihn=>
          intro v h ℓ' ha
          rw[loopN]at h
          have left:∀{e1:Ex} {s1:SSt},e1≠ .normal→(execS E call an b (la.σ.un v)).mean=some (e1,s1)→((la.outs.fit E.keep e1 s1).bind fun d=>.ret (Sum.inr (α:=la.σ.den) d)).mean=some (Sum.inr d)→
              ∃ℓ,Agr ℓ (la.σ.un v).hp∧Iter E.P E.nt E.keep b (dS ℓ (la.σ.un v)) e (dS ℓ' s'):=by
            intro e1 s1 he h5 h6
            obtain⟨d',h7,h8⟩:=Tr.mean_bind h6
            have:=Tr.mean_ret h8
            cases this
            obtain⟨σ',v',h9,h10⟩:=Outs.spec la.outs d h7 h4
            have:=Tr.mean_ret h10
            cases this
            obtain⟨l0,a0,t0⟩:=fitted (ih hok' _ s1 _ h5) h9 rfl ℓ' ha
            exact⟨l0,a0,.out t0 he⟩
          split at h
          · rename_i v' hv'
            obtain⟨⟨e1,s1⟩,h5,h6⟩:=Tr.mean_bind hv'
            cases e1 with
            | normal=>
              obtain⟨v2,h7,h8⟩:=Tr.mean_bind h6
              have:=Sum.inl.inj (Tr.mean_ret h8)
              subst this
              obtain⟨l1,a1,t1⟩:=ihn v2 h ℓ' ha
              obtain⟨l0,a0,t0⟩:=fitted (ih hok' _ s1 _ h5) h7 rfl l1 a1
              exact⟨l0,a0,.next t0 t1⟩
            |exit id=>obtain⟨_,_,h8⟩:=Tr.mean_bind h6;have:=Tr.mean_ret h8;cases this
            |ret=>obtain⟨_,_,h8⟩:=Tr.mean_bind h6;have:=Tr.mean_ret h8;cases this
          · rename_i d' hd'
            cases h
            obtain⟨⟨e1,s1⟩,h5,h6⟩:=Tr.mean_bind hd'
            cases e1 with
            |normal=>obtain⟨_,_,h8⟩:=Tr.mean_bind h6;have:=Tr.mean_ret h8;cases this
            |exit id=>exact left (fun e=>by cases e) h5 h6
            |ret=>exact left (fun e=>by cases e) h5 h6
          · cases h
      intro ℓ' ha
      obtain⟨l1,a1,i1⟩:=key n v hn ℓ' ha
      obtain⟨l0,a0,w0⟩:=fit_spec (nt:=E.nt) h1 a1
      exact⟨l0,a0,(To.loop i1).pre w0⟩
    · exact(Tr.mean_fail h).elim
  | _=>
    intro _ s s' e h
    exact(Tr.mean_fail h).elim
end
end Go.Abs
set_option linter.unusedSimpArgs false
set_option linter.unusedVariables false
namespace Go.Abs
open Go
def resOfS(P:Program)(fr:SFr)(H:SHeap):ResultVar→Tr SV
  | .tmp t=>.ret (lookS fr t)
  | .cell a t=>(opLoadS P t (lookS fr a) H).bind fun r=>.ret r.val
def valOfS:List SV→SV
  | [v]=>v
  |vs=>.tup vs
def finishS (P:Program) (fn:Func) (m:Nat) (s:SSt):Tr SOut:=
  (Tr.mapM (resOfS P s.fr s.hp) fn.results.toList).bind fun vs=>
  .when (vs.all notTup) (
    let R:=reachedS s.hp m (refsVS (valOfS vs))
    let f:=renTo m R
    match R.mapM (fun g=>(getS s.hp g).bind fun b=>if b.alive=true then some (renBS f b)else none),(firstNames m).mapM (fun g=>(getS s.hp g).map (renBS f))with
    |some new,some sub=>.ret (renVS f (valOfS vs),sub,new)
    |_,_=>.fail)
theorem resOfS_spec{P:Program}{fr:SFr}{H:SHeap}{ℓ:Lens}{x:ResultVar}{u:SV}(h:(resOfS P fr H x).mean=some u):resOf P (dF ℓ fr) (dH ℓ H) x=some (dV ℓ u):=by
  cases x with
  |tmp t=>have:=Tr.mean_ret h;subst this;simp only[resOf,look_dF]
  | cell a t=>
    obtain⟨r,h1,h2⟩:=Tr.mean_bind h
    have:=Tr.mean_ret h2
    subst this
    simp only[resOf,look_dF,(opLoadS_spec (ℓ:=ℓ) h1).1,Option.map_some]
    rfl
theorem valOfS_d{ℓ:Lens}{vs:List SV}(h:vs.all notTup=true):(match vs.map (dV ℓ)with| [v]=>v|vs=>.tup vs)=dV ℓ (valOfS vs):=by
  cases vs with
  |nil=>rfl
  | cons v r=>
    cases r with
    |nil=>rfl
    | cons w r=>
      simp only[List.map_cons,valOfS,dV_tup]
      simp only[List.all_cons,Bool.and_eq_true,List.all_eq_true]at h
      rw[notTup_d h.1,notTup_d h.2.1,List.map_congr_left fun x hx=>notTup_d (h.2.2 x hx) ℓ]
theorem finishS_spec {P:Program} {fn:Func} {m:Nat} {s:SSt} {out:SOut} (h:(finishS P fn m s).mean=some out) {ℓ':Lens} (ha':SubAgr ℓ' (out.2.1++out.2.2)):
    finish P fn m (dS (lenS s.hp) s)=some (dO ℓ' out):=by
  unfold finishS at h
  obtain⟨vs,h1,h⟩:=Tr.mean_bind h
  obtain⟨h2,h⟩:=Tr.mean_when h
  simp only at h
  generalize hR:reachedS s.hp m (refsVS (valOfS vs))=R at h
  split at h
  · rename_i new sub hnew hsub
    have:=Tr.mean_ret h
    subst this
    simp only at ha'
    obtain⟨M1,M2⟩:=Tr.mean_mapM h1
    obtain⟨N1,N2⟩:=mapM_some _ _ _ hnew
    obtain⟨S1,S2⟩:=mapM_some _ _ _ hsub
    have hl0:(firstNames m).length=m:=by simp[firstNames]
    have hgoes:Goes (renTo m R) (lenS s.hp) ℓ':=by
      intro g g' hg
      unfold renTo at hg
      split at hg
      · rename_i hlt
        split at hg
        · rename_i h0
          cases hg
          have hi:(firstNames m)[g.1]?=some (g.1,0):=by simp[firstNames,hlt]
          obtain⟨b,e1,e2⟩:=S2 g.1 _ hi
          obtain⟨b0,e3,rfl⟩:=Option.map_eq_some_iff.1 e2
          have e:g=(g.1,0):=by rw[←h0]
          rw[e,ha' g.1 _ (by rw[List.getElem?_append_left (List.getElem?_eq_some_iff.1 e1).1];exact e1),renBS_len,lenS_agr _ _ _ e3]
        · cases hg
      · cases hi:idxOf g R 0 with
        |none=>simp[hi]at hg
        | some i=>
          simp[hi]at hg
          obtain⟨_,hRi⟩:=idxOf_spec g R 0 i hi
          simp only[Nat.sub_zero]at hRi
          obtain⟨b,e1,e2⟩:=N2 i g hRi
          obtain⟨b0,e3,e4⟩:=Option.bind_eq_some_iff.1 e2
          split at e4
          · cases e4
            rw[←hg,ha' (m+i) (renBS (renTo m R) b0) (by rw[List.getElem?_append_right (by omega),show m+i-sub.length=i from by omega];exact e1),renBS_len,lenS_agr _ _ _ e3]
          · cases e4
    have hres:resAll P (dS (lenS s.hp) s).fr (dS (lenS s.hp) s).hp fn.results.toList=some (dV (lenS s.hp) (valOfS vs)):=by
      unfold resAll
      have:fn.results.toList.mapM (resOf P (dS (lenS s.hp) s).fr (dS (lenS s.hp) s).hp)=some (vs.map (dV (lenS s.hp))):=by
        refine mapM_of (by simp[M1]) (fun i x hx=> ?_)
        obtain⟨u,e1,e2⟩:=M2 i x hx
        exact⟨dV (lenS s.hp) u,by rw[List.getElem?_map,e1];rfl,resOfS_spec e2⟩
      rw[this,←valOfS_d h2]
      cases vs with
      |nil=>rfl
      |cons v r=>cases r<;>rfl
    unfold finish
    rw[hres]
    simp only
    rw[show reached (dS (lenS s.hp) s).hp m (refsV (dV (lenS s.hp) (valOfS vs)))=R from by rw[refsV_d,←hR];exact reached_d _ s.hp m _]
    have enew:R.mapM (fun g=>(get (dS (lenS s.hp) s).hp g).map (renB (renTo m R)))=some (new.map (dN ℓ')):=by
      refine mapM_of (by simp[N1]) (fun i g hi=> ?_)
      obtain⟨y,e1,e2⟩:=N2 i g hi
      obtain⟨b0,e3,e4⟩:=Option.bind_eq_some_iff.1 e2
      split at e4
      · rename_i hb0
        cases e4
        refine⟨dN ℓ' (renBS (renTo m R) b0),by rw[List.getElem?_map,e1];rfl,?_⟩
        rw[show get (dS (lenS s.hp) s).hp g=_ from get_dH _ s.hp g,e3,Option.bind_some,renB_d hgoes]
        exact dN_alive (by rw[renBS_alive];exact hb0)
      · cases e4
    rw[enew]
    simp only[dO,renV_d hgoes]
    congr 3
    apply List.ext_getElem?
    intro i
    simp only[List.getElem?_map]
    cases hi:(firstNames m)[i]? with
    | none=>
      have:sub[i]?=none:=by rw[List.getElem?_eq_none_iff,S1];exact List.getElem?_eq_none_iff.1 hi
      rw[this];rfl
    | some g=>
      obtain⟨b,e1,e2⟩:=S2 i g hi
      obtain⟨b0,e3,rfl⟩:=Option.map_eq_some_iff.1 e2
      rw[e1]
      simp only[Option.map_some]
      rw[show get (dS (lenS s.hp) s).hp g=_ from get_dH _ s.hp g,e3,Option.bind_some,renB_d hgoes]
  · exact(Tr.mean_fail h).elim
structure Spec where
  keep:Nat
  σi:Sg
  σo:Sg
  m:σi.den→Option σo.den
def senvOf(P:Program)(N:FuncId→Note)(f:FuncId)(fn:Func)(m:Nat):SEnv:=
  {P,N,nt:=fn.ntmps,locs:=(N f).locs,pairs:=(N f).pairs,keep:=m}
def frOfS:List SV→Nat→SFr
  | [],_=> []
  |x::r,i=>(i,x)::frOfS r (i+1)
def startS(args:List SV)(sub:List SB):SSt:={fr:=frOfS args 0,hp:=sub.map fun b=> [b]}
noncomputable def callS (P:Program) (N:FuncId→Note) (C:FuncId→Option SCall) (mv:FuncId→Option Nat) (T:FuncId→Option Spec) (an:Nat→FAn):Nat→Nat→FuncId→SCall
  |0,_,_,_,_=>.fail
  | n + 1, c, f,args,sub=>
    match C f with
    |some q=>q args sub
    |none=>
    match P.funcs[f]? with
    | some fn =>
      match fn.body with
      | some body=>
        .when (decide ((N f).on=true∧args.length≤fn.ntmps)&&sub.all SB.alive&&validS (startS args sub)) (
          match T f with
          |some sp=>if sub.length=sp.keep then(fit sp.keep sp.σi (startS args sub)).bind fun v=>.ask (sp.m v) fun u=>finishS P fn sp.keep (sp.σo.un u)else .fail
          | none=>match mv f with
            | some m=>.when (decide (m≤sub.length)) ((execS (senvOf P N f fn m) (fun r i=>callS P N C mv T an n ((an c).inl r i)) (an c) body (startS args sub)).bind fun p=>match p.1 with
              | .exit _=>.fail
              |_=>(finishS P fn m p.2).bind fun o=>.ret (renVS (shiftM m sub.length) o.1,o.2.1.map (renBS (shiftM m sub.length))++(sub.drop m).map (fun b=>.dead b.len),o.2.2.map (renBS (shiftM m sub.length))))
            | none=>(execS (senvOf P N f fn sub.length) (fun r i=>callS P N C mv T an n ((an c).inl r i)) (an c) body (startS args sub)).bind fun p=>match p.1 with
              | .exit _=>.fail
              |_=>finishS P fn sub.length p.2)
      |none=>.fail
    |none=>.fail
def SpecOK (P:Program) (f:FuncId) (sp:Spec):Prop:=
  ∀ fn body,P.funcs[f]?=some fn→fn.body=some body→∀v u,sp.m v=some u→∀ℓ':Lens,Agr ℓ' (sp.σo.un u).hp→
    ∃ℓ,Agr ℓ (sp.σi.un v).hp∧∃e,(e= .normal∨e= .ret)∧To P fn.ntmps sp.keep body (dS ℓ (sp.σi.un v)) e (dS ℓ' (sp.σo.un u))
theorem frOfS_d(ℓ:Lens):∀(args:List SV) (i:Nat),dF ℓ (frOfS args i)=frOf (args.map (dV ℓ)) i:=by
  intro args
  induction args with
  |nil=>intro i;rfl
  |cons a r ih=>intro i;simp only[frOfS,dF,List.map_cons,frOf]at ih ⊢;rw[ih]
theorem startS_d{ℓ:Lens}{args:List SV}{sub:List SB}(h:∀b∈sub,b.alive=true):dS ℓ (startS args sub)={fr:=frOf (args.map (dV ℓ)) 0,hp:=heapOf (sub.map (dN ℓ))}:=by
  simp only[dS,startS,frOfS_d]
  congr 1
  simp only[dH,heapOf,List.map_map]
  refine List.map_congr_left fun b hb=> ?_
  simp only[Function.comp,List.map_cons,List.map_nil,dN_alive (h b hb)]
theorem startS_agr{ℓ:Lens}{args:List SV}{sub:List SB}(h:SubAgr ℓ sub):Agr ℓ (startS args sub).hp:=by
  intro g b hg
  obtain⟨i,k⟩:=g
  simp only[getS,startS,List.getElem?_map]at hg
  cases hi:sub[i]? with
  |none=>simp[hi]at hg
  | some b0=>
    cases k with
    |succ k=>simp[hi]at hg
    | zero=>
      simp[hi]at hg
      subst hg
      exact h i b0 hi
theorem callS_ok {P :Program} {N:FuncId→Note} {C:FuncId→Option SCall} {mv:FuncId→Option Nat} {T:FuncId→Option Spec} {an:Nat→FAn} (hg:Good P N) (hm:P.follows .mixedOrders=true) (hC:∀f q,C f=some q→CallOK P f q) (hT:∀f sp,T f=some sp→SpecOK P f sp):
    ∀n c f,CallOK P f (callS P N C mv T an n c f):=by
  intro n
  induction n with
  |zero=>intro c f args sub out h;exact(Tr.mean_fail h).elim
  | succ n ih =>
    intro c f args sub out h ℓ0 ℓ' hs0 hs'
    simp only[callS]at h
    split at h
    · rename_i q hq
      exact hC f q hq args sub out h ℓ0 ℓ' hs0 hs'
    split at h
    · rename_i fn hfn
      split at h
      · rename_i body hbody
        obtain⟨h1,h⟩:=Tr.mean_when h
        simp only[Bool.and_eq_true,decide_eq_true_eq,List.all_eq_true]at h1
        obtain⟨⟨⟨hon,hlen⟩,hal⟩,hval⟩:=h1
        obtain⟨hname,hok⟩:=hg f fn hon hfn
        refine⟨entered hfn hbody hname,?_⟩
        have start:∀{ℓ},Agr ℓ (startS args sub).hp→dS ℓ (startS args sub)={fr:=frOf (args.map (dV ℓ0)) 0,hp:=heapOf (sub.map (dN ℓ0))}:=by
          intro ℓ ha
          rw[dS_congr hval ha (startS_agr hs0),startS_d hal]
        split at h
        · rename_i sp hsp
          split at h
          · rename_i hk
            obtain⟨v,h2,h⟩:=Tr.mean_bind h
            obtain⟨u,h3,h4⟩:=Tr.mean_ask h
            obtain⟨l1,a1,e,he,hto⟩:=hT f sp hsp fn body hfn hbody v u h3 (lenS (sp.σo.un u).hp) (lenS_agr _)
            obtain⟨l0,a0,w0⟩:=fit_spec (nt:=fn.ntmps) h2 a1
            have hto:=hto.pre w0
            rw[start a0]at hto
            have hfin:=finishS_spec h4 hs'
            rw[←hk]at hto hfin
            refine contract_of (s1:=dS (lenS (sp.σo.un u).hp) (sp.σo.un u)) hfn hbody (by simpa using hlen) ?_ he ?_
            · rw[List.length_map];exact hto
            · rw[List.length_map];exact hfin
          · exact(Tr.mean_fail h).elim
        · split at h
          ·
            rename_i m _
            obtain⟨hm0,h⟩:=Tr.mean_when h
            have hm0:=of_decide_eq_true hm0
            obtain⟨⟨e,s1⟩,h2,h3⟩:=Tr.mean_bind h
            have fin:(e= .normal∨e= .ret)→((finishS P fn m s1).bind fun o=>Tr.ret ((renVS (shiftM m sub.length) o.1,o.2.1.map (renBS (shiftM m sub.length))++(sub.drop m).map (fun b=>SB.dead b.len),o.2.2.map (renBS (shiftM m sub.length))):SOut)).mean=some out→Contract P f (args.map (dV ℓ0)) (sub.map (dN ℓ0)) (dO ℓ' out):=by
              intro he h4
              obtain⟨o,h5,h6⟩:=Tr.mean_bind h4
              have:=Tr.mean_ret h6
              subst this
              simp only at hs'
              obtain⟨l0,a0,hto⟩:=execS_spec (E:=senvOf P N f fn m) hm (fun r i f=>ih _ f) body (hok body hbody) _ _ _ h2 (lenS s1.hp) (lenS_agr _)
              rw[start a0]at hto
              have ho:o.2.1.length=m:=by
                unfold finishS at h5
                obtain⟨_,_,h7⟩:=Tr.mean_bind h5
                obtain⟨_,h8⟩:=Tr.mean_when h7
                simp only at h8
                split at h8
                · rename_i hsub
                  have:=Tr.mean_ret h8
                  subst this
                  have hl:=(mapM_some _ _ _ hsub).1
                  simpa[firstNames]using hl
                · exact(Tr.mean_fail h8).elim
              have hsub2:SubAgr (fun g=>ℓ' (if g.1<m then g else(g.1-m+sub.length,g.2))) (o.2.1++o.2.2):=by
                intro j b hj
                by_cases hjm:j<m
                · rw[List.getElem?_append_left (by omega)]at hj
                  have:=hs' j (renBS (shiftM m sub.length) b) (by
                    rw[List.append_assoc,List.getElem?_append_left (by simp;omega),List.getElem?_map,hj]
                    rfl)
                  rw[renBS_len]at this
                  simp only[hjm,if_true]
                  exact this
                · rw[List.getElem?_append_right (by omega),ho]at hj
                  have:=hs' (j-m+sub.length) (renBS (shiftM m sub.length) b) (by
                    rw[List.getElem?_append_right (by simp;omega)]
                    simp only[List.length_append,List.length_map,List.length_drop,ho]
                    rw[show j-m+sub.length-(m+(sub.length-m))=j-m by omega,List.getElem?_map,hj]
                    rfl)
                  rw[renBS_len]at this
                  simp only[hjm,if_false]
                  exact this
              have hfin:=finishS_spec h5 hsub2
              have hcon:=contract_part (s1:=dS (lenS s1.hp) s1) (args:=args.map (dV ℓ0)) (sub:=sub.map (dN ℓ0)) (m:=m) (by simpa using hm0) hfn hbody (by simpa using hlen) hto he hfin
              have hgoes:Goes (shiftM m sub.length) (fun g=>ℓ' (if g.1<m then g else(g.1-m+sub.length,g.2))) ℓ':=by
                intro g g' hg
                simp only[shiftM,Option.some.injEq]at hg
                subst hg
                rfl
              have hN:∀b,renB (shiftM m sub.length) (dN (fun g=>ℓ' (if g.1<m then g else(g.1-m+sub.length,g.2))) b)=dN ℓ' (renBS (shiftM m sub.length) b):=by
                intro b
                have:=renB_d hgoes b
                cases b with
                |box sz v=>simp only[dN,dB,Option.map_some,Option.some.injEq,renBS]at this ⊢;exact this
                |arr t l z=>simp only[dN,dB,Option.map_some,Option.some.injEq,renBS]at this ⊢;exact this
                |mp t l=>simp only[dN,dB,Option.map_some,Option.some.injEq,renBS]at this ⊢;exact this
                |dead q=>simp[dN,dB,renBS,renB]
              have heq:(renV (shiftM m (sub.map (dN ℓ0)).length) (dO (fun g=>ℓ' (if g.1<m then g else(g.1-m+sub.length,g.2))) o).1,
                  (dO (fun g=>ℓ' (if g.1<m then g else(g.1-m+sub.length,g.2))) o).2.1.map (fun b=>b.map (renB (shiftM m (sub.map (dN ℓ0)).length)))++((sub.map (dN ℓ0)).drop m).map (fun _=>(none:Option Blk)),
                  (dO (fun g=>ℓ' (if g.1<m then g else(g.1-m+sub.length,g.2))) o).2.2.map (renB (shiftM m (sub.map (dN ℓ0)).length)))=
                  dO ℓ' (renVS (shiftM m sub.length) o.1,o.2.1.map (renBS (shiftM m sub.length))++(sub.drop m).map (fun b=>SB.dead b.len),o.2.2.map (renBS (shiftM m sub.length))):=by
                simp only[dO,List.length_map,List.map_map,List.map_append,←List.map_drop]
                rw[renV_d hgoes]
                congr 3
                · refine List.map_congr_left fun b _=> ?_
                  exact renB_d hgoes b
                · funext b
                  exact hN b
              rw[heq]at hcon
              exact hcon
            cases e with
            |normal=>exact fin (.inl rfl) h3
            |ret=>exact fin (.inr rfl) h3
            |exit id=>exact(Tr.mean_fail h3).elim
          · obtain⟨⟨e,s1⟩,h2,h3⟩:=Tr.mean_bind h
            have fin:(e= .normal∨e= .ret)→(finishS P fn sub.length s1).mean=some out→Contract P f (args.map (dV ℓ0)) (sub.map (dN ℓ0)) (dO ℓ' out):=by
              intro he h4
              obtain⟨l0,a0,hto⟩:=execS_spec (E:=senvOf P N f fn sub.length) hm (fun r i f=>ih _ f) body (hok body hbody) _ _ _ h2 (lenS s1.hp) (lenS_agr _)
              rw[start a0]at hto
              refine contract_of (s1:=dS (lenS s1.hp) s1) hfn hbody (by simpa using hlen) ?_ he ?_
              · rw[List.length_map];exact hto
              · rw[List.length_map];exact finishS_spec h4 hs'
            cases e with
            |normal=>exact fin (.inl rfl) h3
            |ret=>exact fin (.inr rfl) h3
            |exit id=>exact(Tr.mean_fail h3).elim
      · exact(Tr.mean_fail h).elim
    · exact(Tr.mean_fail h).elim
noncomputable def bodyC(P:Program)(N:FuncId→Note)(C:FuncId→Option SCall)(mv:FuncId→Option Nat)(T:FuncId→Option Spec)(an:Nat→FAn)(n:Nat)(f:FuncId)(keep:Nat)(σi σo:Sg)(v:σi.den):Tr σo.den:=
  match P.funcs[f]? with
  | some fn=>
    match fn.body with
    | some body=>(execS (senvOf P N f fn keep) (fun r i=>callS P N C mv T an n ((an 0).inl r i)) (an 0) body (σi.un v)).bind fun p=>match p.1 with
      | .exit _=>.fail
      |_=>fit keep σo p.2
    |none=>.fail
  |none=>.fail
theorem specOC_of{P:Program}{N:FuncId→Note}{C:FuncId→Option SCall}{mv:FuncId→Option Nat}{T:FuncId→Option Spec}{an:Nat→FAn}{n:Nat}{f:FuncId}{sp:Spec}(hC:∀f q,C f=some q→CallOK P f q)(hg:Good P N)(hm:P.follows .mixedOrders=true)(hT:∀f sp,T f=some sp→SpecOK P f sp)
    (hon:(N f).on=true) (h:∀v,(bodyC P N C mv T an n f sp.keep sp.σi sp.σo v).mean=sp.m v):SpecOK P f sp:=by
  intro fn body hfn hbody v u hv ℓ' ha
  rw[←h v]at hv
  simp only[bodyC,hfn,hbody]at hv
  obtain⟨⟨e,s1⟩,h1,h2⟩:=Tr.mean_bind hv
  have fin:(e= .normal∨e= .ret)→(fit sp.keep sp.σo s1).mean=some u→∃ℓ,Agr ℓ (sp.σi.un v).hp∧∃e,(e= .normal∨e= .ret)∧To P fn.ntmps sp.keep body (dS ℓ (sp.σi.un v)) e (dS ℓ' (sp.σo.un u)):=by
    intro he h3
    obtain⟨l1,a1,w1⟩:=fit_spec (nt:=fn.ntmps) h3 ha
    obtain⟨l0,a0,hto⟩:=execS_spec (E:=senvOf P N f fn sp.keep) hm (fun r i f=>callS_ok hg hm hC hT n _ f) body ((hg f fn hon hfn).2 body hbody) _ _ _ h1 l1 a1
    exact⟨l0,a0,e,he,hto.post w1⟩
  cases e with
  |normal=>exact fin (.inl rfl) h2
  |ret=>exact fin (.inr rfl) h2
  |exit id=>exact(Tr.mean_fail h2).elim
noncomputable abbrev bodyS(P:Program)(N:FuncId→Note)(T:FuncId→Option Spec)(an:Nat→FAn)(n:Nat)(f:FuncId)(keep:Nat)(σi σo:Sg)(v:σi.den):Tr σo.den:=bodyC P N (fun _=>none) (fun _=>none) T an n f keep σi σo v
theorem specOK_of{P:Program}{N:FuncId→Note}{T:FuncId→Option Spec}{an:Nat→FAn}{n:Nat}{f:FuncId}{sp:Spec}(hg:Good P N)(hm:P.follows .mixedOrders=true)(hT:∀f sp,T f=some sp→SpecOK P f sp)
    (hon:(N f).on=true) (h:∀v,(bodyS P N T an n f sp.keep sp.σi sp.σo v).mean=sp.m v):SpecOK P f sp:=specOC_of (fun _ _ h=>by cases h) hg hm hT hon h
def ctabOf:List (FuncId×SCall)→FuncId→Option SCall
  | [],_=>none
  |(g,q)::r,f=>if g=f then some q else ctabOf r f
theorem ctabOf_ok{P:Program}:∀(l:List (FuncId×SCall)),(∀p∈l,CallOK P p.1 p.2)→∀f q,ctabOf l f=some q→CallOK P f q:=by
  intro l
  induction l with
  |nil=>intro _ f q h;cases h
  | cons p r ih=>
    intro hl f q h
    obtain⟨g,x⟩:=p
    simp only[ctabOf]at h
    split at h
    · rename_i e;subst e;cases h;exact hl _ (List.mem_cons_self ..)
    · exact ih (fun x hx=>hl x (by simp[hx])) f q h
def tabOf:List (FuncId×Spec)→FuncId→Option Spec
  | [],_=>none
  |(g,sp)::r,f=>if g=f then some sp else tabOf r f
theorem tabOf_ok{P:Program}:∀(l:List (FuncId×Spec)),(∀p∈l,SpecOK P p.1 p.2)→∀f sp,tabOf l f=some sp→SpecOK P f sp:=by
  intro l
  induction l with
  |nil=>intro _ f sp h;cases h
  | cons p r ih=>
    intro hl f sp h
    obtain⟨g,q⟩:=p
    simp only[tabOf]at h
    split at h
    · rename_i e;subst e;cases h;exact hl _ (List.mem_cons_self ..)
    · exact ih (fun x hx=>hl x (by simp[hx])) f sp h
end Go.Abs
set_option linter.unusedSimpArgs false
set_option linter.unusedVariables false
namespace Go.Abs
open Go
def goodAt (P:Program) (N:FuncId→Note) (f:FuncId):Bool:=
  !(N f).on||match P.funcs[f]? with
    | some fn => decide (fn.name ≠ "runtime.NumGoroutine") && match fn.body with
      |some body=>okCode (N f).pairs body
      |none=>true
    |none=>true
theorem good_of{P:Program}{N:FuncId→Note}(h:(List.range P.funcs.size).all (goodAt P N)=true):Good P N:=by
  intro f fn hon hfn
  have hlt:f<P.funcs.size:=(Array.getElem?_eq_some_iff.1 hfn).1
  have hg:=(List.all_eq_true.1 h) f (List.mem_range.2 hlt)
  simp only[goodAt,hon,Bool.not_true,Bool.false_or,hfn,Bool.and_eq_true,decide_eq_true_eq]at hg
  refine⟨hg.1,fun body hb=> ?_⟩
  have:=hg.2
  rw[hb]at this
  exact this
abbrev w64(n:Int):Int:=IntKind.wrap .i64 n
abbrev bs(l:List UInt8):ByteArray:=⟨l.toArray⟩
end Go.Abs
set_option linter.unusedSimpArgs false
set_option linter.unusedVariables false
namespace Go.Abs
open Go
def layFs(P:Program)(ok:TypeId→Bool):List Field→Nat→Option Nat
  | [],off=>some off
  |f::r,off=>if f.offset=off∧ok f.type=true then layFs P ok r (off+P.cellsOf f.type)else none
def layOK (P:Program):Nat→TypeId→Bool
  |0,_=>false
  | d+1,t=>
    match P.underlying t with
    |some (.int _)|some .bool|some .string=>decide (P.cellsOf t=1)
    |some (.slice e)=>decide (P.cellsOf t=1∧0<P.cellsOf e)&&layOK P d e
    |some (.struct fs)=>decide (layFs P (layOK P d) fs.toList 0=some (P.cellsOf t))
    |some (.array n e)=>decide (P.cellsOf t=n*P.cellsOf e)&&layOK P d e
    |_=>false
def InR:(t:Ty)→t.den→Prop
  | .int k,n=>k.min≤(show Int from n)∧(show Int from n)≤k.max
  | .bool,_=>True
  | .str,s=>s.size≤maxLen
  | .row t,l=>List.length l≤maxLen∧∀x:t.den,x∈(show List t.den from l)→InR t x
  | .unit,_=>True
  | .cons a b,x=>InR a x.1∧InR b x.2
theorem exists_list{α:Type}{Q:Nat→α→Prop}:∀(n:Nat),(∀i,i<n→∃x,Q i x)→∃l:List α,l.length=n∧∀(i:Nat) (x:α),l[i]?=some x→Q i x:=by
  intro n
  induction n with
  |zero=>intro _;exact⟨[],rfl,fun i x h=>by simp at h⟩
  | succ n ih=>
    intro h
    obtain⟨l,h1,h2⟩:=ih (fun i hi=>h i (by omega))
    obtain⟨x,hx⟩:=h n (by omega)
    refine⟨l++ [x],by simp[h1],fun i y hy=> ?_⟩
    rcases Nat.lt_or_ge i n with hi|hi
    · rw[List.getElem?_append_left (by omega)]at hy;exact h2 i y hy
    · rw[List.getElem?_append_right (by omega)]at hy
      have:i-l.length=0:=by have:=(List.getElem?_eq_some_iff.1 hy).1;simp at this;omega
      rw[this]at hy
      simp at hy
      subst hy
      have:i=n:=by omega
      rw[this];exact hx
section
variable{H:Type}{enc0:TypeId×Value→H}{P:Program}{w:World}{sp:Nat→Bool}{held:Bool}
abbrev noX:XT:=fun _ _=>False
def CellsOf(w:World)(cs:List Value)(off:Nat)(es:List AV):Prop:=∀(j:Nat) (u:AV),es[j]?=some u→∃c,cs[off+j]?=some c∧c.oneCell'=true∧PR w noX c u
theorem CellsOf.append{cs:List Value}{off:Nat}{a b:List AV}(h:CellsOf w cs off a)(k:CellsOf w cs (off+a.length) b):CellsOf w cs off (a++b):=by
  intro j u hj
  rcases Nat.lt_or_ge j a.length with hlt|hge
  · rw[List.getElem?_append_left hlt]at hj;exact h j u hj
  · rw[List.getElem?_append_right hge]at hj
    obtain⟨c,h1,h2⟩:=k (j-a.length) u hj
    refine⟨c,?_,h2⟩
    rw[←h1]
    congr 1
    omega
theorem CellsOf.piece{cs:List Value}{off n:Nat}{a:List AV}(h:CellsOf w ((cs.drop off).take n) 0 a):CellsOf w cs off a:=by
  intro j u hj
  obtain⟨c,h1,h2⟩:=h j u hj
  refine⟨c,?_,h2⟩
  rw[Nat.zero_add]at h1
  have hj:=(List.getElem?_eq_some_iff.1 h1).1
  simp at hj
  rw[List.getElem?_take_of_lt (by omega),List.getElem?_drop]at h1
  exact h1
def Reads(w:World)(t:Ty)(cs:List Value):Prop:=∃x:t.den,InR t x∧CellsOf w cs 0 (encC t x)
theorem addr_two{a:Addr}(h:a.spot=none)(n m:Nat):(a.add n).add m=⟨a.block,a.off+(n+m),none⟩:=by
  obtain⟨b,o,s⟩:=a
  simp only at h
  subst h
  unfold Addr.add
  by_cases h1:n=0
  · by_cases h2:m=0
    · simp[h1,h2]
    · simp[h1,h2]
  · by_cases h2:m=0
    · simp[h1,h2]
    · simp[h1,h2];omega
theorem trod_typed:∀(d:Nat) (t:TypeId) (ty:Ty),tyOf P d t=some ty→layOK P d t=true→P.cellsOf t=ty.size∧
    ∀(fuel:Nat) (cs:List Value) (y:DataW H×List MemPlace),DataW.trod enc0 P w 0 sp held fuel t cs=some y→cs.length=ty.size∧Reads w ty cs:=by
  intro d
  induction d with
  |zero=>intro t ty h;cases h
  | succ d ih =>
    intro t ty h hl
    unfold tyOf at h
    unfold layOK at hl
    split at h
    · rename_i k hu
      cases h
      rw[hu]at hl
      refine⟨of_decide_eq_true hl,fun fuel cs y hy=> ?_⟩
      obtain⟨n,rfl,rfl,hw⟩:=DataW.trod_int hu hy
      simp only[Lit.wf,Bool.and_eq_true,decide_eq_true_eq]at hw
      refine⟨rfl,n,hw,fun j u hj=> ?_⟩
      cases j with
      |zero=>simp[encC]at hj;subst hj;exact⟨_,rfl,rfl,.int _ _⟩
      |succ j=>simp[encC]at hj
    · rename_i hu
      cases h
      rw[hu]at hl
      refine⟨of_decide_eq_true hl,fun fuel cs y hy=> ?_⟩
      obtain⟨b,rfl,rfl⟩:=DataW.trod_bool hu hy
      refine⟨rfl,b,trivial,fun j u hj=> ?_⟩
      cases j with
      |zero=>simp[encC]at hj;subst hj;exact⟨_,rfl,rfl,.bool _⟩
      |succ j=>simp[encC]at hj
    · rename_i hu
      cases h
      rw[hu]at hl
      refine⟨of_decide_eq_true hl,fun fuel cs y hy=> ?_⟩
      obtain⟨s,rfl,hs⟩:=DataW.trod_string hu hy
      refine⟨rfl,s,hs.2,fun j u hj=> ?_⟩
      cases j with
      |zero=>simp[encC]at hj;subst hj;exact⟨_,rfl,rfl,.str _⟩
      |succ j=>simp[encC]at hj
    · rename_i e hu
      rw[hu]at hl
      obtain⟨te,h1,rfl⟩:=Option.map_eq_some_iff.1 h
      simp only[Bool.and_eq_true,decide_eq_true_eq]at hl
      obtain⟨⟨hl1,hl2⟩,hl3⟩:=hl
      obtain⟨i1,i2⟩:=ih e te h1 hl3
      refine⟨hl1,fun fuel cs y hy=> ?_⟩
      rcases DataW.trod_slice hu hy with⟨rfl,_⟩|⟨a,len,cap,elems,rest,n,_,rfl,_,_,hlc,hcap,hlen,hel,_,_⟩
      · refine⟨rfl,[],⟨Nat.zero_le _,fun x hx=>by cases hx⟩,fun j u hj=> ?_⟩
        cases j with
        |zero=>simp[encC]at hj;subst hj;exact⟨_,rfl,rfl,.lst0 _ _ _ _ (fun e=>by cases e)⟩
        |succ j=>simp[encC]at hj
      · refine ⟨rfl,?_⟩
        have each:∀i,i<len→∃x:te.den,InR te x∧∃cs,w.cells? 0 (a.add (i*P.cellsOf e)) (P.cellsOf e)=some cs∧CellsOf w cs 0 (encC te x):=by
          intro i hi
          have hb:=hel i hi
          rw[List.getElem?_eq_getElem (by omega)]at hb
          obtain⟨cs,hcs,hy'⟩:=Option.bind_eq_some_iff.1 hb
          obtain⟨_,x,hx1,hx2⟩:=i2 _ _ _ hy'
          exact⟨x,hx1,cs,hcs,hx2⟩
        obtain⟨l,hl4,hl5⟩:=exists_list len each
        refine⟨l,⟨by rw[hl4];exact Nat.le_trans hlc hcap,fun x hx=> ?_⟩,fun j u hj=> ?_⟩
        · obtain⟨i,hi⟩:=List.getElem?_of_mem hx
          exact(hl5 i x hi).1
        · cases j with
          |succ j=>simp[encC]at hj
          | zero=>
            simp[encC]at hj
            subst hj
            refine⟨_,rfl,rfl,?_⟩
            cases len with
            | zero=>
              have:l=[]:=List.length_eq_zero_iff.1 hl4
              subst this
              exact .lst0 _ _ _ _ (fun e=>by cases e)
            | succ len=>
              have hne:0<(l.map fun x=>wrap te.agg (encC te x)).length:=by simp[hl4]
              have hz:lsz te.size (l.map fun x=>wrap te.agg (encC te x))=te.size:=lsz_pos hne
              have hspot:a.spot=none:=by
                obtain⟨x,_,cs,hcs,_⟩:=each 0 (by omega)
                obtain⟨_,hn,hc⟩:=World.cells?_some hcs
                have h0:=hc 0 hl2
                rw[List.getElem?_eq_getElem (by omega)]at h0
                simp only[Nat.zero_mul,Addr.add,if_true]at h0
                unfold World.cell? at h0
                split at h0
                · cases hs:a.spot with
                  |none=>rfl
                  |some s=>rw[hs]at h0;simp at h0
                · cases h0
              have ea:a=⟨a.block,a.off,none⟩:=by obtain⟨b,o,s⟩:=a;simp only at hspot;subst hspot;rfl
              have cell:∀(i:Nat) (x:AV),(l.map fun x=>wrap te.agg (encC te x))[i]?=some x→∀(j:Nat) (u:AV),x.cells[j]?=some u→
                  ∃c,w.cell? ⟨a.block,a.off+(i*te.size+j),none⟩=some c∧c.oneCell'=true∧PR w noX c u:=by
                intro i x hx j u hu'
                rw[List.getElem?_map]at hx
                obtain⟨z,hz1,rfl⟩:=Option.map_eq_some_iff.1 hx
                have hz2:(wrap te.agg (encC te z)).cells=encC te z:=cells_enc te z
                rw[hz2]at hu'
                obtain⟨_,cs,hcs,hcell⟩:=hl5 i z hz1
                obtain⟨c,h3,h4,h5⟩:=hcell j u hu'
                obtain⟨_,hn,hc⟩:=World.cells?_some hcs
                rw[Nat.zero_add]at h3
                have hj:j<P.cellsOf e:=by rw[←hn];exact(List.getElem?_eq_some_iff.1 h3).1
                refine⟨c,?_,h4,h5⟩
                rw[←h3,←hc j hj,addr_two hspot,i1]
              rw[hz,ea]
              refine .lst a.block a.off (len+1) cap te.size false _ (fun i j=>(w.cell? ⟨a.block,a.off+(i*te.size+j),none⟩).getD undef) (by simp[hl4]) hlc (fun e=>by cases e) (fun i x hx=> ?_) (fun i x hx j u hu'=> ?_) (fun i x hx j u hu'=> ?_)
              · rw[List.getElem?_map]at hx
                obtain⟨z,_,rfl⟩:=Option.map_eq_some_iff.1 hx
                rw[show(wrap te.agg (encC te z)).cells=encC te z from cells_enc te z,length_encC]
              · obtain⟨c,h3,h4,h5⟩:=cell i x hx j u hu'
                rw[h3]
                exact⟨fun e=>e.elim,rfl,h4⟩
              · obtain⟨c,h3,h4,h5⟩:=cell i x hx j u hu'
                simp only[h3,Option.getD_some]
                exact h5
    · rename_i fs hu
      rw[hu]at hl
      have hl:=of_decide_eq_true hl
      have flds:∀(l:List Field) (off fin:Nat) (ty:Ty),l.foldr (fun f r=>match tyOf P d f.type,r with
          |some a,some b=>some (Ty.cons a b)
          |_,_=>none) (some .unit)=some ty→layFs P (layOK P d) l off=some fin→fin=off+ty.size∧
          ∀(cs:List Value),(∀f∈l,∃n y,DataW.trod enc0 P w 0 sp held n f.type ((cs.drop f.offset).take (P.cellsOf f.type))=some y)→∃x:ty.den,InR ty x∧CellsOf w cs off (encC ty x):=by
        intro l
        induction l with
        | nil=>
          intro off fin ty h1 h2
          cases h1
          cases h2
          exact⟨rfl,fun cs _=>⟨(),trivial,fun j u hj=>by simp[encC]at hj⟩⟩
        | cons f r ihl=>
          intro off fin ty h1 h2
          simp only[List.foldr_cons]at h1
          split at h1
          · rename_i a b ha hb
            cases h1
            simp only[layFs]at h2
            split at h2
            · rename_i hc
              obtain⟨rfl,hok⟩:=hc
              obtain⟨j1,j2⟩:=ih f.type a ha hok
              obtain⟨k1,k2⟩:=ihl _ _ _ hb h2
              refine⟨by rw[k1,j1];simp only[Ty.size];omega,fun cs hcs=> ?_⟩
              obtain⟨n,y,hy⟩:=hcs f (by simp)
              obtain⟨_,x,hx1,hx2⟩:=j2 _ _ _ hy
              obtain⟨z,hz1,hz2⟩:=k2 cs (fun g hg=>hcs g (by simp[hg]))
              refine⟨(x,z),⟨hx1,hz1⟩,?_⟩
              simp only[encC]
              refine hx2.piece.append ?_
              rw[length_encC,←j1]
              exact hz2
            · cases h2
          · cases h1
      obtain⟨f1,f2⟩:=flds _ 0 _ ty h hl
      refine⟨by omega,fun fuel cs y hy=> ?_⟩
      obtain⟨xs,n,_,_,hlen,hxs,hf⟩:=DataW.trod_struct hu hy
      refine⟨by omega,f2 cs (fun f hfm=> ?_)⟩
      obtain⟨i,hi⟩:=List.getElem?_of_mem hfm
      have hi':fs[i]?=some f:=by simpa using hi
      have hlt:i<fs.size:=(Array.getElem?_eq_some_iff.1 hi').1
      exact⟨n,xs[i]'(by omega),by rw[hf i f hi',List.getElem?_eq_getElem (by omega)]⟩
    · rename_i n e hu
      rw[hu]at hl
      simp only[Bool.and_eq_true,decide_eq_true_eq]at hl
      obtain⟨hl1,hl2⟩:=hl
      split at h
      · rename_i te he
        cases h
        obtain⟨i1,i2⟩:=ih e te he hl2
        have elts:∀(n off:Nat),((List.replicate n te).foldr Ty.cons .unit).size=n*te.size∧∀(cs:List Value),(∀i,i<n→∃m y,DataW.trod enc0 P w 0 sp held m e ((cs.drop (off+i*P.cellsOf e)).take (P.cellsOf e))=some y)→
            ∃x:((List.replicate n te).foldr Ty.cons .unit).den,InR _ x∧CellsOf w cs off (encC _ x):=by
          intro n
          induction n with
          |zero=>intro off;exact⟨by simp[Ty.size],fun cs _=>⟨(),trivial,fun j u hj=>by simp[encC]at hj⟩⟩
          | succ n ihn=>
            intro off
            refine⟨?_,fun cs hcs=> ?_⟩
            · simp only[List.replicate_succ,List.foldr_cons,Ty.size,(ihn 0).1,Nat.succ_mul];omega
            · obtain⟨m,y,hy⟩:=hcs 0 (by omega)
              rw[Nat.zero_mul,Nat.add_zero]at hy
              obtain⟨_,x,hx1,hx2⟩:=i2 _ _ _ hy
              obtain⟨z,hz1,hz2⟩:=(ihn (off+P.cellsOf e)).2 cs (fun i hi=>by
                obtain⟨m,y,hy⟩:=hcs (i+1) (by omega)
                refine⟨m,y,?_⟩
                rw[←hy]
                congr 3
                rw[Nat.succ_mul];omega)
              refine⟨(x,z),⟨hx1,hz1⟩,?_⟩
              show CellsOf w cs off (encC te x++encC _ z)
              refine hx2.piece.append ?_
              rw[length_encC,←i1]
              exact hz2
        obtain⟨f1,f2⟩:=elts n 0
        refine⟨by rw[f1,hl1,i1],fun fuel cs y hy=> ?_⟩
        obtain⟨xs,m,_,_,hlen,hxs,hf⟩:=DataW.trod_array hu hy
        refine⟨by rw[f1,hlen,hl1,i1],f2 cs (fun i hi=> ?_)⟩
        exact⟨m,xs[i]'(by omega),by rw[Nat.zero_add,hf i hi,List.getElem?_eq_getElem (by omega)]⟩
      · cases h
    · cases h
end
end Go.Abs
set_option linter.unusedSimpArgs false
set_option linter.unusedVariables false
namespace Go.Abs
open Go
def datS:List Ty→Sh
  | []=>.nil
  |t::r=>.dat t (datS r)
def InRs:(ts:List Ty)→(datS ts).den→Prop
  | [],_=>True
  |t::r,x=>InR t x.1∧InRs r x.2
section
variable{H:Type}{enc0:TypeId×Value→H}{P:Program}{w:World}{sp:Nat→Bool}{held:Bool}
theorem agg_of {d:Nat} {t:TypeId} {ty:Ty} (h:tyOf P d t=some ty):ty.agg=(match P.underlying t with|some (.struct _)|some (.array _ _)=>true|_=>false):=by
  cases d with
  |zero=>cases h
  | succ d=>
    unfold tyOf at h
    split at h
    · rename_i hu;cases h;rw[hu];rfl
    · rename_i hu;cases h;rw[hu];rfl
    · rename_i hu;cases h;rw[hu];rfl
    · rename_i hu
      obtain⟨te,_,rfl⟩:=Option.map_eq_some_iff.1 h
      rw[hu];rfl
    · rename_i fs hu
      rw[hu]
      generalize fs.toList=l at h
      cases l with
      |nil=>cases h;rfl
      | cons f r=>
        simp only[List.foldr_cons]at h
        split at h
        · cases h;rfl
        · cases h
    · rename_i n e hu
      rw[hu]
      split at h
      · cases h
        cases n<;>rfl
      · cases h
    · cases h
theorem arg_typed {d:Nat} {t:TypeId} {ty:Ty} (ht:tyOf P d t=some ty) (hl:layOK P d t=true) {v:Value} {y:DataW H} {ps:List MemPlace} (h:DataW.Trod enc0 P w 0 sp held t v y ps)
    {base:Nat} (hv:Value.okWide P w .any base t v):∃x:ty.den,InR ty x∧PR w noX v (enc ty x):=by
  obtain⟨fuel,hf⟩:=h
  obtain⟨_,h2⟩:=trod_typed d t ty ht hl
  obtain⟨hlen,x,hx,hc⟩:=h2 _ _ _ hf
  refine⟨x,hx,?_⟩
  have hagg:=agg_of ht
  have cellwise:∀cs:Array Value,v= .agg cs→PR w noX v (.agg (encC ty x)):=by
    intro cs e
    subst e
    simp only[Value.cells]at hlen hc
    refine .agg cs _ (by rw[length_encC,←hlen];simp) (fun i hi=> ?_) (fun i u hu=> ?_)
    · obtain⟨c,h3,h4,_⟩:=hc i ((encC ty x)[i]'(by rw[length_encC,←hlen];simpa using hi)) (List.getElem?_eq_getElem _)
      rw[Nat.zero_add]at h3
      have:cs.getD i undef=c:=by
        simp only[Array.getD_eq_getD_getElem?]
        have:cs[i]?=some c:=by simpa using h3
        rw[this];rfl
      rw[this];exact h4
    · obtain⟨c,h3,_,h5⟩:=hc i u hu
      rw[Nat.zero_add]at h3
      have:cs.getD i undef=c:=by
        simp only[Array.getD_eq_getD_getElem?]
        have:cs[i]?=some c:=by simpa using h3
        rw[this];rfl
      rw[this];exact h5
  have single:(∀cs,v≠ .agg cs)→ty.agg=false→PR w noX v (enc ty x):=by
    intro hn ha
    have hcs:v.cells.toList=[v]:=by
      cases v<;>first|rfl|exact absurd rfl (hn _)
    rw[hcs]at hc
    have hl1:(encC ty x).length=1:=by rw[length_encC];exact size_one ha
    obtain⟨c,h3,_,h5⟩:=hc 0 ((encC ty x)[0]'(by omega)) (List.getElem?_eq_getElem _)
    simp at h3
    subst h3
    have one:∀(l:List AV) (h:l.length=1),wrap false l=l[0]'(by omega):=by
      intro l h
      match l,h with
      | [a],_=>rfl
    have:enc ty x=(encC ty x)[0]'(by omega):=by
      unfold enc
      rw[ha]
      exact one _ hl1
    rw[this];exact h5
  unfold Value.okWide at hv
  cases ha:ty.agg with
  | true=>
    rw[ha]at hagg
    have:enc ty x= .agg (encC ty x):=by unfold enc wrap;rw[ha]
    rw[this]
    split at hv
    · obtain⟨cs,e,_⟩:=hv;exact cellwise cs e
    · obtain⟨cs,e,_⟩:=hv;exact cellwise cs e
    · rename_i h1 h2
      split at hagg
      · rename_i e;exact absurd e (h1 _)
      · rename_i e;exact absurd e (h2 _ _)
      · cases hagg
  | false=>
    rw[ha]at hagg
    refine single (fun cs e=> ?_) ha
    subst e
    split at hv
    · rename_i fs e;rw[e]at hagg;cases hagg
    · rename_i n e0 e;rw[e]at hagg;cases hagg
    · unfold Cell.okWide at hv
      split at hv<;>first|(rename_i e _;cases e;done)|(rename_i e;cases e;done)|skip
      unfold Cell.ok at hv
      split at hv<;>first|(rename_i e _;cases e;done)|(rename_i e;cases e;done)|exact hv
theorem args_typed {d base:Nat}:∀(ts:List TypeId) (tys:List Ty) (vs:List Value) (ds:List (DataW H)) (ps:List MemPlace),ts.mapM (tyOf P d)=some tys→(ts.all fun t=>layOK P d t)=true→
    DataW.TrodAll enc0 P w 0 sp held ts vs ds ps→(∀(j:Nat) t v,ts[j]?=some t→vs[j]?=some v→Value.okWide P w .any base t v)→
    vs.length=tys.length∧ds.length=tys.length∧∃x:(datS tys).den,InRs tys x∧∀(ℓ:Lens) (i:Nat) (u:SV),((datS tys).un x)[i]?=some u→∃v,vs[i]?=some v∧PR w noX v (dV ℓ u):=by
  intro ts
  induction ts with
  | nil=>
    intro tys vs ds ps h1 _ h2 _
    have h1:tys=[]:=by simpa using h1.symm
    subst h1
    cases vs<;>cases ds<;>simp[DataW.TrodAll]at h2
    exact⟨rfl,rfl,(),trivial,fun ℓ i u hu=>by simp[datS,Sh.un]at hu⟩
  | cons t r ih =>
    intro tys vs ds ps h1 hl h2 hv
    rw[List.mapM_cons]at h1
    cases ha:tyOf P d t with
    |none=>simp[ha]at h1
    | some ty =>
      cases hb:r.mapM (tyOf P d)with
      |none=>simp[ha,hb]at h1
      | some tr =>
        simp[ha,hb]at h1
        subst h1
        simp only[List.all_cons,Bool.and_eq_true]at hl
        cases vs with
        |nil=>cases ds<;>simp[DataW.TrodAll]at h2
        | cons v vs=>
          cases ds with
          |nil=>simp[DataW.TrodAll]at h2
          | cons y ds=>
            simp only[DataW.TrodAll]at h2
            obtain⟨p,q,h3,h4,_⟩:=h2
            obtain⟨x,hx1,hx2⟩:=arg_typed ha hl.1 h3 (hv 0 t v rfl rfl)
            obtain⟨k1,k2,z,hz1,hz2⟩:=ih tr vs ds q hb hl.2 h4 (fun j t' v' e1 e2=>hv (j+1) t' v' (by simpa using e1) (by simpa using e2))
            refine⟨by simp[k1],by simp[k2],(x,z),⟨hx1,hz1⟩,fun ℓ i u hu=> ?_⟩
            cases i with
            | zero=>
              simp only[datS,Sh.un,List.getElem?_cons_zero,Option.some.injEq]at hu
              subst hu
              refine⟨v,rfl,?_⟩
              have:dV ℓ (unT ty x)=enc ty x:=by
                rw[←unT_enc ty x ℓ]
                exact notTup_d (by cases ty<;>rfl) ℓ
              rw[this];exact hx2
            | succ i=>
              obtain⟨v',e1,e2⟩:=hz2 ℓ i u (by simpa[datS,Sh.un]using hu)
              exact⟨v',by simpa using e1,e2⟩
theorem length_datS(tys:List Ty)(x:(datS tys).den):((datS tys).un x).length=tys.length:=by
  induction tys with
  |nil=>rfl
  |cons t r ih=>simp only[datS,Sh.un,List.length_cons,ih]
theorem zip_range:∀(vs:List SV) (i:Nat),zipFr (List.range' i vs.length) vs=frOfS vs i:=by
  intro vs
  induction vs with
  |nil=>intro i;rfl
  |cons v r ih=>intro i;simp only[List.length_cons,List.range'_succ,zipFr,frOfS,ih]
theorem law_calls{f:FuncId}{fn:Func}{body:Code}(hfn:P.funcs[f]?=some fn)(hbody:fn.body=some body){tys:List Ty}{r:Nat}{m:(Sg.den ⟨List.range' 0 tys.length,datS tys,.nil⟩)→Option (Sg.den ⟨[r],.dat .bool .nil,.nil⟩)}
    (hok:SpecOK P f ⟨0,⟨List.range' 0 tys.length,datS tys,.nil⟩,⟨[r],.dat .bool .nil,.nil⟩,m⟩) (hnt:tys.length≤fn.ntmps)
    (hfin:(finishS P fn 0 (Sg.un ⟨[r],.dat .bool .nil,.nil⟩ ((true,()),()))).mean=some (.bool true,[],[]))
    {x:(datS tys).den} (hx:m (x,())=some ((true,()),())) {args:Array Value} (hargs:args.size=tys.length)
    (hrel:∀(ℓ:Lens) (i:Nat) (u:SV),((datS tys).un x)[i]?=some u→∃v,args.toList[i]?=some v∧PR w noX v (dV ℓ u)):
    Calls P f args w fun e w'=>e= .returned (.bool true)∧RowKit.Below w.heap.size w w':=by
  obtain⟨ℓ,_,e,he,hto⟩:=hok fn body hfn hbody (x,()) ((true,()),()) hx (lenS (Sg.un ⟨[r],.dat .bool .nil,.nil⟩ ((true,()),())).hp) (lenS_agr _)
  have hst:dS ℓ (Sg.un ⟨List.range' 0 tys.length,datS tys,.nil⟩ (x,()))={fr:=frOf (((datS tys).un x).map (dV ℓ)) 0,hp:=heapOf []}:=by
    simp only[dS,Sg.un]
    congr 1
    rw[←frOfS_d]
    congr 1
    rw[←length_datS tys x]
    exact zip_range _ _
  rw[hst]at hto
  have hc:=contract_of (args:=((datS tys).un x).map (dV ℓ)) (sub:=[]) hfn hbody (by rw[List.length_map,length_datS];exact hnt) hto he
    (finishS_spec hfin (ℓ':=fun _=>0) (fun j b hb=>by simp at hb))
  have hemp:∀g,get (heapOf []) g=none:=fun g=>by simp[get,heapOf]
  have hXX:∀(ρ:Rho) b o,¬ XX ρ (heapOf []) b o:=fun ρ b o ⟨g,k,hg,_⟩=>by rw[hemp]at hg;cases hg
  have hr:HR noX w (fun _=>none) (heapOf []):=by
    refine⟨fun g k hg=> ?_,fun g g' k k' b hg=> ?_,fun g b hb=> ?_,fun g b hb=> ?_,fun g k b o hg=> ?_,fun b o h=>h.elim⟩
    · rw[hemp]at hg;cases hg
    · rw[hemp]at hg;cases hg
    · cases hb
    · cases hb
    · rw[hemp]at hg;cases hg
  refine(hc noX w (fun _=>none) args hr (by rw[List.length_map,length_datS];exact hargs) (fun i u hu=> ?_)).mono ?_
  · rw[List.getElem?_map]at hu
    obtain⟨s,hs,rfl⟩:=Option.map_eq_some_iff.1 hu
    obtain⟨v,h1,h2⟩:=hrel ℓ i s hs
    have:args.getD i undef=v:=by
      simp only[Array.getD_eq_getD_getElem?]
      have:args[i]?=some v:=by simpa using h1
      rw[this];rfl
    rw[this]
    exact .pur _ _ (h2.mono ((Stable.refl w noX).less fun b o _ hxu=>by
      rcases hxu with hxu|hxu
      · exact(hXX _ _ _ hxu).elim
      · exact hxu))
  · rintro e w' ⟨v,ρ',rfl,_,hv,hstab,_⟩
    refine⟨?_,hstab.below (hXX _)⟩
    have:=hv.boolInv
    rw[this]
theorem args_after (hl:laidOutB P=true) {W W':World} (hb:RowKit.Below W.heap.size W W') {sp':Nat→Bool}:∀(ts:List TypeId) (vs:List Value) (ds:List (DataW H)) (ps:List MemPlace),(ts.all fun t=>P.readableRec t&&decide (t<P.types.size))=true→
    DataW.TrodAll enc0 P W 0 (fun _=>true) true ts vs ds ps→(∀p∈ps,p.block<W.heap.size)→(∀p∈ps,sp' p.block=true)→DataW.TrodAll enc0 P W' 0 sp' true ts vs ds ps:=by
  intro ts
  induction ts with
  |nil=>intro vs ds ps _ h _ _;cases vs<;>cases ds<;>simp[DataW.TrodAll]at h ⊢;exact h
  | cons t r ih=>
    intro vs ds ps ht h hlt hsp
    simp only[List.all_cons,Bool.and_eq_true,decide_eq_true_eq]at ht
    cases vs with
    |nil=>cases ds<;>simp[DataW.TrodAll]at h
    | cons v vs=>
      cases ds with
      |nil=>simp[DataW.TrodAll]at h
      | cons y ds=>
        simp only[DataW.TrodAll]at h ⊢
        obtain⟨p,q,h1,h2,rfl⟩:=h
        refine⟨p,q,WideElems.Trod_stays hl ht.1.1 ht.1.2 h1 (fun x hx=>hb.same (hlt x (by simp[hx]))) (fun x hx=>hsp x (by simp[hx])),ih vs ds q ht.2 h2 (fun x hx=>hlt x (by simp[hx])) (fun x hx=>hsp x (by simp[hx])),rfl⟩
theorem law_contract{f:FuncId}{fn:Func}(hfn:P.funcs[f]?=some fn)(hsome:fn.body.isSome=true){tys:List Ty}{r:Nat}{m:(Sg.den ⟨List.range' 0 tys.length,datS tys,.nil⟩)→Option (Sg.den ⟨[r],.dat .bool .nil,.nil⟩)}
    (hok:SpecOK P f ⟨0,⟨List.range' 0 tys.length,datS tys,.nil⟩,⟨[r],.dat .bool .nil,.nil⟩,m⟩) (hnt:tys.length≤fn.ntmps)
    (hfin:(finishS P fn 0 (Sg.un ⟨[r],.dat .bool .nil,.nil⟩ ((true,()),()))).mean=some (.bool true,[],[]))
    (hlaid:laidOutB P=true) (htys:fn.params.toList.mapM (tyOf P 8)=some tys) (hlay:(fn.params.toList.all fun t=>layOK P 8 t)=true)
    (hread:(fn.params.toList.all fun t=>P.readableRec t&&decide (t<P.types.size))=true)
    {tb:TypeId} (hres:fn.resultTypes= #[tb]) (htb:P.underlying tb=some .bool)
    {s:ChangeSpec} (hvars:s.vars=[]) (hs:∀ds:List (DataW H),ds.length=tys.length→s.fn H ds={results:=[.lit (.bool true)],args:=ds})
    (hm:∀x,InRs tys x→m (x,())=some ((true,()),()))
    {W:World} {base:Nat} {args:Array Value} {ds gs:List (DataW H)} {before:List MemPlace}
    (hval:∀(j:Nat) t v,fn.params[j]?=some t→args[j]?=some v→Value.okWide P W .any base t v)
    (hW:DataW.Whole enc0 P fn.params.toList s.vars false W args.toList ds gs before):
    Calls P f args W fun e W'=>∃v,e= .returned v∧s.post enc0 P fn false true false false W args v W':=by
  obtain⟨body,hbody⟩:=Option.isSome_iff_exists.1 hsome
  have hW':=hW
  obtain⟨p,q,hA,hV,rfl,hfz,hnd⟩:=hW
  rw[hvars]at hV
  obtain⟨k1,k2,x,hx1,hx2⟩:=args_typed (d:=8) (base:=base) fn.params.toList tys args.toList ds p htys hlay hA (fun j t v e1 e2=>hval j t v (by simpa using e1) (by simpa using e2))
  have hgs:gs=[]∧q=[]:=by
    cases gs with
    |nil=>exact⟨rfl,by simpa[DataW.TrodVars]using hV⟩
    |cons _ _=>simp[DataW.TrodVars]at hV
  obtain⟨rfl,rfl⟩:=hgs
  refine(law_calls (w:=W) hfn hbody hok hnt hfin (hm x hx1) (by simpa using k1) hx2).mono ?_
  rintro e W' ⟨rfl,hb⟩
  have hlt:∀y∈p,y.block<W.heap.size:=fun y hy=>by simpa using hW'.lt y (by simpa using hy)
  refine⟨_,rfl,ds,[],p++ [],[],p,[],hW',?_,?_,?_,?_,fun h=>by cases h⟩
  · rw[List.append_nil,hs ds k2,hres]
    show DataW.TrodAll enc0 P W' _ _ _ [tb] _ _ _
    simp only[Value.resultList,Array.size]
    exact⟨[],[],RowKit.shut_bool htb true,rfl,rfl⟩
  · rw[List.append_nil,hs ds k2]
    exact args_after hlaid hb _ _ _ _ hread hA hlt (fun y hy=>by simpa using hlt y hy)
  · rw[List.append_nil,hs ds k2,hvars]
    exact rfl
  · exact hb.frame _
end
end Go.Abs
set_option linter.unusedSimpArgs false
set_option linter.unusedVariables false
namespace Go.Abs
open Go
theorem w64_id{x:Int}(h1: -9223372036854775808≤x)(h2:x≤9223372036854775807):w64 x=x:=by
  unfold w64 IntKind.wrap
  simp only[IntKind.bits,IntKind.signed,Bool.true_and]
  split<;>(rename_i h;simp at h;omega)
theorem w64_range(x:Int): -9223372036854775808≤w64 x∧w64 x≤9223372036854775807:=by
  unfold w64 IntKind.wrap
  simp only[IntKind.bits,IntKind.signed,Bool.true_and]
  split<;>(rename_i h;simp at h;omega)
end Go.Abs
set_option linter.unusedSimpArgs false
set_option linter.unusedVariables false
namespace Go.Abs
open Go
theorem To.split{P:Program}{nt keep sz:Nat}{H:Heap}{c:Code}{e:Ex}{s':St}(hT:∀b,To P nt keep c {fr:=[(0,.slc b)],hp:=H} e s'):To P nt keep c {fr:=[(0,.lst sz [] false)],hp:=H} e s':=by
  intro Y a w ρ Q hsr hQ
  have h0:=hsr.fr 0
  simp only[look,if_true]at h0
  have hv:∃ad cap,a.tmps.getD 0 undef= .slice ad 0 cap:=by
    generalize a.tmps.getD 0 undef=v at h0
    cases h0 with
    | pur v x h=>cases h with
      |lst0 ad cap sz t ht=>exact⟨_,_,rfl⟩
      |lst b o n cap sz t xs f hn hc ht hsz hx hr=>simp only[List.length_nil]at hn;subst hn;exact⟨_,_,rfl⟩
  obtain⟨ad,cap,hv⟩:=hv
  refine hT ad.isNone Y a w ρ Q ⟨hsr.1,hsr.2,fun t=> ?_,hsr.4⟩ hQ
  simp only[look]
  split
  · rename_i ht
    subst ht
    rw[hv]
    exact .pur _ _ (.slc ad cap)
  · exact .undef _
theorem Weak.drop{nt:Nat}(s:St):Weak nt 0 s {fr:=[(2,look s.fr 2)],hp:=s.hp}:=
  Weak.of (HW.refl _) fun t=>by
    simp only[look]
    split
    · rename_i h;subst h;exact VW.refl _ _
    · exact VW.undef
end Go.Abs
set_option linter.unusedSimpArgs false
set_option linter.unusedVariables false
namespace Go.Abs
open Go
theorem cell_same{w w':World}{b:Nat}(h:w'.heap[b]?=w.heap[b]?)(o:Nat):w'.cell? ⟨b,o,none⟩=w.cell? ⟨b,o,none⟩:=by
  simp only[World.cell?,h]
end Go.Abs
set_option linter.unusedSimpArgs false
set_option linter.unusedVariables false
namespace Go.Abs
open Go
structure Kept(w w':World):Prop where
  os:w'.os=w.os
  tape:w'.tape=w.tape
  output:w'.output=w.output
  size:w.heap.size≤w'.heap.size
  old:∀i,i<w.heap.size→w'.heap[i]?=w.heap[i]?
theorem Kept.refl(w:World):Kept w w:=⟨rfl,rfl,rfl,Nat.le_refl _,fun _ _=>rfl⟩
def isPure:SV→Bool
  | .int ..| .bool _| .str _| .row ..=>true
  |_=>false
def pureC(F:List SV→Tr SV):SCall:=fun args sub=>match sub with
  | []=>.when (args.all isPure) ((F args).bind fun v=>.ret (v,[],[]))
  |_=>.fail
theorem isPure_rel{w:World}{X:XT}{ρ:Rho}{x:SV}{v:Value}{ℓ:Lens}(h:isPure x=true)(hv:VR w X ρ v (dV ℓ x)):PR w X v (d1 ℓ x):=by
  cases x<;>first|(simp[isPure]at h;done)|skip
  case row t l tg=>
    obtain⟨_,_,_,_,_,hp⟩:=VR.lstInv (show VR w X ρ v (.lst _ _ _)from hv)
    exact hp
  all_goals
    cases hv with
    |pur v x h=>exact h
theorem PR.strInv{w:World}{X:XT}{v:Value}{s:ByteArray}(h:PR w X v (.str s)):v= .string s:=by cases h;rfl
end Go.Abs
set_option linter.unusedSimpArgs false
set_option linter.unusedVariables false
namespace Go.Abs
open Go
theorem new_ok{P:Program}{f:FuncId}{F:List SV→Tr SV}(hent:Entered P f)
    (h:∀args v,(F args).mean=some v→∀(w:World) (X:XT) (vals:Array Value),vals.size=args.length→(∀(i:Nat) (x:SV),args[i]?=some x→PR w X (vals.getD i undef) (d1 (fun _=>0) x))→
      Calls P f vals w fun e w'=>∃u,e= .returned u∧Kept w w'∧∀(X':XT) (ρ:Rho) (ℓ:Lens),(∀b o,X' b o→b<w.heap.size)→VR w' X' ρ u (dV ℓ v)):CallOK P f (pureC F):=by
  intro args sub out hc ℓ0 ℓ' _ _
  refine⟨hent,?_⟩
  unfold pureC at hc
  split at hc
  · obtain⟨hall,hc⟩:=Tr.mean_when hc
    obtain⟨v,h1,h2⟩:=Tr.mean_bind hc
    have:=Tr.mean_ret h2
    subst this
    have hw:=h args v h1
    intro Y w ρ vals hr hsz hv
    refine(hw w (XU Y ρ (heapOf [])) vals (by simpa using hsz) (fun i x hi=> ?_)).mono ?_
    · have hp:isPure x=true:=(List.all_eq_true.1 hall) x (List.mem_of_getElem? hi)
      have:=isPure_rel hp (hv i (dV ℓ0 x) (by rw[List.getElem?_map,hi];rfl))
      cases x<;>first|exact this|(simp[isPure]at hp;done)
    rintro e w' ⟨u,rfl,k,hu⟩
    have hH:∀g,get (heapBack (([]:List (Option Blk))) ([]:List Blk)) g=none:=fun g=>by simp[get,heapBack]
    have hXX:∀b o,¬ XX ρ (heapBack [] []) b o:=by
      rintro b o ⟨g,k,a1,_⟩
      rw[hH]at a1;cases a1
    refine⟨u,ρ,rfl,?_,?_,?_,fun _ _ h=>h⟩
    · refine⟨fun g k hg=> ?_,fun g g' k k' b hg=> ?_,fun g b hb=> ?_,fun g b hb=> ?_,fun g k b o hg=> ?_,fun b o hy=> ?_⟩
      · exact absurd ((hH g).symm.trans hg) (by simp)
      · exact absurd ((hH g).symm.trans hg) (by simp)
      · exact hr.dom g b hb
      · have:=hr.lt g b hb;have:=k.size;omega
      · exact absurd ((hH g).symm.trans hg) (by simp)
      · have:=hr.ylt b o hy;have:=k.size;omega
    · refine hu _ ρ ℓ' (fun b o hx=> ?_)
      rcases hx with hx|hx
      · exact absurd hx (hXX b o)
      · exact hr.ylt b o hx
    · refine⟨k.os,k.tape,k.output,k.size,fun b o hb _=>⟨hXX b o,cell_same (k.old b hb) o⟩,fun b hb=> ?_,fun b hb _=>k.old b hb⟩
      simp only[bsize,k.old b hb]
  · exact(Tr.mean_fail hc).elim
def RowGe(w:World)(b:Nat)(t:TypeId)(n:Nat)(f:Nat→Value):Prop:=∃c:Array Value,w.heap[b]?=some (.cells c t (0,0))∧n≤c.size∧∀i,i<n→c[i]?=some (f i)
theorem RowGe.cell{w:World}{b t n:Nat}{f:Nat→Value}(h:RowGe w b t n f){i:Nat}(hi:i<n):w.cell? ⟨b,i,none⟩=some (f i):=by
  obtain⟨c,hb,_,hc⟩:=h
  simp[World.cell?,hb,hc i hi]
theorem RowGe.frozen{w:World}{b t n:Nat}{f:Nat→Value}(h:RowGe w b t n f)(i:Nat):w.frozen? ⟨b,i,none⟩=false:=by
  obtain⟨c,hb,_,_⟩:=h
  simp[World.frozen?,hb]
theorem RowGe.lt{w:World}{b t n:Nat}{f:Nat→Value}(h:RowGe w b t n f):b<w.heap.size:=by
  obtain⟨c,hb,_,_⟩:=h
  exact(Array.getElem?_eq_some_iff.1 hb).1
theorem RowGe.congr{w:World}{b t n:Nat}{f g:Nat→Value}(h:RowGe w b t n f)(e:∀i,i<n→f i=g i):RowGe w b t n g:=by
  obtain⟨c,hb,hn,hc⟩:=h
  exact⟨c,hb,hn,fun i hi=>by rw[hc i hi,e i hi]⟩
theorem RowGe.of_block{w w':World}{b t n:Nat}{f:Nat→Value}(h:RowGe w b t n f)(e:w'.heap[b]?=w.heap[b]?):RowGe w' b t n f:=by
  obtain⟨c,hb,hn,hc⟩:=h
  exact⟨c,e.trans hb,hn,hc⟩
theorem RowGe.alloc{w:World}{b t n:Nat}{f:Nat→Value}(h:RowGe w b t n f)(X:Obj):RowGe (w.alloc X) b t n f:=by
  refine h.of_block ?_
  have:=h.lt
  simp only[World.alloc]
  rw[Array.getElem?_push,if_neg (by omega)]
theorem RowGe.drew{w:World}{b t n:Nat}{f:Nat→Value}(h:RowGe w b t n f):RowGe w.drew b t n f:=h.of_block rfl
theorem RowGe.set{w:World}{b t n:Nat}{f:Nat→Value}(h:RowGe w b t n f)(i:Nat)(v:Value):RowGe (w.setCell ⟨b,i,none⟩ v) b t n (fun j=>if j=i then v else f j):=by
  obtain⟨c,hb,hn,hc⟩:=h
  refine⟨c.setIfInBounds i v,by simp[World.setCell,Array.getElem?_modify,hb],by simpa using hn,fun j hj=> ?_⟩
  rw[Array.getElem?_setIfInBounds]
  by_cases e:j=i
  · subst e
    rw[if_pos rfl,if_pos (by omega)]
    simp
  · rw[if_neg (fun h=>e h.symm)]
    simp only[if_neg e]
    exact hc j hj
theorem RowGe.setOther{w:World}{b t n:Nat}{f:Nat→Value}(h:RowGe w b t n f){a:Addr}(hne:b≠a.block)(v:Value):RowGe (w.setCell a v) b t n f:=by
  refine h.of_block ?_
  simp only[World.setCell]
  rw[Array.getElem?_modify,if_neg (fun e=>hne e.symm)]
theorem ints_rel{w:World}{X:XT}{b T n:Nat}{M:Nat→Int}(h:RowGe w b T n (fun j=>.int .i64 (M j)))(hX:∀o,¬ X b o)(c:Nat)(hc:n≤c):
    PR w X (.slice (some ⟨b,0,none⟩) n c) (.lst (lsz 1 ((List.range n).map fun j=>AV.int .i64 (M j))) ((List.range n).map fun j=>AV.int .i64 (M j)) false):=by
  refine PR.canon (.lst b 0 n c 1 false _ (fun j _=>.int .i64 (M j)) (by simp) hc (by simp) ?_ ?_ ?_)
  · intro i x hi
    rw[List.getElem?_map]at hi
    obtain⟨y,_,rfl⟩:=Option.map_eq_some_iff.1 hi
    rfl
  · intro i x hi j u hj
    have hl:=(List.getElem?_eq_some_iff.1 hi).1
    rw[List.length_map,List.length_range]at hl
    rw[List.getElem?_map]at hi
    obtain⟨y,_,rfl⟩:=Option.map_eq_some_iff.1 hi
    have hj0:j=0:=by
      have:=(List.getElem?_eq_some_iff.1 hj).1
      simp[AV.cells]at this;exact this
    subst hj0
    refine⟨hX _,?_,rfl⟩
    rw[show 0+(i*1+0)=i by omega]
    exact h.cell hl
  · intro i x hi j u hj
    rw[List.getElem?_map]at hi
    obtain⟨y,hy,rfl⟩:=Option.map_eq_some_iff.1 hi
    have hl:=(List.getElem?_eq_some_iff.1 hy).1
    rw[List.length_range]at hl
    rw[List.getElem?_range hl]at hy
    cases hy
    have hj0:j=0:=by
      have:=(List.getElem?_eq_some_iff.1 hj).1
      simp[AV.cells]at this;exact this
    subst hj0
    cases hj
    exact .int _ _
structure Grid(w:World)(b To Ti n m:Nat)(R:Nat→Nat)(C:Nat→Nat)(M:Nat→Nat→Int):Prop where
  top:RowGe w b To n (fun i=>.slice (some ⟨R i,0,none⟩) m (C i))
  row:∀i,i<n→RowGe w (R i) Ti m (fun j=>.int .i64 (M i j))
  inj:∀i j,i<n→j<n→R i=R j→i=j
  apart:∀i,i<n→R i≠b
  cap:∀i,i<n→m≤C i
def gridL(n m:Nat)(M:Nat→Nat→Int):List (List Int):=(List.range n).map fun i=>(List.range m).map (M i)
theorem Grid.set{w:World}{b To Ti n m:Nat}{R C:Nat→Nat}{M:Nat→Nat→Int}(h:Grid w b To Ti n m R C M){i j:Nat}(hi:i<n)(v:Int):
    Grid (w.setCell ⟨R i,j,none⟩ (.int .i64 v)) b To Ti n m R C (fun a c=>if a=i∧c=j then v else M a c):=by
  refine⟨h.top.setOther (fun e=>h.apart i hi e.symm) _,fun a ha=> ?_,h.inj,h.apart,h.cap⟩
  by_cases e:a=i
  · subst e
    refine((h.row a ha).set j _).congr (fun c _=> ?_)
    by_cases e2:c=j
    · simp[e2]
    · simp[e2]
  · refine((h.row a ha).setOther (fun e2=>e (h.inj a i ha hi e2)) _).congr (fun c _=> ?_)
    simp[e]
theorem Grid.congr{w:World}{b To Ti n m:Nat}{R C:Nat→Nat}{M N:Nat→Nat→Int}(h:Grid w b To Ti n m R C M)(e:∀i j,i<n→j<m→M i j=N i j):Grid w b To Ti n m R C N:=
  ⟨h.top,fun i hi=>(h.row i hi).congr (fun j hj=>by rw[e i j hi hj]),h.inj,h.apart,h.cap⟩
theorem Grid.drew{w:World}{b To Ti n m:Nat}{R C:Nat→Nat}{M:Nat→Nat→Int}(h:Grid w b To Ti n m R C M):Grid w.drew b To Ti n m R C M:=
  ⟨h.top.drew,fun i hi=>(h.row i hi).drew,h.inj,h.apart,h.cap⟩
theorem Grid.rel{w:World}{X:XT}{b To Ti n m:Nat}{R C:Nat→Nat}{M:Nat→Nat→Int}(h:Grid w b To Ti n m R C M)(hX:∀o,¬ X b o)(hXR:∀i o,i<n→¬ X (R i) o)(c:Nat)(hc:n≤c)(ℓ:Lens):
    PR w X (.slice (some ⟨b,0,none⟩) n c) (d1 ℓ (.row (.row (.int .i64)) (gridL n m M) false)):=by
  show PR w X _ (rowAV (.row (.int .i64)) (gridL n m M) false)
  have e:(@List.map (Ty.den (.row (.int .i64))) AV (enc (.row (.int .i64))) (gridL n m M))=(List.range n).map fun i=>AV.lst (lsz 1 ((List.range m).map fun j=>AV.int .i64 (M i j))) ((List.range m).map fun j=>AV.int .i64 (M i j)) false:=by
    refine(List.map_map (g:=enc (.row (.int .i64))) (f:=fun i=>(List.range m).map (M i)) (l:=List.range n)).trans ?_
    refine List.map_congr_left (fun i _=> ?_)
    show AV.lst (lsz 1 (((List.range m).map (M i)).map (fun x=>AV.int .i64 x))) (((List.range m).map (M i)).map (fun x=>AV.int .i64 x)) false=_
    rw[List.map_map]
    rfl
  unfold rowAV
  rw[e]
  refine PR.canon (.lst b 0 n c 1 false _ (fun i _=>.slice (some ⟨R i,0,none⟩) m (C i)) (by simp) hc (by simp) ?_ ?_ ?_)
  · intro i x hi
    rw[List.getElem?_map]at hi
    obtain⟨y,_,rfl⟩:=Option.map_eq_some_iff.1 hi
    rfl
  · intro i x hi j u hj
    have hl:=(List.getElem?_eq_some_iff.1 hi).1
    rw[List.length_map,List.length_range]at hl
    rw[List.getElem?_map]at hi
    obtain⟨y,_,rfl⟩:=Option.map_eq_some_iff.1 hi
    have hj0:j=0:=by
      have:=(List.getElem?_eq_some_iff.1 hj).1
      simp[AV.cells]at this;exact this
    subst hj0
    refine⟨hX _,?_,rfl⟩
    rw[show 0+(i*1+0)=i by omega]
    exact h.top.cell hl
  · intro i x hi j u hj
    rw[List.getElem?_map]at hi
    obtain⟨y,hy,rfl⟩:=Option.map_eq_some_iff.1 hi
    have hl:=(List.getElem?_eq_some_iff.1 hy).1
    rw[List.length_range]at hl
    rw[List.getElem?_range hl]at hy
    cases hy
    have hj0:j=0:=by
      have:=(List.getElem?_eq_some_iff.1 hj).1
      simp[AV.cells]at this;exact this
    subst hj0
    cases hj
    exact ints_rel (h.row i hl) (hXR i · hl) _ (h.cap i hl)
section
variable{P:Program}{w:World}
end
end Go.Abs
set_option linter.unusedSimpArgs false
set_option linter.unusedVariables false
namespace Go.Plain
open Go Go.Abs
theorem sS:(∀h:Decidable True,@decide True h=true)∧(∀h:Decidable False,@decide False h=false)∧(∀{α:Type} (a b:α),cond true a b=a)∧(∀{α:Type} (a b:α),cond false a b=b)∧(∀{α β:Type} (a:α) (f:α→Option β),(some a).bind f=f a)∧(!true)=false∧(!false)=true∧(∀b:Bool,(true&&b)=b)∧(∀b:Bool,(b&&true)=b)∧(∀b:Bool,(false&&b)=false)∧(∀b:Bool,(b&&false)=false)∧(∀{α:Type} [BEq α] [LawfulBEq α] (a:α),(a==a)=true)∧(∀{α:Type} [BEq α] [LawfulBEq α] (a:α),(a !=a)=false):=
  ⟨fun _=>decide_true _,fun _=>decide_false _,fun _ _=>rfl,fun _ _=>rfl,fun _ _=>rfl,rfl,rfl,Bool.true_and,Bool.and_true,Bool.false_and,Bool.and_false,fun _=>beq_self_eq_true _,fun _=>bne_self_eq_false _⟩
def rowG{A B:Type}(l:List A)(n:Int)(F:A→Option B):Option B:=bif decide (0≤n)then(l[n.toNat]?).bind F else none
theorem rowAt_G{A B:Type}{l:List A}{n:Int}(F:A→Option B):Abs.rowAt l n (fun e _=>F e)=rowG l n F:=by
  unfold Abs.rowAt rowG
  cases l[n.toNat]?<;>rfl
theorem rowG_nat{A B:Type}{l:List A}{i:Nat}{e:A}(h:l[i]?=some e)(F:A→Option B):rowG l (i:Int) F=F e:=by
  unfold rowG
  rw[show decide (0≤(i:Int))=true from decide_eq_true (by omega),Int.toNat_natCast,h];rfl
theorem rowG_int{A B:Type}{l:List A}{n:Int}{e:A}(h0:0≤n)(h:l[n.toNat]?=some e)(F:A→Option B):rowG l n F=F e:=by
  unfold rowG
  rw[show decide (0≤n)=true from decide_eq_true h0,h];rfl
theorem w64_nat{i:Nat}(h:i<9223372036854775807):w64 ((i:Int)+1)=((i+1:Nat):Int):=by rw[w64_id (by omega) (by omega)];omega
theorem drop_at{A:Type}{l:List A}{i:Nat}(h:i<l.length):∃e,l[i]?=some e∧l.drop i=e::l.drop (i+1):=
  ⟨l[i],List.getElem?_eq_getElem h,List.drop_eq_getElem_cons h⟩
theorem getD_some{A:Type}{l:List A}{i:Nat}(h:i<l.length):∃e,l[i]?=some e:=⟨_,List.getElem?_eq_getElem h⟩
theorem bind_of{A B:Type}{o:Option A}{f:A→Option B}{y:Option B}(x:A)(h:o=some x)(h2:f x=y):o.bind f=y:=by rw[h];exact h2
def runL {S E B:Type} (step:Nat→S→E→S⊕B) (fin:S→B):Nat→List E→S→B
  |_,[],s=>fin s
  | i,e::r,s=>match step i s e with
    | .inl s'=>runL step fin (i+1) r s'
    | .inr b=>b
theorem loop_list{A B S E:Type}{f:A→Option (A⊕B)}(l:List E)(st:Nat→S→A)(step:Nat→S→E→S⊕B)(fin:S→B)(I:Nat→S→Prop)
    (h1:∀i e s,l[i]?=some e→i<l.length→I i s→f (st i s)=some (match step i s e with| .inl s'=>.inl (st (i+1) s')| .inr b=>.inr b))
    (hI:∀i e s s',l[i]?=some e→I i s→step i s e= .inl s'→I (i+1) s')
    (h2:∀s,I l.length s→f (st l.length s)=some (.inr (fin s))):
    ∀(k i:Nat) (s:S),i+k=l.length→I i s→loopT f (st i s)=some (runL step fin i (l.drop i) s):=by
  intro k
  induction k with
  | zero=>
    intro i s h hi
    obtain rfl:i=l.length:=by omega
    rw[List.drop_length]
    exact loopT_inr (h2 s hi)
  | succ k ih=>
    intro i s h hi
    obtain⟨e,he,hd⟩:=drop_at (l:=l) (i:=i) (by omega)
    have q:=h1 i e s he (by omega) hi
    rw[hd]
    unfold runL
    cases hs:step i s e with
    | inl s'=>
      rw[hs]at q
      simp only
      rw[←ih (i+1) s' (by omega) (hI i e s s' he hi hs)]
      exact loopT_inl q
    | inr b=>
      rw[hs]at q
      exact loopT_inr q
theorem loop_list0{A B S E:Type}{f:A→Option (A⊕B)}(l:List E)(st:Nat→S→A)(step:Nat→S→E→S⊕B)(fin:S→B)
    (h1:∀i e s,l[i]?=some e→i<l.length→f (st i s)=some (match step i s e with| .inl s'=>.inl (st (i+1) s')| .inr b=>.inr b))
    (h2:∀s,f (st l.length s)=some (.inr (fin s))) (s:S):loopT f (st 0 s)=some (runL step fin 0 l s):=by
  have:=loop_list l st step fin (fun _ _=>True) (fun i e s he hl _=>h1 i e s he hl) (fun _ _ _ _ _ _ _=>trivial) (fun s _=>h2 s) l.length 0 s (by omega) trivial
  rwa [List.drop_zero]at this
theorem runL_fold{S E B:Type}(g:S→E→S)(fin:S→B):∀(l:List E) (i:Nat) (s:S),runL (fun _ s e=>.inl (g s e)) fin i l s=fin (l.foldl g s):=by
  intro l
  induction l with
  |nil=>intro i s;rfl
  |cons e r ih=>intro i s;exact ih (i+1) (g s e)
theorem loop_thru{A B E:Type}{f:A→Option (A⊕B)}(l:List E)(st:Nat→A)(fin:B)
    (h1:∀i e,l[i]?=some e→i<l.length→f (st i)=some (.inl (st (i+1)))) (h2:f (st l.length)=some (.inr fin)):loopT f (st 0)=some fin:=by
  have:=loop_list0 (S:=Unit) l (fun i _=>st i) (fun _ _ _=>.inl ()) (fun _=>fin) (fun i e _ he hi=>h1 i e he hi) (fun _=>h2) ()
  exact this.trans (congrArg some (runL_fold (fun _ _=>()) (fun _=>fin) l 0 ()))
theorem loop_ind{A B:Type}{f:A→Option (A⊕B)}{Q:B→Prop}(I:Nat→A→Prop)(n:Nat)
    (h1:∀i a,i<n→I i a→∃a',f a=some (.inl a')∧I (i+1) a') (h2:∀a,I n a→∃b,f a=some (.inr b)∧Q b):∀a,I 0 a→∃b,loopT f a=some b∧Q b:=by
  have:∀(k i:Nat) a,i+k=n→I i a→∃b,loopT f a=some b∧Q b:=by
    intro k
    induction k with
    | zero=>
      intro i a h hi
      obtain rfl:i=n:=by omega
      obtain⟨b,h,hq⟩:=h2 a hi
      exact⟨b,loopT_inr h,hq⟩
    | succ k ih=>
      intro i a h hi
      obtain⟨a',h,hi'⟩:=h1 i a (by omega) hi
      obtain⟨b,hb,hq⟩:=ih (i+1) a' (by omega) hi'
      exact⟨b,by rw[←hb];exact loopT_inl h,hq⟩
  exact fun a h=>this n 0 a (by omega) h
theorem lt_t{i n:Nat}(h:i<n):decide ((i:Int)<(n:Int))=true:=decide_eq_true (by omega)
theorem lt_f(n:Nat):decide ((n:Int)<(n:Int))=false:=decide_eq_false (by omega)
theorem prev_case{E:Type}{l:List E}{i:Nat}(hi:i<l.length):i=0∨∃p,0<i∧l[i-1]?=some p∧(i≤9223372036854775807→w64 ((i:Int)-1)=((i-1:Nat):Int)):=by
  by_cases h:i=0
  · exact .inl h
  · obtain⟨p,hp⟩:=getD_some (l:=l) (i:=i-1) (by omega)
    exact .inr ⟨p,by omega,hp,fun hb=>by rw[w64_id (by omega) (by omega)];omega⟩
theorem drop_e{A:Type}{o:Option A}{x:A}(h:∃r,o=some r∧r=x):o=some x:=by
  obtain⟨r,h1,rfl⟩:=h
  exact h1
theorem bind_in{A B C:Type}{o:Option A}{g:A→Option B}{f:B→Option C}{y:Option C}(x:A)(h:o=some x)(h2:(g x).bind f=y):(o.bind g).bind f=y:=by
  rw[h]
  exact h2
end Go.Plain
namespace Go.Bnd
open Go Go.Abs
abbrev Step:=Int×Bool×List (Int×Int×Unit)×Unit
abbrev Pol:=ByteArray×List Step×Int×Unit
abbrev Team:=ByteArray×List Int×Unit
abbrev StT:=Int×Int×List Int×Unit
abbrev PgT:=Int×Int×Int×Int×Int×Int×Int×Int×Int×Int×Int×List StT×List Int×List Int×Unit
def SOK(s:Step):Prop:=0≤s.1∧s.1≤900
def POK(p:Pol):Prop:=(0≤p.2.2.1∧p.2.2.1≤2)∧(1≤p.2.1.length∧p.2.1.length≤3)∧∀s∈p.2.1,SOK s
def dflt:Step:=(0,false,[],())
def wt(l:List Step)(k:Nat):Int:=(l.getD (k % l.length) dflt).1
def S(l:List Step):Nat→Int
  |0=>0
  |k+1=>S l k+wt l k
theorem wt_get{l:List Step}{k:Nat}(h:0<l.length):∃s,l[k % l.length]?=some s∧s∈l∧s.1=wt l k:=by
  have hk:k % l.length<l.length:=Nat.mod_lt _ h
  refine⟨l[k % l.length],List.getElem?_eq_getElem hk,List.getElem_mem hk,?_⟩
  simp[wt,List.getD_eq_getElem?_getD,List.getElem?_eq_getElem hk]
theorem wt_bound{l:List Step}(h:0<l.length)(hs:∀s∈l,SOK s)(k:Nat):0≤wt l k∧wt l k≤900:=by
  obtain⟨s,_,hm,he⟩:=wt_get (k:=k) h
  have:=hs s hm
  rw[←he]
  exact this
theorem S_bound{l:List Step}(h:0<l.length)(hs:∀s∈l,SOK s):∀k,0≤S l k∧S l k≤900*k:=by
  intro k
  induction k with
  |zero=>simp[S]
  | succ k ih=>
    have:=wt_bound h hs k
    simp only[S]
    omega
theorem S_mono{l:List Step}(h:0<l.length)(hs:∀s∈l,SOK s)(k:Nat):∀d,S l k≤S l (k+d):=by
  intro d
  induction d with
  |zero=>exact Int.le_refl _
  | succ d ih=>
    have:=wt_bound h hs (k+d)
    rw[←Nat.add_assoc]
    simp only[S]
    omega
def cnt(p:Pol):Nat:=p.2.1.length*(p.2.2.1.toNat+1)
theorem cnt_le{p:Pol}(hp:POK p):1≤cnt p∧cnt p≤9∧(cnt p:Int)=(p.2.1.length:Int)*(p.2.2.1+1):=by
  obtain⟨⟨a1,a2⟩,⟨b1,b2⟩,_⟩:=hp
  have h1:p.2.2.1.toNat+1≤3:=by omega
  refine⟨Nat.mul_pos b1 (Nat.succ_pos _),Nat.le_trans (Nat.mul_le_mul b2 h1) (by omega),?_⟩
  unfold cnt
  rw[Int.natCast_mul]
  congr 1
  omega
theorem tmod_nat(i n:Nat):(i:Int).tmod (n:Int)=((i % n:Nat):Int):=by
  rw[Int.tmod_eq_emod_of_nonneg (by omega)];simp
def rest(p:Pol)(n:Nat):Int:=S p.2.1 (cnt p)-S p.2.1 n
theorem rest_bound{p:Pol}(hp:POK p){n:Nat}(hn:n≤cnt p):0≤rest p n∧rest p n≤8100:=by
  obtain⟨c1,c2,c3⟩:=cnt_le hp
  have h0:0<p.2.1.length:=hp.2.1.1
  have a:=S_bound h0 hp.2.2 (cnt p)
  have b:=S_bound h0 hp.2.2 n
  have c:=S_mono h0 hp.2.2 n (cnt p-n)
  rw[show n+(cnt p-n)=cnt p by omega]at c
  unfold rest
  omega
theorem rest_step{p:Pol}(n:Nat):rest p n=wt p.2.1 n+rest p (n+1):=by
  unfold rest
  simp only[S]
  omega
def setL(l:List Int):Prop:=l.Pairwise (· < ·)∧∀x∈l,0≤x∧x<32
theorem set_nil:setL []:=⟨List.Pairwise.nil,fun x h=>by cases h⟩
theorem set_one{x:Int}(h0:0≤x)(h1:x<32):setL [x]:=⟨List.pairwise_singleton _ _,fun y h=>by simp only[List.mem_singleton]at h;subst h;exact⟨h0,h1⟩⟩
theorem set_sub{l l':List Int}(h:setL l)(hs:l'.Sublist l):setL l':=⟨h.1.sublist hs,fun x hx=>h.2 x (hs.subset hx)⟩
def withR(x:Int):Bool→List Int→List Int
  |true,[]=> []
  |false,[]=> [x]
  |true,y::l=>bif decide (y≠x)then y::withR x true l else withR x true l
  |false,y::l=>bif decide (y≥x)then(bif decide (y≠x)then x::y::withR x true l else x::withR x true l)else y::withR x false l
theorem withR_true{x:Int}:∀{l:List Int},(∀y∈l,x<y)→withR x true l=l
  | [],_=>rfl
  | y::l,h=>by
    have hy:=h y (List.mem_cons_self ..)
    unfold withR
    rw[decide_eq_true (show y≠x by omega),withR_true fun z hz=>h z (List.mem_cons_of_mem _ hz)]
    rfl
theorem withR_mem {x:Int}:∀{d:Bool} {l:List Int} {y:Int},y∈withR x d l→y=x∨y∈l
  |true,[],y,h=>by cases h
  |false,[],y,h=>by unfold withR at h;simp only[List.mem_singleton]at h;exact .inl h
  | true,z::l,y,h=>by
    unfold withR at h
    cases hd:decide (z≠x)
    · rw[hd]at h
      rcases withR_mem h with h|h
      · exact .inl h
      · exact .inr (List.mem_cons_of_mem _ h)
    · rw[hd]at h
      rcases List.mem_cons.1 h with h|h
      · exact .inr (h ▸ List.mem_cons_self ..)
      · rcases withR_mem h with h|h
        · exact .inl h
        · exact .inr (List.mem_cons_of_mem _ h)
  | false,z::l,y,h=>by
    unfold withR at h
    cases hd:decide (z≥x)
    · rw[hd]at h
      rcases List.mem_cons.1 h with h|h
      · exact .inr (h ▸ List.mem_cons_self ..)
      · rcases withR_mem h with h|h
        · exact .inl h
        · exact .inr (List.mem_cons_of_mem _ h)
    · rw [hd]at h
      cases he:decide (z≠x)
      · rw[he]at h
        rcases List.mem_cons.1 h with h|h
        · exact .inl h
        · rcases withR_mem h with h|h
          · exact .inl h
          · exact .inr (List.mem_cons_of_mem _ h)
      · rw [he]at h
        rcases List.mem_cons.1 h with h|h
        · exact .inl h
        · rcases List.mem_cons.1 h with h|h
          · exact .inr (h ▸ List.mem_cons_self ..)
          · rcases withR_mem h with h|h
            · exact .inl h
            · exact .inr (List.mem_cons_of_mem _ h)
theorem withR_up {x:Int}:∀{l:List Int},l.Pairwise (· < ·)→(withR x false l).Pairwise (· < ·)
  | [],_=>List.pairwise_singleton _ _
  | y ::l,h=>by
    obtain⟨h1,h2⟩:=List.pairwise_cons.1 h
    unfold withR
    by_cases hy:y≥x
    · rw[decide_eq_true hy]
      by_cases he:y=x
      · subst he
        rw[decide_eq_false (by simp),withR_true h1]
        exact h
      · rw[decide_eq_true he,withR_true fun z hz=>by have:=h1 z hz;omega]
        refine List.pairwise_cons.2 ⟨fun z hz=> ?_,h⟩
        rcases List.mem_cons.1 hz with hz|hz
        · subst hz;omega
        · have:=h1 z hz;omega
    · rw[decide_eq_false hy]
      refine List.pairwise_cons.2 ⟨fun z hz=> ?_,withR_up h2⟩
      rcases withR_mem hz with hz|hz
      · omega
      · exact h1 z hz
theorem with_set{x:Int}{l:List Int}(h:setL l)(h0:0≤x)(h1:x<32):setL (withR x false l):=
  ⟨withR_up h.1,fun y hy=>by
    rcases withR_mem hy with e|e
    · subst e;exact⟨h0,h1⟩
    · exact h.2 y e⟩
def SL(nx:Int):Int→Int→List StT→Prop
  |_,_,[]=>True
  |at',k,s::r=>at'≤s.2.1∧(s.1= -1∨k<s.1∧0≤s.1∧s.1<nx)∧setL s.2.2.1∧SL nx s.2.1 (max k s.1) r
def lastAt(at':Int)(l:List StT):Int:=l.foldl (fun _ s=>s.2.1) at'
def topK(k:Int)(l:List StT):Int:=l.foldl (fun k s=>max k s.1) k
theorem SL_mono{nx nx':Int}(h:nx≤nx'):∀{l:List StT} {at' k:Int},SL nx at' k l→SL nx' at' k l
  | [],_,_,_=>trivial
  | s::r,at',k,h1=>⟨h1.1,by
    rcases h1.2.1 with e|e
    · exact .inl e
    · exact .inr ⟨e.1,e.2.1,by omega⟩,h1.2.2.1,SL_mono h h1.2.2.2⟩
theorem SL_snoc{nx:Int}{s:StT}:∀{l:List StT} {at' k:Int},SL nx at' k l→lastAt at' l≤s.2.1→(s.1= -1∨topK k l<s.1∧0≤s.1∧s.1<nx)→setL s.2.2.1→SL nx at' k (l++ [s])
  | [],_,_,_,h2,h3,h4=>⟨h2,h3,h4,trivial⟩
  |_::_,_,_,h1,h2,h3,h4=>⟨h1.1,h1.2.1,h1.2.2.1,SL_snoc h1.2.2.2 h2 h3 h4⟩
theorem SL_top{nx:Int}(h0:0≤nx):∀{l:List StT} {at' k:Int},SL nx at' k l→k<nx→topK k l<nx
  | [],_,_,_,h=>h
  | s::r,at',k,h1,h=>SL_top h0 (l:=r) h1.2.2.2 (by
    show max k s.1<nx
    rcases h1.2.1 with e|e
    · rw[e];omega
    · omega)
theorem lastAt_snoc(at':Int)(l:List StT)(s:StT):lastAt at' (l++ [s])=s.2.1:=by unfold lastAt;rw[List.foldl_append];rfl
theorem topK_snoc(k:Int)(l:List StT)(s:StT):topK k (l++ [s])=max (topK k l) s.1:=by unfold topK;rw[List.foldl_append];rfl
theorem lastAt_ge{nx:Int}:∀{l:List StT} {at' k:Int},SL nx at' k l→at'≤lastAt at' l
  | [],_,_,_=>Int.le_refl _
  |s::r,at',k,h=>Int.le_trans h.1 (lastAt_ge (l:=r) h.2.2.2)
theorem SL_sets{nx:Int}:∀{l:List StT} {at' k:Int},SL nx at' k l→∀s∈l,setL s.2.2.1
  | [],_,_,_,s,hs=>by cases hs
  | x::r,at',k,h,s,hs=>by
    rcases List.mem_cons.1 hs with e|e
    · subst e;exact h.2.2.1
    · exact SL_sets (l:=r) h.2.2.2 s e
theorem SL_at{nx:Int}{s:StT}:∀{l:List StT} {at' k:Int} {i:Nat},SL nx at' k l→l[i]?=some s→lastAt at' (l.take i)≤s.2.1∧(s.1= -1∨topK k (l.take i)<s.1∧0≤s.1∧s.1<nx)∧setL s.2.2.1
  | [],_,_,i,_,h=>by simp at h
  | x::r,at',k,0,h1,h2=>by
    simp only[List.getElem?_cons_zero,Option.some.injEq]at h2
    subst h2
    exact⟨h1.1,h1.2.1,h1.2.2.1⟩
  | x::r,at',k,i+1,h1,h2=>by
    simp only[List.getElem?_cons_succ]at h2
    exact SL_at (l:=r) h1.2.2.2 h2
theorem topK_ge(k:Int)(l:List StT):k≤topK k l:=by
  unfold topK
  induction l generalizing k with
  |nil=>exact Int.le_refl _
  |cons s r ih=>exact Int.le_trans (show k≤max k s.1 by omega) (ih (max k s.1))
theorem take_snoc{A:Type}{l:List A}{i:Nat}{e:A}(h:l[i]?=some e):l.take (i+1)=l.take i++ [e]:=by rw[List.take_add_one,h];rfl
abbrev pId(p:PgT):Int:=p.1
abbrev pPol(p:PgT):Int:=p.2.1
abbrev pStart(p:PgT):Int:=p.2.2.1
abbrev pNext(p:PgT):Int:=p.2.2.2.1
abbrev pDue(p:PgT):Int:=p.2.2.2.2.1
abbrev pState(p:PgT):Int:=p.2.2.2.2.2.1
abbrev pBy(p:PgT):Int:=p.2.2.2.2.2.2.1
abbrev pUntil(p:PgT):Int:=p.2.2.2.2.2.2.2.1
abbrev pLast(p:PgT):Int:=p.2.2.2.2.2.2.2.2.1
abbrev pSn(p:PgT):Int:=p.2.2.2.2.2.2.2.2.2.1
abbrev pHd(p:PgT):Int:=p.2.2.2.2.2.2.2.2.2.2.1
abbrev pSts(p:PgT):List StT:=p.2.2.2.2.2.2.2.2.2.2.2.1
abbrev pDec(p:PgT):List Int:=p.2.2.2.2.2.2.2.2.2.2.2.2.1
abbrev pSeen(p:PgT):List Int:=p.2.2.2.2.2.2.2.2.2.2.2.2.2.1
end Go.Bnd
namespace Go.Bnd
open Go Go.Abs
structure PG(ps:List Pol)(pol:Pol)(n:Nat)(p:PgT):Prop where
  id:1≤pId p∧pId p≤999999
  pol0:0≤pPol p
  polAt:ps[(pPol p).toNat]?=some pol
  pok:POK pol
  start:0≤pStart p∧pStart p≤8000000000
  next:pNext p=n
  nle:n≤cnt pol
  state:0≤pState p∧pState p≤4
  by': -1≤pBy p∧pBy p≤31
  last:pStart p≤pLast p∧pLast p≤9000000000
  due:0≤pDue p∧pDue p≤9000000000
  unt:0≤pUntil p∧pUntil p≤9000000000
  sn:0≤pSn p∧pSn p≤4
  hd:0≤pHd p∧pHd p≤4
  sts:SL (pNext p) (pStart p) (-1) (pSts p)
  stl:lastAt (pStart p) (pSts p)≤pLast p
  stn:((pSts p).length:Int)≤n+pHd p
  dec:setL (pDec p)
  seen:(pSeen p).Nodup∧(pSeen p).length≤64∧∀x∈pSeen p,1≤x
  op:pState p=0→pLast p≤pDue p∧pDue p+rest pol n≤9000000000
  sno:pState p=2→pLast p≤pUntil p∧pUntil p+rest pol n≤9000000000
def lat(pol:Pol)(n:Nat)(p:PgT):Int:=if pState p=0 then pDue p+rest pol n else if pState p=2 then pUntil p+rest pol n else pLast p
def left(pol:Pol)(n:Nat)(p:PgT):Nat:=if pState p=0 then 2*(cnt pol-n)+1 else if pState p=2 then 2*(cnt pol-n)+2 else 0
theorem PG.few{ps:List Pol}{pol:Pol}{n:Nat}{p:PgT}(h:PG ps pol n p):(pSts p).length≤13:=by
  have a:=h.stn;have b:=h.hd;have c:=h.nle;have d:=(cnt_le h.pok).2.1
  omega
theorem PG.top{ps:List Pol}{pol:Pol}{n:Nat}{p:PgT}(h:PG ps pol n p):topK (-1) (pSts p)<n:=by
  have:=SL_top (by rw[h.next];omega) h.sts (by rw[h.next];omega)
  rw[h.next]at this
  exact this
def wake(p:PgT):PgT:=(pId p,pPol p,pStart p,pNext p,pUntil p,0,pBy p,pUntil p,max (pUntil p) (pLast p),pSn p,pHd p,pSts p,pDec p,pSeen p,())
def ended(p:PgT):PgT:=(pId p,pPol p,pStart p,pNext p,pDue p,3,pBy p,pUntil p,max (pDue p) (pLast p),pSn p,pHd p,pSts p,pDec p,pSeen p,())
def begun(p:PgT)(l:List Int)(w:Int):PgT:=(pId p,pPol p,pStart p,pNext p+1,(if l.length=0 then pDue p else pDue p+w),pState p,pBy p,pUntil p,max (pDue p) (pLast p),pSn p,pHd p,pSts p++ [(pNext p,pDue p,l,())],[],pSeen p,())
theorem PG.wake{ps:List Pol}{pol:Pol}{n:Nat}{p:PgT}(h:PG ps pol n p)(hs:pState p=2):PG ps pol n (wake p)∧lat pol n (Bnd.wake p)≤lat pol n p∧left pol n (Bnd.wake p)<left pol n p∧pLast (Bnd.wake p)=pUntil p:=by
  obtain⟨s1,s2⟩:=h.sno hs
  have hm:max (pUntil p) (pLast p)=pUntil p:=by omega
  have hu:=h.unt
  refine⟨⟨h.id,h.pol0,h.polAt,h.pok,h.start,h.next,h.nle,⟨by show(0:Int)≤0;omega,by show(0:Int)≤4;omega⟩,h.by',⟨?_,?_⟩,hu,hu,h.sn,h.hd,h.sts,?_,h.stn,h.dec,h.seen,fun _=>⟨?_,s2⟩,fun e=> ?_⟩,?_,?_,hm⟩
  · show pStart p≤max (pUntil p) (pLast p);have:=h.last.1;omega
  · show max (pUntil p) (pLast p)≤_;omega
  · show lastAt (pStart p) (pSts p)≤max (pUntil p) (pLast p);have:=h.stl;omega
  · show max (pUntil p) (pLast p)≤pUntil p;omega
  · have e:(0:Int)=2:=e;omega
  · unfold lat
    rw[if_pos (show pState (Bnd.wake p)=0 from rfl),if_neg (by omega),if_pos hs]
    exact Int.le_refl _
  · unfold left
    rw[if_pos (show pState (Bnd.wake p)=0 from rfl),if_neg (by omega),if_pos hs]
    omega
theorem PG.ended{ps:List Pol}{pol:Pol}{n:Nat}{p:PgT}(h:PG ps pol n p)(hs:pState p=0):PG ps pol n (ended p)∧lat pol n (Bnd.ended p)≤lat pol n p∧left pol n (Bnd.ended p)<left pol n p∧pLast (Bnd.ended p)=pDue p:=by
  obtain⟨s1,s2⟩:=h.op hs
  have hm:max (pDue p) (pLast p)=pDue p:=by omega
  have hu:=h.due
  have hr:=rest_bound h.pok h.nle
  refine⟨⟨h.id,h.pol0,h.polAt,h.pok,h.start,h.next,h.nle,⟨by show(0:Int)≤3;omega,by show(3:Int)≤4;omega⟩,h.by',⟨?_,?_⟩,hu,h.unt,h.sn,h.hd,h.sts,?_,h.stn,h.dec,h.seen,fun e=> ?_,fun e=> ?_⟩,?_,?_,hm⟩
  · show pStart p≤max (pDue p) (pLast p);have:=h.last.1;omega
  · show max (pDue p) (pLast p)≤_;omega
  · show lastAt (pStart p) (pSts p)≤max (pDue p) (pLast p);have:=h.stl;omega
  · have e:(3:Int)=0:=e;omega
  · have e:(3:Int)=2:=e;omega
  · unfold lat
    rw[if_neg (show¬ pState (Bnd.ended p)=0 by show¬(3:Int)=0;omega),if_neg (show¬ pState (Bnd.ended p)=2 by show¬(3:Int)=2;omega),if_pos hs]
    show max (pDue p) (pLast p)≤_
    omega
  · unfold left
    rw[if_neg (show¬ pState (Bnd.ended p)=0 by show¬(3:Int)=0;omega),if_neg (show¬ pState (Bnd.ended p)=2 by show¬(3:Int)=2;omega),if_pos hs]
    omega
theorem PG.begun{ps:List Pol}{pol:Pol}{n:Nat}{p:PgT}(h:PG ps pol n p)(hs:pState p=0)(hn:n<cnt pol){l:List Int}(hl:setL l):
    PG ps pol (n+1) (begun p l (wt pol.2.1 n))∧lat pol (n+1) (Bnd.begun p l (wt pol.2.1 n))≤lat pol n p∧left pol (n+1) (Bnd.begun p l (wt pol.2.1 n))<left pol n p∧pLast (Bnd.begun p l (wt pol.2.1 n))=pDue p:=by
  obtain⟨s1,s2⟩:=h.op hs
  have hm:max (pDue p) (pLast p)=pDue p:=by omega
  have hu:=h.due
  have hr:=rest_bound h.pok (show n+1≤cnt pol by omega)
  have hw:=wt_bound (l:=pol.2.1) h.pok.2.1.1 h.pok.2.2 n
  have hst:=rest_step (p:=pol) n
  have hnx:=h.next
  have hd:pDue p≤pDue (Bnd.begun p l (wt pol.2.1 n))∧pDue (Bnd.begun p l (wt pol.2.1 n))≤pDue p+wt pol.2.1 n:=by
    show pDue p≤(if l.length=0 then pDue p else pDue p+wt pol.2.1 n)∧(if l.length=0 then pDue p else pDue p+wt pol.2.1 n)≤_
    split<;>omega
  refine⟨⟨h.id,h.pol0,h.polAt,h.pok,h.start,?_,by omega,h.state,h.by',⟨?_,?_⟩,⟨by omega,by omega⟩,h.unt,h.sn,h.hd,?_,?_,?_,set_nil,h.seen,fun _=>⟨?_,?_⟩,fun e=> ?_⟩,?_,?_,hm⟩
  · show pNext p+1=((n+1:Nat):Int);omega
  · show pStart p≤max (pDue p) (pLast p);have:=h.last.1;omega
  · show max (pDue p) (pLast p)≤_;omega
  · show SL (pNext p+1) (pStart p) (-1) (pSts p++ [(pNext p,pDue p,l,())])
    refine SL_snoc (SL_mono (by omega) h.sts) ?_ (.inr ⟨?_,?_,?_⟩) hl
    · show _≤pDue p;have:=h.stl;omega
    · show _<pNext p;have:=h.top;omega
    · show 0≤pNext p;omega
    · show pNext p<pNext p+1;omega
  · show lastAt (pStart p) (pSts p++ [(pNext p,pDue p,l,())])≤max (pDue p) (pLast p)
    rw[lastAt_snoc]
    show pDue p≤_
    omega
  · show((pSts p++ [(pNext p,pDue p,l,())]).length:Int)≤((n+1:Nat):Int)+pHd p
    have:=h.stn
    rw[List.length_append,List.length_singleton]
    omega
  · show max (pDue p) (pLast p)≤_;omega
  · omega
  · exact absurd (show pState p=2 from e) (by omega)
  · unfold lat
    rw[if_pos (show pState (Bnd.begun p l (wt pol.2.1 n))=0 from hs),if_pos hs]
    omega
  · unfold left
    rw[if_pos (show pState (Bnd.begun p l (wt pol.2.1 n))=0 from hs),if_pos hs]
    omega
structure SameP(p p':PgT):Prop where
  id:pId p'=pId p
  pol:pPol p'=pPol p
  start:pStart p'=pStart p
  sn:pSn p'=pSn p
  hd:pHd p'=pHd p
  seen:pSeen p'=pSeen p
theorem SameP.refl(p:PgT):SameP p p:=⟨rfl,rfl,rfl,rfl,rfl,rfl⟩
theorem SameP.trans{p q r:PgT}(h:SameP p q)(k:SameP q r):SameP p r:=⟨k.id.trans h.id,k.pol.trans h.pol,k.start.trans h.start,k.sn.trans h.sn,k.hd.trans h.hd,k.seen.trans h.seen⟩
def dueP(p:PgT):Int:=if pState p=0 then pDue p else pUntil p
abbrev Dues(p:PgT):Prop:=pState p=0∨pState p=2
abbrev AnT:=Int×Int×Int×Int×Int×Int×Unit
def saw(p:PgT)(id:Int):List Int:=pSeen p++ [id]
theorem PG.saw_ok{ps:List Pol}{pol:Pol}{n:Nat}{p:PgT}(h:PG ps pol n p){id:Int}(h1:id∉pSeen p)(h2:(pSeen p).length<64)(h3:1≤id):(saw p id).Nodup∧(saw p id).length≤64∧∀x∈saw p id,1≤x:=by
  unfold Bnd.saw
  refine⟨List.nodup_append.2 ⟨h.seen.1,List.pairwise_singleton _ _,fun a ha b hb=> ?_⟩,by rw[List.length_append,List.length_singleton];omega,fun x hx=> ?_⟩
  · simp only[List.mem_singleton]at hb
    subst hb
    exact fun e=>h1 (e ▸ ha)
  · rcases List.mem_append.1 hx with hx|hx
    · exact h.seen.2.2 x hx
    · simp only[List.mem_singleton]at hx;subst hx;exact h3
def page(p:PgT)(due state by' unt last sn hd:Int)(sts:List StT)(dec seen:List Int):PgT:=(pId p,pPol p,pStart p,pNext p,due,state,by',unt,last,sn,hd,sts,dec,seen,())
theorem PG.put{ps:List Pol}{pol:Pol}{n:Nat}{p:PgT}(h:PG ps pol n p){due state by' unt last sn hd:Int}{sts:List StT}{dec seen:List Int}
    (h1:0≤state∧state≤4) (h2: -1≤by'∧by'≤31) (h3:pLast p≤last∧last≤9000000000) (h4:0≤due∧due≤9000000000) (h5:0≤unt∧unt≤9000000000) (h6:0≤sn∧sn≤4) (h7:0≤hd∧hd≤4)
    (h8:SL (pNext p) (pStart p) (-1) sts∧lastAt (pStart p) sts≤last∧(sts.length:Int)≤n+hd) (h9:setL dec) (h10:seen.Nodup∧seen.length≤64∧∀x∈seen,1≤x)
    (h11:state=0→last≤due∧due+rest pol n≤9000000000) (h12:state=2→last≤unt∧unt+rest pol n≤9000000000):PG ps pol n (page p due state by' unt last sn hd sts dec seen):=
  ⟨h.id,h.pol0,h.polAt,h.pok,h.start,h.next,h.nle,h1,h2,⟨Int.le_trans h.last.1 h3.1,h3.2⟩,h4,h5,h6,h7,h8.1,h8.2.1,h8.2.2,h9,h10,h11,h12⟩
theorem lat_page(pol:Pol)(n:Nat)(p:PgT)(due state by' unt last sn hd:Int)(sts:List StT)(dec seen:List Int):
    lat pol n (page p due state by' unt last sn hd sts dec seen)=if state=0 then due+rest pol n else if state=2 then unt+rest pol n else last:=rfl
end Go.Bnd
namespace Go.Bnd
open Go Go.Abs
def scanB{E:Type}(bad:Nat→E→Bool):Nat→List E→Bool
  |_,[]=>true
  |i,e::r=> !bad i e&&scanB bad (i+1) r
theorem scanB_iff {E:Type} {bad:Nat→E→Bool}:∀{l:List E} {i:Nat},scanB bad i l=true↔∀(j:Nat) (e:E),l[j]?=some e→bad (i+j) e=false
  | [],i=>⟨fun _ j e he=>(by cases he),fun _=>rfl⟩
  | x ::r,i=>by
    unfold scanB
    rw[Bool.and_eq_true,scanB_iff (l:=r) (i:=i+1)]
    constructor
    · rintro⟨h1,h2⟩ j e he
      cases j with
      | zero=>
        simp only[List.getElem?_cons_zero,Option.some.injEq]at he
        subst he
        rw[Nat.add_zero]
        cases h:bad i x
        · rfl
        · rw[h]at h1;cases h1
      | succ j=>
        rw[List.getElem?_cons_succ]at he
        have:=h2 j e he
        rwa [show i+1+j=i+(j+1) by omega]at this
    · intro h
      refine⟨?_,fun j e he=> ?_⟩
      · have:=h 0 x rfl
        rw[Nat.add_zero]at this
        rw[this];rfl
      · have:=h (j+1) e (by rw[List.getElem?_cons_succ];exact he)
        rwa [show i+(j+1)=i+1+j by omega]at this
theorem loop_scan {A B E:Type} {f:A→Option (A⊕B)} (l:List E) (st:Nat→A) (bad:Nat→E→Bool) (no:Nat→B) (yes:B)
    (h1:∀i e,l[i]?=some e→i<l.length→(∀(j:Nat) (x:E),j<i→l[j]?=some x→bad j x=false)→f (st i)=some (bif bad i e then .inr (no i)else .inl (st (i+1)))) (h2:scanB bad 0 l=true→f (st l.length)=some (.inr yes)):
    ∃j,j≤l.length∧loopT f (st 0)=some (bif scanB bad 0 l then yes else no j):=by
  have key:∀(k i:Nat),i+k=l.length→(∀(j:Nat) (x:E),j<i→l[j]?=some x→bad j x=false)→∃j,j≤l.length∧loopT f (st i)=some (bif scanB bad i (l.drop i)then yes else no j):=by
    intro k
    induction k with
    | zero=>
      intro i h hb
      obtain rfl:i=l.length:=by omega
      refine⟨0,Nat.zero_le _,?_⟩
      rw[List.drop_length]
      exact loopT_inr (h2 (scanB_iff.2 fun j e he=>by
        rw[Nat.zero_add]
        exact hb j e (List.getElem?_eq_some_iff.1 he).1 he))
    | succ k ih=>
      intro i h hb
      have he:l[i]?=some l[i]:=List.getElem?_eq_getElem (by omega)
      have q:=h1 i _ he (by omega) hb
      rw[show l.drop i=l[i]::l.drop (i+1)from(List.getElem_cons_drop (by omega)).symm]
      unfold scanB
      cases hx:bad i l[i]
      · rw[hx]at q
        obtain⟨j,j1,j2⟩:=ih (i+1) (by omega) (fun j x hj hjx=>by
          by_cases hji:j=i
          · subst hji;rw[he]at hjx;cases hjx;exact hx
          · exact hb j x (by omega) hjx)
        exact⟨j,j1,(loopT_inl q).trans j2⟩
      · rw[hx]at q
        exact⟨i,by omega,loopT_inr q⟩
  have:=key l.length 0 (by omega) (fun j x hj=>absurd hj (Nat.not_lt_zero j))
  rwa [List.drop_zero]at this
def badS(l:List Int)(i:Nat)(x:Int):Bool:= !decide (0≤x∧x≤31)||(match i with|0=>false|j+1=>match l[j]? with|some q=>decide (x≤q)|none=>false)
def setB(l:List Int):Bool:=scanB (badS l) 0 l
def badN(l:List Int)(i:Nat)(x:Int):Bool:=decide (x∈l.take i)
def seenB(l:List Int):Bool:=scanB (badN l) 0 l&&decide (l.length≤64)
def badT(p:PgT)(i:Nat)(s:StT):Bool:=
  decide (s.2.1<lastAt (pStart p) ((pSts p).take i))||(!setB s.2.2.1||(decide (s.1≠ -1)&& !decide (topK (-1) ((pSts p).take i)+1≤s.1∧s.1≤pNext p-1)))
def startB(p:PgT):Bool:=scanB (badT p) 0 (pSts p)&&decide ((pSts p).length≤200)
theorem topK_lt {p:PgT} (h0:0≤pNext p):∀(i:Nat),i≤(pSts p).length→(∀(j:Nat) (x:StT),j<i→(pSts p)[j]?=some x→badT p j x=false)→topK (-1) ((pSts p).take i)<pNext p∨topK (-1) ((pSts p).take i)= -1
  |0,_,_=>.inr rfl
  | i + 1,hi,hb=>by
    have he:(pSts p)[i]?=some (pSts p)[i]:=List.getElem?_eq_getElem (by omega)
    rw[take_snoc he,topK_snoc]
    have h1:=hb i _ (by omega) he
    unfold badT at h1
    simp only[Bool.or_eq_false_iff,Bool.and_eq_false_iff]at h1
    obtain⟨_,_,h2⟩:=h1
    rcases topK_lt h0 i (by omega) (fun j x hj=>hb j x (by omega))with h3|h3
    · rcases h2 with h2|h2
      · have:=of_decide_eq_false h2
        omega
      · simp only[Bool.not_eq_false',decide_eq_true_eq]at h2
        omega
    · rcases h2 with h2|h2
      · have:=of_decide_eq_false h2
        omega
      · simp only[Bool.not_eq_false',decide_eq_true_eq]at h2
        omega
def waitsB(w:Pol):Bool:=w.2.1.all fun s=>decide (0≤s.1∧s.1≤86400)
def cntE(w:Pol):Nat:=if(0≤w.2.2.1∧w.2.2.1≤8)∧w.2.1.length≤8 then w.2.1.length*(w.2.2.1.toNat+1)else 0
theorem cntE_le(w:Pol):cntE w≤72:=by
  unfold cntE
  split
  · rename_i h
    exact Nat.le_trans (Nat.mul_le_mul (show w.2.1.length≤8 by omega) (show w.2.2.1.toNat+1≤9 by omega)) (by decide)
  · omega
theorem cntE_pos{w:Pol}(h:0<cntE w):0<w.2.1.length:=by
  unfold cntE at h
  split at h
  · exact Nat.pos_of_mul_pos_right h
  · omega
def Sw(l:List Step):Nat→Int
  |0=>0
  |k+1=>w64 (Sw l k+wt l k)
def offE(w:Pol)(k:Int):Int×Bool:=if(0≤k∧k≤cntE w)∧waitsB w=true then(Sw w.2.1 k.toNat,true)else(0,false)
def endE(w:Pol):Int:=(offE w (cntE w)).1
def worstE(w:Pol):Int:=if cntE w=0∨waitsB w=false then 0 else w64 (w64 (endE w+345600)+2400)
theorem Sw_le{w:Pol}(hw:waitsB w=true)(hl:0<w.2.1.length):∀k,k≤72→0≤Sw w.2.1 k∧Sw w.2.1 k≤86400*k
  |0,_=>⟨Int.le_refl _,Int.le_refl _⟩
  | k +1,hk=>by
    obtain⟨h1,h2⟩:=Sw_le hw hl k (by omega)
    obtain⟨s,_,hs,e⟩:=wt_get (l:=w.2.1) (k:=k) hl
    have:=List.all_eq_true.1 hw s hs
    simp only[decide_eq_true_eq]at this
    have e2:Sw w.2.1 (k+1)=Sw w.2.1 k+wt w.2.1 k:=by
      show w64 (Sw w.2.1 k+wt w.2.1 k)=_
      rw[w64_id (by omega) (by omega)]
    omega
abbrev ChE:=Int×Int×Int×Int×Unit
abbrev PfE:=Int×List ChE×Unit
def vch(c:ChE):Bool:=decide (0≤c.1∧c.1≤2)&&(decide (0≤c.2.1∧c.2.1≤3600)&&(decide (1≤c.2.2.1∧c.2.2.1≤6)&&decide (1≤c.2.2.2.1∧c.2.2.2.1≤3600)))
def vpf(f:PfE):Bool:=decide (0≤f.1∧f.1≤31)&&(decide (f.2.1.length≤4)&&f.2.1.all vch)
def wst(c:ChE):Int:=(c.2.2.1-1)*c.2.2.2.1+c.2.1
def bdE(f:PfE):Int:=f.2.1.foldl (fun n c=>max n (wst c)) 0
theorem wst_le{c:ChE}(h:vch c=true):0≤(c.2.2.1-1)*c.2.2.2.1∧(c.2.2.1-1)*c.2.2.2.1≤18000∧0≤wst c∧wst c≤21600:=by
  unfold vch at h
  simp only[Bool.and_eq_true,decide_eq_true_eq]at h
  obtain⟨h1,h2,h3,h4⟩:=h
  unfold wst
  generalize c.2.2.1=t at h3 ⊢
  generalize c.2.2.2.1=p at h4 ⊢
  have:t=1∨t=2∨t=3∨t=4∨t=5∨t=6:=by omega
  rcases this with rfl|rfl|rfl|rfl|rfl|rfl<;>omega
def persE(l:List PfE)(k:Int):Int×Bool:=match l.find? (fun f=>decide (f.1=k)&&vpf f)with|some f=>(bdE f,true)|none=>(0,false)
def reachP(l:List PfE)(at':Int)(m:Int)(x:Int):Int:=if(persE l x).2=true then max m (w64 (at'+(persE l x).1))else m
def reachS(l:List PfE)(m:Int)(s:StT):Int:=s.2.2.1.foldl (reachP l s.2.1) m
def reachE(c:Bool)(l:List PfE)(p:PgT):Int:=if c=true then(pSts p).foldl (reachS l) 0 else 0
end Go.Bnd
namespace Go.Proofs.YtcelhemfoehedaaGreat.Od
open Go Go.Abs
def nxt(xs:List Int)(at' n:Int):Int×Int:=
  if at'≥xs.length∨n<1 then(0,at')else((if(xs.getD at'.toNat 0).tmod n<0 then w64 ((xs.getD at'.toNat 0).tmod n+n)else(xs.getD at'.toNat 0).tmod n),w64 (at'+1))
abbrev StepD:=Int×Bool×List (Int×Int×Unit)×Unit
abbrev PolD:=ByteArray×List StepD×Int×Unit
abbrev TeamD:=ByteArray×List Int×Unit
abbrev TgL:=List (Int×Int×Unit)
def polSet(ps:List PolD)(ii kk:Nat)(pp:PolD)(sp':StepD):List PolD:=ps.set ii (pp.1,(pp.2.1.set kk sp',pp.2.2))
def OddPre(at':Int)(ts:List TeamD)(ps:List PolD):Prop:=
  0≤at'∧1≤ps.length∧ps.length≤1000∧ts.length≤1000∧(∀t∈ts,1≤t.2.1.length∧t.2.1.length≤1000)∧(∀p∈ps,1≤p.2.1.length∧p.2.1.length≤1000)
def OddStep(xs:List Int)(cs at4:Int)(sp sp':StepD)(atf:Int):Prop:=
  (cs=2∧∃(q:Nat) (z:Int),(nxt xs at4 3).1=(q:Int)∧([-1,86400,86401]:List Int)[q]?=some z∧sp'=(z,sp.2)∧atf=(nxt xs at4 3).2)∨
  (cs=3∧0≤(nxt xs at4 5).2∧sp'=(sp.1,(sp.2.1,([(w64 ((nxt xs at4 5).1-1),w64 ((nxt xs (nxt xs at4 5).2 6).1-1),())],())))∧atf=(nxt xs (nxt xs at4 5).2 6).2)∨
  (cs=7∧sp.2.2.1.length≤1000∧sp'=(sp.1,(sp.2.1,(sp.2.2.1++List.replicate 7 (0,0,()),())))∧atf=at4)
def Hand (xs:List Int) (at':Int) (ts:List TeamD) (ps:List PolD) (atf:Int) (ps':List PolD):Prop:=
  OddPre at' ts ps∧∃(ii kk:Nat) (pp:PolD) (sp sp':StepD) (cs at2 at3 at4:Int),nxt xs at' ps.length=((ii:Int),at2)∧0≤at2∧ps[ii]?=some pp∧nxt xs at2 pp.2.1.length=((kk:Int),at3)∧0≤at3∧pp.2.1[kk]?=some sp∧
    nxt xs at3 9=(cs,at4)∧0≤at4∧OddStep xs cs at4 sp sp' atf∧ps'=polSet ps ii kk pp sp'
end Go.Proofs.YtcelhemfoehedaaGreat.Od
