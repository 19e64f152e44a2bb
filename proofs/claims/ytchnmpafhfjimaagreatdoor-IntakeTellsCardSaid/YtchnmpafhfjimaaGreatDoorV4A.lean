/- Lemmas for the statement of the last text of this claim. -/
import Derived.Orders
import Derived.Below
import Derived.Laws.Append
import Derived.Laws.CopyRow
import Derived.Laws.Rows
import GoSem.Dispatch
import Derived.Lib.SliceRun
import Derived.IntWalk
import Derived.Laws.AppendOwn
import Derived.CheckFast
import Derived.Scope
import Derived.Carry
import Derived.OpenShut
import Derived.ChangeSame
import Derived.Lib.IndexAny
import Derived.Lib.Join
import Derived.Deep.OwnRows
import Derived.Test.YtchnmpafhfjimaaGreatDoorChecked
import Derived.WalkKit
import Derived.ProofKit
import Derived.Deep.RegionLaw
import Derived.Deep.LoopGhost
import Derived.Lib.Walk
import Derived.Maps.Own
import Derived.Shelf.RegionOpenPlain
import Derived.Shelf.Spec.SlicesInsert
import Derived.Shelf.Strings.OnBuilder
import Derived.BigCall
import Derived.Lib.LazyBuf
import Derived.Deep.AppendLies
import Derived.Maps.OwnSet
import Derived.Maps.AppendAt
import Derived.Shelf.Lays
import Derived.Shelf.Sort.Plain
import Derived.Shelf.Slices.In.SortNone
import Derived.Lib.OwnBridge
import Derived.Sort.OwnSorted
import Derived.BigQuiet
import Derived.Sort.Walk0
import Derived.Sort.KeysCollected
set_option linter.unusedSimpArgs false
set_option linter.unusedVariables false
namespace Go
theorem akW:∀{p:Prop} [inst:Decidable p],p→decide p=true:=@decide_eq_true
theorem akX:∀{α:Type _} {i:Nat} {a:α} {l:List α},l[i]?=some a↔∃h,l[i]=a:=@List.getElem?_eq_some_iff
theorem akY:∀{p:Prop} [inst:Decidable p],¬p→decide p=false:=@decide_eq_false
theorem akZ:∀(n:Nat),Int.toNat ↑n=n:=@Int.toNat_natCast
theorem ala:∀{α:Type _} {xs:Array α} {i:Nat} {d:α},Array.getD xs i d=Option.getD xs[i]? d:=@Array.getD_eq_getD_getElem?
theorem alb:∀{α:Type _} {l:List α} {i:Nat} {a:α},l[i]?=some a→a∈l:=@List.mem_of_getElem?
theorem ald:∀{α:Type _} {β:Type _} {akV:List α} (f:α→β),List.length (List.map f akV)=List.length akV:=@List.length_map
theorem ale:∀{α:Type _} {β:Type _} {f:α→β} {l:List α} {i:Nat},(List.map f l)[i]?=Option.map f l[i]?:=@List.getElem?_map
theorem alf:∀{α:Type _} {b:α} {α_1:Type _} {x:Option α_1} {f:α_1→α},Option.map f x=some b↔∃a,x=some a∧f a=b:=@Option.map_eq_some_iff
theorem alg:∀{α:Type _} (val val_1:α),(some val=some val_1)=(val=val_1):=@Option.some.injEq
theorem alh:∀{α:Type _} {l:List α} {i:Nat} (h:i<List.length l),l[i]?=some l[i]:=@List.getElem?_eq_getElem
theorem ali:∀{p:Prop} [inst:Decidable p],decide p=true→p:=@of_decide_eq_true
theorem alj:∀(n:Nat),n≤n:=@Nat.le_refl
theorem alk:∀(b:Bool),(false||b)=b:=@Bool.false_or
theorem alm:∀{α:Type _} {l₁ l₂:List α} {i:Nat},List.length l₁≤i→(l₁++l₂)[i]?=l₂[i-List.length l₁]?:=@List.getElem?_append_right
theorem aln:∀(b:Bool),(b||false)=b:=@Bool.or_false
theorem alo:(false=true)=False:=@Bool.false_eq_true
theorem alp:∀{α:Type _} {l₁ l₂:List α} {i:Nat},i<List.length l₁→(l₁++l₂)[i]?=l₁[i]?:=@List.getElem?_append_left
theorem alq:∀{n m:Nat} (k:Nat),n≤m→n*k≤m*k:=@Nat.mul_le_mul_right
theorem alr:∀(b:Bool),(true||b)=true:=@Bool.true_or
theorem als:∀{α:Type _} [inst:BEq α] [LawfulBEq α] {a b:α},(a==b)=false↔a≠b:=@beq_eq_false_iff_ne
theorem alu:∀(a b:Bool),((a&&b)=true)=(a=true∧b=true):=@Bool.and_eq_true
theorem alv:∀{α:Type _} {i:Nat} {l:List α},List.length (List.take i l)=min i (List.length l):=@List.length_take
theorem alx:∀{α:Type _} {a:α} {s t:List α},a∈s++t↔a∈s∨a∈t:=@List.mem_append
theorem aly:(!false)=true:=@Bool.not_false
theorem alz:∀{α:Type _} {akV bs:List α},List.length (akV++bs)=List.length akV+List.length bs:=@List.length_append
theorem al1:∀{α:Type _} {β:Type _} (fst:α) (snd:β) (fst_1:α) (snd_1:β),((fst,snd)=(fst_1,snd_1))=(fst=fst_1∧snd=snd_1):=@Prod.mk.injEq
theorem al2:(!true)=false:=@Bool.not_true
theorem al3:∀{α:Type _} {β:Type _} {f:α→β} {a:α} {l:List α},List.map f (a::l)=f a::List.map f l:=@List.map_cons
theorem al4:∀{α:Type _} {β:Type _} (a:α) (f:α→β),Option.map f (some a)=some (f a):=@Option.map_some
theorem al5:∀(b:Bool),(b||true)=true:=@Bool.or_true
theorem al6:∀{α:Type _} {akV:List α} {i:Nat},List.length akV≤i→List.drop i akV=[]:=@List.drop_eq_nil_of_le
theorem al7:∀{α:Type _} (akV bs cs:List α),akV++bs++cs=akV++(bs++cs):=@List.append_assoc
theorem al8:∀{α:Type _} {l:List α} {i:Nat} {a:α},List.getD l i a=Option.getD l[i]? a:=@List.getD_eq_getElem?_getD
theorem al9:∀{α:Type _} {l:List α},List.drop 0 l=l:=@List.drop_zero
theorem alB:∀{α:Type _} {β:Type _} {f:α→β} {l₁ l₂:List α},List.map f (l₁++l₂)=List.map f l₁++List.map f l₂:=@List.map_append
theorem alC:∀{α:Type _} [inst:BEq α] [LawfulBEq α] (a:α),(a !=a)=false:=@bne_self_eq_false
theorem alD:∀(n:Nat),0≤n:=@Nat.zero_le
theorem alE:∀{α:Type _} (akV:List α),akV++ []=akV:=@List.append_nil
theorem alF:∀{α:Type _} {p:α→Bool} {l:List α},List.all l p=true↔∀(x:α),x∈l→p x=true:=@List.all_eq_true
theorem alH:∀{α:Type _} {i:Nat} {l:List α},List.length (List.drop i l)=List.length l-i:=@List.length_drop
theorem alI:∀{α:Type _} {a:α} {akV:List α},List.length (a::akV)=List.length akV+1:=@List.length_cons
theorem alJ:∀{α:Type _} {β:Type _} {f:α→β},List.map f []=[]:=@List.map_nil
theorem alL:∀(b:Bool),(true&&b)=b:=@Bool.true_and
theorem alM:∀{p:Prop} [inst:Decidable p],(decide p=true)=p:=@decide_eq_true_eq
theorem alN:∀{α:Type _} {b:α} {l:List α} {a:α},a∈b::l↔a=b∨a∈l:=@List.mem_cons
theorem alO:∀{α:Type _} {l:List α} {α_1:Type _} {f g:α→α_1},(∀(a:α),a∈l→f a=g a)→List.map f l=List.map g l:=@List.map_congr_left
theorem alP:∀{α:Type _} {i:Nat} {l:List α},List.length l≤i→List.take i l=l:=@List.take_of_length_le
theorem alQ:∀(n:Nat),0+n=n:=@Nat.zero_add
theorem alR:∀{α:Type _} {β:Type _} (a:α) (f:α→Option β),Option.bind (some a) f=f a:=@Option.bind_some
theorem alS:∀{n m k:Nat},n≤m→m≤k→n≤k:=@Nat.le_trans
theorem alT:∀{α:Type _} {xs:Array α} {i:Nat} (h:i<Array.size xs),xs[i]?=some xs[i]:=@Array.getElem?_eq_getElem
theorem alU:∀{α:Type _} {akV:List α} {i:Nat} {a:α},List.length (List.set akV i a)=List.length akV:=@List.length_set
theorem alV:∀{α:Type _} {a b:α},a∈ [b]↔a=b:=@List.mem_singleton
theorem alW:∀{x y:Bool},(x||y)=false↔x=false∧y=false:=@Bool.or_eq_false_iff
theorem alX:∀(n m k:Nat),(n+m)*k=n*k+m*k:=@Nat.add_mul
theorem alY:∀{α:Type _} [inst:BEq α] [LawfulBEq α] {a b:α},(a !=b)=true↔a≠b:=@bne_iff_ne
theorem alZ:∀{α:Type _} {l:List α},List.drop (List.length l) l=[]:=@List.drop_length
theorem ama:∀{α:Type _} {l:List α} {i:Nat},List.length l≤i→l[i]?=none:=@List.getElem?_eq_none
theorem amb:∀{α:Type _} {β:Type _} {b:β} {f:α→β} {l:List α},b∈List.map f l↔∃a,a∈l∧f a=b:=@List.mem_map
theorem amc:∀{α:Type _} {l:List α},List.length l=0→l=[]:=@List.eq_nil_of_length_eq_zero
theorem amd:∀{α:Type _} {l:List α},List.take (List.length l) l=l:=@List.take_length
theorem ame:∀{α:Type _} {b:α} {α_1:Type _} {x:Option α_1} {f:α_1→Option α},Option.bind x f=some b↔∃a,x=some a∧f a=some b:=@Option.bind_eq_some_iff
theorem amf:∀{α:Type _} {i:Nat} {b:α} {xs:Array α},xs[i]?=some b↔∃h,xs[i]=b:=@Array.getElem?_eq_some_iff
theorem amg:∀{α:Type _} [inst:BEq α] [ReflBEq α] (a:α),(a==a)=true:=@beq_self_eq_true
theorem amh:∀(b:Bool),(false&&b)=false:=@Bool.false_and
theorem ami:∀{α:Sort _} (a b:α),(bif false then a else b)=b:=@cond_false
theorem amj:∀{α:Type _} {l:List α} {i:Nat},l[i]?=none↔List.length l≤i:=@List.getElem?_eq_none_iff
theorem amk:∀{p:Prop} {x:Decidable p},decide p=false↔¬p:=@decide_eq_false_iff_not
theorem aml:∀{p q:Prop} {x:Decidable p} {x_1:Decidable q},decide p=decide q↔(p↔q):=@decide_eq_decide
theorem amm:∀{α:Type _} (y:α) {a:α} {l:List α},a∈l→a∈y::l:=@List.mem_cons_of_mem
theorem amn:∀{β:Type _} {γ:Type _} {α:Type _} {g:β→γ} {f:α→β} {l:List α},List.map g (List.map f l)=List.map (g ∘ f) l:=@List.map_map
theorem amo:∀{α:Type _} {p:α→Bool} (l₁ l₂:List α),List.filter p (l₁++l₂)=List.filter p l₁++List.filter p l₂:=@List.filter_append
theorem amq:∀{α:Type _} {a:α} {l:List α},a∈a::l:=@List.mem_cons_self
theorem amr:∀(h:Decidable True),decide True=true:=@decide_true
theorem ams:∀{α:Type _} {β:Type _} {x:α} {xs:List α} {f:α→List β},List.flatMap f (x::xs)=f x++List.flatMap f xs:=@List.flatMap_cons
theorem amt:∀{α:Type _} {a b:α},Option.getD (some a) b=a:=@Option.getD_some
theorem amu:∀{α:Type _} (i:Nat) (l:List α),List.take i l++List.drop i l=l:=@List.take_append_drop
theorem amv:∀{α:Type _} {x:α} {l:List α},[x]++l=x::l:=@List.singleton_append
theorem amw:∀{α:Type _} {xs:List α} {i j:Nat},(List.drop i xs)[j]?=xs[i+j]?:=@List.getElem?_drop
theorem amx:∀{α:Type _} {R:α→α→Prop} {a:α} {l:List α},List.Pairwise R (a::l)↔(∀(a':α),a'∈l→R a a')∧List.Pairwise R l:=@List.pairwise_cons
theorem amy:∀(h:Decidable False),decide False=false:=@decide_false
theorem amz:∀{α:Type _} (p:α→Bool) (l:List α),List.length (List.filter p l)≤List.length l:=@List.length_filter_le
theorem am0:∀{n m k:Nat},n<m→m≤k→n<k:=@Nat.lt_of_lt_of_le
theorem am1:∀{α:Type _} {a:α} {akV bs:List α},a::akV++bs=a::(akV++bs):=@List.cons_append
theorem am2:∀{p:Prop} [inst:Decidable p],decide p=false→¬p:=@of_decide_eq_false
theorem am3:∀{α:Type _} {p:α→Bool} {akV:List α} {x:α},x∈List.filter p akV↔x∈akV∧p x=true:=@List.mem_filter
theorem am4:∀{α:Type _} {xs ys:Array α} {i:Nat},i<Array.size xs→(xs++ys)[i]?=xs[i]?:=@Array.getElem?_append_left
theorem am5:∀(b:Bool),((!b)=true)=(b=false):=@Bool.not_eq_true'
theorem am6:∀{α:Type _} {l:List α},List.length l=0↔l=[]:=@List.length_eq_zero_iff
theorem am7:∀{α:Type _} {i j:Nat} {l:List α},List.drop i (List.drop j l)=List.drop (j+i) l:=@List.drop_drop
theorem am8:∀(n m:Nat),n<m∨n≥m:=@Nat.lt_or_ge
theorem am9:∀{α:Type _} {l:List α} {i:Nat},List.take (i+1) l=List.take i l++Option.toList l[i]?:=@List.take_add_one
theorem amA:∀{α:Type _} {l:List α} {i j:Nat},(List.take i l)[j]?=if j<i then l[j]? else none:=@List.getElem?_take
theorem amB:∀(n:Nat),n+0=n:=@Nat.add_zero
theorem amC:∀{α:Type _} {β:Type _} {f:α→List β} {b:β} {l:List α},b∈List.flatMap f l↔∃a,a∈l∧b∈f a:=@List.mem_flatMap
theorem amD:∀{α:Type _} (akV:List α),[]++akV=akV:=@List.nil_append
theorem amE:∀{α:Type _} {l:List α} {i:Nat} {a:α},i<List.length l→(List.set l i a)[i]?=some a:=@List.getElem?_set_self
theorem amF:∀(a b:Bool),((a||b)=true)=(a=true∨b=true):=@Bool.or_eq_true
theorem amG:(¬False)=True:=@not_false_eq_true
theorem amH:∀{α:Type _} {l:List α},List.take 0 l=[]:=@List.take_zero
theorem amI:∀{m n:Nat},m∈List.range n↔m<n:=@List.mem_range
end Go
namespace Go.Abs
open Go
abbrev Nm:=Nat×Nat
inductive AV where
 |undef
 |bool (b:Bool)
 |int (k:IntKind) (n:Int)
 |str (s:ByteArray)
 |nilp
 |nilf
 |ptr (g:Nm) (sz i off:Nat)
 |lp (sz:Nat) (xs:List AV) (i off:Nat)
 |eO (sz:Nat) (xs:List AV) (tight:Bool)
 |slc (isNil:Bool)
 |own (g:Nm) (sz off len:Nat)
 |clo (f:FuncId) (caps:List AV)
 |fm (l:List (Int×FuncId×List FuncId))
 |fp (g:FuncId)
 |agg (cs:List AV)
 |tup (vs:List AV)
instance:Inhabited AV:=⟨.undef⟩
def AV.cells:AV→List AV
 | .agg cs=>cs
 |v=> [v]
def AV.isAgg:AV→Bool
 | .agg _=>true
 |_=>false
def U6:AV→Bool
 | .undef| .agg _| .tup _=>false
 |_=>true
def okV:AV→Bool
 | .agg _=>true
 |v=>U6 v
structure cB where
 sz:Nat
 elems:List AV
 jw:Nat
 box:Bool
abbrev Heap:=List (List (Option cB))
def get(H:Heap)(g:Nm):Option cB:=
 match H[g.1]? with
 |some l=>(l[g.2]?).join
 |none=>none
def set(H:Heap)(g:Nm)(b:Option cB):Heap:=H.modify g.1 fun l=>l.set g.2 b
abbrev Fr:=List (Nat×AV)
def look:Fr→Nat→AV
 | [],_=>.undef
 |(s,x)::r,t=>if s=t then x else look r t
def ins(s:Nat)(x:AV):Fr→Fr
 | []=> [(s,x)]
 |(t,y)::r=>if s<t then(s,x)::(t,y)::r else if s=t then(s,x)::r else(t,y)::ins s x r
structure St where
 fr:Fr
 hp:Heap
def U7:Value→AV
 | .bool b=>.bool b
 | .int k n=>.int k n
 | .string s=>.str s
 | .pointer none=>.nilp
 | .nilFunc=>.nilf
 | .slice none 0 0=>.eO 0 [] true
 |_=>.undef
def cv:Value→AV
 | .agg cs=>if(cs.toList.map U7).all U6 then .agg (cs.toList.map U7)else .undef
 |v=>U7 v
def sP(fr:Fr):Operand→AV
 | .tmp t=>look fr t
 | .const v=>cv v
 | .global _=>.undef
 | .func f=>.clo f []
structure iD where
 val:AV
 rd:List Nm:=[]
 wr:List (Nm×Option cB):=[]
 new:List cB:=[]
def bf(P:Program)(t:TypeId):Option Nat:=(P.info? t).map (·.size)
def vO(P:Program)(t:TypeId):Option Nat:=(P.info? t).map (·.bytes)
def BV(P:Program)(t:TypeId):Option Bool:=
 match P.underlying t with
 |some (.struct _)|some (.array _ _)=>some true
 |some _=>some false
 |none=>none
def oo(P:Program)(t:TypeId):Option AV:=
 match P.info? t with
 |some i=>match i.zero with
  |some z=>some (cv z)
  |none=>none
 |none=>none
def nt1:AV→AV
 | .eO sz xs _=>.eO sz xs false
 |v=>v
def ntV:AV→AV
 | .agg cs=>.agg (cs.map nt1)
 |v=>nt1 v
def tQ(P:Program)(t:TypeId):Option AV:=(oo P t).map ntV
def kL(P:Program)(t:TypeId):Option TypeId:=
 match P.underlying t with
 |some (.slice e)=>some e
 |_=>none
def Bd(sz:Nat)(xs:List AV):Nat:=
 match xs with
 | []=>0
 |_::_=>sz
def eB(H:Heap):AV→Option (AV×List Nm)
 | .own g sz off len=>
  match get H g with
  |some b=>if off+len≤b.elems.length∧b.box=false∧b.sz=sz∧0<sz then some (.eO (Bd b.sz ((b.elems.drop off).take len)) ((b.elems.drop off).take len) false,[g])else none
  |none=>none
 | .ptr ..=>none
 | .clo ..=>none
 | .lp ..=>none
 | .agg _=>none
 | .tup _=>none
 | .slc _=>none
 | .fm _=>none
 | .fp _=>none
 | .eO sz xs _=>some (.eO (Bd sz xs) xs false,[])
 |v=>some (v,[])
def pu(H:Heap):List AV→Option (List AV×List Nm)
 | []=>some ([],[])
 |x::r=>
  match eB H x,pu H r with
  |some (y,l),some (ys,m)=>some (y::ys,l++m)
  |_,_=>none
def jO(H:Heap):AV→Option (AV×List Nm)
 | .agg cs=>match pu H cs with
  |some (ys,l)=>some (.agg ys,l)
  |none=>none
 | .tup _=>none
 |v=>eB H v
def cB.stop(b:cB):cB:={b with jw:=max b.jw b.elems.length}
def stops(H:Heap)(l:List Nm):List (Nm×Option cB):=l.map fun g=>(g,(get H g).map cB.stop)
def splice(cs:List AV)(off:Nat)(new:List AV):List AV:=cs.take off++new++cs.drop (off+new.length)
def pF(agg:Bool)(cs:List AV):Option AV:=
 if agg then some (.agg cs)else match cs with
  | [c]=>some c
  |_=>none
def loadAt(size:Nat)(agg:Bool)(x:AV)(off:Nat):Option AV:=
 if off+size≤x.cells.length then
  (if off=0∧size=x.cells.length∧x.isAgg=agg then some x else pF agg ((x.cells.drop off).take size))
 else none
def mF(P:Program)(t:TypeId)(p:AV)(H:Heap):Option iD:=
 match bf P t,BV P t with
 |some size,some agg=>
  match p with
  | .ptr g sz i off=>
   match get H g with
   |some b=>if b.sz=sz∧0<sz then
     match b.elems[i]? with
     |some x=>(loadAt size agg x off).map fun v=>{val:=v,rd:=[g]}
     |none=>none
    else none
   |none=>none
  | .lp sz xs i off=>
   match xs[i]? with
   |some x=>if x.cells.length=sz then(loadAt size agg x off).map fun v=>{val:=v} else none
   |none=>none
  | .fp g=>if size=1∧agg=false then some {val:=.clo g []} else none
  |_=>none
 |_,_=>none
def vY(l:List (Int×FuncId×List FuncId))(n:Int):AV×Bool:=
 match l with
 | []=>(.nilf,false)
 |(k,f,gs)::r=>if n=k then(.clo f (gs.map .fp),true)else vY r n
def oQ(P:Program)(t:TypeId)(m k:AV)(ok:Bool):Option AV:=
 match P.underlying t,m,k with
 |some (.map kt et),.fm l,.int .i64 n=>
  match P.underlying kt,oo P et with
  |some (.int .i64),some .nilf=>some (if ok then .tup [(vY l n).1,.bool (vY l n).2]else(vY l n).1)
  |_,_=>none
 |_,_,_=>none
def okS:AV→Bool
 | .bool _| .int _ _| .str _=>true
 |_=>false
def mG(n:Int):List AV→Option AV
 | .agg [.int .i64 k,x]::r=>if n=k then some x else mG n r
 |_=>none
def pq(n:Int)(v:AV):List AV→List AV
 | .agg [.int .i64 k,x]::r=>if n=k then .agg [.int .i64 k,v]::r else .agg [.int .i64 k,x]::pq n v r
 |_=> [.agg [.int .i64 n,v]]
def zu(H:Heap):AV→Option (Nm×cB)
 | .ptr g 0 0 0=>match get H g with
  |some b=>if b.sz=0∧b.box=false then some (g,b)else none
  |none=>none
 |_=>none
def Pn(P:Program)(t:TypeId):Option TypeId:=
 match P.underlying t with
 |some (.map kt et)=>match P.underlying kt with
  |some (.int .i64)=>some et
  |_=>none
 |_=>none
def jN(P:Program)(t:TypeId)(m k:AV)(ok:Bool)(H:Heap):Option iD:=
 match Pn P t,zu H m,k with
 |some et,some (g,b),.int .i64 n=>match oo P et with
  |some z=>if okS z then some {val:=if ok then .tup [(mG n b.elems).getD z,.bool (mG n b.elems).isSome]else(mG n b.elems).getD z,rd:=[g]} else none
  |none=>none
 |_,_,_=>none
def iw(P:Program)(t:TypeId)(m k v:AV)(H:Heap):Option iD:=
 match Pn P t,zu H m,k with
 |some _,some (g,b),.int .i64 n=>if okS v then some {val:=.tup [],rd:=[g],wr:=[(g,some {b with elems:=pq n v b.elems})]} else none
 |_,_,_=>none
def jy(x:AV)(off size sz:Nat)(u:AV):Option AV:=
 if off=0∧size=sz then some u else if x.isAgg then some (.agg (splice x.cells off u.cells))else none
def l5(P:Program)(t:TypeId)(p v:AV)(H:Heap):Option iD:=
 match bf P t with
 |some size=>
  match p with
  | .ptr g sz i off=>
   match get H g with
   |some b=>
    if b.sz=sz∧b.jw≤i∧0<sz then
     match b.elems[i]? with
     |some x=>
      if b.box then
       (if v.cells.length=size∧off+size≤sz∧okV v then
        match jy x off size sz v with
        |some x'=>some {val:=.tup [],rd:=[g],wr:=[(g,some {b with elems:=b.elems.set i x'})]}
        |none=>none
       else none)
      else
       match jO H v with
       |some (u,l)=>
        if u.cells.length=size∧off+size≤sz∧¬ g∈l∧okV u then
         match jy x off size sz u with
         |some x'=>some {val:=.tup [],rd:=g::l,wr:=stops H l++ [(g,some {b with elems:=b.elems.set i x'})]}
         |none=>none
        else none
       |none=>none
     |none=>none
    else none
   |none=>none
  |_=>none
 |none=>none
def pV(P:Program)(t:TypeId)(f:Nat):Option (Nat×TypeId):=
 match P.underlying t with
 |some (.struct fs)=>match fs[f]? with
  |some x=>some (x.offset,x.type)
  |none=>none
 |_=>none
def lQ(P:Program)(t:TypeId)(p:AV)(f:Nat):Option AV:=
 match pV P t f with
 |some (o,ft)=>
  if bf P ft=none∨bf P ft=some 0 then none else
  match p with
  | .ptr g sz i off=>if 0<sz then some (.ptr g sz i (off+o))else none
  | .lp sz xs i off=>some (.lp sz xs i (off+o))
  |_=>none
 |none=>none
def partOf(P:Program)(t:TypeId)(cs:List AV)(off:Nat):Option AV:=
 match bf P t,BV P t with
 |some size,some agg=>if off+size≤cs.length then pF agg ((cs.drop off).take size)else none
 |_,_=>none
def zA(P:Program)(t:TypeId)(x:AV)(f:Nat):Option AV:=
 match pV P t f,x with
 |some (o,ft),.agg cs=>partOf P ft cs o
 |_,_=>none
def jQ(P:Program)(t:TypeId)(x i:AV):Option AV:=
 match P.underlying t,i with
 |some (.slice e),.int _ n=>
  match x with
  | .own g sz off len=>if bf P e=some sz∧0≤n∧n<len∧0<sz then some (.ptr g sz (off+n.toNat) 0)else none
  | .eO sz xs _=>if 0≤n∧n<xs.length∧bf P e=some sz then some (.lp sz xs n.toNat 0)else none
  |_=>none
 |some (.array len e),.int _ n=>
  match x with
  | .ptr g sz j off=>match bf P e with
   |some es=>if 0≤n∧n<len∧0<sz then some (.ptr g sz j (off+n.toNat*es))else none
   |none=>none
  |_=>none
 |_,_=>none
def nk(P:Program)(t:TypeId)(x i:AV):Option AV:=
 match P.underlying t,x,i with
 |some (.array len e),.agg cs,.int _ n=>
  match bf P e with
  |some es=>if 0≤n∧n<len then partOf P e cs (n.toNat*es)else none
  |none=>none
 |some .string,.str s,.int _ n=>
  match(if 0≤n then s[n.toNat]? else none)with
  |some b=>some (.int .u8 b.toNat)
  |none=>none
 |_,_,_=>none
def Qy(op:BinOp)(k:IntKind)(a b:Int):Int:=
 match op with
 | .and=>k.wrap (BitVec.ofInt k.bits a&&&BitVec.ofInt k.bits b).toNat
 | .or=>k.wrap (BitVec.ofInt k.bits a|||BitVec.ofInt k.bits b).toNat
 | .xor=>k.wrap (BitVec.ofInt k.bits a ^^^ BitVec.ofInt k.bits b).toNat
 |_=>0
def adD(k:IntKind)(a b:Int):Int:=k.wrap (a*2 ^(min b.toNat k.bits))
def AZ(k:IntKind)(a b:Int):Int:=a.fdiv (2 ^(min b.toNat k.bits))
def kS(op:BinOp)(x y:AV):Option AV:=
 match x,y with
 | .int k a,.int k' b=>
  match op with
  | .and=>if k=k' then some (.int k (Qy .and k a b))else none
  | .or=>if k=k' then some (.int k (Qy .or k a b))else none
  | .xor=>if k=k' then some (.int k (Qy .xor k a b))else none
  | .shl=>if 0≤b then some (.int k (adD k a b))else none
  | .shr=>if 0≤b then some (.int k (AZ k a b))else none
  | .add=>if k=k' then some (.int k (k.wrap (a+b)))else none
  | .sub=>if k=k' then some (.int k (k.wrap (a-b)))else none
  | .mul=>if k=k' then some (.int k (k.wrap (a*b)))else none
  | .quo=>if k=k'∧b≠0 then some (.int k (k.wrap (a.tdiv b)))else none
  | .rem=>if k=k'∧b≠0 then some (.int k (a.tmod b))else none
  | .eql=>if k=k' then some (.bool (a==b))else none
  | .neq=>if k=k' then some (.bool (a !=b))else none
  | .lss=>if k=k' then some (.bool (a<b))else none
  | .leq=>if k=k' then some (.bool (a≤b))else none
  | .gtr=>if k=k' then some (.bool (a>b))else none
  | .geq=>if k=k' then some (.bool (a≥b))else none
  |_=>none
 | .str a,.str b=>
  match op with
  | .add=>if a.size+b.size≤4294967296 then some (.str (a++b))else none
  | .eql=>some (.bool (a.toList==b.toList))
  | .neq=>some (.bool (!(a.toList==b.toList)))
  | .lss=>some (.bool (Op.bytesLess a.toList b.toList))
  | .leq=>some (.bool (Op.bytesLess a.toList b.toList||a.toList==b.toList))
  | .gtr=>some (.bool (!(Op.bytesLess a.toList b.toList||a.toList==b.toList)))
  | .geq=>some (.bool (!(Op.bytesLess a.toList b.toList)))
  |_=>none
 |_,_=>none
def eqFields(P:Program)(eq:TypeId→AV→AV→Option Bool)(xs ys:List AV):List Field→Option Bool
 | []=>some true
 |f::r=>
  if f.name = "_" then none else
  match partOf P f.type xs f.offset,partOf P f.type ys f.offset with
  |some a,some b=>match eq f.type a b,eqFields P eq xs ys r with
   |some c,some d=>some (c&&d)
   |_,_=>none
  |_,_=>none
def pG(P:Program)(eq:TypeId→AV→AV→Option Bool)(e:TypeId)(size:Nat)(xs ys:List AV):Nat→Nat→Option Bool
 |0,_=>some true
 |n+1,i=>
  match partOf P e xs (i*size),partOf P e ys (i*size)with
  |some a,some b=>match eq e a b,pG P eq e size xs ys n (i+1)with
   |some c,some d=>some (c&&d)
   |_,_=>none
  |_,_=>none
def K6(P:Program):Nat→TypeId→AV→AV→Option Bool
 |0,_,_,_=>none
 |d+1,t,x,y=>
  match P.underlying t,x,y with
  |some .bool,.bool a,.bool b=>some (a==b)
  |some (.int _),.int k a,.int k' b=>if k=k' then some (a==b)else none
  |some .string,.str a,.str b=>some (a==b)
  |some (.struct fs),.agg xs,.agg ys=>if P.stoodInHeld t then none else eqFields P (K6 P d) xs ys fs.toList
  |some (.array n e),.agg xs,.agg ys=>
   match bf P e with
   |some size=>pG P (K6 P d) e size xs ys n 0
   |none=>none
  |_,_,_=>none
def Di(P:Program)(t:TypeId)(x y:AV):Option Bool:=
 match x,y with
 | .bool a,.bool b=>K6 P 8 t (.bool a) (.bool b)
 | .agg xs,.agg ys=>if P.eqGuardType P.depth t then none else K6 P 8 t (.agg xs) (.agg ys)
 |_,_=>none
def ou(P:Program)(op:BinOp)(t:TypeId)(x y:AV):Option AV:=
 match kS op x y with
 |some v=>some v
 |none=>match op with
  | .eql=>(Di P t x y).map .bool
  | .neq=>(Di P t x y).map fun b=>.bool (!b)
  |_=>none
def aal(op:UnOp)(x:AV):Option AV:=
 match op,x with
 | .neg,.int k n=>some (.int k (k.wrap (0-n)))
 | .not,.bool b=>some (.bool !b)
 |_,_=>none
def nV(P:Program)(src dst:TypeId)(x:AV):Option AV:=
 match P.underlying src,P.underlying dst,x with
 |some (.int _),some (.int k),.int _ n=>some (.int k (k.wrap n))
 |some .string,some .string,.str s=>some (.str s)
 |_,_,_=>none
def bound(o:Option AV)(dflt:Nat):Option Nat:=
 match o with
 |none=>some dflt
 |some (.int _ n)=>if 0≤n then some n.toNat else none
 |some _=>none
def gH(P:Program)(t:TypeId)(x:AV)(lo hi mx:Option AV)(H:Heap):Option iD:=
 match P.underlying t,x with
 |some .string,.str s=>
  match mx,bound lo 0,bound hi s.size with
  |none,some l,some h=>if l≤h∧h≤s.size then some {val:=.str (s.extract l h)} else none
  |_,_,_=>none
 |some (.slice e),.eO sz xs tight=>
  if (bf P e).isSome&&(decide (bf P e=some sz)||xs.isEmpty)then
   match mx,bound lo 0,bound hi xs.length with
   |none,some l,some h=>if l≤h∧h≤xs.length then some {val:=.eO (Bd sz ((xs.drop l).take (h-l))) ((xs.drop l).take (h-l)) (tight&&hi.isNone)} else none
   |some m,some l,some h=>match bound (some m) 0 with
    |some m=>if l≤h∧h≤m∧m≤xs.length∧hi.isSome then some {val:=.eO (Bd sz ((xs.drop l).take (h-l))) ((xs.drop l).take (h-l)) (h==m)} else none
    |none=>none
   |_,_,_=>none
  else none
 |some (.slice e),.own g sz off len=>
  if bf P e=some sz then
   match mx,bound lo 0,bound hi len with
   |none,some l,some h=>if l≤h∧h≤len then some {val:=.own g sz (off+l) (h-l)} else none
   |some m,some l,some h=>match bound (some m) 0,get H g with
    |some m,some b=>if l≤h∧h≤m∧m≤len∧off+len≤b.elems.length∧b.box=false∧b.sz=sz∧hi.isSome∧0<sz then
      some {val:=.eO (Bd sz ((b.elems.drop (off+l)).take (h-l))) ((b.elems.drop (off+l)).take (h-l)) (h==m),rd:=[g],wr:=stops H [g]} else none
    |_,_=>none
   |_,_,_=>none
  else none
 |_,_=>none
def CK(place:Nat→Option (Nat×Nat))(cells:List AV):List (Nat×AV)→Option (List AV)
 | []=>some cells
 |(i,v)::rest=>
  match place i with
  |none=>none
  |some (off,size)=>if v.cells.length=size∧off+size≤cells.length∧okV v then CK place (splice cells off v.cells) rest else none
def wX(P:Program)(t:TypeId)(parts:List (Nat×AV)):Option AV:=
 match oo P t,P.underlying t with
 |some (.agg z),some (.struct fs)=>
  if !(fs.toList.all fun f=>(bf P f.type).isSome)then none else
  (CK (fun i=>match fs[i]? with
   |some f=>(bf P f.type).map fun s=>(f.offset,s)
   |none=>none) z parts).map .agg
 |some (.agg z),some (.array _ e)=>
  match bf P e with
  |some s=>(CK (fun i=>some (i*s,s)) z parts).map .agg
  |none=>none
 |_,_=>none
def pW(H:Heap)(size:Nat)(agg:Bool)(es:List AV)(l:List Nm):List (Nat×AV)→Option (List AV×List Nm)
 | []=>some (es,l)
 |(i,v)::rest=>
  match jO H v with
  |some (u,m)=>if u.cells.length=size∧u.isAgg=agg∧i<es.length∧okV u then pW H size agg (es.set i u) (l++m) rest else none
  |none=>none
def gG(P:Program)(t:TypeId)(len:Nat)(parts:List (Nat×AV))(H:Heap)(slot:Nat):Option iD:=
 match kL P t with
 |some e=>
  match bf P e,BV P e,tQ P e with
  |some size,some agg,some z=>
   if len*size≤65536∧0<size∧z.cells.length=size∧okV z then
    match pW H size agg (List.replicate len z) [] parts with
    |some (es,l)=>some {val:=.own (slot,0) size 0 len,rd:=l,wr:=stops H l,new:=[⟨size,es,0,false⟩]}
    |none=>none
   else none
  |_,_,_=>none
 |none=>none
def lG(P:Program)(t:TypeId)(l c:AV)(slot:Nat):Option iD:=
 match kL P t,l,c with
 |some e,.int _ n,.int _ m=>
  match bf P e,vO P e,tQ P e with
  |some size,some bytes,some z=>
   if 0≤n∧n≤m∧m≤4294967296∧bytes≤32768∧0<size∧z.cells.length=size∧okV z then
    some {val:=.own (slot,0) size 0 n.toNat,new:=[⟨size,List.replicate n.toNat z,0,false⟩]}
   else none
  |_,_,_=>none
 |_,_,_=>none
def jP(H:Heap):AV→Option (Nat×List AV×List Nm)
 | .eO sz xs _=>some (sz,xs,[])
 | .own g sz off len=>
  match get H g with
  |some b=>if off+len≤b.elems.length∧b.box=false∧b.sz=sz∧0<sz then some (sz,(b.elems.drop off).take len,[g])else none
  |none=>none
 |_=>none
def lF (P:Program) (t:TypeId) (s x:AV) (H:Heap) (slot:Nat):Option iD:=
 match kL P t with
 |some e=>
  match bf P e,vO P e,oo P e,jP H x with
  |some size,some bytes,some z,some (sz',ys,l)=>
   if 0<size∧bytes≤32768∧z.cells.length=size∧okV z∧(sz'=size∨ys=[])then
    match s with
    | .eO sz xs tight=>
     if ys=[]∧xs≠ []then(if sz=size then some {val:=.eO size xs tight,rd:=l} else none)
     else if tight=true∧(sz=size∨xs=[])∧(xs=[]∨0<ys.length)∧xs.length+ys.length≤4294967296 then
      some {val:=.own (slot,0) size 0 (xs.length+ys.length),rd:=l,new:=[⟨size,xs++ys,0,false⟩]}
     else none
    | .own g sz off len=>
     match get H g with
     |some b=>
      if sz=size∧b.sz=size∧off=0∧len≤b.elems.length∧b.box=false∧b.jw≤len∧len+ys.length≤4294967296 then
       some {val:=.own (slot,0) size 0 (len+ys.length),rd:=g::l,wr:=[(g,none)],new:=[⟨size,b.elems.take len++ys,b.jw,false⟩]}
      else none
     |none=>none
    |_=>none
   else none
  |_,_,_,_=>none
 |none=>none
def uN(P:Program)(t:TypeId)(d x:AV)(H:Heap):Option iD:=
 match kL P t with
 |some e=>
  match bf P e,d,jP H x with
  |some size,.own g sz off len,some (sz',ys,l)=>
   match get H g with
   |some b=>
    if sz=size∧b.sz=size∧0<size∧off+len≤b.elems.length∧b.box=false∧b.jw≤off∧(sz'=size∨ys=[])then
     some {val:=.int .i64 (min ys.length len:Nat),rd:=g::l,wr:=[(g,some {b with elems:=splice b.elems off (ys.take len)})]}
    else none
   |none=>none
  |_,_,_=>none
 |none=>none
def p8(P:Program)(t:TypeId)(d:AV)(H:Heap):Option iD:=
 match kL P t with
 |some e=>
  match bf P e,tQ P e,d with
  |some size,some z,.own g sz off len=>
   match get H g with
   |some b=>
    if sz=size∧b.sz=size∧0<size∧off+len≤b.elems.length∧b.box=false∧b.jw≤off∧z.cells.length=size∧okV z then
     some {val:=.tup [],rd:=[g],wr:=[(g,some {b with elems:=splice b.elems off (List.replicate len z)})]}
    else none
   |none=>none
  |_,_,_=>none
 |none=>none
def Ma(P:Program)(t:TypeId)(x:AV):Option AV:=
 match P.underlying t with
 |some (.array n _)=>some (.int .i64 n)
 |some (.slice _)=>match x with
  | .eO _ xs _=>some (.int .i64 xs.length)
  | .own _ _ _ len=>some (.int .i64 len)
  |_=>none
 |some .string=>match x with
  | .str s=>some (.int .i64 s.size)
  |_=>none
 |_=>none
def Pw:AV→List AV→Option AV
 |x,[]=>some x
 | .int k a,.int k' b::r=>if k=k' then Pw (.int k (if b<a then b else a)) r else none
 |_,_=>none
def Pq:AV→List AV→Option AV
 |x,[]=>some x
 | .int k a,.int k' b::r=>if k=k' then Pq (.int k (if b>a then b else a)) r else none
 |_,_=>none
def QT:AV→List Nm
 | .ptr g _ _ _=> [g]
 | .own g _ _ _=> [g]
 |_=> []
def NY:AV→List Nm
 | .clo _ cs=>cs.flatMap QT
 |v=>QT v
def mI:AV→List Nm
 | .agg cs=>cs.flatMap NY
 | .tup vs=>vs.flatMap fun v=>match v with
  | .agg cs=>cs.flatMap NY
  |v=>NY v
 |v=>NY v
def PO:AV→List Nm
 | .ptr g _ _ _=> [g]
 | .clo _ cs=>cs.flatMap QT
 |_=> []
def fu:AV→List Nm
 | .agg cs=>cs.flatMap PO
 |v=>PO v
def H8(H:Heap)(g:Nm):List Nm:=
 match get H g with
 |some b=>if b.box then b.elems.flatMap mI else []
 |none=> []
def jg(l:List Nm):List Nm→List Nm
 | []=>l
 |g::r=>if g∈l then jg l r else jg (l++ [g]) r
def grow(H:Heap)(l:List Nm):List Nm:=jg l (l.flatMap (H8 H))
def reach(H:Heap)(l:List Nm):List Nm:=grow H (grow H (grow H (jg [] l)))
abbrev Ren:=Nm→Option Nm
def D5(f:Ren):AV→AV
 | .ptr g sz i off=>match f g with
  |some g'=>.ptr g' sz i off
  |none=>.undef
 | .own g sz off len=>match f g with
  |some g'=>.own g' sz off len
  |none=>.undef
 | .clo _ _=>.undef
 | .agg _=>.undef
 | .tup _=>.undef
 |v=>v
def Hr(f:Ren):AV→AV
 | .clo fn cs=>.clo fn (cs.map (D5 f))
 |v=>D5 f v
def Hf(f:Ren):AV→AV
 | .agg cs=>.agg (cs.map (Hr f))
 |v=>Hr f v
def BJ(f:Ren):AV→AV
 | .tup vs=>.tup (vs.map (Hf f))
 |v=>Hf f v
def bZ(f:Ren)(b:cB):cB:=if b.box then {b with elems:=b.elems.map (Hf f)} else b
def idxOf(g:Nm):List Nm→Nat→Option Nat
 | [],_=>none
 |h::r,i=>if h=g then some i else idxOf g r (i+1)
def je(m:Nat)(R:List Nm):Ren:=fun g=>if g.1<m then(if g.2=0 then some g else none)else(idxOf g R 0).map fun i=>(m+i,0)
def aL(m:Nat):List Nm:=(List.range m).map fun j=>(j,0)
def outside(m:Nat)(R:List Nm):List Nm:=R.filter fun g=> !decide (g.1<m)
def qz(H:Heap)(m:Nat)(f:Ren)(R:List Nm):Heap:=
 ((aL m)++R).map fun g=> [(get H g).map (bZ f)]
def reached(H:Heap)(m:Nat)(roots:List Nm):List Nm:=outside m (reach H (jg (aL m) roots))
def tidy(m:Nat)(s:St):St:=
 let R:=reached s.hp m (s.fr.flatMap fun p=>mI p.2)
 let f:=je m R
 {fr:=s.fr.map fun p=>(p.1,BJ f p.2),hp:=qz s.hp m f R}
structure Note where
 on:Bool
 j6:List Nat
 share:Bool
 pairs:Nat→List (Nat×Nat)
abbrev Out:=AV×List (Option cB)×List cB
abbrev CL:=FuncId→List AV→List cB→Option Out
def qU(H:Heap)(share:Bool)(f:Ren)(x:AV):Option AV:=
 match x with
 | .own g sz off len=>if share then(match f g with
   |some g'=>some (.own g' sz off len)
   |none=>none)
  else(eB H (.own g sz off len)).map (·.1)
 | .eO sz xs _=>some (.eO (Bd sz xs) xs false)
 |x=>some (Hr f x)
def qL(H:Heap)(share:Bool)(f:Ren):AV→Option AV
 | .agg cs=>(cs.mapM (qU H share f)).map .agg
 |v=>qU H share f v
def bC:AV→List Nm
 | .agg cs=>cs.flatMap fun c=>match c with
  | .own g _ _ _=> [g]
  |_=> []
 | .own g _ _ _=> [g]
 |_=> []
def mU:AV→Bool
 | .bool _| .int _ _| .str _| .nilp| .nilf| .undef=>true
 |_=>false
def ES:AV→Bool
 | .agg cs=>cs.all mU
 |v=>mU v
def Ko:AV→Bool
 | .tup vs=>vs.all ES
 |v=>ES v
def bU(R:List Nm)(slot:Nat):Ren:=fun g=>
 if g.2=0 then(if g.1<R.length then R[g.1]? else some (slot,g.1-R.length))else none
def mq(share:Bool)(call:List AV→List cB→Option Out)(args:List AV)(H:Heap)(slot:Nat):Option iD:=
 let lent:=if share then []else args.flatMap bC
 let R:=reach H (args.flatMap (if share then fun v=>fu v++bC v else fu))
 let f:Ren:=fun g=>(idxOf g R 0).map fun i=>(i,0)
 if lent.any (fun g=>R.contains g)then none else
 match args.mapM (qL H share f),R.mapM (fun g=>(get H g).map (bZ f))with
 |some args',some sub=>
  match call args' sub with
  |some (v,sub',new)=>
   if sub'.length=R.length then
    let b:=bU R slot
    some { val:=BJ b v,rd:=R++lent,
           wr:=(R.zip sub').map (fun p=>(p.1,p.2.map (bZ b)))++(if Ko v&&new.isEmpty&&R.isEmpty then []else stops H lent),
           new:=new.map (bZ b)}
   else none
  |none=>none
 |_,_=>none
def partsOf(fr:Fr)(ps:Array (Nat×Operand)):List (Nat×AV):=ps.toList.map fun p=>(p.1,sP fr p.2)
def one(v:Option AV):Option iD:=v.map fun v=>{val:=v}
def wB(c:Bool)(a b:AV):AV:=
 match a,b with
 | .bool p,.bool q=>.bool (if c then p else q)
 |a,b=>if c then a else b
def Ir(P:Program)(t:TypeId)(v:AV)(slot:Nat):Option iD:=
 match bf P t with
 |some size=>if v.cells.length=size∧okV v∧0<size then some {val:=.ptr (slot,0) size 0 0,new:=[⟨size,[v],0,true⟩]} else none
 |none=>none
def lN(P:Program)(fr:Fr)(t:TypeId)(x:Operand)(slot:Nat):Option iD:=
 match x with
 | .const (.slice none 0 0)=>
  match kL P t with
  |some e=>match bf P e with
   |some size=>some {val:=.own (slot,0) size 0 0,new:=[⟨size,[],0,false⟩]}
   |none=>none
  |none=>none
 |x=>some {val:=sP fr x}
def J8(P:Program)(op:BinOp)(t:TypeId)(x:AV)(oy:Operand):Option AV:=
 match op,P.underlying t,oy,x with
 | .eql,some (.slice _),.const (.slice none 0 0),.slc b=>some (.bool b)
 | .eql,some (.slice _),.const (.slice none 0 0),.eO _ (_::_) _=>some (.bool false)
 |_,_,_,_=>none
def Cm(P:Program)(op:BinOp)(t:TypeId)(x y:AV)(oy:Operand):Option AV:=
 match ou P op t x y with
 |some v=>some v
 |none=>J8 P op t x oy
def aQ(P:Program)(N:FuncId→Note)(call:CL)(o:Oper)(fr:Fr)(H:Heap)(slot:Nat):Option iD:=
 let ev:=sP fr
 match o.op with
 | .move x=>some {val:=ev x}
 | .assign x=>lN P fr o.type x slot
 | .pick c a b=>match ev c with
  | .bool p=>some {val:=wB p (ev a) (ev b)}
  |_=>none
 | .alloc t=>match oo P t with
  |some z=>Ir P t z slot
  |none=>none
 | .box t x=>Ir P t (ev x) slot
 | .build t ps=>one (wX P t (partsOf fr ps))
 | .buildSlice t n ps=>gG P t n (partsOf fr ps) H slot
 | .load t a=>mF P t (ev a) H
 | .store t a x=>l5 P t (ev a) (ev x) H
 | .nilCheck x=>match ev x with
  | .ptr g sz i off=>if 0<sz then some {val:=.ptr g sz i off} else none
  | .lp sz xs i off=>some {val:=.lp sz xs i off}
  |_=>none
 | .binOp op t x y _=>one (Cm P op t (ev x) (ev y) y)
 | .unOp op _ x=>one (aal op (ev x))
 | .convert a b x=>one (nV P a b (ev x))
 | .makeFunc (.func f) first caps=>if first.isEmpty then some {val:=.clo f (caps.toList.map ev)} else none
 | .makeSlice t l c=>lG P t (ev l) (ev c) slot
 | .slice t x lo hi mx=>gH P t (ev x) (lo.map ev) (hi.map ev) (mx.map ev) H
 | .fieldAddr t x f=>one (lQ P t (ev x) f)
 | .field t x f=>one (zA P t (ev x) f)
 | .indexAddr t x i=>one (jQ P t (ev x) (ev i))
 | .index t x i=>one (nk P t (ev x) (ev i))
 | .lookup t m k ok=>match oQ P t (ev m) (ev k) ok with
  |some v=>some {val:=v}
  |none=>jN P t (ev m) (ev k) ok H
 | .mapUpdate t m k v=>iw P t (ev m) (ev k) (ev v) H
 | .makeMap _ none=>some {val:=.ptr (slot,0) 0 0 0,new:=[⟨0,[],0,false⟩]}
 | .extract x i=>match ev x with
  | .tup vs=>match vs[i]? with
   |some v=>some {val:=v}
   |none=>none
  |_=>none
 | .call c=>match c.callee with
  | .value f=>match ev f with
   | .clo fn caps=>mq (N fn).share (call fn) (c.args.toList.map ev++caps) H slot
   |_=>none
  | .builtin .len=>match c.args.toList,c.argTypes.toList with
   | [x],[t]=>one (Ma P t (ev x))
   |_,_=>none
  | .builtin .append=>match c.args.toList,c.argTypes.toList with
   | [s,x],[t,t']=>if t=t' then lF P t (ev s) (ev x) H slot else none
   |_,_=>none
  | .builtin .copy=>match c.args.toList,c.argTypes.toList with
   | [d,x],[t,_]=>uN P t (ev d) (ev x) H
   |_,_=>none
  | .builtin .clear=>match c.args.toList,c.argTypes.toList with
   | [d],[t]=>p8 P t (ev d) H
   |_,_=>none
  | .builtin .min=>match c.args.toList.map ev with
   |x::r=>one (Pw x r)
   | []=>none
  | .builtin .max=>match c.args.toList.map ev with
   |x::r=>one (Pq x r)
   | []=>none
  |_=>none
 |_=>none
def makes:Op→Bool
 | .alloc _| .box ..| .buildSlice ..| .makeSlice ..| .assign (.const (.slice none 0 0))=>true
 | .makeMap _ none=>true
 | .call {callee:=.value _,..}=>true
 | .call {callee:=.builtin .append,..}=>true
 |_=>false
def aP(H:Heap):List (Nm×Option cB)→Heap
 | []=>H
 |(g,b)::r=>aP (set H g b) r
def putDst(fr:Fr):Option Nat→AV→Fr
 |some d,v=>ins d v fr
 |none,_=>fr
def bP(ops:Array Oper)(base i:Nat):Nat:=base+((ops.toList.take i).filter fun o=>makes o.op).length
def kY(ops:Array Oper)(fr:Fr)(o:Oper):Option Bool:=
 match o.guard with
 |none=>some true
 |some (j,want)=>
  match(ops[j]?).bind (·.dst)with
  |some d=>match look fr d with
   | .bool b=>some (b==want)
   | .tup []=>some false
   |_=>none
  |none=>none
def eH(H:Heap)(slot:Nat)(mk:Bool)(new:List cB):Option Heap:=
 if mk then some (H.set slot (new.map some))else if new.isEmpty then some H else none
structure Env where
 P:Program
 N:FuncId→Note
 call:Nat→CL
 nt:Nat
 j6:List Nat
 pairs:Nat→List (Nat×Nat)
 keep:Nat
def QY(nt:Nat):Option Nat→Bool
 |some d=>decide (d<nt)
 |none=>true
def jc(E:Env)(ops:Array Oper)(base i:Nat)(s:St):Option (St×Option iD):=
 match ops[i]? with
 |none=>some (s,none)
 |some o=>
  if QY E.nt o.dst then
   match kY ops s.fr o with
   |none=>none
   |some false=>some ({s with fr:=putDst s.fr o.dst (.tup [])},none)
   |some true=>
    match aQ E.P E.N (E.call (bP ops base i)) o s.fr s.hp (bP ops base i)with
    |some r=>
     match eH (aP s.hp r.wr) (bP ops base i) (makes o.op) r.new with
     |some H=>some ({fr:=putDst s.fr o.dst r.val,hp:=H},some r)
     |none=>none
    |none=>none
  else none
def gm(E:Env)(ops:Array Oper)(base:Nat):List Nat→St→Option (St×List (Option iD))
 | [],s=>some (s,[])
 |i::r,s=>match jc E ops base i s with
  |some (s',x)=>match gm E ops base r s' with
   |some (s'',xs)=>some (s'',x::xs)
   |none=>none
  |none=>none
def JC(x y:Option iD):Bool:=
 match x,y with
 |some a,some b=>(b.rd++b.wr.map (·.1)).all (fun g=> !(a.wr.map (·.1)).contains g)&&a.rd.all (fun g=> !(b.wr.map (·.1)).contains g)
 |_,_=>true
def noSlot(mk:Bool)(slot:Nat)(x:Option iD):Bool:=
 !mk||match x with
  |some r=>(r.rd++r.wr.map (·.1)).all fun g=>g.1 !=slot
  |none=>true
def dY(ops:Array Oper)(i:Nat):Bool:=
 match ops[i]? with
 |some o=>makes o.op
 |none=>false
def rE(ops:Array Oper)(base i j:Nat)(x y:Option iD):Bool:=
 JC x y&&noSlot (dY ops i) (bP ops base i) y&&noSlot (dY ops j) (bP ops base j) x
def hot:Op→Bool
 | .load ..| .store ..| .lookup ..| .mapUpdate ..=>true
 | .slice _ _ _ _ (some _)=>true
 | .call {callee:=.builtin .copy,..}=>true
 | .call {callee:=.builtin .clear,..}=>true
 |op=>makes op
def isLoad:Op→Bool
 | .load ..=>true
 |_=>false
def Qv(pairs:List (Nat×Nat))(ops:Array Oper):Bool:=
 let b:=Region.before ops
 (List.range ops.size).all fun j=>
  match ops[j]? with
  |none=>false
  |some y=>(y.after.toList.all fun e=> !Region.binds .any e||decide (e.on<j))&&
   (List.range j).all fun i=>(b.getD j 0).testBit i||
    match ops[i]? with
    |none=>false
    |some x=>x.apart ops y&&(!hot x.op|| !hot y.op||(isLoad x.op&&isLoad y.op)||pairs.contains (i,j))
def iG(pairs:Nat→List (Nat×Nat)):Code→Bool
 | .region id ops draw=> !draw||Qv (pairs id) ops
 | .seq a b=>iG pairs a&&iG pairs b
 | .cond _ a b=>iG pairs a&&iG pairs b
 | .block _ b=>iG pairs b
 | .loop b=>iG pairs b
 | .scope b=>iG pairs b
 |_=>true
def clear(j6:List Nat)(fr:Fr):Fr:=fr.filter fun p=>j6.contains p.1
def oq(ops:Array Oper):Nat:=(ops.toList.filter fun o=>makes o.op).length
def nL(E:Env)(id:Nat)(ops:Array Oper)(draw:Bool)(s:St):Option St:=
 match gm E ops s.hp.length (List.range ops.size) {s with hp:=s.hp++List.replicate (oq ops) []} with
 |some (s',xs)=>
  if draw&& !((E.pairs id).all fun p=>rE ops s.hp.length p.1 p.2 (xs.getD p.1 none) (xs.getD p.2 none))then none
  else some {s' with fr:=clear E.j6 s'.fr}
 |none=>none
inductive Ex where
 |normal
 |exit (id:Nat)
 |ret
def BQ:List AV→Nat→Fr
 | [],_=> []
 |x::r,i=>(i,x)::BQ r (i+1)
def vU(P:Program)(fr:Fr)(H:Heap):ResultVar→Option AV
 | .tmp t=>some (look fr t)
 | .cell a t=>(mF P t (look fr a) H).map (·.val)
def Gt(P:Program)(fr:Fr)(H:Heap)(rs:List ResultVar):Option AV:=
 match rs.mapM (vU P fr H)with
 |some [v]=>some v
 |some vs=>some (.tup vs)
 |none=>none
def finish(P:Program)(fn:Func)(m:Nat)(s:St):Option Out:=
 match Gt P s.fr s.hp fn.results.toList with
 |some v=>
  let R:=reached s.hp m (mI v)
  let f:=je m R
  match R.mapM (fun g=>(get s.hp g).map (bZ f))with
  |some new=>some (BJ f v,(aL m).map (fun g=>(get s.hp g).map (bZ f)),new)
  |none=>none
 |none=>none
abbrev XT:=Nat→Nat→Prop
inductive PR(w:World)(X:XT):Value→AV→Prop where
 |undef (v:Value):PR w X v .undef
 |bool (b:Bool):PR w X (.bool b) (.bool b)
 |int (k:IntKind) (n:Int):PR w X (.int k n) (.int k n)
 |str (s:ByteArray):PR w X (.string s) (.str s)
 |nilp:PR w X (.pointer none) .nilp
 |nilf:PR w X .nilFunc .nilf
 |lst0 (a:Option Addr) (cap sz:Nat) (t:Bool) (ht:t=true→cap=0):PR w X (.slice a 0 cap) (.eO sz [] t)
 |slc (a:Option Addr) (cap:Nat):PR w X (.slice a 0 cap) (.slc a.isNone)
 |fp (b:Nat) (g:FuncId) (hX:¬ X b 0) (hc:w.cell? ⟨b,0,none⟩=some (.func (.func g) #[] #[])):PR w X (.pointer (some ⟨b,0,none⟩)) (.fp g)
 | fm (r:Nat) (l:List (Int×FuncId×List FuncId)) (es:Array MapEntry) (clock:Nat) (hX:∀o,¬ X r o) (hobj:w.heap[r]?=some (.map es clock)) (hlen:es.size=l.length)
   (hk:∀(i:Nat) (k:Int) (f:FuncId) (gs:List FuncId),l[i]?=some (k,f,gs)→∃(e:MapEntry) (cs:Array Value),es[i]?=some e∧e.key= .int .i64 k∧e.val= .func (.func f) #[] cs∧cs.size=gs.length∧
    ∀(j:Nat) (g:FuncId),gs[j]?=some g→∃b,cs.getD j undef= .pointer (some ⟨b,0,none⟩)∧¬ X b 0∧w.cell? ⟨b,0,none⟩=some (.func (.func g) #[] #[])):PR w X (.map (some r)) (.fm l)
 |eO (b o n cap sz:Nat) (t:Bool) (xs:List AV) (f:Nat→Nat→Value) (hn:xs.length=n) (hc:n≤cap) (ht:t=true→cap=n)
   (hsz:∀(i:Nat) (x:AV),xs[i]?=some x→x.cells.length=sz)
   (hx:∀(i:Nat) (x:AV),xs[i]?=some x→∀(j:Nat) (u:AV),x.cells[j]?=some u→¬ X b (o+(i*sz+j))∧w.cell? ⟨b,o+(i*sz+j),none⟩=some (f i j)∧(f i j).oneCell'=true)
   (hr:∀(i:Nat) (x:AV),xs[i]?=some x→∀(j:Nat) (u:AV),x.cells[j]?=some u→PR w X (f i j) u):PR w X (.slice (some ⟨b,o,none⟩) n cap) (.eO sz xs t)
 |lp (b o sz i off:Nat) (xs:List AV) (f:Nat→Nat→Value)
   (hsz:∀(i:Nat) (x:AV),xs[i]?=some x→x.cells.length=sz)
   (hx:∀(i:Nat) (x:AV),xs[i]?=some x→∀(j:Nat) (u:AV),x.cells[j]?=some u→¬ X b (o+(i*sz+j))∧w.cell? ⟨b,o+(i*sz+j),none⟩=some (f i j)∧(f i j).oneCell'=true)
   (hr:∀(i:Nat) (x:AV),xs[i]?=some x→∀(j:Nat) (u:AV),x.cells[j]?=some u→PR w X (f i j) u):PR w X (.pointer (some ⟨b,o+(i*sz+off),none⟩)) (.lp sz xs i off)
 |agg (cs:Array Value) (xs:List AV) (hn:cs.size=xs.length) (h1:∀i,i<cs.size→(cs.getD i undef).oneCell'=true)
   (h:∀(i:Nat) (x:AV),xs[i]?=some x→PR w X (cs.getD i undef) x):PR w X (.agg cs) (.agg xs)
def bsize(w:World)(b:Nat):Nat:=
 match w.heap[b]? with
 |some (.cells c _ _)=>c.size
 |_=>0
abbrev dP:=Nm→Option Nat
inductive VR(w:World)(X:XT)(ρ:dP):Value→AV→Prop where
 |pur (v:Value) (x:AV) (h:PR w X v x):VR w X ρ v x
 |ptr (g:Nm) (b sz i off:Nat) (hs:0<sz) (hρ:ρ g=some b):VR w X ρ (.pointer (some ⟨b,i*sz+off,none⟩)) (.ptr g sz i off)
 |mp (g:Nm) (b:Nat) (hρ:ρ g=some b):VR w X ρ (.map (some b)) (.ptr g 0 0 0)
 |own0 (a:Option Addr) (g:Nm) (sz off:Nat):VR w X ρ (.slice a 0 0) (.own g sz off 0)
 |own (g:Nm) (b sz off len cap:Nat) (hρ:ρ g=some b) (hb:b<w.heap.size) (hc:len≤cap) (hk:off*sz+cap*sz≤bsize w b):VR w X ρ (.slice (some ⟨b,off*sz,none⟩) len cap) (.own g sz off len)
 |clo (f:FuncId) (cs:Array Value) (xs:List AV) (hn:cs.size=xs.length) (h:∀(i:Nat) (x:AV),xs[i]?=some x→VR w X ρ (cs.getD i undef) x):VR w X ρ (.func (.func f) #[] cs) (.clo f xs)
 |agg (cs:Array Value) (xs:List AV) (hn:cs.size=xs.length) (h1:∀i,i<cs.size→(cs.getD i undef).oneCell'=true)
   (h:∀(i:Nat) (x:AV),xs[i]?=some x→VR w X ρ (cs.getD i undef) x):VR w X ρ (.agg cs) (.agg xs)
 |tup (cs:Array Value) (xs:List AV) (hn:cs.size=xs.length) (h:∀(i:Nat) (x:AV),xs[i]?=some x→VR w X ρ (cs.getD i undef) x):VR w X ρ (.tuple cs) (.tup xs)
structure Stable(w:World)(X:XT)(w':World)(X':XT):Prop where
 os:w'.os=w.os
 tape:w'.tape=w.tape
 output:w'.output=w.output
 size:w.heap.size≤w'.heap.size
 cell:∀b o,b<w.heap.size→¬ X b o→¬ X' b o∧w'.cell? ⟨b,o,none⟩=w.cell? ⟨b,o,none⟩
 bsz:∀b,b<w.heap.size→bsize w' b=bsize w b
 blk:∀b,b<w.heap.size→(∀o,¬ X b o)→w'.heap[b]?=w.heap[b]?
theorem Stable.refl(w:World)(X:XT):Stable w X w X:=⟨rfl,rfl,rfl,alj _,fun _ _ _ h=>⟨h,rfl⟩,fun _ _=>rfl,fun _ _ _=>rfl⟩
theorem Stable.trans{a b c:World}{X Y Z:XT}(h:Stable a X b Y)(k:Stable b Y c Z):Stable a X c Z where
 os:=k.os.trans h.os
 tape:=k.tape.trans h.tape
 output:=k.output.trans h.output
 size:=alS h.size k.size
 cell:=fun i o hi hX=>by
  obtain⟨hY,e⟩:=h.cell i o hi hX;obtain⟨hZ,e'⟩:=k.cell i o (am0 hi h.size) hY;exact⟨hZ,e'.trans e⟩
 bsz:=fun i hi=>(k.bsz i (am0 hi h.size)).trans (h.bsz i hi)
 blk:=fun i hi hX=>(k.blk i (am0 hi h.size) fun o=>(h.cell i o hi (hX o)).1).trans (h.blk i hi hX)
theorem Stable.drew{w w':World}{X X':XT}(h:Stable w X w' X'):Stable w X w'.drew X':=⟨h.os,h.tape,h.output,h.size,h.cell,h.bsz,h.blk⟩
theorem Stable.below{w w':World}{X X':XT}(h:Stable w X w' X')(hX:∀b o,¬ X b o):RowKit.Below w.heap.size w w':=
 ⟨h.os,h.tape,h.output,h.size,fun k hk=>h.blk k hk (hX k)⟩
theorem Stable.less{w w':World}{X X' X'':XT}(h:Stable w X w' X')(hX:∀b o,b<w.heap.size→X'' b o→X' b o):Stable w X w' X'':=
 {h with cell:=fun b o hb hx=>⟨fun h''=>(h.cell b o hb hx).1 (hX b o hb h''),(h.cell b o hb hx).2⟩}
theorem PR.mono{w w':World}{X X':XT}(hs:Stable w X w' X'){v:Value}{x:AV}(h:PR w X v x):PR w' X' v x:=by
 induction h with
 |undef v=>exact .undef v
 |bool b=>exact .bool b
 |int k n=>exact .int k n
 |str s=>exact .str s
 |nilp=>exact .nilp
 |nilf=>exact .nilf
 |lst0 a cap sz t ht=>exact .lst0 a cap sz t ht
 |slc a cap=>exact .slc a cap
 |fp b g hX hc=>
  obtain⟨h4,h5⟩:=hs.cell b 0 (World.block_lt_of_cell? (w:=w) (a:=⟨b,0,none⟩) hc) hX;exact .fp b g h4 (h5.trans hc)
 |fm r l es clock hX hobj hlen hk=>
  have hr:r<w.heap.size:=(amf.1 hobj).1;refine .fm r l es clock (fun o=>(hs.cell r o hr (hX o)).1) ((hs.blk r hr hX).trans hobj) hlen (fun i k f gs hi=> ?_);obtain⟨e,cs,e1,e2,e3,e4,e5⟩:=hk i k f gs hi;refine⟨e,cs,e1,e2,e3,e4,fun j g hj=> ?_⟩;obtain⟨b,b1,b2,b3⟩:=e5 j g hj;obtain⟨h4,h5⟩:=hs.cell b 0 (World.block_lt_of_cell? (w:=w) (a:=⟨b,0,none⟩) b3) b2;exact⟨b,b1,h4,h5.trans b3⟩
 |eO b o n cap sz t xs f hn hc ht hsz hx hr ih=>
  refine .eO b o n cap sz t xs f hn hc ht hsz (fun i x hi j u hj=> ?_) ih;obtain⟨h1,h2,h3⟩:=hx i x hi j u hj;obtain⟨h4,h5⟩:=hs.cell b _ (World.block_lt_of_cell? (w:=w) (a:=⟨b,o+(i*sz+j),none⟩) h2) h1;exact⟨h4,h5.trans h2,h3⟩
 |lp b o sz i off xs f hsz hx hr ih=>
  refine .lp b o sz i off xs f hsz (fun i x hi j u hj=> ?_) ih;obtain⟨h1,h2,h3⟩:=hx i x hi j u hj;obtain⟨h4,h5⟩:=hs.cell b _ (World.block_lt_of_cell? (w:=w) (a:=⟨b,o+(i*sz+j),none⟩) h2) h1;exact⟨h4,h5.trans h2,h3⟩
 |agg cs xs hn h1 _ ih=>exact .agg cs xs hn h1 ih
theorem PR.canon{w:World}{X:XT}{v:Value}{sz:Nat}{xs:List AV}{t:Bool}(h:PR w X v (.eO sz xs t)):PR w X v (.eO (Bd sz xs) xs t):=by
 cases xs with
 |cons x r=>exact h
 |nil=>
  cases h with
  |lst0 a cap sz t ht=>exact .lst0 _ _ _ _ ht
  |eO b o n cap sz t xs f hn hc ht hsz hx hr=>
   simp only[List.length_nil]at hn;subst hn;exact .lst0 _ _ _ _ ht
theorem VR.mono{w w':World}{X X':XT}{ρ ρ':dP}(hs:Stable w X w' X')(hρ:∀g b,ρ g=some b→ρ' g=some b){v:Value}{x:AV}(h:VR w X ρ v x):VR w' X' ρ' v x:=by
 induction h with
 |pur v x h=>exact .pur v x (h.mono hs)
 |ptr g b sz i off hs hg=>exact .ptr g b sz i off hs (hρ g b hg)
 |mp g b hg=>exact .mp g b (hρ g b hg)
 |own0 a g sz off=>exact .own0 a g sz off
 |own g b sz off len cap hg hb hc hk=>exact .own g b sz off len cap (hρ g b hg) (am0 hb hs.size) hc (by rw[hs.bsz b hb];exact hk)
 |clo f cs xs hn _ ih=>exact .clo f cs xs hn ih
 |agg cs xs hn h1 _ ih=>exact .agg cs xs hn h1 ih
 |tup cs xs hn _ ih=>exact .tup cs xs hn ih
theorem VR.undef{w:World}{X:XT}{ρ:dP}(v:Value):VR w X ρ v .undef:=.pur _ _ (.undef v)
def CR(box:Bool)(w:World)(X:XT)(ρ:dP)(v:Value)(x:AV):Prop:=if box then VR w X ρ v x else PR w X v x
theorem CR.mono{box:Bool}{w w':World}{X X':XT}{ρ ρ':dP}(hs:Stable w X w' X')(hρ:∀g b,ρ g=some b→ρ' g=some b){v:Value}{x:AV}(h:CR box w X ρ v x):CR box w' X' ρ' v x:=by
 cases box
 ·exact PR.mono hs h
 ·exact VR.mono hs hρ h
theorem CR.vr{box:Bool}{w:World}{X:XT}{ρ:dP}{v:Value}{x:AV}(h:CR box w X ρ v x):VR w X ρ v x:=by
 cases box
 ·exact .pur _ _ h
 ·exact h
def bg(box:Bool)(w:World)(X:XT)(ρ:dP)(cs:Array Value)(sz:Nat)(es:List AV):Prop:=
 es.length*sz≤cs.size∧∀(i:Nat) (x:AV),es[i]?=some x→x.cells.length=sz∧∀(j:Nat) (u:AV),x.cells[j]?=some u→(cs.getD (i*sz+j) undef).oneCell'=true∧CR box w X ρ (cs.getD (i*sz+j) undef) u
theorem bg.mono{box:Bool}{w w':World}{X X':XT}{ρ ρ':dP}(hs:Stable w X w' X')(hρ:∀g b,ρ g=some b→ρ' g=some b){cs:Array Value}{sz:Nat}{es:List AV}(h:bg box w X ρ cs sz es):bg box w' X' ρ' cs sz es:=
 ⟨h.1,fun i x hi=>⟨(h.2 i x hi).1,fun j u hj=>⟨((h.2 i x hi).2 j u hj).1,((h.2 i x hi).2 j u hj).2.mono hs hρ⟩⟩⟩
inductive MapAt:List MapEntry→List AV→Prop where
 |nil:MapAt [] []
 |cons (e:MapEntry) (k:Int) (x:AV) (es:List MapEntry) (xs:List AV) (hk:e.key= .int .i64 k) (hx:okS x=true) (hv:∀w X,PR w X e.val x) (h:MapAt es xs):MapAt (e::es) (.agg [.int .i64 k,x]::xs)
def ah0(w:World)(X:XT)(ρ:dP)(b:Nat)(k:cB):Prop:=
 ∃cs T,w.heap[b]?=some (.cells cs T (0,0))∧bg k.box w X ρ cs k.sz k.elems
def ael(w:World)(b:Nat)(k:cB):Prop:=
 k.sz=0∧k.box=false∧∃es clock,w.heap[b]?=some (.map es clock)∧MapAt es.toList k.elems
def jC(w:World)(X:XT)(ρ:dP)(b:Nat)(k:cB):Prop:=(0<k.sz∧ah0 w X ρ b k)∨ael w b k
theorem jC.keep{w w1:World}{X X1:XT}{ρ ρ1:dP}{b:Nat}{k:cB}(h:jC w X ρ b k)(hs:Stable w X w1 X1)(hρ:∀g b,ρ g=some b→ρ1 g=some b)(hb:w1.heap[b]?=w.heap[b]?):jC w1 X1 ρ1 b k:=by
 rcases h with⟨h0,cs,T,h1,h2⟩|⟨h1,h2,es,c,h4,h5⟩
 ·exact .inl ⟨h0,cs,T,hb.trans h1,h2.mono hs hρ⟩
 ·exact .inr ⟨h1,h2,es,c,hb.trans h4,h5⟩
theorem jC.cells{w:World}{X:XT}{ρ:dP}{b:Nat}{k:cB}(h:jC w X ρ b k)(hs:0<k.sz):ah0 w X ρ b k:=(h.resolve_right fun e=>by have:=e.1;omega).2
theorem jC.map{w:World}{X:XT}{ρ:dP}{b:Nat}{k:cB}(h:jC w X ρ b k)(hs:k.sz=0):ael w b k:=h.resolve_left fun e=>by have:=e.1;omega
def XX(ρ:dP)(H:Heap):XT:=fun b o=>∃g k,get H g=some k∧ρ g=some b∧k.jw*k.sz≤o
def XU(Y:XT)(ρ:dP)(H:Heap):XT:=fun b o=>XX ρ H b o∨Y b o
theorem Stable.un{w w':World}{X X':XT}(h:Stable w X w' X')(Y:XT):Stable w (fun b o=>X b o∨Y b o) w' (fun b o=>X' b o∨Y b o) where
 os:=h.os
 tape:=h.tape
 output:=h.output
 size:=h.size
 cell:=fun b o hb hn=>by
  have hX:¬ X b o:=fun e=>hn (.inl e)
  have hY:¬ Y b o:=fun e=>hn (.inr e)
  exact⟨fun e=>e.elim (h.cell b o hb hX).1 hY,(h.cell b o hb hX).2⟩
 bsz:=h.bsz
 blk:=fun b hb hn=>h.blk b hb fun o e=>hn o (.inl e)
theorem Stable.xu{w w':World}{ρ ρ':dP}{H H':Heap}(h:Stable w (XX ρ H) w' (XX ρ' H'))(Y:XT):Stable w (XU Y ρ H) w' (XU Y ρ' H'):=h.un Y
structure HR(Y:XT)(w:World)(ρ:dP)(H:Heap):Prop where
 blk:∀g k,get H g=some k→(ρ g=none∧k.elems=[]∧k.box=false)∨∃b,ρ g=some b∧jC w (XU Y ρ H) ρ b k
 inj:∀g g' k k' b,get H g=some k→get H g'=some k'→ρ g=some b→ρ g'=some b→g=g'
 dom:∀g b,ρ g=some b→g.2<(H.getD g.1 []).length
 lt:∀g b,ρ g=some b→b<w.heap.size
 sep:∀g k b o,get H g=some k→ρ g=some b→¬ Y b o
 ylt:∀b o,Y b o→b<w.heap.size
theorem oZ(H:Heap)(g g':Nm)(b:Option cB):get (set H g b) g'=if g'=g∧(∃l,H[g.1]?=some l∧g.2<l.length)then b else get H g':=by
 obtain⟨a,c⟩:=g;obtain⟨a',c'⟩:=g';simp only[get,set,List.getElem?_modify,al1];by_cases ha:a=a'
 ·subst ha
  cases hl:H[a]? with
  |none=>simp
  |some l=>
   simp only[if_true,al4,List.getElem?_set,true_and];by_cases hc:c=c'
   ·subst hc;by_cases hlt:c<l.length
    ·simp[hlt]
    ·simp[hlt]
   ·simp[hc,Ne.symm hc]
 ·have:¬ a'=a:=fun h=>ha h.symm
  cases hl:H[a']?<;>simp[ha,this]
theorem pz{H:Heap}{g:Nm}{k:cB}(h:get H g=some k):∃l,H[g.1]?=some l∧g.2<l.length:=by
 unfold get at h
 cases hl:H[g.1]? with
 |none=>simp[hl]at h
 |some l=>
  refine⟨l,rfl,?_⟩;simp only[hl]at h;rcases am8 g.2 l.length with hlt|hge
  ·exact hlt
  ·rw[ama hge]at h;simp at h
theorem get_set_same{H:Heap}{g:Nm}{k:cB}(h:get H g=some k)(b:Option cB):get (set H g b) g=b:=by
 rw[oZ,if_pos ⟨rfl,pz h⟩]
theorem lu{H:Heap}{g g':Nm}(h:g'≠g)(b:Option cB):get (set H g b) g'=get H g':=by
 rw[oZ,if_neg (fun e=>h e.1)]
theorem wV(H:Heap)(g:Nm)(b:Option cB):(set H g b).length=H.length:=by simp[set]
theorem dX(H:Heap)(g:Nm)(b:Option cB)(i:Nat):((set H g b).getD i []).length=(H.getD i []).length:=by
 simp only[set,al8,List.getElem?_modify]
 cases H[i]? with
 |none=>simp
 |some l=>by_cases h:g.1=i<;>simp[h]
theorem Oi(s:Nat)(x:AV)(fr:Fr)(t:Nat):look (ins s x fr) t=if s=t then x else look fr t:=by
 induction fr with
 |nil=>simp[ins,look]
 |cons p r ih=>
  obtain⟨t',y⟩:=p;simp only[ins];by_cases h1:s<t'
  ·simp[h1,look]
  ·by_cases h2:s=t'
   ·subst h2;simp only[Nat.lt_irrefl,if_false,if_true,look];by_cases h3:s=t<;>simp[h3]
   ·simp only[h1,h2,if_false,look,ih];by_cases h3:t'=t
    ·simp[h3];intro h;exact absurd (h.trans h3.symm) h2
    ·simp[h3]
theorem Qb(j6:List Nat)(fr:Fr)(t:Nat):look (clear j6 fr) t=if j6.contains t then look fr t else .undef:=by
 induction fr with
 |nil=>simp[clear,look]
 |cons p r ih=>
  obtain⟨s,y⟩:=p
  have e:clear j6 ((s,y)::r)=if j6.contains s then(s,y)::clear j6 r else clear j6 r:=by
   simp only[clear,List.filter_cons]
  rw[e];by_cases h:j6.contains s=true
  ·rw[if_pos h];simp only[look,ih];by_cases hs:s=t
   ·subst hs;simp only[if_true,if_pos h]
   ·simp only[if_neg hs]
  ·rw[if_neg h,ih];simp only[look];by_cases hs:s=t
   ·subst hs;simp only[if_neg h]
   ·simp only[if_neg hs]
def FR(w:World)(X:XT)(ρ:dP)(tmps:Array Value)(fr:Fr):Prop:=∀t,VR w X ρ (tmps.getD t undef) (look fr t)
theorem FR.mono{w w':World}{X X':XT}{ρ ρ':dP}(hs:Stable w X w' X')(hρ:∀g b,ρ g=some b→ρ' g=some b){tmps:Array Value}{fr:Fr}(h:FR w X ρ tmps fr):FR w' X' ρ' tmps fr:=fun t=>(h t).mono hs hρ
theorem VK(tmps:Array Value)(d t:Nat)(v:Value)(hd:d<tmps.size):(tmps.setIfInBounds d v).getD t undef=if d=t then v else tmps.getD t undef:=by
 simp only[ala,Array.getElem?_setIfInBounds];by_cases h:d=t
 ·subst h;simp[hd]
 ·simp[h]
theorem FR.put{w:World}{X:XT}{ρ:dP}{tmps:Array Value}{fr:Fr}(h:FR w X ρ tmps fr){d:Nat}(hd:d<tmps.size){v:Value}{x:AV}(hv:VR w X ρ v x):FR w X ρ (tmps.setIfInBounds d v) (ins d x fr):=by
 intro t;rw[VK tmps d t v hd,Oi];by_cases e:d=t
 ·simp only[if_pos e];exact hv
 ·simp only[if_neg e];exact h t
theorem FR.clear{w:World}{X:XT}{ρ:dP}{tmps:Array Value}{fr:Fr}(h:FR w X ρ tmps fr)(j6:List Nat):FR w X ρ tmps (clear j6 fr):=by
 intro t;rw[Qb];split
 ·exact h t
 ·exact .undef _
theorem DV{w:World}{X:XT}{ρ:dP}{v:Value}{x:AV}(h:VR w X ρ v x)(hk:U6 x=true):v.oneCell'=true:=by
 cases h with
 |pur v x h=>cases h<;>first|rfl|(simp[U6]at hk)
 |ptr=>rfl
 |mp=>rfl
 |own0=>rfl
 |own=>rfl
 |clo=>rfl
 |agg=>simp[U6]at hk
 |tup=>simp[U6]at hk
theorem PR.DV{w:World}{X:XT}{v:Value}{x:AV}(h:PR w X v x)(hk:U6 x=true):v.oneCell'=true:=
 Abs.DV (ρ:=fun _=>none) (.pur v x h) hk
theorem PR.nt1{w:World}{X:XT}{v:Value}{x:AV}(h:PR w X v x):PR w X v (Abs.nt1 x):=by
 cases h with
 |lst0 a cap sz t ht=>exact .lst0 _ _ _ _ (fun e=>by cases e)
 |eO b o n cap sz t xs f hn hc ht hsz hx hr=>exact .eO b o _ cap sz _ xs f hn hc (fun e=>by cases e) hsz hx hr
 |undef v=>exact .undef v
 |bool b=>exact .bool b
 |int k n=>exact .int k n
 |str s=>exact .str s
 |nilp=>exact .nilp
 |nilf=>exact .nilf
 |lp b o sz i off xs f hsz hx hr=>exact .lp b o sz i off xs f hsz hx hr
 |slc a cap=>exact .slc a cap
 |fp b g h1 h2=>exact .fp b g h1 h2
 |fm r l es c h1 h2 h3 h4=>exact .fm r l es c h1 h2 h3 h4
 |agg cs xs hn h1 h=>exact .agg cs xs hn h1 h
theorem PR.nt{w:World}{X:XT}{v:Value}{x:AV}(h:PR w X v x):PR w X v (ntV x):=by
 cases h with
 |agg cs xs hn h1 h=>
  refine .agg cs _ (by simp[hn]) h1 (fun i x hx=> ?_);rw[ale]at hx;obtain⟨y,hy,rfl⟩:=alf.1 hx;exact(h i y hy).nt1
 |lst0 a cap sz t ht=>exact .lst0 _ _ _ _ (fun e=>by cases e)
 |eO b o n cap sz t xs f hn hc ht hsz hx hr=>exact .eO b o _ cap sz _ xs f hn hc (fun e=>by cases e) hsz hx hr
 |undef v=>exact .undef v
 |bool b=>exact .bool b
 |int k n=>exact .int k n
 |str s=>exact .str s
 |nilp=>exact .nilp
 |nilf=>exact .nilf
 |lp b o sz i off xs f hsz hx hr=>exact .lp b o sz i off xs f hsz hx hr
 |slc a cap=>exact .slc a cap
 |fp b g h1 h2=>exact .fp b g h1 h2
 |fm r l es c h1 h2 h3 h4=>exact .fm r l es c h1 h2 h3 h4
theorem KP(w:World)(X:XT)(v:Value):PR w X v (U7 v):=by
 unfold U7;split
 ·exact .bool _
 ·exact .int _ _
 ·exact .str _
 ·exact .nilp
 ·exact .nilf
 ·exact .lst0 _ _ _ _ (fun _=>rfl)
 ·exact .undef _
theorem rG(w:World)(X:XT)(v:Value):PR w X v (cv v):=by
 unfold cv;split
 ·rename_i cs;split
  ·rename_i hall;refine .agg cs _ (by simp) (fun i hi=> ?_) (fun i x hx=> ?_)
   ·have hc:cs.getD i undef=cs[i]:=by simp[ala,hi]
    rw[hc];refine PR.DV (w:=w) (X:=X) (KP w X cs[i]) ?_;rw[alF]at hall;exact hall _ (amb.2 ⟨cs[i],by simp,rfl⟩)
   ·rw[ale]at hx
    cases hc:cs.toList[i]? with
    |none=>simp[hc]at hx
    |some c=>
     simp[hc]at hx;subst hx
     have:cs.getD i undef=c:=by
      simp at hc;simp[ala,hc]
     rw[this];exact KP w X c
  ·exact .undef _
 ·exact KP w X v
theorem El{w:World}{X:XT}{ρ:dP}{a:Act}{fr:Fr}(h:FR w X ρ a.tmps fr)(x:Operand):VR w X ρ (a.eval x) (sP fr x):=by
 cases x with
 |tmp t=>exact h t
 |const v=>exact .pur _ _ (rG w X v)
 |global g=>exact .undef _
 |func f=>exact .clo f #[] [] rfl (fun i x hx=>by simp at hx)
variable{Y:XT}
def upd(ρ:dP)(g:Nm)(b:Nat):dP:=fun g'=>if g'=g then some b else ρ g'
structure Made(Y:XT)(w:World)(ρ:dP)(H:Heap)(w':World)(ρ':dP)(H':Heap)(v:Value)(x:AV):Prop where
 hr:HR Y w' ρ' H'
 val:VR w' (XU Y ρ' H') ρ' v x
 st:Stable w (XX ρ H) w' (XX ρ' H')
 le:∀g b,ρ g=some b→ρ' g=some b
structure Less(H' H:Heap):Prop where
 sub:∀g k',get H' g=some k'→∃k,get H g=some k∧k'.sz=k.sz∧k'.elems=k.elems∧k'.box=k.box∧k.jw≤k'.jw
 len:∀i,(H'.getD i []).length=(H.getD i []).length
theorem Less.refl(H:Heap):Less H H:=⟨fun g k h=>⟨k,h,rfl,rfl,rfl,alj _⟩,fun _=>rfl⟩
theorem Less.trans{A B C:Heap}(h:Less A B)(k:Less B C):Less A C:=by
 refine⟨fun g x hx=> ?_,fun i=>(h.len i).trans (k.len i)⟩;obtain⟨y,hy,h1,h2,h3,h4⟩:=h.sub g x hx;obtain⟨z,hz,k1,k2,k3,k4⟩:=k.sub g y hy;exact⟨z,hz,h1.trans k1,h2.trans k2,h3.trans k3,alS k4 h4⟩
theorem Less.xx{ρ:dP}{H' H:Heap}(h:Less H' H){b o:Nat}(hx:XX ρ H' b o):XX ρ H b o:=by
 obtain⟨g,k',hg,hρ,ho⟩:=hx;obtain⟨k,hk,h1,_,_,h4⟩:=h.sub g k' hg;exact⟨g,k,hk,hρ,alS (by rw[h1];exact alq _ h4) ho⟩
theorem Less.xu{ρ:dP}{H' H:Heap}(h:Less H' H){b o:Nat}(hx:XU Y ρ H' b o):XU Y ρ H b o:=hx.imp h.xx id
theorem Less.st{w:World}{ρ:dP}{H' H:Heap}(h:Less H' H):Stable w (XX ρ H) w (XX ρ H'):=
 (Stable.refl w _).less fun _ _ _ hx=>h.xx hx
theorem HR.less{w:World}{ρ:dP}{H' H:Heap}(hr:HR Y w ρ H)(h:Less H' H):HR Y w ρ H':=by
 refine⟨fun g k' hg=> ?_,fun g g' k k' b hg hg' h1 h2=> ?_,fun g b hb=> ?_,hr.lt,fun g k' b o hg hb=> ?_,hr.ylt⟩
 ·obtain⟨k,hk,h1,h2,h3,h4⟩:=h.sub g k' hg;rcases hr.blk g k hk with⟨a1,a2,a3⟩|⟨b,a1,a2⟩
  ·exact .inl ⟨a1,h2.trans a2,h3.trans a3⟩
  ·refine .inr ⟨b,a1,?_⟩;rcases a2.keep (h.st.xu Y) (fun _ _ h=>h) rfl with⟨c0,cs,T,c1,c2⟩|⟨c1,c2,es,cl,c3,c4⟩
   ·refine .inl ⟨by rw[h1];exact c0,cs,T,c1,?_⟩;rw[h1,h2,h3];exact c2
   ·exact .inr ⟨h1.trans c1,h3.trans c2,es,cl,c3,by rw[h2];exact c4⟩
 ·obtain⟨x,hx,_⟩:=h.sub g k hg;obtain⟨y,hy,_⟩:=h.sub g' k' hg';exact hr.inj g g' x y b hx hy h1 h2
 ·rw[h.len];exact hr.dom g b hb
 ·obtain⟨x,hx,_⟩:=h.sub g k' hg;exact hr.sep g x b o hx hb
theorem Less.AR(H:Heap)(g:Nm):Less (set H g none) H:=by
 refine⟨fun g' k' h=> ?_,fun i=>dX H g none i⟩;rw[oZ]at h;split at h
 ·cases h
 ·exact⟨k',h,rfl,rfl,rfl,alj _⟩
theorem Less.XA{H:Heap}{g:Nm}{k k':cB}(hg:get H g=some k)(h1:k'.sz=k.sz)(h2:k'.elems=k.elems)(h3:k'.box=k.box)(h4:k.jw≤k'.jw):Less (set H g (some k')) H:=by
 refine⟨fun g' x h=> ?_,fun i=>dX H g _ i⟩;rw[oZ]at h;split at h
 ·rename_i e;cases h;exact⟨k,by rw[e.1];exact hg,h1,h2,h3,h4⟩
 ·exact⟨x,h,rfl,rfl,rfl,alj _⟩
theorem Less.stops{H0:Heap}:∀(l:List Nm) (H:Heap),Less H H0→Less (aP H (Abs.stops H0 l)) H0:=by
 intro l
 induction l with
 |nil=>intro H h;exact h
 |cons g r ih=>
  intro H h
  show Less (aP (set H g ((get H0 g).map cB.stop)) (Abs.stops H0 r)) H0
  refine ih _ ⟨fun g' k' hg=> ?_,fun i=>(dX H g _ i).trans (h.len i)⟩;rw[oZ]at hg;split at hg
  ·rename_i e;obtain⟨rfl,_⟩:=e
   cases h0:get H0 g' with
   |none=>rw[h0]at hg;cases hg
   |some k=>
    rw[h0]at hg;cases hg;exact⟨k,rfl,rfl,rfl,rfl,Nat.le_max_left _ _⟩
  ·exact h.sub g' k' hg
theorem jR(H:Heap)(slot:Nat)(l:List (Option cB))(g:Nm):
  get (H.set slot l) g=if g.1=slot∧slot<H.length then(l[g.2]?).join else get H g:=by
 obtain⟨a,c⟩:=g;simp only[get,List.getElem?_set];by_cases h:slot=a
 ·subst h;by_cases hl:slot<H.length
  ·simp[hl]
  ·simp[hl]
 ·have:¬ a=slot:=fun e=>h e.symm
  simp[h,this]
theorem iF(H:Heap)(slot:Nat)(l:List (Option cB))(i:Nat):
  (H.set slot l).getD i []=if i=slot∧slot<H.length then l else H.getD i []:=by
 simp only[al8,List.getElem?_set];by_cases h:slot=i
 ·subst h;by_cases hl:slot<H.length
  ·simp[hl]
  ·simp[hl]
 ·have:¬ i=slot:=fun e=>h e.symm
  simp[h,this]
def Free(H:Heap)(slot:Nat):Prop:=slot<H.length∧H.getD slot []=[]
theorem Free.none{H:Heap}{slot:Nat}(h:Free H slot){w:World}{ρ:dP}(hr:HR Y w ρ H)(k:Nat):ρ (slot,k)=none:=by
 cases e:ρ (slot,k)with
 |none=>rfl
 |some b=>
  have:=hr.dom _ _ e;rw[h.2]at this;simp at this
theorem Free.get{H:Heap}{slot:Nat}(h:Free H slot)(k:Nat):get H (slot,k)=Option.none:=by
 obtain⟨h1,h2⟩:=h;simp only[Abs.get];rw[al8]at h2
 cases hl:H[slot]? with
 |none=>rfl
 |some l=>
  rw[hl]at h2;simp at h2;subst h2;rfl
theorem Free.less{H H':Heap}{slot:Nat}(h:Free H slot)(hl:Less H' H)(hlen:H'.length=H.length):Free H' slot:=by
 refine⟨by rw[hlen];exact h.1,?_⟩;have:=hl.len slot;rw[h.2]at this;exact amc (by simpa using this)
theorem Gs:∀(l:List (Nm×Option cB)) (H:Heap),(aP H l).length=H.length:=by
 intro l
 induction l with
 |nil=>intro H;rfl
 |cons p r ih=>intro H;obtain⟨g,b⟩:=p;show(aP (set H g b) r).length=_;rw[ih,wV]
theorem CU:∀(l:List (Nm×Option cB)) (H:Heap) (i:Nat),((aP H l).getD i []).length=(H.getD i []).length:=by
 intro l
 induction l with
 |nil=>intro H i;rfl
 |cons p r ih=>intro H i;obtain⟨g,b⟩:=p;show((aP (set H g b) r).getD i []).length=_;rw[ih,dX]
theorem Free.aP{H:Heap}{slot:Nat}(h:Free H slot)(l:List (Nm×Option cB)):Free (aP H l) slot:=by
 refine⟨by rw[Gs];exact h.1,?_⟩;have:=CU l H slot;rw[h.2]at this;exact amc (by simpa using this)
theorem HR.W9{w:World}{ρ:dP}{H:Heap}{slot:Nat}(hr:HR Y w ρ H)(hf:Free H slot):HR Y w ρ (H.set slot [])∧Stable w (XX ρ H) w (XX ρ (H.set slot [])):=by
 have hg:∀g,Abs.get (H.set slot []) g=Abs.get H g:=by
  intro g;rw[jR];split
  ·rename_i e;obtain⟨a,c⟩:=g;obtain⟨e1,_⟩:=e;simp only at e1;subst e1;rw[hf.get c];rfl
  ·rfl
 have hl:Less (H.set slot []) H:=by
  refine⟨fun g k' h=>⟨k',by rw[hg]at h;exact h,rfl,rfl,rfl,alj _⟩,fun i=> ?_⟩;rw[iF];split
  ·rename_i e;rw[e.1,hf.2]
  ·rfl
 exact⟨hr.less hl,hl.st⟩
theorem HR.new'{w w1:World}{ρ:dP}{H:Heap}{slot:Nat}(hr:HR Y w ρ H)(hf:Free H slot){b:Nat}(hb:w.heap.size≤b)(hb1:b<w1.heap.size)
  (hos:w1.os=w.os) (htape:w1.tape=w.tape) (hout:w1.output=w.output) (hold:∀i,i<w.heap.size→w1.heap[i]?=w.heap[i]?)
  (k:cB) (hk:(0<k.sz∧∃cs T,w1.heap[b]?=some (.cells cs T (0,0))∧bg k.box w (XU Y ρ H) ρ cs k.sz k.elems)∨ael w1 b k):
  HR Y w1 (upd ρ (slot,0) b) (H.set slot [some k])∧Stable w (XX ρ H) w1 (XX (upd ρ (slot,0) b) (H.set slot [some k]))∧(∀g c,ρ g=some c→upd ρ (slot,0) b g=some c):=by
 have hle:∀g c,ρ g=some c→upd ρ (slot,0) b g=some c:=by
  intro g c h;unfold upd;split
  ·rename_i e;subst e;rw[hf.none hr 0]at h;cases h
  ·exact h
 have hget:∀g k',Abs.get (H.set slot [some k]) g=some k'→(g=(slot,0)∧k'=k)∨(g≠(slot,0)∧Abs.get H g=some k'):=by
  intro g k' h;rw[jR]at h;split at h
  ·rename_i e;obtain⟨a,c⟩:=g;obtain⟨e1,_⟩:=e;simp only at e1;subst e1
   cases c with
   |zero=>simp at h;exact .inl ⟨rfl,h.symm⟩
   |succ c=>simp at h
  ·rename_i e;refine .inr ⟨fun e2=>e ⟨by rw[e2],hf.1⟩,h⟩
 have hX:∀c o,c<w.heap.size→XX (upd ρ (slot,0) b) (H.set slot [some k]) c o→XX ρ H c o:=by
  intro c o hc' ⟨g,k',hg,hρ,ho⟩;rcases hget g k' hg with⟨rfl,rfl⟩|⟨hne,hg'⟩
  ·simp[upd]at hρ;omega
  ·refine⟨g,k',hg',?_,ho⟩;simpa[upd,hne]using hρ
 have hst:Stable w (XX ρ H) w1 (XX (upd ρ (slot,0) b) (H.set slot [some k])):=by
  refine⟨hos,htape,hout,by omega,fun c o hc' hn=>⟨fun h=>hn (hX c o hc' h),World.cell?_of_block (w:=w) (hold c hc')⟩,fun c hc'=> ?_,fun c hc' _=>hold c hc'⟩;simp only[bsize,hold c hc']
 refine⟨⟨fun g k' hg=> ?_,fun g g' x y c hg hg' h1 h2=> ?_,fun g c hc'=> ?_,fun g c hc'=> ?_,fun g k' c o hg hc' hy=> ?_,fun c o hy=>by have:=hr.ylt c o hy;omega⟩,hst,hle⟩
 ·rcases hget g k' hg with⟨rfl,rfl⟩|⟨hne,hg'⟩
  ·refine .inr ⟨b,by simp[upd],?_⟩;rcases hk with⟨h0,cs,T,hc,he⟩|hk
   ·exact .inl ⟨h0,cs,T,hc,he.mono (hst.xu Y) hle⟩
   ·exact .inr hk
  ·have hρ:upd ρ (slot,0) b g=ρ g:=by simp[upd,hne]
   rw[hρ];rcases hr.blk g k' hg' with h|⟨c,h1,h2⟩
   ·exact .inl h
   ·exact .inr ⟨c,h1,h2.keep (hst.xu Y) hle (hold c (hr.lt _ _ h1))⟩
 ·rcases hget g x hg with⟨rfl,rfl⟩|⟨hne,hg1⟩<;>rcases hget g' y hg' with⟨rfl,rfl⟩|⟨hne',hg2⟩
  ·rfl
  ·simp only[upd,hne',if_false,if_true]at h1 h2;have:=hr.lt _ _ h2;simp at h1;omega
  ·simp only[upd,hne,if_false,if_true]at h1 h2;have:=hr.lt _ _ h1;simp at h2;omega
  ·simp only[upd,hne,hne',if_false]at h1 h2;exact hr.inj g g' x y c hg1 hg2 h1 h2
 ·by_cases e:g=(slot,0)
  ·subst e;rw[iF,if_pos ⟨rfl,hf.1⟩];simp
  ·have h:=hr.dom g c (by simpa[upd,e]using hc');rw[iF];split
   ·rename_i e2;rw[e2.1,hf.2]at h;simp at h
   ·exact h
 ·by_cases e:g=(slot,0)
  ·subst e;simp[upd]at hc';omega
  ·have:=hr.lt g c (by simpa[upd,e]using hc');omega
 ·rcases hget g k' hg with⟨rfl,rfl⟩|⟨hne,hg'⟩
  ·have h1:=hr.ylt c o hy;simp[upd]at hc';omega
  ·exact hr.sep g k' c o hg' (by simpa[upd,hne]using hc') hy
theorem HR.new{w w1:World}{ρ:dP}{H:Heap}{slot:Nat}(hr:HR Y w ρ H)(hf:Free H slot){b:Nat}(hb:w.heap.size≤b)(hb1:b<w1.heap.size)
  (hos:w1.os=w.os) (htape:w1.tape=w.tape) (hout:w1.output=w.output) (hold:∀i,i<w.heap.size→w1.heap[i]?=w.heap[i]?)
  (k:cB) (h0:0<k.sz) {cs:Array Value} {T:TypeId} (hc:w1.heap[b]?=some (.cells cs T (0,0))) (he:bg k.box w (XU Y ρ H) ρ cs k.sz k.elems):
  HR Y w1 (upd ρ (slot,0) b) (H.set slot [some k])∧Stable w (XX ρ H) w1 (XX (upd ρ (slot,0) b) (H.set slot [some k]))∧(∀g c,ρ g=some c→upd ρ (slot,0) b g=some c):=
 hr.new' hf hb hb1 hos htape hout hold k (.inl ⟨h0,cs,T,hc,he⟩)
theorem HR.MZ{w:World}{ρ:dP}{H:Heap}{slot:Nat}(hr:HR Y w ρ H)(hf:Free H slot)(k:cB)(h1:k.elems=[])(h2:k.box=false):
  HR Y w ρ (H.set slot [some k])∧Stable w (XX ρ H) w (XX ρ (H.set slot [some k])):=by
 have hget:∀g k',Abs.get (H.set slot [some k]) g=some k'→(g=(slot,0)∧k'=k)∨Abs.get H g=some k':=by
  intro g k' h;rw[jR]at h;split at h
  ·rename_i e;obtain⟨a,c⟩:=g;obtain⟨e1,_⟩:=e;simp only at e1;subst e1
   cases c with
   |zero=>simp at h;exact .inl ⟨rfl,h.symm⟩
   |succ c=>simp at h
  ·exact .inr h
 have hX:∀c o,XX ρ (H.set slot [some k]) c o→XX ρ H c o:=by
  intro c o ⟨g,k',hg,hρ,ho⟩;rcases hget g k' hg with⟨rfl,rfl⟩|hg'
  ·rw[hf.none hr 0]at hρ;cases hρ
  ·exact⟨g,k',hg',hρ,ho⟩
 have hst:Stable w (XX ρ H) w (XX ρ (H.set slot [some k])):=(Stable.refl w _).less fun b o _ h=>hX b o h
 refine⟨⟨fun g k' hg=> ?_,fun g g' x y c hg hg' e1 e2=> ?_,fun g c hc'=> ?_,hr.lt,fun g k' c o hg hc'=> ?_,hr.ylt⟩,hst⟩
 ·rcases hget g k' hg with⟨rfl,rfl⟩|hg'
  ·exact .inl ⟨hf.none hr 0,h1,h2⟩
  ·rcases hr.blk g k' hg' with h|⟨c,a1,a2⟩
   ·exact .inl h
   ·exact .inr ⟨c,a1,a2.keep (hst.xu Y) (fun _ _ h=>h) rfl⟩
 ·rcases hget g x hg with⟨rfl,rfl⟩|hg1
  ·rw[hf.none hr 0]at e1;cases e1
  ·rcases hget g' y hg' with⟨rfl,rfl⟩|hg2
   ·rw[hf.none hr 0]at e2;cases e2
   ·exact hr.inj g g' x y c hg1 hg2 e1 e2
 ·have h:=hr.dom g c hc';rw[iF];split
  ·rename_i e2;rw[e2.1,hf.2]at h;simp at h
  ·exact h
 ·rcases hget g k' hg with⟨rfl,rfl⟩|hg'
  ·rw[hf.none hr 0]at hc';cases hc'
  ·exact hr.sep g k' c o hg' hc'
theorem HR.write{w w1:World}{ρ:dP}{H:Heap}(hr:HR Y w ρ H){g:Nm}{k k1:cB}(hg:get H g=some k){b:Nat}(hρ:ρ g=some b)
  (h0:0<k1.sz) (hos:w1.os=w.os) (htape:w1.tape=w.tape) (hout:w1.output=w.output) (hsize:w1.heap.size=w.heap.size) (hold:∀i,i≠b→w1.heap[i]?=w.heap[i]?)
  {cs cs1:Array Value} {T:TypeId} (hc:w.heap[b]?=some (.cells cs T (0,0))) (hc1:w1.heap[b]?=some (.cells cs1 T (0,0))) (hcs:cs1.size=cs.size)
  (hsame:∀o,o<k.jw*k.sz→cs1[o]?=cs[o]?) (hsz:k1.sz=k.sz) (hfrz:k.jw≤k1.jw)
  (he:bg k1.box w (XU Y ρ H) ρ cs1 k1.sz k1.elems):
  HR Y w1 ρ (set H g (some k1))∧Stable w (XX ρ H) w1 (XX ρ (set H g (some k1))):=by
 have hget:∀g' k',get (set H g (some k1)) g'=some k'→(g'=g∧k'=k1)∨(g'≠g∧get H g'=some k'):=by
  intro g' k' h;by_cases e:g'=g
  ·subst e;rw[get_set_same hg]at h;cases h;exact .inl ⟨rfl,rfl⟩
  ·rw[lu e]at h;exact .inr ⟨e,h⟩
 have hX:∀c o,XX ρ (set H g (some k1)) c o→XX ρ H c o:=by
  intro c o ⟨g',k',hg',hρ',ho⟩;rcases hget g' k' hg' with⟨rfl,rfl⟩|⟨_,h⟩
  ·refine⟨_,k,hg,hρ',alS ?_ ho⟩;rw[hsz];exact alq _ hfrz
  ·exact⟨g',k',h,hρ',ho⟩
 have hb:b<w.heap.size:=hr.lt _ _ hρ
 have hst:Stable w (XX ρ H) w1 (XX ρ (set H g (some k1))):=by
  refine⟨hos,htape,hout,by omega,fun c o hc' hn=>⟨fun h=>hn (hX c o h),?_⟩,fun c hc'=> ?_,fun c hc' hn=> ?_⟩
  ·by_cases e:c=b
   ·subst e
    have ho:o<k.jw*k.sz:=by
     rcases am8 o (k.jw*k.sz)with h|h
     ·exact h
     ·exact absurd ⟨g,k,hg,hρ,h⟩ hn
    rw[cell_of_row w1 c o cs1 T (0,0) hc1,cell_of_row w c o cs T (0,0) hc,hsame o ho]
   ·exact World.cell?_of_block (w:=w) (hold c e)
  ·by_cases e:c=b
   ·subst e;simp[bsize,hc,hc1,hcs]
   ·simp only[bsize,hold c e]
  ·by_cases e:c=b
   ·subst e;exact absurd ⟨g,k,hg,hρ,alj _⟩ (hn (k.jw*k.sz))
   ·exact hold c e
 refine⟨⟨fun g' k' hg'=> ?_,fun g1 g2 x y c h1 h2 e1 e2=> ?_,fun g' c hc'=> ?_,fun g' c hc'=>by rw[hsize];exact hr.lt g' c hc',fun g' k' c o hg' hc'=> ?_,fun c o hy=>by rw[hsize];exact hr.ylt c o hy⟩,hst⟩
 ·rcases hget g' k' hg' with⟨rfl,rfl⟩|⟨hne,h⟩
  ·exact .inr ⟨b,hρ,.inl ⟨h0,cs1,T,hc1,he.mono (hst.xu Y) (fun _ _ h=>h)⟩⟩
  ·rcases hr.blk g' k' h with a|⟨c,a1,a2⟩
   ·exact .inl a
   ·have hcb:c≠b:=fun e=>hne (hr.inj g' g k' k b h hg (e ▸ a1) hρ)
    exact .inr ⟨c,a1,a2.keep (hst.xu Y) (fun _ _ h=>h) (hold c hcb)⟩
 ·have f:∀g' z,get (set H g (some k1)) g'=some z→∃z',get H g'=some z':=by
   intro g' z hz;rcases hget g' z hz with⟨rfl,_⟩|⟨_,h⟩
   ·exact⟨k,hg⟩
   ·exact⟨z,h⟩
  obtain⟨x',hx'⟩:=f g1 x h1;obtain⟨y',hy'⟩:=f g2 y h2;exact hr.inj g1 g2 x' y' c hx' hy' e1 e2
 ·rw[dX];exact hr.dom g' c hc'
 ·rcases hget g' k' hg' with⟨rfl,rfl⟩|⟨_,h⟩
  ·exact hr.sep g' k c o hg hc'
  ·exact hr.sep g' k' c o h hc'
theorem HR.adY{w w1:World}{ρ:dP}{H:Heap}(hr:HR Y w ρ H){g:Nm}{k k1:cB}(hg:get H g=some k){b:Nat}(hρ:ρ g=some b)
  (hos:w1.os=w.os) (htape:w1.tape=w.tape) (hout:w1.output=w.output) (hsize:w1.heap.size=w.heap.size) (hold:∀i,i≠b→w1.heap[i]?=w.heap[i]?)
  {es es1:Array MapEntry} {cl cl1:Nat} (hc:w.heap[b]?=some (.map es cl)) (hc1:w1.heap[b]?=some (.map es1 cl1)) (hk0:k.sz=0) (hk1:k1.sz=0) (hbx:k1.box=false) (he:MapAt es1.toList k1.elems):
  HR Y w1 ρ (set H g (some k1))∧Stable w (XX ρ H) w1 (XX ρ (set H g (some k1))):=by
 have hget:∀g' k',get (set H g (some k1)) g'=some k'→(g'=g∧k'=k1)∨(g'≠g∧get H g'=some k'):=by
  intro g' k' h;by_cases e:g'=g
  ·subst e;rw[get_set_same hg]at h;cases h;exact .inl ⟨rfl,rfl⟩
  ·rw[lu e]at h;exact .inr ⟨e,h⟩
 have hX:∀c o,XX ρ (set H g (some k1)) c o→XX ρ H c o:=by
  intro c o ⟨g',k',hg',hρ',ho⟩;rcases hget g' k' hg' with⟨rfl,rfl⟩|⟨_,h⟩
  ·exact⟨_,k,hg,hρ',by rw[hk0];exact alD _⟩
  ·exact⟨g',k',h,hρ',ho⟩
 have hb:b<w.heap.size:=hr.lt _ _ hρ;have hall:∀o,XX ρ H b o:=fun o=>⟨g,k,hg,hρ,by rw[hk0];exact alD _⟩
 have hst:Stable w (XX ρ H) w1 (XX ρ (set H g (some k1))):=by
  refine⟨hos,htape,hout,by omega,fun c o hc' hn=>⟨fun h=>hn (hX c o h),?_⟩,fun c hc'=> ?_,fun c hc' hn=> ?_⟩
  ·by_cases e:c=b
   ·subst e;exact absurd (hall o) hn
   ·exact World.cell?_of_block (w:=w) (hold c e)
  ·by_cases e:c=b
   ·subst e;simp[bsize,hc,hc1]
   ·simp only[bsize,hold c e]
  ·by_cases e:c=b
   ·subst e;exact absurd (hall 0) (hn 0)
   ·exact hold c e
 refine⟨⟨fun g' k' hg'=> ?_,fun g1 g2 x y c h1 h2 e1 e2=> ?_,fun g' c hc'=> ?_,fun g' c hc'=>by rw[hsize];exact hr.lt g' c hc',fun g' k' c o hg' hc'=> ?_,fun c o hy=>by rw[hsize];exact hr.ylt c o hy⟩,hst⟩
 ·rcases hget g' k' hg' with⟨rfl,rfl⟩|⟨hne,h⟩
  ·exact .inr ⟨b,hρ,.inr ⟨hk1,hbx,es1,cl1,hc1,he⟩⟩
  ·rcases hr.blk g' k' h with a|⟨c,a1,a2⟩
   ·exact .inl a
   ·have hcb:c≠b:=fun e=>hne (hr.inj g' g k' k b h hg (e ▸ a1) hρ)
    exact .inr ⟨c,a1,a2.keep (hst.xu Y) (fun _ _ h=>h) (hold c hcb)⟩
 ·have f:∀g' z,get (set H g (some k1)) g'=some z→∃z',get H g'=some z':=by
   intro g' z hz;rcases hget g' z hz with⟨rfl,_⟩|⟨_,h⟩
   ·exact⟨k,hg⟩
   ·exact⟨z,h⟩
  obtain⟨x',hx'⟩:=f g1 x h1;obtain⟨y',hy'⟩:=f g2 y h2;exact hr.inj g1 g2 x' y' c hx' hy' e1 e2
 ·rw[dX];exact hr.dom g' c hc'
 ·rcases hget g' k' hg' with⟨rfl,rfl⟩|⟨_,h⟩
  ·exact hr.sep g' k c o hg hc'
  ·exact hr.sep g' k' c o h hc'
theorem HR.move{w w1:World}{ρ:dP}{H:Heap}(hr:HR Y w ρ H){slot:Nat}(hf:Free H slot){g:Nm}{k k1:cB}(hg:get H g=some k){b:Nat}(hρ:ρ g=some b)
  (h0:0<k1.sz) (hos:w1.os=w.os) (htape:w1.tape=w.tape) (hout:w1.output=w.output) (hsize:w1.heap.size=w.heap.size) (hold:∀i,i≠b→w1.heap[i]?=w.heap[i]?)
  {cs cs1:Array Value} {T:TypeId} (hc:w.heap[b]?=some (.cells cs T (0,0))) (hc1:w1.heap[b]?=some (.cells cs1 T (0,0))) (hcs:cs1.size=cs.size)
  (hsame:∀o,o<k.jw*k.sz→cs1[o]?=cs[o]?) (hsz:k1.sz=k.sz) (hfrz:k.jw≤k1.jw)
  (he:bg k1.box w (XU Y ρ H) ρ cs1 k1.sz k1.elems):
  HR Y w1 (upd ρ (slot,0) b) ((set H g none).set slot [some k1])∧Stable w (XX ρ H) w1 (XX (upd ρ (slot,0) b) ((set H g none).set slot [some k1]))∧(∀g c,ρ g=some c→upd ρ (slot,0) b g=some c):=by
 have hgs:g≠(slot,0):=fun e=>by rw[e,hf.none hr 0]at hρ;cases hρ
 have hle:∀g c,ρ g=some c→upd ρ (slot,0) b g=some c:=by
  intro g c h;unfold upd;split
  ·rename_i e;subst e;rw[hf.none hr 0]at h;cases h
  ·exact h
 have hlen:slot<(set H g none).length:=by rw[wV];exact hf.1
 have hget:∀g' k',get ((set H g none).set slot [some k1]) g'=some k'→(g'=(slot,0)∧k'=k1)∨(g'≠(slot,0)∧g'≠g∧get H g'=some k'):=by
  intro g' k' h;rw[jR]at h;split at h
  ·rename_i e;obtain⟨a,c⟩:=g';obtain⟨e1,_⟩:=e;simp only at e1;subst e1
   cases c with
   |zero=>simp at h;exact .inl ⟨rfl,h.symm⟩
   |succ c=>simp at h
  ·rename_i e;have hne:g'≠(slot,0):=fun e2=>e ⟨by rw[e2],hlen⟩
   by_cases e3:g'=g
   ·subst e3;rw[get_set_same hg]at h;cases h
   ·rw[lu e3]at h;exact .inr ⟨hne,e3,h⟩
 have hX:∀c o,XX (upd ρ (slot,0) b) ((set H g none).set slot [some k1]) c o→XX ρ H c o:=by
  intro c o ⟨g',k',hg',hρ',ho⟩;rcases hget g' k' hg' with⟨rfl,rfl⟩|⟨hne,_,h⟩
  ·simp[upd]at hρ';subst hρ';refine⟨g,k,hg,hρ,alS ?_ ho⟩;rw[hsz];exact alq _ hfrz
  ·exact⟨g',k',h,by simpa[upd,hne]using hρ',ho⟩
 have hb:b<w.heap.size:=hr.lt _ _ hρ
 have hst:Stable w (XX ρ H) w1 (XX (upd ρ (slot,0) b) ((set H g none).set slot [some k1])):=by
  refine⟨hos,htape,hout,by omega,fun c o hc' hn=>⟨fun h=>hn (hX c o h),?_⟩,fun c hc'=> ?_,fun c hc' hn=> ?_⟩
  ·by_cases e:c=b
   ·subst e
    have ho:o<k.jw*k.sz:=by
     rcases am8 o (k.jw*k.sz)with h|h
     ·exact h
     ·exact absurd ⟨g,k,hg,hρ,h⟩ hn
    rw[cell_of_row w1 c o cs1 T (0,0) hc1,cell_of_row w c o cs T (0,0) hc,hsame o ho]
   ·exact World.cell?_of_block (w:=w) (hold c e)
  ·by_cases e:c=b
   ·subst e;simp[bsize,hc,hc1,hcs]
   ·simp only[bsize,hold c e]
  ·by_cases e:c=b
   ·subst e;exact absurd ⟨g,k,hg,hρ,alj _⟩ (hn (k.jw*k.sz))
   ·exact hold c e
 refine⟨⟨fun g' k' hg'=> ?_,fun g1 g2 x y c h1 h2 e1 e2=> ?_,fun g' c hc'=> ?_,fun g' c hc'=> ?_,fun g' k' c o hg' hc'=> ?_,fun c o hy=>by rw[hsize];exact hr.ylt c o hy⟩,hst,hle⟩
 ·rcases hget g' k' hg' with⟨rfl,rfl⟩|⟨hne,hne2,h⟩
  ·exact .inr ⟨b,by simp[upd],.inl ⟨h0,cs1,T,hc1,he.mono (hst.xu Y) hle⟩⟩
  ·have e:upd ρ (slot,0) b g'=ρ g':=by simp[upd,hne]
   rw[e];rcases hr.blk g' k' h with a|⟨c,a1,a2⟩
   ·exact .inl a
   ·have hcb:c≠b:=fun e=>hne2 (hr.inj g' g k' k b h hg (e ▸ a1) hρ)
    exact .inr ⟨c,a1,a2.keep (hst.xu Y) hle (hold c hcb)⟩
 ·rcases hget g1 x h1 with⟨rfl,rfl⟩|⟨hne,hn1,h1'⟩<;>rcases hget g2 y h2 with⟨rfl,rfl⟩|⟨hne',hn2,h2'⟩
  ·rfl
  ·simp only[upd,hne',if_false,if_true]at e1 e2;cases e1;exact absurd (hr.inj g2 g y k b h2' hg e2 hρ) hn2
  ·simp only[upd,hne,if_false,if_true]at e1 e2;cases e2;exact absurd (hr.inj g1 g x k b h1' hg e1 hρ) hn1
  ·simp only[upd,hne,hne',if_false]at e1 e2;exact hr.inj g1 g2 x y c h1' h2' e1 e2
 ·by_cases e:g'=(slot,0)
  ·subst e;rw[iF,if_pos ⟨rfl,hlen⟩];simp
  ·have h:=hr.dom g' c (by simpa[upd,e]using hc');rw[iF];split
   ·rename_i e2;rw[e2.1,hf.2]at h;simp at h
   ·rw[dX];exact h
 ·rw[hsize];by_cases e:g'=(slot,0)
  ·subst e;simp[upd]at hc';omega
  ·exact hr.lt g' c (by simpa[upd,e]using hc')
 ·rcases hget g' k' hg' with⟨rfl,rfl⟩|⟨hne,_,h⟩
  ·simp[upd]at hc';subst hc';exact hr.sep g k _ o hg hρ
  ·exact hr.sep g' k' c o h (by simpa[upd,hne]using hc')
theorem addr_add(b o n:Nat):(⟨b,o,none⟩:Addr).add n=⟨b,o+n,none⟩:=by
 unfold Addr.add;split
 ·rename_i h;subst h;rfl
 ·rfl
section
variable{P:Program}{w:World}{X Y:XT}{ρ:dP}
theorem bN{t:TypeId}{n:Nat}(h:bf P t=some n)(w:World):(sizeOf t).run P w= .ok n w:=by
 unfold bf at h
 cases hi:P.info? t with
 |none=>simp[hi]at h
 |some i=>simp[hi]at h;simp[sizeOf,typeInfo,hi,h]
theorem FW{t:TypeId}{n:Nat}(h:vO P t=some n)(w:World):∃i,P.info? t=some i∧i.bytes=n∧(typeInfo t).run P w= .ok i w:=by
 unfold vO at h
 cases hi:P.info? t with
 |none=>simp[hi]at h
 |some i=>simp[hi]at h;exact⟨i,rfl,h,by simp[typeInfo,hi]⟩
theorem EI{t:TypeId}{b:Bool}(h:BV P t=some b)(w:World):(isAgg t).run P w= .ok b w:=by
 unfold BV at h
 cases hu:P.underlying t with
 |none=>simp[hu]at h
 |some d=>
  simp only[hu]at h;simp only[isAgg,Sem.run_bind,run_underlying hu,Result.andThen_ok];cases d<;>simp_all
theorem nU{t:TypeId}{x:AV}(h:oo P t=some x)(w:World):∃z,(zeroValue t).run P w= .ok z w∧x=cv z∧∃i,P.info? t=some i∧i.zero=some z:=by
 unfold oo at h
 cases hi:P.info? t with
 |none=>simp[hi]at h
 |some i=>
  simp only[hi]at h
  cases hz:i.zero with
  |none=>simp[hz]at h
  |some z=>
   simp[hz]at h;exact⟨z,by simp[zeroValue,typeInfo,hi,hz],h.symm,i,rfl,hz⟩
theorem y7{t:TypeId}{x:AV}(h:tQ P t=some x)(w:World):∃z,(zeroValue t).run P w= .ok z w∧x=ntV (cv z)∧∃i,P.info? t=some i∧i.zero=some z:=by
 obtain⟨y,hy,rfl⟩:=alf.1 h;obtain⟨z,h1,rfl,h2⟩:=nU hy w;exact⟨z,h1,rfl,h2⟩
theorem gD{t e:TypeId}(h:kL P t=some e):P.underlying t=some (.slice e):=by
 unfold kL at h
 cases hu:P.underlying t with
 |none=>simp[hu]at h
 |some d=>cases d<;>simp_all
theorem VR.cells{v:Value}{x:AV}(h:VR w X ρ v x)(hk:okV x=true):
  v.cells.size=x.cells.length∧(∀i,i<v.cells.size→(v.cells.getD i Go.undef).oneCell'=true)∧∀(j:Nat) (u:AV),x.cells[j]?=some u→VR w X ρ (v.cells.getD j Go.undef) u:=by
 cases hx:x with
 |agg cs=>
  subst hx
  cases h with
  |pur v x h=>
   cases h with
   |agg akV _ hn h1 h=>exact⟨hn,h1,fun j u hj=>.pur _ _ (h j u hj)⟩
  |agg akV _ hn h1 h=>exact⟨hn,h1,h⟩
 |_=>
  all_goals
   have hc:x.cells=[x]:=by subst hx;rfl
   have hk':U6 x=true:=by subst hx;first|exact hk|(simp[okV,U6]at hk)
   have ho:=DV h hk';have hv:v.cells= #[v]:=by cases v<;>first|rfl|(simp[Value.oneCell']at ho)
   rw[←hx,hc,hv];refine⟨rfl,fun i hi=> ?_,fun j u hj=> ?_⟩
   ·have:i=0:=by simp at hi;omega
    subst this;exact ho
   ·cases j with
    |zero=>simp at hj;subst hj;exact h
    |succ j=>simp at hj
theorem VR.Zw{v:Value}{x:AV}(h:VR w X ρ v x)(hk:mU x=true∨∃sz xs t,x= .eO sz xs t):PR w X v x:=by
 cases h with
 |pur v x h=>exact h
 |ptr=>rcases hk with h|⟨_,_,_,h⟩<;>simp[mU]at h
 |mp=>rcases hk with h|⟨_,_,_,h⟩<;>simp[mU]at h
 |own0=>rcases hk with h|⟨_,_,_,h⟩<;>simp[mU]at h
 |own=>rcases hk with h|⟨_,_,_,h⟩<;>simp[mU]at h
 |clo=>rcases hk with h|⟨_,_,_,h⟩<;>simp[mU]at h
 |agg=>rcases hk with h|⟨_,_,_,h⟩<;>simp[mU]at h
 |tup=>rcases hk with h|⟨_,_,_,h⟩<;>simp[mU]at h
theorem vW{t:TypeId}{size:Nat}{agg:Bool}(h1:bf P t=some size)(h2:BV P t=some agg)(b o:Nat)(f:Nat→Value)
  (hc:∀j,j<size→w.cell? ⟨b,o+j,none⟩=some (f j)) (hs:agg=false→0<size):
  (loadVar t ⟨b,o,none⟩).run P w= .ok (if agg then .agg ((List.range size).map f).toArray else f 0) w:=by
 unfold loadVar;simp only[Sem.run_bind,EI h2,Result.andThen_ok]
 cases agg with
 |true=>
  simp only[if_true,Sem.run_bind,bN h1,Result.andThen_ok];rw[run_loadCells w ⟨b,o,none⟩ size f (fun j hj=>by rw[addr_add];exact hc j hj)];rfl
 |false=>
  have:=hc 0 (hs rfl);simp only[amB]at this;simp[this]
theorem kG{α:Type}(l:List α)(off size i:Nat)(h:off+size≤l.length):((l.drop off).take size)[i]?=if i<size then l[off+i]? else none:=by
 rw[amA,amw]
theorem qY{α:Type}(l:List α)(off size:Nat)(h:off+size≤l.length):((l.drop off).take size).length=size:=by
 simp;omega
theorem IC(f:Nat→Value)(cs:List AV)(hf:∀(j:Nat) (u:AV),cs[j]?=some u→(f j).oneCell'=true∧VR w X ρ (f j) u):
  VR w X ρ (.agg ((List.range cs.length).map f).toArray) (.agg cs):=by
 have hget:∀i,i<cs.length→(((List.range cs.length).map f).toArray).getD i undef=f i:=by
  intro i hi;simp[ala,hi]
 refine .agg _ _ (by simp) (fun i hi=> ?_) (fun i x hx=> ?_)
 ·have hi':i<cs.length:=by simpa using hi
  rw[hget i hi'];exact(hf i cs[i] (by simp[hi'])).1
 ·have hi':i<cs.length:=(akX.1 hx).1;rw[hget i hi'];exact(hf i x hx).2
theorem Fy{size off:Nat}{agg:Bool}{x y:AV}(f:Nat→Value)(hf:∀(j:Nat) (u:AV),x.cells[j]?=some u→(f j).oneCell'=true∧VR w X ρ (f j) u)
  (h:loadAt size agg x off=some y):off+size≤x.cells.length∧(agg=false→0<size)∧VR w X ρ (if agg then .agg ((List.range size).map fun j=>f (off+j)).toArray else f off) y:=by
 unfold loadAt at h;split at h
 ·rename_i hle;refine⟨hle,?_⟩
  have part:pF agg ((x.cells.drop off).take size)=some y→(agg=false→0<size)∧VR w X ρ (if agg then .agg ((List.range size).map fun j=>f (off+j)).toArray else f off) y:=by
   intro h
   cases agg with
   |true=>
    simp only[pF,if_true]at h;cases h;refine⟨(fun h=>by cases h),?_⟩;have hl:=qY x.cells off size hle
    have:=IC (w:=w) (X:=X) (ρ:=ρ) (fun j=>f (off+j)) ((x.cells.drop off).take size) (fun j u hj=>by
     rw[kG _ _ _ _ hle]at hj;split at hj
     ·exact hf _ _ hj
     ·cases hj)
    rw[hl]at this;simpa using this
   |false=>
    simp only[pF,alo,if_false]at h;split at h
    ·rename_i c hc;cases h;have hl:=qY x.cells off size hle;rw[hc]at hl;simp at hl;have h0:=kG x.cells off size 0 hle;rw[hc]at h0;simp[←hl]at h0;exact⟨(fun _=>by omega),by simpa using (hf off y h0.symm).2⟩
    ·cases h
  split at h
  ·rename_i hc;obtain⟨rfl,rfl,hagg⟩:=hc;cases h
   cases agg with
   |true=>
    refine⟨(fun h=>by cases h),?_⟩
    cases x with
    |agg cs=>
     have:=IC (w:=w) (X:=X) (ρ:=ρ) f cs hf;simpa[AV.cells]using this
    |_=>simp[AV.isAgg]at hagg
   |false=>
    have hc:x.cells=[x]:=by cases x<;>first|rfl|(simp[AV.isAgg]at hagg)
    refine⟨(fun _=>by rw[hc];simp),?_⟩;have:=(hf 0 x (by rw[hc];rfl)).2;simpa using this
  ·exact part h
 ·cases h
theorem jC.elem{b:Nat}{k:cB}(h:jC w X ρ b k)(hs0:0<k.sz){i:Nat}{x:AV}(hi:k.elems[i]?=some x):
  ∃f:Nat→Value,x.cells.length=k.sz∧∀(j:Nat) (u:AV),x.cells[j]?=some u→w.cell? ⟨b,i*k.sz+j,none⟩=some (f j)∧(f j).oneCell'=true∧CR k.box w X ρ (f j) u:=by
 obtain⟨cs,T,hh,hle,he⟩:=h.cells hs0;obtain⟨hsz,hc⟩:=he i x hi;refine⟨fun j=>cs.getD (i*k.sz+j) undef,hsz,fun j u hj=> ?_⟩;obtain⟨h1,h2⟩:=hc j u hj;refine⟨?_,h1,h2⟩;have hilt:i<k.elems.length:=(akX.1 hi).1;have hjlt:j<k.sz:=by rw[←hsz];exact(akX.1 hj).1
 have hlt:i*k.sz+j<cs.size:=by
  have:(i+1)*k.sz≤k.elems.length*k.sz:=alq _ hilt;rw[alX]at this;omega
 rw[cell_of_row w b _ cs T (0,0) hh];simp[ala,hlt]
theorem HR.at{H:Heap}(hr:HR Y w ρ H){g:Nm}{k:cB}(hg:get H g=some k){b:Nat}(hρ:ρ g=some b):jC w (XU Y ρ H) ρ b k:=by
 rcases hr.blk g k hg with⟨h,_⟩|⟨b',h,hb⟩
 ·rw[h]at hρ;cases hρ
 ·rw[h]at hρ;cases hρ;exact hb
theorem AB{H:Heap}(hr:HR Y w ρ H){t:TypeId}{p:AV}{v:Value}{r:iD}(hv:VR w (XU Y ρ H) ρ v p)(h:mF P t p H=some r):
  r.wr=[]∧r.new=[]∧∃u,(Instr.loadAt t v).run P w= .ok u w∧VR w (XU Y ρ H) ρ u r.val:=by
 unfold mF at h
 cases hs:bf P t with
 |none=>simp[hs]at h
 |some size=>
  cases ha:BV P t with
  |none=>simp[hs,ha]at h
  |some agg=>
   simp only[hs,ha]at h
   cases p with
   |ptr g sz i off=>
    simp only at h
    cases hg:get H g with
    |none=>simp[hg]at h
    |some k=>
     simp only[hg]at h;split at h
     ·rename_i hszp;obtain⟨hsz,hs0⟩:=hszp
      cases hx:k.elems[i]? with
      |none=>simp[hx]at h
      |some x=>
       simp only[hx]at h;obtain⟨y,hy,rfl⟩:=alf.1 h
       cases hv with
       |pur v x hp=>cases hp
       |mp=>omega
       |ptr _ b _ _ _ _ hρ=>
        obtain⟨f,hlen,hf⟩:=(hr.at hg hρ).elem (by omega) hx;obtain⟨hle,hpos,hrel⟩:=Fy (w:=w) (X:=XU Y ρ H) (ρ:=ρ) f (fun j u hj=>⟨(hf j u hj).2.1,(hf j u hj).2.2.vr⟩) hy;refine⟨rfl,rfl,_,?_,hrel⟩;simp only[Instr.loadAt,Instr.sureAddr,Sem.run_bind,Sem.run_pure,Result.andThen_ok];rw[vW hs ha b (i*sz+off) (fun j=>f (off+j)) (fun j hj=> ?_) hpos]
        ·simp
        ·have hj':off+j<x.cells.length:=by omega
         have:=(hf (off+j) x.cells[off+j] (by simp[hj'])).1;rw[hsz]at this;rw[Nat.add_assoc];exact this
     ·cases h
   |lp sz xs i off=>
    simp only at h
    cases hx:xs[i]? with
    |none=>simp[hx]at h
    |some x=>
     simp only[hx]at h;split at h
     ·obtain⟨y,hy,rfl⟩:=alf.1 h
      cases hv with
      |pur v x' hp=>
       cases hp with
       |lp b o _ _ _ _ f hsz' hx' hr'=>
        obtain⟨hle,hpos,hrel⟩:=Fy (w:=w) (X:=XU Y ρ H) (ρ:=ρ) (f i) (fun j u hj=>⟨(hx' i x hx j u hj).2.2,.pur _ _ (hr' i x hx j u hj)⟩) hy;refine⟨rfl,rfl,_,?_,hrel⟩;simp only[Instr.loadAt,Instr.sureAddr,Sem.run_bind,Sem.run_pure,Result.andThen_ok];rw[vW hs ha b (o+(i*sz+off)) (fun j=>f i (off+j)) (fun j hj=> ?_) hpos]
        ·simp
        ·have hj':off+j<x.cells.length:=by omega
         have:=(hx' i x hx (off+j) x.cells[off+j] (by simp[hj'])).2.1;rw[show o+(i*sz+off)+j=o+(i*sz+(off+j)) by omega];exact this
     ·cases h
   |fp g=>
    simp only at h;split at h
    ·rename_i hsa;obtain⟨rfl,rfl⟩:=hsa;cases h
     cases hv with
     |pur v x' hp=>
      cases hp with
      |fp b _ hX hc=>
       refine⟨rfl,rfl,_,?_,.clo g #[] [] rfl (fun i x hx=>by simp at hx)⟩;simp only[Instr.loadAt,Instr.sureAddr,Sem.run_bind,Sem.run_pure,Result.andThen_ok];rw[vW hs ha b 0 (fun _=>.func (.func g) #[] #[]) (fun j hj=> ?_) (by omega)]
       ·simp
       ·have:j=0:=by omega
        subst this;exact hc
    ·cases h
   |_=>simp at h
theorem Fg{t:TypeId}{f o:Nat}{ft:TypeId}(h:pV P t f=some (o,ft)):∃fs x,P.underlying t=some (.struct fs)∧fs[f]?=some x∧x.offset=o∧x.type=ft:=by
 unfold pV at h
 cases hu:P.underlying t with
 |none=>simp[hu]at h
 |some d=>
  cases d with
  |struct fs=>
   simp only[hu]at h
   cases hx:fs[f]? with
   |none=>simp[hx]at h
   |some x=>simp[hx]at h;exact⟨fs,x,rfl,hx,h.1,h.2⟩
  |_=>simp[hu]at h
theorem E9{t:TypeId}{cs:Array Value}{xs:List AV}{off:Nat}{y:AV}(hn:cs.size=xs.length)(h1:∀i,i<cs.size→(cs.getD i undef).oneCell'=true)
  (hv:∀(i:Nat) (x:AV),xs[i]?=some x→VR w X ρ (cs.getD i undef) x) (h:partOf P t xs off=some y):∃v,(part t cs off).run P w= .ok v w∧VR w X ρ v y:=by
 unfold partOf at h
 cases hs:bf P t with
 |none=>simp[hs]at h
 |some size=>
  cases ha:BV P t with
  |none=>simp[hs,ha]at h
  |some agg=>
   simp only[hs,ha]at h;split at h
   ·rename_i hle;simp only[part,Sem.run_bind,EI ha,Result.andThen_ok]
    cases agg with
    |true=>
     simp only[pF,if_true,alg]at h;subst h;simp only[if_true,Sem.run_bind,bN hs,Result.andThen_ok,Sem.run_pure];refine⟨_,rfl,.agg _ _ (by simp;omega) (fun i hi=> ?_) (fun i x hx=> ?_)⟩
     ·have hi':i<size:=by simp at hi;omega
      have e:(cs.extract off (off+size)).getD i undef=cs.getD (off+i) undef:=by
       simp only[ala,Array.getElem?_extract];rw[if_pos (by omega)]
      rw[e];exact h1 _ (by omega)
     ·rw[kG _ _ _ _ hle]at hx;split at hx
      ·have e:(cs.extract off (off+size)).getD i undef=cs.getD (off+i) undef:=by
        simp only[ala,Array.getElem?_extract];rw[if_pos (by omega)]
       rw[e];exact hv _ _ hx
      ·cases hx
    |false=>
     simp only[pF,alo,if_false]at h;split at h
     ·rename_i c hc;cases h;have hl:=qY xs off size hle;rw[hc]at hl;simp at hl;have h0:=kG xs off size 0 hle;rw[hc]at h0;simp[←hl]at h0;have hlt:off<cs.size:=by omega
      have hr:=hv off y h0.symm;simp only[alo,if_false];refine⟨cs[off],by simp[hlt],?_⟩;simpa[ala,hlt]using hr
     ·cases h
   ·cases h
theorem VR.kD{v:Value}{xs:List AV}(h:VR w X ρ v (.agg xs)):∃cs,v= .agg cs∧cs.size=xs.length∧(∀i,i<cs.size→(cs.getD i Go.undef).oneCell'=true)∧∀(i:Nat) (x:AV),xs[i]?=some x→VR w X ρ (cs.getD i Go.undef) x:=by
 cases h with
 |pur v x h=>
  cases h with
  |agg cs _ hn h1 h=>exact⟨cs,rfl,hn,h1,fun i x hx=>.pur _ _ (h i x hx)⟩
 |agg cs _ hn h1 h=>exact⟨cs,rfl,hn,h1,h⟩
theorem VR.eY{v:Value}{k:IntKind}{n:Int}(h:VR w X ρ v (.int k n)):v= .int k n:=by
 cases h with
 |pur v x h=>cases h;rfl
theorem VR.iY{v:Value}{b:Bool}(h:VR w X ρ v (.bool b)):v= .bool b:=by
 cases h with
 |pur v x h=>cases h;rfl
theorem VR.jM{v:Value}{s:ByteArray}(h:VR w X ρ v (.str s)):v= .string s:=by
 cases h with
 |pur v x h=>cases h;rfl
theorem VR.oD{v:Value}{sz:Nat}{xs:List AV}{t:Bool}(h:VR w X ρ v (.eO sz xs t)):∃a cap,v= .slice a xs.length cap∧xs.length≤cap∧(t=true→cap=xs.length)∧PR w X v (.eO sz xs t):=by
 cases h with
 |pur v x h=>
  have h':=h
  cases h with
  |lst0 a cap sz t ht=>exact⟨a,cap,rfl,alD _,ht,h'⟩
  |eO b o n cap sz t xs f hn hc ht hsz hx hr=>exact⟨_,cap,by rw[hn],hn ▸ hc,fun e=>(ht e).trans hn.symm,h'⟩
theorem VR.jV{v:Value}{g:Nm}{sz off len:Nat}(h:VR w X ρ v (.own g sz off len)):(∃a,v= .slice a 0 0∧len=0)∨∃b cap,v= .slice (some ⟨b,off*sz,none⟩) len cap∧ρ g=some b∧b<w.heap.size∧len≤cap∧off*sz+cap*sz≤bsize w b:=by
 cases h with
 |pur v x h=>cases h
 |own0 a=>exact .inl ⟨a,rfl,rfl⟩
 |own _ b _ _ _ cap hρ hb hc hk=>exact .inr ⟨b,cap,rfl,hρ,hb,hc,hk⟩
theorem VR.Fh{v:Value}{g:Nm}{sz i off:Nat}(hs0:0<sz)(h:VR w X ρ v (.ptr g sz i off)):∃b,v= .pointer (some ⟨b,i*sz+off,none⟩)∧ρ g=some b:=by
 cases h with
 |pur v x h=>cases h
 |ptr _ b _ _ _ _ hρ=>exact⟨b,rfl,hρ⟩
 |mp=>omega
theorem VR.KQ{v:Value}{xs:List AV}(h:VR w X ρ v (.tup xs)):∃cs,v= .tuple cs∧cs.size=xs.length∧∀(i:Nat) (x:AV),xs[i]?=some x→VR w X ρ (cs.getD i Go.undef) x:=by
 cases h with
 |pur v x h=>cases h
 |tup cs _ hn h=>exact⟨cs,rfl,hn,h⟩
theorem GY{t:TypeId}{x y:AV}{v:Value}{f:Nat}(hv:VR w X ρ v x)(h:zA P t x f=some y):∃u,(Instr.field t v f).run P w= .ok u w∧VR w X ρ u y:=by
 unfold zA at h
 cases hf:pV P t f with
 |none=>simp[hf]at h
 |some p=>
  obtain⟨o,ft⟩:=p;obtain⟨fs,fx,hu,hx,rfl,rfl⟩:=Fg hf
  cases x with
  |agg xs=>
   simp only[hf]at h;obtain⟨cs,rfl,hn,h1,hc⟩:=hv.kD;obtain⟨u,hr,hrel⟩:=E9 (P:=P) hn h1 hc h;refine⟨u,?_,hrel⟩;simp[Instr.field,run_underlying hu,hx,asAgg,hr]
  |_=>simp[hf]at h
theorem zY{t:TypeId}{x y:AV}{v:Value}{f:Nat}(hv:VR w X ρ v x)(h:lQ P t x f=some y):∃u,(Instr.fieldAt t v f).run P w= .ok u w∧VR w X ρ u y:=by
 unfold lQ at h
 cases hf:pV P t f with
 |none=>simp[hf]at h
 |some p=>
  obtain⟨o,ft⟩:=p;obtain⟨fs,fx,hu,hx,rfl,rfl⟩:=Fg hf;simp only[hf]at h;split at h
  ·cases h
  ·rename_i hs
   cases hsz:bf P fx.type with
   |none=>simp[hsz]at hs
   |some n=>
    have hn:n≠0:=by simpa[hsz]using hs
    have place:∀b o,(fieldPlace ⟨b,o,none⟩ fx).run P w= .ok ⟨b,o+fx.offset,none⟩ w:=by
     intro b o;simp[fieldPlace,bN hsz,hn,addr_add]
    cases x with
    |ptr g sz i off=>
     simp only at h;split at h
     case isFalse=>cases h
     rename_i hs0;simp only[alg]at h;subst h;obtain⟨b,rfl,hρ⟩:=hv.Fh hs0;refine⟨.pointer (some ⟨b,i*sz+off+fx.offset,none⟩),?_,?_⟩
     ·simp[Instr.fieldAt,run_underlying hu,hx,Instr.sureAddr,place]
     ·rw[Nat.add_assoc];exact .ptr _ _ _ _ _ hs0 hρ
    |lp sz xs i off=>
     simp only[alg]at h;subst h
     cases hv with
     |pur v x hp=>
      cases hp with
      |lp b o _ _ _ _ g hsz' hx' hr'=>
       refine⟨.pointer (some ⟨b,o+(i*sz+off)+fx.offset,none⟩),?_,?_⟩
       ·simp[Instr.fieldAt,run_underlying hu,hx,Instr.sureAddr,place]
       ·rw[show o+(i*sz+off)+fx.offset=o+(i*sz+(off+fx.offset)) by omega];exact .pur _ _ (.lp _ _ _ _ _ _ _ hsz' hx' hr')
    |_=>simp at h
end
section
variable{P:Program}{w:World}{X Y:XT}{ρ:dP}
theorem Au{t:TypeId}{x i y:AV}{v u:Value}(hv:VR w X ρ v x)(hu:VR w X ρ u i)(h:jQ P t x i=some y):
  ∃r,(Instr.indexAt t v u).run P w= .ok r w∧VR w X ρ r y:=by
 unfold jQ at h
 cases hd:P.underlying t with
 |none=>simp[hd]at h
 |some d=>
  cases i with
  |int k n=>
   have hu':=hu.eY;subst hu'
   cases d with
   |slice e=>
    simp only[hd]at h
    cases x with
    |own g sz off len=>
     simp only at h;split at h
     ·rename_i hc;obtain⟨hs,h0,hl,hsp⟩:=hc;cases h;rcases hv.jV with⟨a,rfl,rfl⟩|⟨b,cap,rfl,hρ,_,_,_⟩
      ·exact absurd (Int.lt_of_le_of_lt h0 hl) (by simp)
      ·refine⟨.pointer (some ⟨b,(off+n.toNat)*sz+0,none⟩),?_,.ptr _ _ _ _ _ hsp hρ⟩;simp[Instr.indexAt,asIntOf,run_underlying hd,h0,hl,bN hs,addr_add,alX]
     ·cases h
    |eO sz xs tt=>
     simp only at h;split at h
     ·rename_i hc;obtain⟨h0,hl,hs⟩:=hc;cases h
      cases hv with
      |pur v x hp=>
       cases hp with
       |lst0 a cap sz t ht=>simp at hl;omega
       |eO b o n' cap sz t xs f hn hc ht hsz hx hr=>
        refine⟨.pointer (some ⟨b,o+(n.toNat*sz+0),none⟩),?_,.pur _ _ (.lp _ _ _ _ _ _ _ hsz hx hr)⟩;have:n<(n':Int):=by rw[←hn];exact hl
        simp[Instr.indexAt,asIntOf,run_underlying hd,h0,this,bN hs,addr_add]
     ·cases h
    |_=>simp at h
   |array len e=>
    simp only[hd]at h
    cases x with
    |ptr g sz j off=>
     simp only at h
     cases hs:bf P e with
     |none=>simp[hs]at h
     |some es=>
      simp only[hs]at h;split at h
      ·rename_i hc;cases h;obtain⟨b,rfl,hρ⟩:=hv.Fh hc.2.2;refine⟨.pointer (some ⟨b,j*sz+(off+n.toNat*es),none⟩),?_,.ptr _ _ _ _ _ hc.2.2 hρ⟩;simp[Instr.indexAt,asIntOf,run_underlying hd,Instr.sureAddr,hc.1,hc.2.1,bN hs,addr_add,Nat.add_assoc]
      ·cases h
    |_=>simp at h
   |_=>simp[hd]at h
  |_=>cases d<;>simp[hd]at h
theorem Ht{t:TypeId}{x i y:AV}{v u:Value}(hv:VR w X ρ v x)(hu:VR w X ρ u i)(h:nk P t x i=some y):
  ∃r,(Instr.index t v u).run P w= .ok r w∧VR w X ρ r y:=by
 unfold nk at h
 cases hd:P.underlying t with
 |none=>simp[hd]at h
 |some d=>
  cases i with
  |int k n=>
   have hu':=hu.eY;subst hu'
   cases d with
   |array len e=>
    cases x with
    |agg xs=>
     simp only[hd]at h;obtain⟨cs,rfl,hn,h1,hc⟩:=hv.kD
     cases hs:bf P e with
     |none=>simp[hs]at h
     |some es=>
      simp only[hs]at h;split at h
      ·rename_i hb;obtain⟨r,hr,hrel⟩:=E9 (P:=P) hn h1 hc h;exact⟨r,by simp[Instr.index,asIntOf,run_underlying hd,hb.1,hb.2,bN hs,hr],hrel⟩
      ·cases h
    |_=>simp[hd]at h
   |string=>
    cases x with
    |str s=>
     simp only[hd]at h;have:=hv.jM;subst this;split at h
     ·rename_i b hb;cases h;refine⟨.int .u8 b.toNat,?_,.pur _ _ (.int _ _)⟩;simp only[Instr.index,asIntOf,Sem.run_bind,Sem.run_pure,Result.andThen_ok,run_underlying hd,hb]
     ·cases h
    |_=>simp[hd]at h
   |_=>simp[hd]at h
  |_=>cases d<;>cases x<;>simp[hd]at h
theorem Mw{op:BinOp}{t:TypeId}{x y z:AV}{v u:Value}{ox oy:Operand}(hv:VR w X ρ v x)(hu:VR w X ρ u y)(h:kS op x y=some z):
  ∃r,(do eqGuard op t ox oy v u;binOp op t v u:Sem Value).run P w= .ok r w∧VR w X ρ r z:=by
 cases x with
 |int k a=>
  have hv':=hv.eY;subst hv'
  cases y with
  |int k' b=>
   have hu':=hu.eY;subst hu'
   have hg:(eqGuard op t ox oy (.int k a) (.int k' b)).run P w= .ok () w:=by
    unfold eqGuard;split<;>rfl
   rw[Sem.run_bind,hg,Result.andThen_ok];unfold kS at h;cases op<;>simp only at h<;>
    first
     | (split at h
        ·rename_i hk
         first
          |(subst hk;cases h;refine⟨_,?_,.pur _ _ (.int _ _)⟩;simp[binOp,Op.intArith];done)
          |(subst hk;cases h;refine⟨_,?_,.pur _ _ (.bool _)⟩;simp[binOp,Op.intCmp];done)
          |(obtain⟨hk,hb⟩:=hk;subst hk;cases h;refine⟨_,?_,.pur _ _ (.int _ _)⟩;simp[binOp,Op.intDiv,hb];done)
          |(subst hk;cases h;refine⟨_,?_,.pur _ _ (.int _ _)⟩;simp[binOp,Op.intBits,Qy];done)
          |(cases h;refine⟨_,?_,.pur _ _ (.int _ _)⟩;simp[binOp,Op.shift,adD,AZ,show¬(b<0)from Int.not_lt.2 hk];done)
        ·cases h)
     |cases h
  |_=>simp[kS]at h
 |str a=>
  have hv':=hv.jM;subst hv'
  cases y with
  |str b=>
   have hu':=hu.jM;subst hu'
   have hg:(eqGuard op t ox oy (.string a) (.string b)).run P w= .ok () w:=by
    unfold eqGuard;split<;>rfl
   rw[Sem.run_bind,hg,Result.andThen_ok];unfold kS at h;cases op<;>simp only at h<;>
    first
     | (split at h
        ·rename_i hk;cases h;refine⟨_,?_,.pur _ _ (.str _)⟩
         have:¬((a.size+b.size:Nat):Int)>IntKind.i64.max:=by
          have:IntKind.i64.max=9223372036854775807:=rfl;omega
         simp only[binOp,Op.stringOp,if_neg this,Sem.run_pure]
        ·cases h)
     |(cases h;refine⟨_,?_,.pur _ _ (.bool _)⟩;simp[binOp,Op.stringOp];done)
     |cases h
  |_=>simp[kS]at h
 |_=>simp[kS]at h
theorem zU{t:TypeId}{cs:Array Value}{xs:List AV}{off:Nat}{y:AV}(hn:cs.size=xs.length)(h1:∀i,i<cs.size→(cs.getD i undef).oneCell'=true)
  (hv:∀(i:Nat) (x:AV),xs[i]?=some x→VR w X ρ (cs.getD i undef) x) (h:partOf P t xs off=some y):∃v,(∀w,(part t cs off).run P w= .ok v w)∧VR w X ρ v y:=by
 obtain⟨v,hr,hrel⟩:=E9 (P:=P) hn h1 hv h;refine⟨v,fun w'=> ?_,hrel⟩;unfold partOf at h
 cases hs:bf P t with
 |none=>simp[hs]at h
 |some size=>
  cases ha:BV P t with
  |none=>simp[hs,ha]at h
  |some agg=>
   simp only[part,Sem.run_bind,EI ha,Result.andThen_ok]at hr ⊢
   cases agg with
   |true=>
    simp only[if_true,Sem.run_bind,bN hs,Result.andThen_ok,Sem.run_pure]at hr ⊢;cases hr;rfl
   |false=>
    simp only[alo,if_false]at hr ⊢
    cases hc:cs[off]? with
    |none=>simp[hc]at hr
    |some c=>simp only[hc,Sem.run_pure]at hr ⊢;cases hr;rfl
theorem HV:∀(d D:Nat),d≤D→∀(t:TypeId) (x y:AV) (v u:Value) (c:Bool),VR w X ρ v x→VR w X ρ u y→K6 P d t x y=some c→(Op.equalIn D t v u).run P w= .ok c w:=by
 intro d
 induction d with
 |zero=>intro D _ t x y v u c _ _ h;simp[K6]at h
 |succ d ih=>
  intro D hD t x y v u c hv hu h;obtain⟨D,rfl⟩:∃D',D=D'+1:=⟨D-1,by omega⟩
  have ih':=ih D (by omega);unfold K6 at h
  cases hd:P.underlying t with
  |none=>simp[hd]at h
  |some ty=>
   cases ty with
   |bool=>
    cases x<;>cases y<;>simp[hd]at h;have:=hv.iY;subst this;have:=hu.iY;subst this;subst h;simp[Op.equalIn,run_underlying hd]
   |int k=>
    cases x<;>cases y<;>simp[hd]at h;have:=hv.eY;subst this;have:=hu.eY;subst this;obtain⟨h1,h2⟩:=h;subst h1 h2;simp[Op.equalIn,run_underlying hd]
   |string=>
    cases x<;>cases y<;>simp[hd]at h;have:=hv.jM;subst this;have:=hu.jM;subst this;subst h;simp[Op.equalIn,run_underlying hd]
   |struct fs=>
    cases x<;>cases y<;>simp[hd]at h;rename_i xs ys;obtain⟨akV,rfl,hn,h1,hc⟩:=hv.kD;obtain⟨bs,rfl,hn',h1',hc'⟩:=hu.kD;obtain⟨hst,h⟩:=h
    have loop:∀(l:List Field) (c:Bool),eqFields P (K6 P d) xs ys l=some c→
      (forIn l ((none,()):Option Bool×Unit) fun f _=>do
       if f.name ≠ "_" then
        let a ←part f.type akV f.offset
        let b ←part f.type bs f.offset
        let q ←Op.equalIn D f.type a b
        if(!q)=true then pure (ForInStep.done (some false,()))else pure (ForInStep.yield (none,()))
       else pure (ForInStep.yield (none,())):Sem (Option Bool×Unit)).run P w= .ok (if c then(none,())else(some false,())) w:=by
     intro l
     induction l with
     |nil=>intro c h;simp[eqFields]at h;subst h;rfl
     |cons f r ihl=>
      intro c h;unfold eqFields at h;split at h
      ·cases h
      ·rename_i hname
       cases hp:partOf P f.type xs f.offset with
       |none=>simp[hp]at h
       |some a=>
        cases hq:partOf P f.type ys f.offset with
        |none=>simp[hp,hq]at h
        |some b=>
         simp only[hp,hq]at h;obtain⟨va,ra,ea⟩:=zU (P:=P) hn h1 hc hp;obtain⟨vb,rb,eb⟩:=zU (P:=P) hn' h1' hc' hq
         cases he:K6 P d f.type a b with
         |none=>simp[he]at h
         |some c1=>
          cases hr:eqFields P (K6 P d) xs ys r with
          |none=>simp[he,hr]at h
          |some c2=>
           simp only[he,hr,alg]at h;subst h;have e1:=ih' f.type a b va vb c1 ea eb he;rw[List.forIn_cons];simp only[ne_eq,hname,amG,if_true,Sem.run_bind,ra,rb,Result.andThen_ok,e1]
           cases c1 with
           |true=>simpa using ihl c2 hr
           |false=>simp
    have hl:=loop fs.toList c h;simp only[Op.equalIn,Sem.run_bind,run_underlying hd,Result.andThen_ok,run_program,hst,alo,if_false];rw[←Array.forIn_toList,hl];cases c<;>rfl
   |array n e=>
    cases x<;>cases y<;>simp[hd]at h;rename_i xs ys;obtain⟨akV,rfl,hn,h1,hc⟩:=hv.kD;obtain⟨bs,rfl,hn',h1',hc'⟩:=hu.kD
    cases hs:bf P e with
    |none=>simp[hs]at h
    |some size=>
     simp only[hs]at h
     have loop:∀(m i:Nat) (c:Bool),pG P (K6 P d) e size xs ys m i=some c→
       (forIn (List.range' i m) ((none,()):Option Bool×Unit) fun i _=>do
        let a ←part e akV (i*size)
        let b ←part e bs (i*size)
        let q ←Op.equalIn D e a b
        if(!q)=true then pure (ForInStep.done (some false,()))else pure (ForInStep.yield (none,())):Sem (Option Bool×Unit)).run P w= .ok (if c then(none,())else(some false,())) w:=by
      intro m
      induction m with
      |zero=>intro i c h;simp[pG]at h;subst h;rfl
      |succ m ihm=>
       intro i c h;unfold pG at h
       cases hp:partOf P e xs (i*size)with
       |none=>simp[hp]at h
       |some a=>
        cases hq:partOf P e ys (i*size)with
        |none=>simp[hp,hq]at h
        |some b=>
         simp only[hp,hq]at h;obtain⟨va,ra,ea⟩:=zU (P:=P) hn h1 hc hp;obtain⟨vb,rb,eb⟩:=zU (P:=P) hn' h1' hc' hq
         cases he:K6 P d e a b with
         |none=>simp[he]at h
         |some c1=>
          cases hr:pG P (K6 P d) e size xs ys m (i+1)with
          |none=>simp[he,hr]at h
          |some c2=>
           simp only[he,hr,alg]at h;subst h;have e1:=ih' e a b va vb c1 ea eb he;rw[List.range'_succ,List.forIn_cons];simp only[Sem.run_bind,ra,rb,Result.andThen_ok,e1]
           cases c1 with
           |true=>simpa using ihm (i+1) c2 hr
           |false=>simp
     have hl:=loop n 0 c h;simp only[Op.equalIn,Sem.run_bind,run_underlying hd,Result.andThen_ok,bN hs];rw[Std.Legacy.Range.forIn_eq_forIn_range'];simp only[Std.Legacy.Range.size,Nat.sub_zero,Nat.add_sub_cancel,Nat.div_one];rw[hl];cases c<;>rfl
   |_=>cases x<;>cases y<;>simp[hd]at h
theorem Np{t:TypeId}{x y:AV}{v u:Value}{c:Bool}{op:BinOp}(hop:op= .eql∨op= .neq){ox oy:Operand}(hv:VR w X ρ v x)(hu:VR w X ρ u y)(h:Di P t x y=some c):
  (do eqGuard op t ox oy v u;binOp op t v u:Sem Value).run P w= .ok (.bool (if op= .eql then c else !c)) w:=by
 unfold Di at h
 have fin:∀v u:Value,(∀w,(eqGuard op t ox oy v u).run P w= .ok () w)→(binOp op t v u=match op with| .eql=>(do pure (.bool (←Op.equal t v u)):Sem Value)|_=>(do pure (.bool (!(←Op.equal t v u))):Sem Value))→
   (Op.equal t v u).run P w= .ok c w→(do eqGuard op t ox oy v u;binOp op t v u:Sem Value).run P w= .ok (.bool (if op= .eql then c else !c)) w:=by
  intro v u h1 h2 h3;rw[Sem.run_bind,h1,Result.andThen_ok,h2];rcases hop with rfl|rfl
  ·simp[h3]
  ·simp[h3]
 cases x<;>cases y<;>simp at h
 ·have e1:=hv.iY;subst e1;have e2:=hu.iY;subst e2;refine fin _ _ (fun w=> ?_) ?_ (HV 8 10000 (by decide) t _ _ _ _ c hv hu h)
  ·unfold eqGuard;split<;>rfl
  ·rcases hop with rfl|rfl<;>rfl
 ·rename_i xs ys;obtain⟨akV,rfl,_⟩:=hv.kD;obtain⟨bs,rfl,_⟩:=hu.kD;refine fin _ _ (fun w=> ?_) ?_ (HV 8 10000 (by decide) t _ _ _ _ c hv hu h.2)
  ·unfold eqGuard;split<;>simp[h.1]
  ·rcases hop with rfl|rfl<;>rfl
theorem Je{op:BinOp}{t:TypeId}{x y z:AV}{v u:Value}{ox oy:Operand}(hv:VR w X ρ v x)(hu:VR w X ρ u y)(h:ou P op t x y=some z):
  ∃r,(do eqGuard op t ox oy v u;binOp op t v u:Sem Value).run P w= .ok r w∧VR w X ρ r z:=by
 unfold ou at h
 cases hb:kS op x y with
 |some v'=>simp only[hb]at h;cases h;exact Mw hv hu hb
 |none=>
  simp only[hb]at h
  cases op<;>simp only at h<;>first
   |cases h
   | (obtain⟨c,hc,rfl⟩:=alf.1 h
      exact⟨_,Np (by simp) hv hu hc,.pur _ _ (by simpa using PR.bool _)⟩)
theorem Km{op:BinOp}{t:TypeId}{x z:AV}{v u:Value}{ox oy:Operand}(hv:VR w X ρ v x)(hu:∀c,oy= .const c→u=c)(h:J8 P op t x oy=some z):
  ∃r,(do eqGuard op t ox oy v u;binOp op t v u:Sem Value).run P w= .ok r w∧VR w X ρ r z:=by
 unfold J8 at h;split at h
 ·rename_i e b ht;cases h;cases hu _ rfl
  cases hv with
  |pur v x h=>cases h with
   |slc a cap=>
    refine⟨_,?_,.pur _ _ (.bool _)⟩;have hg:(eqGuard .eql t ox (.const (.slice none 0 0)) (.slice a 0 cap) (.slice none 0 0)).run P w= .ok () w:=rfl;rw[Sem.run_bind,hg,Result.andThen_ok];exact Lib.run_eql_slice_nil w t e a 0 cap 0 0 ht
 ·rename_i e sz y ys tight ht;cases h;cases hu _ rfl
  cases hv with
  |pur v x h=>cases h with
   |eO b o n cap sz t' xs f hn hc ht' hsz hx hr=>
    refine⟨_,?_,.pur _ _ (.bool _)⟩;have hg:(eqGuard .eql t ox (.const (.slice none 0 0)) (.slice (some ⟨b,o,none⟩) n cap) (.slice none 0 0)).run P w= .ok () w:=rfl;rw[Sem.run_bind,hg,Result.andThen_ok];exact Lib.run_eql_slice_nil w t e (some ⟨b,o,none⟩) n cap 0 0 ht
 ·cases h
theorem Kg{op:BinOp}{t:TypeId}{x y z:AV}{v u:Value}{ox oy:Operand}(hv:VR w X ρ v x)(hu:VR w X ρ u y)(hu':∀c,oy= .const c→u=c)(h:Cm P op t x y oy=some z):
  ∃r,(do eqGuard op t ox oy v u;binOp op t v u:Sem Value).run P w= .ok r w∧VR w X ρ r z:=by
 unfold Cm at h;split at h
 ·rename_i z' hz;cases h;exact Je hv hu hz
 ·exact Km hv hu' h
theorem Pm{op:UnOp}{x z:AV}{v:Value}(hv:VR w X ρ v x)(h:aal op x=some z):∃r,(Op.unary op v).run P w= .ok r w∧VR w X ρ r z:=by
 unfold aal at h;cases op<;>cases x<;>simp at h
 all_goals
  first
   |(have:=hv.eY;subst this;subst h;exact⟨_,by simp[Op.unary,Op.intArith],.pur _ _ (.int _ _)⟩)
   |(have:=hv.iY;subst this;subst h;exact⟨_,by simp[Op.unary],.pur _ _ (.bool _)⟩)
theorem D6{a b:TypeId}{x z:AV}{v:Value}(hv:VR w X ρ v x)(h:nV P a b x=some z):∃r,(convert a b v).run P w= .ok r w∧VR w X ρ r z:=by
 unfold nV at h
 cases ha:P.underlying a with
 |none=>simp[ha]at h
 |some da=>
  cases hb:P.underlying b with
  |none=>simp[ha,hb]at h
  |some db=>
   cases da<;>cases db<;>cases x<;>simp[ha,hb]at h
   ·have:=hv.eY;subst this;subst h;exact⟨_,by simp[convert,run_underlying ha,run_underlying hb,Conv.intToInt],.pur _ _ (.int _ _)⟩
   ·have:=hv.jM;subst this;subst h;exact⟨_,by simp[convert,run_underlying ha,run_underlying hb],.pur _ _ (.str _)⟩
theorem NE{t:TypeId}{x z:AV}{v:Value}(hv:VR w X ρ v x)(h:Ma P t x=some z)(ty:TypeId):∃r,(Builtin.len_ #[t] ty #[v]).run P w= .ok r w∧VR w X ρ r z:=by
 unfold Ma at h
 cases ha:P.underlying t with
 |none=>simp[ha]at h
 |some d=>
  cases d<;>cases x<;>simp[ha]at h
  all_goals try subst h
  all_goals
   first
    |(have:=hv.jM;subst this;exact⟨_,by simp[Builtin.len_,run_underlying ha,goInt],.pur _ _ (.int _ _)⟩)
    |(obtain⟨a,cap,rfl,_,_,_⟩:=hv.oD;exact⟨_,by simp[Builtin.len_,run_underlying ha,goInt],.pur _ _ (.int _ _)⟩)
    |(rcases hv.jV with⟨a,rfl,rfl⟩|⟨b,cap,rfl,_⟩<;>exact⟨_,by simp[Builtin.len_,run_underlying ha,goInt],.pur _ _ (.int _ _)⟩)
    |(exact⟨_,by simp[Builtin.len_,run_underlying ha,goInt],.pur _ _ (.int _ _)⟩)
theorem Qu:∀(l:List AV) (x:AV) (z:AV) (v:Value) (vs:List Value),VR w X ρ v x→vs.length=l.length→(∀(i:Nat) (y:AV),l[i]?=some y→∃u,vs[i]?=some u∧VR w X ρ u y)→Pw x l=some z→
  ∃r,(vs.foldlM Builtin.min2 v).run P w= .ok r w∧VR w X ρ r z:=by
 intro l
 induction l with
 |nil=>
  intro x z v vs hv hl _ h;have:vs=[]:=amc hl;subst this;cases x<;>simp[Pw]at h<;>subst h<;>exact⟨_,rfl,hv⟩
 |cons y r ih=>
  intro x z v vs hv hl hr h
  cases vs with
  |nil=>simp at hl
  |cons u us=>
   obtain⟨u',hu',hrel⟩:=hr 0 y rfl;simp at hu';subst hu';cases x<;>cases y<;>simp[Pw]at h;have e1:=hv.eY;subst e1;have e2:=hrel.eY;subst e2;obtain⟨rfl,h⟩:=h;obtain⟨q,hq,hqr⟩:=ih _ z (.int _ _) us (.pur _ _ (.int _ _)) (by simpa using hl) (fun i y hi=>by simpa using hr (i+1) y hi) h;refine⟨q,?_,hqr⟩;simp only[List.foldlM_cons,Sem.run_bind,Builtin.min2,Sem.run_pure,Result.andThen_ok];exact hq
theorem OT:∀(l:List AV) (x:AV) (z:AV) (v:Value) (vs:List Value),VR w X ρ v x→vs.length=l.length→(∀(i:Nat) (y:AV),l[i]?=some y→∃u,vs[i]?=some u∧VR w X ρ u y)→Pq x l=some z→
  ∃r,(vs.foldlM Builtin.max2 v).run P w= .ok r w∧VR w X ρ r z:=by
 intro l
 induction l with
 |nil=>
  intro x z v vs hv hl _ h;have:vs=[]:=amc hl;subst this;cases x<;>simp[Pq]at h<;>subst h<;>exact⟨_,rfl,hv⟩
 |cons y r ih=>
  intro x z v vs hv hl hr h
  cases vs with
  |nil=>simp at hl
  |cons u us=>
   obtain⟨u',hu',hrel⟩:=hr 0 y rfl;simp at hu';subst hu';cases x<;>cases y<;>simp[Pq]at h;have e1:=hv.eY;subst e1;have e2:=hrel.eY;subst e2;obtain⟨rfl,h⟩:=h;obtain⟨q,hq,hqr⟩:=ih _ z (.int _ _) us (.pur _ _ (.int _ _)) (by simpa using hl) (fun i y hi=>by simpa using hr (i+1) y hi) h;refine⟨q,?_,hqr⟩;simp only[List.foldlM_cons,Sem.run_bind,Builtin.max2,Sem.run_pure,Result.andThen_ok];exact hq
theorem q8{o:Option AV}{vo:Option Value}{dflt l:Nat}(hrel:match o,vo with|none,none=>True|some x,some v=>VR w X ρ v x|_,_=>False)(h:bound o dflt=some l):
  (o=none∧vo=none∧l=dflt)∨∃k,vo=some (.int k l):=by
 cases o with
 |none=>
  cases vo with
  |none=>simp[bound]at h;exact .inl ⟨rfl,rfl,h.symm⟩
  |some v=>exact hrel.elim
 |some x=>
  cases vo with
  |none=>exact hrel.elim
  |some v=>
   cases x<;>simp[bound]at h;rename_i k n;have e:=VR.eY hrel;subst e;refine .inr ⟨k,?_⟩;rw[←h.2,Int.toNat_of_nonneg h.1]
theorem uW(k:IntKind)(l y:Nat)(c:BoundsCode)(h:l≤y)(w:World):(Instr.sliceBound (.int k l) y c).run P w= .ok l w:=by
 simp[Instr.sliceBound,asIntOf,h]
theorem PR.piece{sz:Nat}{xs:List AV}{t t':Bool}{a:Option Addr}{cap l h:Nat}{m:Nat}(hp:PR w X (.slice a xs.length cap) (.eO sz xs t))(hlh:l≤h)(hh:h≤xs.length)(hm:h≤m)
  (ht:t'=true→m-l=h-l):
  PR w X (.slice (if m=l then a else a.map (·.add (l*sz))) (h-l) (m-l)) (.eO sz ((xs.drop l).take (h-l)) t'):=by
 by_cases h0:h-l=0
 ·rw[h0];simp only[amH];exact .lst0 _ _ _ _ (fun e=>by rw[ht e,h0])
 ·have hml:m≠l:=by omega
  rw[if_neg hml];generalize hn:xs.length=n at hp
  cases hp with
  |lst0=>simp at hh;omega
  |eO b o _ cap _ _ _ f hn' hc ht' hsz hx hr=>
   simp only[al4,addr_add];have hlen:((xs.drop l).take (h-l)).length=h-l:=by simp;omega
   have hget:∀i x,((xs.drop l).take (h-l))[i]?=some x→xs[l+i]?=some x:=by
    intro i x hi;rw[amA,amw]at hi;split at hi
    ·exact hi
    ·cases hi
   refine .eO b (o+l*sz) (h-l) (m-l) sz t' _ (fun i j=>f (l+i) j) hlen (by omega) ht (fun i x hi=>hsz _ _ (hget i x hi)) (fun i x hi j u hj=> ?_) (fun i x hi j u hj=>hr _ _ (hget i x hi) j u hj);have:=hx _ _ (hget i x hi) j u hj;rw[show o+l*sz+(i*sz+j)=o+((l+i)*sz+j) by rw[alX];omega];exact this
def Ju(w:World)(X:XT)(ρ:dP)(o:Option AV)(v:Option Value):Prop:=
 match o,v with
 |none,none=>True
 |some x,some v=>VR w X ρ v x
 |_,_=>False
theorem ni(isSlice:Bool){lo hi:Option AV}{vl vh:Option Value}{len cap l h:Nat}(hl:Ju w X ρ lo vl)(hh:Ju w X ρ hi vh)
  (h1:bound lo 0=some l) (h2:bound hi len=some h) (hlh:l≤h) (hhc:h≤cap):(Instr.sliceBounds isSlice len cap vl vh none).run P w= .ok (l,h,cap) w:=by
 unfold Instr.sliceBounds;rcases q8 hl h1 with⟨rfl,rfl,rfl⟩|⟨k,rfl⟩<;>rcases q8 hh h2 with⟨rfl,rfl,rfl⟩|⟨k',rfl⟩<;>
  simp[uW,hlh,hhc]
theorem rH{lo hi mx:Option AV}{vl vh vm:Option Value}{x:AV}{len cap l h m:Nat}(hl:Ju w X ρ lo vl)(hh:Ju w X ρ hi vh)(hm:Ju w X ρ mx vm)
  (h1:bound lo 0=some l) (h2:bound hi len=some h) (hx:mx=some x) (h3:bound (some x) 0=some m) (hlh:l≤h) (hhm:h≤m) (hmc:m≤cap) (hhi:hi.isSome=true):(Instr.sliceBounds true len cap vl vh vm).run P w= .ok (l,h,m) w:=by
 unfold Instr.sliceBounds;subst hx;rcases q8 (o:=some x) hm h3 with⟨h,_⟩|⟨km,rfl⟩
 ·cases h
 rcases q8 hl h1 with⟨rfl,rfl,rfl⟩|⟨k,rfl⟩<;>rcases q8 hh h2 with⟨rfl,rfl,rfl⟩|⟨k',rfl⟩<;>
  first
   |(simp at hhi;done)
   |(simp[uW,hlh,hhm,hmc];done)
theorem jC.eO{b:Nat}{k:cB}{X':XT}(hb:jC w X ρ b k)(hs0:0<k.sz)(hbox:k.box=false)(hsub:∀c o,X' c o→X c o)(hX:∀o,o<k.elems.length*k.sz→¬ X' b o)
  {off len cap:Nat} {t:Bool} (hl:off+len≤k.elems.length) (hc:len≤cap) (ht:t=true→cap=len):
  PR w X' (.slice (some ⟨b,off*k.sz,none⟩) len cap) (.eO k.sz ((k.elems.drop off).take len) t):=by
 obtain⟨cs,T,hh,hle,he⟩:=hb.cells hs0;have hlen:((k.elems.drop off).take len).length=len:=by simp;omega
 have hget:∀i x,((k.elems.drop off).take len)[i]?=some x→k.elems[off+i]?=some x:=by
  intro i x hi;rw[amA,amw]at hi;split at hi
  ·exact hi
  ·cases hi
 have hst:Stable w X w X':=(Stable.refl w X).less fun c o _ h=>hsub c o h
 refine .eO b (off*k.sz) len cap k.sz t _ (fun i j=>cs.getD ((off+i)*k.sz+j) undef) hlen hc ht (fun i x hi=>(he _ _ (hget i x hi)).1) (fun i x hi j u hj=> ?_) (fun i x hi j u hj=> ?_)
 ·have hx:=hget i x hi;have hilt:off+i<k.elems.length:=(akX.1 hx).1;have hjlt:j<k.sz:=by rw[←(he _ _ hx).1];exact(akX.1 hj).1
  have hlt:(off+i)*k.sz+j<k.elems.length*k.sz:=by
   have:(off+i+1)*k.sz≤k.elems.length*k.sz:=alq _ hilt;rw[alX]at this;omega
  have e:off*k.sz+(i*k.sz+j)=(off+i)*k.sz+j:=by rw[alX];omega
  rw[e];refine⟨hX _ hlt,?_,((he _ _ hx).2 j u hj).1⟩;rw[cell_of_row w b _ cs T (0,0) hh];have:(off+i)*k.sz+j<cs.size:=am0 hlt hle;simp[ala,this]
 ·have h:=((he _ _ (hget i x hi)).2 j u hj).2;rw[hbox]at h;exact PR.mono hst h
structure Still(Y:XT)(w:World)(ρ:dP)(H:Heap)(r:iD)(v:Value):Prop where
 new:r.new=[]
 less:Less (aP H r.wr) H
 val:VR w (XU Y ρ (aP H r.wr)) ρ v r.val
theorem Still.quiet{H:Heap}{v:Value}{x:AV}{rd:List Nm}(h:VR w (XU Y ρ H) ρ v x):Still Y w ρ H {val:=x,rd:=rd} v:=⟨rfl,Less.refl H,h⟩
theorem Et{H:Heap}(hr:HR Y w ρ H){g:Nm}{k:cB}(hg:get H g=some k){b:Nat}(hρ:ρ g=some b){H':Heap}(hl:Less H' H)
  (hs:∀k',get H' g=some k'→k.elems.length≤k'.jw) (o:Nat) (ho:o<k.elems.length*k.sz):¬ XU Y ρ H' b o:=by
 intro hh;obtain⟨g',k',hg',hρ',h⟩:XX ρ H' b o:=hh.resolve_right (hr.sep g k b o hg hρ);obtain⟨k0,h0,h1,_,_,h4⟩:=hl.sub g' k' hg';have e:=hr.inj g' g k0 k b h0 hg hρ' hρ;subst e;rw[hg]at h0;cases h0;have h2:=hs k' hg';rw[h1]at h;have:k.elems.length*k.sz≤k'.jw*k.sz:=alq _ h2;omega
theorem rz(H0:Heap)(g:Nm):∀(l:List Nm) (H:Heap),g∉l→get (aP H (stops H0 l)) g=get H g:=by
 intro l
 induction l with
 |nil=>intro H _;rfl
 |cons a r ih=>
  intro H h;simp only[alN,not_or]at h
  show get (aP (set H a ((get H0 a).map cB.stop)) (stops H0 r)) g=_
  rw[ih _ h.2,lu h.1]
theorem qQ(H0:Heap)(g:Nm){k:cB}(hk:get H0 g=some k):∀(l:List Nm) (H:Heap),g∈l→∀k',get (aP H (stops H0 l)) g=some k'→k.elems.length≤k'.jw:=by
 intro l
 induction l with
 |nil=>intro H h;simp at h
 |cons a r ih=>
  intro H h k' hk'
  change get (aP (set H a ((get H0 a).map cB.stop)) (stops H0 r)) g=some k' at hk'
  by_cases hr:g∈r
  ·exact ih _ hr k' hk'
  ·have ha:g=a:=by simpa[hr]using h
   subst ha;rw[rz H0 g r _ hr,oZ]at hk';split at hk'
   ·rw[hk]at hk';cases hk';exact Nat.le_max_right _ _
   ·rename_i hne
    exfalso
    apply hne;exact⟨rfl,pz hk'⟩
theorem GA{H:Heap}(hr:HR Y w ρ H){t:TypeId}{x:AV}{v:Value}{lo hi mx:Option AV}{vl vh vm:Option Value}{r:iD}(hv:VR w (XU Y ρ H) ρ v x)
  (hl:Ju w (XU Y ρ H) ρ lo vl) (hh:Ju w (XU Y ρ H) ρ hi vh) (hm:Ju w (XU Y ρ H) ρ mx vm) (h:gH P t x lo hi mx H=some r):
  ∃u,(Instr.sliceAt t v vl vh vm).run P w= .ok u w∧Still Y w ρ H r u:=by
 unfold gH at h
 cases hd:P.underlying t with
 |none=>simp[hd]at h
 |some d=>
  cases d with
  |string=>
   cases x with
   |str s=>
    have e:=hv.jM;subst e;simp only[hd]at h
    cases mx with
    |some m=>simp at h
    |none=>
     cases h1:bound lo 0 with
     |none=>simp[h1]at h
     |some l=>
      cases h2:bound hi s.size with
      |none=>simp[h1,h2]at h
      |some hh'=>
       simp only[h1,h2]at h;split at h
       ·rename_i hc;cases h
        cases vm with
        |some _=>exact hm.elim
        |none=>
         refine⟨.string (s.extract l hh'),?_,.quiet (.pur _ _ (.str _))⟩;have hb:=ni (P:=P) false hl hh h1 h2 hc.1 hc.2;simp[Instr.sliceAt,Instr.slice,run_underlying hd,hb]
       ·cases h
   |_=>simp[hd]at h
  |slice e=>
   cases x with
   |eO sz xs tight=>
    obtain⟨a,cap,rfl,hcap,htight,hp⟩:=hv.oD;simp only[hd]at h;split at h
    ·rename_i hsz
     obtain⟨n,hn⟩:∃n,bf P e=some n:=by
      cases hx:bf P e with
      |none=>simp[hx]at hsz
      |some n=>exact⟨n,rfl⟩
     have hsz':n=sz∨xs=[]:=by
      simp only[hn,Option.isSome_some,alL,amF,alM,alg,List.isEmpty_iff]at hsz;exact hsz
     have out:∀l hh' m t',l≤hh'→hh'≤xs.length→hh'≤m→(t'=true→m-l=hh'-l)→
       PR w (XU Y ρ H) (.slice (if m=l then a else a.map (·.add (l*n))) (hh'-l) (m-l)) (.eO (Bd sz ((xs.drop l).take (hh'-l))) ((xs.drop l).take (hh'-l)) t'):=by
      intro l hh' m t' a1 a2 a3 a4;refine PR.canon ?_;rcases hsz' with rfl|rfl
      ·exact hp.piece a1 a2 a3 a4
      ·have:hh'-l=0:=by simp at a2;omega
       rw[this];simp only[amH];exact .lst0 _ _ _ _ (fun e=>by rw[a4 e,this])
     cases mx with
     |none=>
      cases h1:bound lo 0 with
      |none=>simp[h1]at h
      |some l=>
       cases h2:bound hi xs.length with
       |none=>simp[h1,h2]at h
       |some hh'=>
        simp only[h1,h2]at h;split at h
        ·rename_i hc;cases h
         cases vm with
         |some _=>exact hm.elim
         |none=>
          have hb:=ni (P:=P) true hl hh h1 h2 hc.1 (alS hc.2 hcap);refine⟨.slice (if cap=l then a else a.map (·.add (l*n))) (hh'-l) (cap-l),?_,.quiet (.pur _ _ (out l hh' cap _ hc.1 hc.2 (alS hc.2 hcap) (fun e=> ?_)))⟩
          ·simp[Instr.sliceAt,Instr.slice,run_underlying hd,hb,bN hn]
          ·simp only[alu]at e
           cases hi with
           |some _=>simp at e
           |none=>simp[bound]at h2;rw[htight e.1,h2]
        ·cases h
     |some mv=>
      cases h1:bound lo 0 with
      |none=>simp[h1]at h
      |some l=>
       cases h2:bound hi xs.length with
       |none=>simp[h1,h2]at h
       |some hh'=>
        cases h3:bound (some mv) 0 with
        |none=>simp[h1,h2,h3]at h
        |some m=>
         simp only[h1,h2,h3]at h;split at h
         ·rename_i hc;cases h;have hb:=rH (P:=P) (cap:=cap) hl hh hm h1 h2 rfl h3 hc.1 hc.2.1 (by omega) hc.2.2.2;refine⟨.slice (if m=l then a else a.map (·.add (l*n))) (hh'-l) (m-l),?_,.quiet (.pur _ _ (out l hh' m _ hc.1 (by omega) hc.2.1 (fun e=> ?_)))⟩
          ·simp[Instr.sliceAt,Instr.slice,run_underlying hd,hb,bN hn]
          ·rw[beq_iff_eq]at e;rw[e]
         ·cases h
    ·cases h
   |own g sz off len=>
    simp only[hd]at h;split at h
    ·rename_i hsz
     cases mx with
     |none=>
      cases h1:bound lo 0 with
      |none=>simp[h1]at h
      |some l=>
       cases h2:bound hi len with
       |none=>simp[h1,h2]at h
       |some hh'=>
        simp only[h1,h2]at h;split at h
        ·rename_i hc;cases h
         cases vm with
         |some _=>exact hm.elim
         |none=>
          rcases hv.jV with⟨a,rfl,rfl⟩|⟨b,cap,rfl,hρ,hb,hlc,hk⟩
          ·have hb:=ni (P:=P) true (cap:=0) hl hh h1 h2 hc.1 hc.2;have e1:l=0:=by omega
           have e2:hh'=0:=by omega
           subst e1 e2;refine⟨.slice a 0 0,?_,.quiet (.own0 _ _ _ _)⟩;simp[Instr.sliceAt,Instr.slice,run_underlying hd,hb,bN hsz]
          ·have hb':=ni (P:=P) true (cap:=cap) hl hh h1 h2 hc.1 (by omega);refine⟨.slice (if cap=l then some ⟨b,off*sz,none⟩else some ⟨b,off*sz+l*sz,none⟩) (hh'-l) (cap-l),?_,.quiet ?_⟩
           ·simp[Instr.sliceAt,Instr.slice,run_underlying hd,hb',bN hsz,addr_add]
           ·by_cases e:cap=l
            ·have e1:hh'-l=0:=by omega
             have e2:cap-l=0:=by omega
             rw[e1,e2];exact .own0 _ _ _ _
            ·rw[if_neg e,←alX];refine .own _ _ _ _ _ _ hρ hb (by omega) ?_
             have:(off+l)*sz+(cap-l)*sz=off*sz+cap*sz:=by
              rw[←alX,←alX];congr 1;omega
             omega
        ·cases h
     |some mv=>
      cases h1:bound lo 0 with
      |none=>simp[h1]at h
      |some l=>
       cases h2:bound hi len with
       |none=>simp[h1,h2]at h
       |some hh'=>
        cases h3:bound (some mv) 0 with
        |none=>simp[h1,h2,h3]at h
        |some m=>
         cases hg:get H g with
         |none=>simp[h1,h2,h3,hg]at h
         |some k=>
          simp only[h1,h2,h3,hg]at h;split at h
          ·rename_i hc;obtain⟨c1,c2,c3,c4,c5,c6,c7,c8⟩:=hc;cases h;have hless:Less (aP H (stops H [g])) H:=Less.stops [g] H (Less.refl H);rcases hv.jV with⟨a,rfl,rfl⟩|⟨b,cap,rfl,hρ,hb,hlc,hk⟩
           ·have hb:=rH (P:=P) (cap:=0) hl hh hm h1 h2 rfl h3 c1 c2 (by omega) c7;have e1:l=0:=by omega
            have e2:hh'=0:=by omega
            have e3:m=0:=by omega
            subst e1 e2 e3;refine⟨.slice a 0 0,?_,rfl,hless,?_⟩
            ·simp[Instr.sliceAt,Instr.slice,run_underlying hd,hb,bN hsz]
            ·simp only[Nat.sub_self,amH];exact .pur _ _ (.lst0 _ _ _ _ (fun _=>rfl))
           ·have hb':=rH (P:=P) (cap:=cap) hl hh hm h1 h2 rfl h3 c1 c2 (by omega) c7;refine⟨.slice (if m=l then some ⟨b,off*sz,none⟩else some ⟨b,off*sz+l*sz,none⟩) (hh'-l) (m-l),?_,rfl,hless,?_⟩
            ·simp[Instr.sliceAt,Instr.slice,run_underlying hd,hb',bN hsz,addr_add]
            ·by_cases e:m=l
             ·have e1:hh'-l=0:=by omega
              have e2:m-l=0:=by omega
              rw[e1,e2];simp only[amH];exact .pur _ _ (.lst0 _ _ _ _ (fun _=>rfl))
             ·rw[if_neg e,←alX];subst c6;refine .pur _ _ (PR.canon ((hr.at hg hρ).eO c8 c5 (fun _ _ h=>hless.xu h) (Et hr hg hρ hless (fun k' hk'=>qQ H g hg [g] H (by simp) k' hk')) (by omega) (by omega) (fun e=> ?_)));rw[beq_iff_eq]at e;rw[e]
          ·cases h
    ·cases h
   |_=>simp[hd]at h
  |_=>cases x<;>simp[hd]at h
end
def Wz(w:World)(X:XT)(l:List (Int×FuncId×List FuncId))(L:List MapEntry):Prop:=
 L.length=l.length∧∀(i:Nat) (k:Int) (f:FuncId) (gs:List FuncId),l[i]?=some (k,f,gs)→∃(e:MapEntry) (cs:Array Value),L[i]?=some e∧e.key= .int .i64 k∧e.val= .func (.func f) #[] cs∧cs.size=gs.length∧
  ∀(j:Nat) (g:FuncId),gs[j]?=some g→∃b,cs.getD j undef= .pointer (some ⟨b,0,none⟩)∧¬ X b 0∧w.cell? ⟨b,0,none⟩=some (.func (.func g) #[] #[])
theorem aaP{w:World}{X:XT}{ρ:dP}(n:Int):∀(l:List (Int×FuncId×List FuncId)) (L:List MapEntry) (i:Nat),Wz w X l L→
  (∃j v,Instr.findNow (.int .i64) (.int .i64 n) L i=some (some (j,v))∧(vY l n).2=true∧VR w X ρ v (vY l n).1)∨(Instr.findNow (.int .i64) (.int .i64 n) L i=some none∧vY l n=(.nilf,false)):=by
 intro l
 induction l with
 |nil=>
  intro L i h;have:L=[]:=am6.1 h.1;subst this;exact .inr ⟨rfl,rfl⟩
 |cons p l ih=>
  intro L i h;obtain⟨k,f,gs⟩:=p;obtain⟨h1,h2⟩:=h
  cases L with
  |nil=>simp at h1
  |cons e L=>
   obtain⟨e',cs,e1,e2,e3,e4,e5⟩:=h2 0 k f gs rfl;simp only[List.getElem?_cons_zero,alg]at e1;subst e1;by_cases hn:n=k
   ·left;refine⟨i,e.val,?_,?_,?_⟩
    ·simp[Instr.findNow,Instr.sameNow,e2,hn]
    ·simp[vY,hn]
    ·simp only[vY,if_pos hn];rw[e3];refine .clo f cs _ (by simp[e4]) (fun j x hj=> ?_);rw[ale]at hj;obtain⟨g,hg,rfl⟩:=alf.1 hj;obtain⟨b,b1,b2,b3⟩:=e5 j g hg;rw[b1];exact .pur _ _ (.fp b g b2 b3)
   ·have hf:vY ((k,f,gs)::l) n=vY l n:=by simp[vY,hn]
    have hr:Wz w X l L:=⟨by simpa using h1,fun j k' f' gs' hj=>by simpa using h2 (j+1) k' f' gs' (by simpa using hj)⟩
    have hstep:Instr.findNow (.int .i64) (.int .i64 n) (e::L) i=Instr.findNow (.int .i64) (.int .i64 n) L (i+1):=by
     have hb:(n==k)=false:=by simpa using hn
     simp only[Instr.findNow,Instr.sameNow,e2,if_true,hb]
    rw[hf,hstep];exact ih L (i+1) hr
theorem F9{P:Program}{w:World}{X:XT}{ρ:dP}{t:TypeId}{m k y:AV}{mv kv:Value}{ok:Bool}(hm:VR w X ρ mv m)(hk:VR w X ρ kv k)(h:oQ P t m k ok=some y):
  ∃u,(Instr.lookup t mv kv ok).run P w= .ok u w∧VR w X ρ u y:=by
 unfold oQ at h;split at h
 ·rename_i kt et l n hu;split at h
  ·rename_i hkt hz;cases h
   have hkv:kv= .int .i64 n:=by
    cases hk with
    |pur v x hp=>cases hp;rfl
   subst hkv;obtain⟨z,hz1,hz2,_⟩:=nU hz w
   cases hm with
   |pur v x hp=>
    cases hp with
    |fm r _ es clock hX hobj hlen hent=>
     have hrel:Wz w X l es.toList:=⟨by simpa using hlen,fun i k' f gs hi=>by
      obtain⟨e,cs,q1,q2⟩:=hent i k' f gs hi;exact⟨e,cs,by simpa using q1,q2⟩⟩
     have hg:(getObj r).run P w= .ok (.map es clock) w:=by simp[getObj,Sem.run,hobj]
     have hck:(Instr.checkKey es.isEmpty 10000 kt (.int .i64 n)).run P w= .ok () w:=by
      rw[show(10000:Nat)=9999+1 from rfl];unfold Instr.checkKey;simp only[Sem.run_bind,run_underlying hkt,Result.andThen_ok];rfl
     rcases aaP (ρ:=ρ) n l es.toList 0 hrel with⟨j,v,q1,q2,q3⟩|⟨q1,q2⟩
     ·have hfk:(Instr.findKey kt (.int .i64 n) es.toList).run P w= .ok (some (j,v)) w:=by
       simp[Instr.findKey,run_underlying hkt,q1]
      refine⟨if ok then .tuple #[v,.bool true]else v,?_,?_⟩
      ·simp[Instr.lookup,run_underlying hu,hg,hck,hfk]
      ·cases ok
       ·exact q3
       ·rw[q2];simp only[if_true];refine .tup _ _ rfl (fun i x hi=> ?_)
        match i,hi with
        |0,hi=>simp at hi;subst hi;exact q3
        |1,hi=>simp at hi;subst hi;exact .pur _ _ (.bool _)
     ·have hfk:(Instr.findKey kt (.int .i64 n) es.toList).run P w= .ok none w:=by
       simp[Instr.findKey,run_underlying hkt,q1]
      have hzr:VR w X ρ z .nilf:=by rw[hz2];exact .pur _ _ (rG w X z)
      refine⟨if ok then .tuple #[z,.bool false]else z,?_,?_⟩
      ·simp[Instr.lookup,run_underlying hu,hg,hck,hfk,hz1]
      ·rw[q2];cases ok
       ·exact hzr
       ·simp only[if_true];refine .tup _ _ rfl (fun i x hi=> ?_)
        match i,hi with
        |0,hi=>simp at hi;subst hi;exact hzr
        |1,hi=>simp at hi;subst hi;exact .pur _ _ (.bool _)
  ·cases h
 ·cases h
theorem uO(w:World)(o:Obj)(i:Nat)(h:i<w.heap.size):(w.alloc o).heap[i]?=w.heap[i]?:=by
 show(w.heap.push o)[i]?=w.heap[i]?
 rw[Array.getElem?_push,if_neg (by omega)]
section
variable{P:Program}{w:World}{X Y:XT}{ρ:dP}
def Shut(Y:XT)(ρ:dP)(H:Heap)(X':XT)(l:List Nm):Prop:=
 (∀c o,X' c o→XU Y ρ H c o)∧∀g,g∈l→∀k,get H g=some k→∀b,ρ g=some b→∀o,o<k.elems.length*k.sz→¬ X' b o
theorem Shut.K5{H H':Heap}(hr:HR Y w ρ H)(hl:Less H' H){l:List Nm}(hs:∀g,g∈l→∀k,get H g=some k→∀k',get H' g=some k'→k.elems.length≤k'.jw):Shut Y ρ H (XU Y ρ H') l:=
 ⟨fun _ _ h=>hl.xu h,fun g hg k hk b hb o ho=>Et hr hk hb hl (fun k' hk'=>hs g hg k hk k' hk') o ho⟩
theorem Shut.mono{H:Heap}{X':XT}{l l':List Nm}(h:Shut Y ρ H X' l)(hs:∀g,g∈l'→g∈l):Shut Y ρ H X' l':=⟨h.1,fun g hg=>h.2 g (hs g hg)⟩
theorem nS{H:Heap}(hr:HR Y w ρ H){x u:AV}{l:List Nm}{v:Value}(hv:VR w (XU Y ρ H) ρ v x)(h:eB H x=some (u,l)){X':XT}(hX:Shut Y ρ H X' l):PR w X' v u:=by
 have hst:Stable w (XU Y ρ H) w X':=(Stable.refl w _).less fun c o _ h=>hX.1 c o h
 cases x with
 |own g sz off len=>
  simp only[eB]at h
  cases hg:get H g with
  |none=>simp[hg]at h
  |some k=>
   simp only[hg]at h;split at h
   ·rename_i hc;obtain⟨h1,h2,h3,h4⟩:=hc;simp only[alg,al1]at h;obtain⟨rfl,rfl⟩:=h;rcases hv.jV with⟨a,rfl,rfl⟩|⟨b,cap,rfl,hρ,hb,hlc,hk⟩
    ·simp only[amH];exact .lst0 _ _ _ _ (fun e=>by cases e)
    ·subst h3;refine PR.canon ?_;exact(hr.at hg hρ).eO h4 h2 hX.1 (hX.2 g (by simp) k hg b hρ) h1 hlc (fun e=>by cases e)
   ·cases h
 |eO sz xs t=>
  simp only[eB,alg,al1]at h;obtain⟨rfl,rfl⟩:=h;obtain⟨a,cap,rfl,h1,h2,hp⟩:=hv.oD;have hp:=hp.mono hst;refine PR.canon ?_;generalize hn:xs.length=n at hp
  cases hp with
  |lst0 a cap sz t ht=>exact .lst0 _ _ _ _ (fun e=>by cases e)
  |eO b o n cap sz t xs f hn hc ht hsz hx hr=>exact .eO b o _ cap sz _ xs f hn hc (fun e=>by cases e) hsz hx hr
 |bool b=>
  simp only[eB,alg,al1]at h;obtain⟨rfl,rfl⟩:=h;have:=hv.iY;subst this;exact .bool _
 |int k n=>
  simp only[eB,alg,al1]at h;obtain⟨rfl,rfl⟩:=h;have:=hv.eY;subst this;exact .int _ _
 |str s=>
  simp only[eB,alg,al1]at h;obtain⟨rfl,rfl⟩:=h;have:=hv.jM;subst this;exact .str _
 |undef=>
  simp only[eB,alg,al1]at h;obtain⟨rfl,rfl⟩:=h;exact .undef _
 |nilp=>
  simp only[eB,alg,al1]at h;obtain⟨rfl,rfl⟩:=h;exact(hv.Zw (.inl rfl)).mono hst
 |nilf=>
  simp only[eB,alg,al1]at h;obtain⟨rfl,rfl⟩:=h;exact(hv.Zw (.inl rfl)).mono hst
 |_=>simp[eB]at h
theorem I6{H:Heap}:∀(xs us:List AV) (l:List Nm),pu H xs=some (us,l)→us.length=xs.length∧∀(i:Nat) (x:AV),xs[i]?=some x→∃u m,us[i]?=some u∧eB H x=some (u,m)∧∀g,g∈m→g∈l:=by
 intro xs
 induction xs with
 |nil=>intro us l h;simp[pu]at h;obtain⟨rfl,rfl⟩:=h;exact⟨rfl,fun i x hx=>by simp at hx⟩
 |cons x r ih=>
  intro us l h;simp only[pu]at h
  cases h1:eB H x with
  |none=>simp[h1]at h
  |some p=>
   obtain⟨y,m⟩:=p
   cases h2:pu H r with
   |none=>simp[h1,h2]at h
   |some q=>
    obtain⟨ys,m'⟩:=q;simp only[h1,h2,alg,al1]at h;obtain⟨rfl,rfl⟩:=h;obtain⟨hl,hg⟩:=ih ys m' h2;refine⟨by simp[hl],fun i z hz=> ?_⟩
    cases i with
    |zero=>simp at hz;subst hz;exact⟨y,m,rfl,h1,fun g hg=>by simp[hg]⟩
    |succ i=>
     obtain⟨u,m2,a1,a2,a3⟩:=hg i z (by simpa using hz);exact⟨u,m2,by simpa using a1,a2,fun g hg=>by simp[a3 g hg]⟩
theorem Ie{H:Heap}(hr:HR Y w ρ H){x u:AV}{l:List Nm}{v:Value}(hv:VR w (XU Y ρ H) ρ v x)(h:jO H x=some (u,l)){X':XT}(hX:Shut Y ρ H X' l):PR w X' v u:=by
 cases x with
 |agg cs=>
  simp only[jO]at h
  cases h1:pu H cs with
  |none=>simp[h1]at h
  |some p=>
   obtain⟨ys,m⟩:=p;simp only[h1,alg,al1]at h;obtain⟨rfl,rfl⟩:=h;obtain⟨akV,rfl,hn,ho,hc⟩:=hv.kD;obtain⟨hl,hg⟩:=I6 cs ys m h1;refine .agg akV ys (by omega) ho (fun i y hy=> ?_);have hi:i<cs.length:=by rw[←hl];exact(akX.1 hy).1
   obtain⟨u,m2,a1,a2,a3⟩:=hg i cs[i] (by simp[hi]);rw[hy]at a1;cases a1;exact nS hr (hc i cs[i] (by simp[hi])) a2 (hX.mono a3)
 |tup vs=>simp[jO]at h
 |_=>exact nS hr hv (by simpa[jO]using h) hX
theorem PR.cells{v:Value}{x:AV}(h:PR w X v x)(hk:okV x=true):
  v.cells.size=x.cells.length∧(∀i,i<v.cells.size→(v.cells.getD i Go.undef).oneCell'=true)∧∀(j:Nat) (u:AV),x.cells[j]?=some u→PR w X (v.cells.getD j Go.undef) u:=by
 obtain⟨h1,h2,_⟩:=VR.cells (ρ:=fun _=>none) (.pur v x h) hk;refine⟨h1,h2,fun j u hj=> ?_⟩
 cases h with
 |agg cs xs hn ho hc=>exact hc j u hj
 |undef v=>simp[okV,U6]at hk
 |_=>
  cases j with
  |zero=>
   simp only[AV.cells,List.getElem?_cons_zero,alg]at hj;subst hj;simp only[Value.cells,Array.getD,List.size_toArray,alI,List.length_nil,alQ,Nat.lt_add_one,dite_true];constructor<;>assumption
  |succ j=>simp[AV.cells]at hj
theorem fH(cs:Array Value)(o:Nat)(vs:List Value)(h:o+vs.length≤cs.size)(i:Nat):
  ((cs.toList.take o++vs++cs.toList.drop (o+vs.length)).toArray).getD i undef=if o≤i∧i<o+vs.length then vs.getD (i-o) undef else cs.getD i undef:=by
 have h1:(cs.toList.take o).length=o:=by simp;omega
 simp only[ala,List.getElem?_toArray,al7];by_cases c1:i<o
 ·rw[alp (by omega),amA,if_pos c1,if_neg (by omega)];simp
 ·rw[alm (by omega),h1];by_cases c2:i<o+vs.length
  ·rw[alp (by omega),if_pos ⟨by omega,c2⟩];simp[al8]
  ·rw[alm (by omega),if_neg (by omega),amw];have:o+vs.length+(i-o-vs.length)=i:=by omega
   rw[this];simp
theorem bJ(cs:Array Value)(o:Nat)(vs:List Value)(h:o+vs.length≤cs.size):((cs.toList.take o++vs++cs.toList.drop (o+vs.length)).toArray).size=cs.size:=by
 simp;omega
theorem uJ(cs:List AV)(off:Nat)(new:List AV)(h:off+new.length≤cs.length)(j:Nat):
  (splice cs off new)[j]?=if off≤j∧j<off+new.length then new[j-off]? else cs[j]?:=by
 unfold splice;have h1:(cs.take off).length=off:=by simp;omega
 rw[al7];by_cases c1:j<off
 ·rw[alp (by omega),amA,if_pos c1,if_neg (by omega)]
 ·rw[alm (by omega),h1];by_cases c2:j<off+new.length
  ·rw[alp (by omega),if_pos ⟨by omega,c2⟩]
  ·rw[alm (by omega),if_neg (by omega),amw]
   congr 1
   omega
theorem length_splice(cs:List AV)(off:Nat)(new:List AV)(h:off+new.length≤cs.length):(splice cs off new).length=cs.length:=by
 unfold splice;simp;omega
theorem G7{x u x':AV}{off size sz:Nat}(h:jy x off size sz u=some x')(hx:x.cells.length=sz)(hu:u.cells.length=size)(hle:off+size≤sz):
  x'.cells.length=sz∧∀j,x'.cells[j]?=if off≤j∧j<off+size then u.cells[j-off]? else x.cells[j]?:=by
 unfold jy at h;split at h
 ·rename_i hc;obtain⟨rfl,rfl⟩:=hc;cases h;refine⟨hu,fun j=> ?_⟩;by_cases c:j<size
  ·rw[if_pos ⟨by omega,by omega⟩];rfl
  ·rw[if_neg (by omega),ama (by omega),ama (by omega)]
 ·split at h
  ·cases h;have hl:=length_splice x.cells off u.cells (by omega);refine⟨hl.trans hx,fun j=> ?_⟩;have:=uJ x.cells off u.cells (by omega) j;rw[hu]at this;exact this
  ·cases h
theorem bg.store{box:Bool}{X':XT}{cs:Array Value}{sz:Nat}{es:List AV}(he:bg box w X ρ cs sz es)(hsub:∀c o,X' c o→X c o){i off size:Nat}{x x' u:AV}(hx:es[i]?=some x)
  (hn:jy x off size sz u=some x') (hu:u.cells.length=size) (hle:off+size≤sz) {vs:List Value} (hvs:vs.length=size)
  (hrel:∀(j:Nat) (y:AV),u.cells[j]?=some y→(vs.getD j undef).oneCell'=true∧CR box w X' ρ (vs.getD j undef) y):
  bg box w X' ρ ((cs.toList.take (i*sz+off)++vs++cs.toList.drop (i*sz+off+vs.length)).toArray) sz (es.set i x'):=by
 have hst:Stable w X w X':=(Stable.refl w X).less fun c o _ h=>hsub c o h
 obtain⟨h1,h2⟩:=he;have hi:i<es.length:=(akX.1 hx).1;have hmul:(i+1)*sz≤es.length*sz:=alq _ hi;rw[alX]at hmul;have hfit:i*sz+off+vs.length≤cs.size:=by omega
 refine⟨by rw[bJ _ _ _ hfit];simpa using h1,fun i' y hy=> ?_⟩;rw[List.getElem?_set]at hy;obtain⟨hxs,hxc⟩:=h2 i x hx;obtain⟨hl',hg'⟩:=G7 hn hxs hu hle;by_cases e:i=i'
 ·subst e;simp only[if_true,hi]at hy;cases hy;refine⟨hl',fun j z hz=> ?_⟩;rw[hg' j]at hz;rw[fH _ _ _ hfit];split at hz
  ·rename_i c;rw[if_pos (by omega)];have e2:i*sz+j-(i*sz+off)=j-off:=by omega
   rw[e2];exact hrel (j-off) z hz
  ·rename_i c;have hjlt:j<sz:=by rw[←hxs];exact(akX.1 hz).1
   rw[if_neg (by omega)];exact⟨(hxc j z hz).1,(hxc j z hz).2.mono hst (fun _ _ h=>h)⟩
 ·rw[if_neg e]at hy;obtain⟨hys,hyc⟩:=h2 i' y hy;refine⟨hys,fun j z hz=> ?_⟩;have hjlt:j<sz:=by rw[←hys];exact(akX.1 hz).1
  rw[fH _ _ _ hfit]
  have hne:¬(i*sz+off≤i'*sz+j∧i'*sz+j<i*sz+off+vs.length):=by
   intro⟨a1,a2⟩;rcases Nat.lt_or_gt_of_ne e with h|h
   ·have:(i+1)*sz≤i'*sz:=alq _ h;rw[alX]at this;omega
   ·have:(i'+1)*sz≤i*sz:=alq _ h;rw[alX]at this;omega
  rw[if_neg hne];exact⟨(hyc j z hz).1,(hyc j z hz).2.mono hst (fun _ _ h=>h)⟩
theorem mH(cs:Array Value)(o:Nat)(vs:List Value)(h:o+vs.length≤cs.size)(i:Nat)(hi:i<o):
  ((cs.toList.take o++vs++cs.toList.drop (o+vs.length)).toArray)[i]?=cs[i]?:=by
 have h1:(cs.toList.take o).length=o:=by simp;omega
 rw[List.getElem?_toArray,al7,alp (by omega),amA,if_pos hi];simp
theorem l7:∀(a b:List (Nm×Option cB)) (H:Heap),aP H (a++b)=aP (aP H a) b:=by
 intro a
 induction a with
 |nil=>intro b H;rfl
 |cons p r ih=>intro b H;obtain⟨g,k⟩:=p;exact ih b _
theorem Df{H:Heap}(hr:HR Y w ρ H){g:Nm}{k:cB}(hg:get H g=some k){b:Nat}(hρ:ρ g=some b)(hs0:0<k.sz){i off size:Nat}{x x' u:AV}(hfrz:k.jw≤i)(hx:k.elems[i]?=some x)
  (hn:jy x off size k.sz u=some x') (hu:u.cells.length=size) (hle:off+size≤k.sz) {vs:List Value} (hvs:vs.length=size) (ho:∀v∈vs,v.oneCell'=true)
  (hrel:∀(j:Nat) (y:AV),u.cells[j]?=some y→(vs.getD j undef).oneCell'=true∧CR k.box w (XU Y ρ H) ρ (vs.getD j undef) y):
  ∃w',(storeCells ⟨b,i*k.sz+off,none⟩ vs).run P w= .ok () w'∧HR Y w' ρ (set H g (some {k with elems:=k.elems.set i x'}))∧Stable w (XX ρ H) w' (XX ρ (set H g (some {k with elems:=k.elems.set i x'}))):=by
 obtain⟨cs,T,hh,he⟩:=(hr.at hg hρ).cells hs0;have hi:i<k.elems.length:=(akX.1 hx).1;have hmul:(i+1)*k.sz≤k.elems.length*k.sz:=alq _ hi;rw[alX]at hmul;have hfit:i*k.sz+off+vs.length≤cs.size:=by have:=he.1;omega
 have hrun:=run_storeCells_at P b (i*k.sz+off) T vs 0 cs w hh (by simpa using hfit) ho;simp only[amB]at hrun;refine⟨_,hrun,?_⟩;have hlow:k.jw*k.sz≤i*k.sz:=alq _ hfrz;exact hr.write hg hρ hs0 rfl rfl rfl (by simp) (fun j hj=>setRow_other w b j _ hj) hh (setRow_heap w b cs _ T _ hh) (bJ _ _ _ hfit)
  (fun o ho=>mH _ _ _ hfit o (by omega)) rfl (alj _) (he.store (fun _ _ h=>h) hx hn hu hle hvs hrel)
theorem VY(cs:Array Value)(h:∀i,i<cs.size→(cs.getD i undef).oneCell'=true):∀v∈cs.toList,v.oneCell'=true:=by
 intro v hv;obtain⟨n,hn,rfl⟩:=List.mem_iff_getElem.1 hv;have hn':n<cs.size:=by simpa using hn
 have:=h n hn';simp only[Array.getD,hn',dite_true]at this;simpa using this
theorem jd(cs:Array Value)(j:Nat):cs.toList.getD j undef=cs.getD j undef:=by
 simp[al8,ala]
theorem G8{H:Heap}(hr:HR Y w ρ H){t:TypeId}{p x:AV}{v u:Value}{r:iD}(hp:VR w (XU Y ρ H) ρ v p)(hx:VR w (XU Y ρ H) ρ u x)(h:l5 P t p x H=some r):
  r.new=[]∧r.val= .tup []∧∃w',(Instr.storeAt t v u).run P w= .ok () w'∧HR Y w' ρ (aP H r.wr)∧Stable w (XX ρ H) w' (XX ρ (aP H r.wr)):=by
 unfold l5 at h
 cases hs:bf P t with
 |none=>simp[hs]at h
 |some size=>
  simp only[hs]at h
  cases p with
  |ptr g sz i off=>
   simp only at h
   cases hg:get H g with
   |none=>simp[hg]at h
   |some k=>
    simp only[hg]at h;split at h
    ·rename_i hc;obtain⟨hsz,hfrz,hs0⟩:=hc
     cases hi:k.elems[i]? with
     |none=>simp[hi]at h
     |some y=>
      simp only[hi]at h;obtain⟨b,rfl,hρ⟩:=hp.Fh hs0;subst hsz;split at h
      ·rename_i hbox;split at h
       ·rename_i hc2;obtain⟨c1,c2,c3⟩:=hc2
        cases hn:jy y off size k.sz x with
        |none=>simp[hn]at h
        |some x'=>
         simp only[hn,alg]at h;subst h;obtain⟨e1,e2,e3⟩:=hx.cells c3;obtain⟨w',hrun,h1,h2⟩:=Df (P:=P) hr hg hρ hs0 hfrz hi hn c1 c2 (vs:=u.cells.toList) (by simp[e1,c1]) (VY _ e2)
          (fun j z hz=>by
           rw[jd];have hj:j<u.cells.size:=by rw[e1];exact(akX.1 hz).1
           refine⟨e2 j hj,?_⟩;rw[hbox];exact e3 j z hz)
         refine⟨rfl,rfl,w',?_,h1,h2⟩;have hsize:u.cells.size=size:=by rw[e1,c1]
         simp[Instr.storeAt,Instr.sureAddr,storeVar,bN hs,hsize,hrun]
       ·cases h
      ·rename_i hbox;have hbox':k.box=false:=by simpa using hbox
       cases hpv:jO H x with
       |none=>simp[hpv]at h
       |some q=>
        obtain⟨u',l⟩:=q;simp only[hpv]at h;split at h
        ·rename_i hc2;obtain⟨c1,c2,c4,c3⟩:=hc2
         cases hn:jy y off size k.sz u' with
         |none=>simp[hn]at h
         |some x'=>
          simp only[hn,alg]at h;subst h;have hless:Less (aP H (stops H l)) H:=Less.stops l H (Less.refl H);have hr1:=hr.less hless;have hg1:get (aP H (stops H l)) g=some k:=by rw[rz H g l H c4];exact hg
          have hpr:=Ie hr hx hpv (Shut.K5 hr hless (fun g' hg' k1 hk1 k' hk'=>qQ H g' hk1 l H hg' k' hk'));obtain⟨e1,e2,e3⟩:=hpr.cells c3;obtain⟨w',hrun,h1,h2⟩:=Df (P:=P) hr1 hg1 hρ hs0 hfrz hi hn c1 c2 (vs:=u.cells.toList) (by simp[e1,c1]) (VY _ e2)
           (fun j z hz=>by
            rw[jd];have hj:j<u.cells.size:=by rw[e1];exact(akX.1 hz).1
            refine⟨e2 j hj,?_⟩;rw[hbox'];exact e3 j z hz)
          refine⟨rfl,rfl,w',?_,by rw[l7];exact h1,by rw[l7];exact hless.st.trans h2⟩;have hsize:u.cells.size=size:=by rw[e1,c1]
          simp[Instr.storeAt,Instr.sureAddr,storeVar,bN hs,hsize,hrun]
        ·cases h
    ·cases h
  |_=>simp at h
theorem IX{H:Heap}(hr:HR Y w ρ H){slot:Nat}(hf:Free H slot){t:TypeId}{x:AV}{v:Value}{r:iD}(hv:VR w (XU Y ρ H) ρ v x)(h:Ir P t x slot=some r):
  ∃k,0<k.sz∧r={val:=.ptr (slot,0) k.sz 0 0,new:=[k]}∧(newVar t v).run P w= .ok ⟨w.heap.size,0,none⟩ (w.alloc (.cells v.cells t))∧
   HR Y (w.alloc (.cells v.cells t)) (upd ρ (slot,0) w.heap.size) (H.set slot [some k])∧Stable w (XX ρ H) (w.alloc (.cells v.cells t)) (XX (upd ρ (slot,0) w.heap.size) (H.set slot [some k]))∧
   (∀g c,ρ g=some c→upd ρ (slot,0) w.heap.size g=some c):=by
 unfold Ir at h
 cases hs:bf P t with
 |none=>simp[hs]at h
 |some size=>
  simp only[hs]at h;split at h
  ·rename_i hc;obtain⟨c1,c2,c0⟩:=hc;cases h;obtain⟨e1,e2,e3⟩:=hv.cells c2
   have he:bg true w (XU Y ρ H) ρ v.cells size [x]:=by
    refine⟨by simp;omega,fun i y hy=> ?_⟩
    cases i with
    |zero=>
     simp at hy;subst hy;refine⟨c1,fun j z hz=> ?_⟩;have hj:j<v.cells.size:=by rw[e1];exact(akX.1 hz).1
     simp only[Nat.zero_mul,alQ];exact⟨e2 j hj,e3 j z hz⟩
    |succ i=>simp at hy
   have hnew:=hr.new hf (w1:=w.alloc (.cells v.cells t)) (b:=w.heap.size) (alj _) (by simp) rfl rfl rfl (fun i hi=>uO w _ i hi) ⟨size,[x],0,true⟩ c0 (heap_alloc_new w _) he;exact⟨⟨size,[x],0,true⟩,c0,rfl,rfl,hnew.1,hnew.2.1,hnew.2.2⟩
  ·cases h
theorem VR.X7{w':World}{X':XT}{slot sz b:Nat}(hs:0<sz):VR w' X' (upd ρ (slot,0) b) (.pointer (some ⟨b,0,none⟩)) (.ptr (slot,0) sz 0 0):=by
 have h:VR w' X' (upd ρ (slot,0) b) (.pointer (some ⟨b,0*sz+0,none⟩)) (.ptr (slot,0) sz 0 0):=.ptr _ _ _ _ _ hs (by simp[upd]);simpa using h
end
theorem List.zN{α β:Type}{P:Program}{w:World}(f:α→Sem β)(g:α→β):∀(l:List α),(∀x∈l,(f x).run P w= .ok (g x) w)→(l.mapM f).run P w= .ok (l.map g) w:=by
 intro l
 induction l with
 |nil=>intro _;simp
 |cons x r ih=>
  intro h;simp only[List.mapM_cons,Sem.run_bind,h x (by simp),Result.andThen_ok,ih (fun y hy=>h y (by simp[hy])),Sem.run_pure,al3]
theorem Array.zN{α β:Type}{P:Program}{w:World}(f:α→Sem β)(g:α→β)(l:Array α)(h:∀x∈l.toList,(f x).run P w= .ok (g x) w):(l.mapM f).run P w= .ok (l.map g) w:=by
 rw[Array.mapM_eq_mapM_toList,Sem.run_map,List.zN f g l.toList h];simp only[Result.andThen_ok]
 congr 1
 apply Array.ext';simp
section
variable{P:Program}{w:World}{X Y:XT}{ρ:dP}
theorem foldl_set(off:Nat):∀(l:List Value) (k:Nat) (cs:Array Value) (i:Nat),off+k+l.length≤cs.size→
  ((l.zipIdx k).foldl (fun cs p=>cs.setIfInBounds (off+p.2) p.1) cs).size=cs.size∧
  ((l.zipIdx k).foldl (fun cs p=>cs.setIfInBounds (off+p.2) p.1) cs)[i]?=if off+k≤i∧i<off+k+l.length then l[i-(off+k)]? else cs[i]?:=by
 intro l
 induction l with
 |nil=>intro k cs i _;simp;intro;omega
 |cons v r ih=>
  intro k cs i h;simp only[List.zipIdx_cons,List.foldl_cons];obtain⟨h1,h2⟩:=ih (k+1) (cs.setIfInBounds (off+k) v) i (by simp at h ⊢;omega);refine⟨by rw[h1];simp,?_⟩;rw[h2];simp only[alI]at h ⊢;by_cases c1:off+k=i
  ·subst c1;have hlt:off+k<cs.size:=by omega
   have a1:¬(off+(k+1)≤off+k∧off+k<off+(k+1)+r.length):=by omega
   have a2:off+k≤off+k∧off+k<off+k+(r.length+1):=by omega
   rw[if_neg a1,if_pos a2,Array.getElem?_setIfInBounds];simp[hlt]
  ·by_cases c2:off+(k+1)≤i∧i<off+(k+1)+r.length
   ·have a2:off+k≤i∧i<off+k+(r.length+1):=by omega
    rw[if_pos c2,if_pos a2];have:i-(off+k)=(i-(off+(k+1)))+1:=by omega
    rw[this];simp
   ·have a2:¬(off+k≤i∧i<off+k+(r.length+1)):=by omega
    rw[if_neg c2,if_neg a2,Array.getElem?_setIfInBounds];simp[c1]
theorem EX(off:Nat)(vs cs:Array Value)(h:off+vs.size≤cs.size):
  vs.zipIdx.foldl (fun cs p=>cs.setIfInBounds (off+p.2) p.1) cs=(cs.toList.take off++vs.toList++cs.toList.drop (off+vs.toList.length)).toArray:=by
 have e:vs.zipIdx.foldl (fun cs p=>cs.setIfInBounds (off+p.2) p.1) cs=(vs.toList.zipIdx 0).foldl (fun cs p=>cs.setIfInBounds (off+p.2) p.1) cs:=by
  rw[←Array.foldl_toList,Array.toList_zipIdx]
 rw[e];apply Array.ext_getElem?;intro i;have hl:off+0+vs.toList.length≤cs.size:=by simpa using h
 rw[(foldl_set off vs.toList 0 cs i hl).2];have hl':off+vs.toList.length≤cs.size:=by simpa using h
 have h1:(cs.toList.take off).length=off:=by simp;omega
 conv=>rhs;rw[List.getElem?_toArray,al7]
 by_cases c1:i<off
 ·rw[alp (by omega),amA,if_pos c1,if_neg (by omega)];simp
 ·rw[alm (by omega),h1];by_cases c2:i<off+vs.toList.length
  ·have a:off+0≤i∧i<off+0+vs.toList.length:=by omega
   rw[alp (by omega),if_pos a];rfl
  ·rw[alm (by omega),if_neg (by omega),amw];have:off+vs.toList.length+(i-off-vs.toList.length)=i:=by omega
   rw[this];simp
structure uE(w:World)(X:XT)(ρ:dP)(cs:Array Value)(xs:List AV):Prop where
 size:cs.size=xs.length
 one:∀i,i<cs.size→(cs.getD i undef).oneCell'=true
 rel:∀(i:Nat) (x:AV),xs[i]?=some x→VR w X ρ (cs.getD i undef) x
theorem uE.splice{cs:Array Value}{xs:List AV}(h:uE w X ρ cs xs){vs:Array Value}{us:List AV}(k:uE w X ρ vs us){off:Nat}(hle:off+us.length≤xs.length):
  uE w X ρ (vs.zipIdx.foldl (fun cs p=>cs.setIfInBounds (off+p.2) p.1) cs) (Abs.splice xs off us):=by
 have hv:off+vs.toList.length≤cs.size:=by have:=h.size;have:=k.size;simp;omega
 rw[EX off vs cs (by simpa using hv)];have hlen:vs.toList.length=us.length:=by simp[k.size]
 refine⟨by rw[bJ _ _ _ hv,length_splice _ _ _ hle,h.size],fun i hi=> ?_,fun i x hx=> ?_⟩
 ·rw[bJ _ _ _ hv]at hi;rw[fH _ _ _ hv];by_cases c:off≤i∧i<off+vs.toList.length
  ·rw[if_pos c,jd];have hl:vs.toList.length=vs.size:=by simp
   exact k.one _ (by omega)
  ·rw[if_neg c];exact h.one _ hi
 ·rw[uJ _ _ _ hle]at hx;rw[fH _ _ _ hv,hlen];split at hx
  ·rename_i c;rw[if_pos c,jd];exact k.rel _ _ hx
  ·rename_i c;rw[if_neg c];exact h.rel _ _ hx
theorem VR.KH{v:Value}{x:AV}(h:VR w X ρ v x)(hk:okV x=true):uE w X ρ v.cells x.cells:=by
 obtain⟨h1,h2,h3⟩:=h.cells hk;exact⟨h1,h2,h3⟩
def lH(w:World)(X:XT)(ρ:dP)(vs:List (Nat×Value))(xs:List (Nat×AV)):Prop:=
 vs.length=xs.length∧∀(n i:Nat) (x:AV),xs[n]?=some (i,x)→∃v,vs[n]?=some (i,v)∧VR w X ρ v x
theorem lH.cons{vs:List (Nat×Value)}{i:Nat}{x:AV}{xs:List (Nat×AV)}(h:lH w X ρ vs ((i,x)::xs)):∃v r,vs=(i,v)::r∧VR w X ρ v x∧lH w X ρ r xs:=by
 obtain⟨h1,h2⟩:=h
 cases vs with
 |nil=>simp at h1
 |cons p r=>
  obtain⟨v,hv,hr⟩:=h2 0 i x rfl;simp at hv;subst hv;exact⟨v,r,rfl,hr,by simpa using h1,fun n i x hx=>by simpa using h2 (n+1) i x (by simpa using hx)⟩
theorem Du(placeA placeC:Nat→Option (Nat×Nat))(hp:∀i p,placeA i=some p→placeC i=some p):∀(xs:List (Nat×AV)) (vs:List (Nat×Value)) (cs:Array Value) (cells ys:List AV),
  uE w X ρ cs cells→lH w X ρ vs xs→CK placeA cells xs=some ys→∃cs',Instr.fill placeC cs vs=some cs'∧uE w X ρ cs' ys:=by
 intro xs
 induction xs with
 |nil=>
  intro vs cs cells ys h hv hf;have:vs=[]:=amc (by simpa using hv.1);subst this;simp[CK]at hf;subst hf;exact⟨cs,rfl,h⟩
 |cons p r ih=>
  intro vs cs cells ys h hv hf;obtain⟨i,x⟩:=p;obtain⟨v,vr,rfl,hvx,hvr⟩:=hv.cons;simp only[CK]at hf
  cases hpl:placeA i with
  |none=>simp[hpl]at hf
  |some q=>
   obtain⟨off,size⟩:=q;simp only[hpl]at hf;split at hf
   ·rename_i hc;obtain⟨c1,c2,c3⟩:=hc;have hva:=hvx.KH c3;obtain⟨cs',h1,h2⟩:=ih vr _ _ ys (h.splice hva (by omega)) hvr hf;refine⟨cs',?_,h2⟩;have e1:v.cells.size=size:=by rw[hva.size,c1]
    have e2:¬(off+v.cells.size>cs.size):=by rw[e1,h.size];omega
    simp only[Instr.fill,hp i _ hpl];rw[if_neg (by simp[e1];rw[h.size];omega)];exact h1
   ·cases hf
theorem GH{t:TypeId}{ps:List (Nat×AV)}{vs:Array (Nat×Value)}{z:AV}(hv:lH w X ρ vs.toList ps)(h:wX P t ps=some z):
  ∃v,(Instr.build t vs).run P w= .ok v w∧VR w X ρ v z:=by
 unfold wX at h
 cases hz:oo P t with
 |none=>simp[hz]at h
 |some zz=>
  cases zz with
  |agg zs=>
   obtain⟨zv,hrun,hcv,_⟩:=nU hz w
   have hzr:uE w X ρ zv.cells zs:=by
    have h1:VR w X ρ zv (.agg zs):=by rw[hcv];exact .pur _ _ (rG w X zv)
    exact h1.KH rfl
   cases hd:P.underlying t with
   |none=>simp[hz,hd]at h
   |some d=>
    cases d with
    |struct fs=>
     simp only[hz,hd]at h;split at h
     ·cases h
     ·rename_i hall;obtain⟨ys,hy,rfl⟩:=alf.1 h
      have hsz:∀f∈fs.toList,(do pure (f.offset,←sizeOf f.type):Sem (Nat×Nat)).run P w= .ok (f.offset,(bf P f.type).getD 0) w:=by
       intro f hf
       have:(bf P f.type).isSome=true:=by
        have hall':fs.toList.all (fun f=>(bf P f.type).isSome)=true:=by
         cases hq:fs.toList.all (fun f=>(bf P f.type).isSome)with
         |true=>rfl
         |false=>rw[hq]at hall;simp at hall
        rw[alF]at hall';exact hall' f hf
       obtain⟨n,hn⟩:=Option.isSome_iff_exists.1 this;simp[bN hn,hn]
      have hm:=Array.zN (P:=P) (w:=w) _ (fun f=>(f.offset,(bf P f.type).getD 0)) fs hsz
      obtain⟨cs',h1,h2⟩:=Du _ (fun i=>(fs.map fun f=>(f.offset,(bf P f.type).getD 0))[i]?) (fun i p hp=>by
       cases hf:fs[i]? with
       |none=>simp[hf]at hp
       |some f=>
        simp only[hf]at hp;obtain⟨n,hn,rfl⟩:=alf.1 hp;simp[hf,hn]) ps vs.toList zv.cells zs ys hzr hv hy
      refine⟨.agg cs',?_,.agg _ _ h2.size h2.one h2.rel⟩;simp only[Instr.build,Sem.run_bind,hrun,run_underlying hd,hm,Result.andThen_ok,h1,Sem.run_pure]
    |array n e=>
     simp only[hz,hd]at h
     cases hs:bf P e with
     |none=>simp[hs]at h
     |some s=>
      simp only[hs]at h;obtain⟨ys,hy,rfl⟩:=alf.1 h;obtain⟨cs',h1,h2⟩:=Du _ (fun i=>some (i*s,s)) (fun i p hp=>hp) ps vs.toList zv.cells zs ys hzr hv hy;refine⟨.agg cs',?_,.agg _ _ h2.size h2.one h2.rel⟩;simp[Instr.build,hrun,run_underlying hd,bN hs,h1]
    |_=>simp[hz,hd]at h
  |_=>simp[hz]at h
theorem Uy(zero:Array Value)(n size:Nat)(hz:zero.size=size)(hs:0<size)(i j:Nat)(hi:i<n)(hj:j<size):
  ((Array.range (n*size)).map (zero[· % zero.size]!)).getD (i*size+j) undef=zero.getD j undef:=by
 have hlt:i*size+j<n*size:=by
  have:(i+1)*size≤n*size:=alq _ hi;rw[alX]at this;omega
 have hm:(i*size+j)% zero.size=j:=by
  rw[hz,Nat.mul_comm,Nat.mul_add_mod,Nat.mod_eq_of_lt hj]
 simp only[ala,Array.getElem?_map,Array.getElem?_range,hlt,if_true,al4,amt,hm];have:j<zero.size:=by omega
 simp[this,getElem!_pos]
theorem mE{zv:Value}{z:AV}{size n m:Nat}(hz:PR w X zv z)(hk:okV z=true)(hsz:z.cells.length=size)(hs:0<size)(hnm:n≤m):
  bg false w X ρ ((Array.range (m*size)).map (zv.cells[· % zv.cells.size]!)) size (List.replicate n z):=by
 obtain⟨e1,e2,e3⟩:=hz.cells hk;have hzs:zv.cells.size=size:=by omega
 refine⟨by simp;exact alq _ hnm,fun i x hx=> ?_⟩;have hi:i<n:=by simpa using (akX.1 hx).1
 have hx':x=z:=by
  rw[List.getElem?_replicate,if_pos hi]at hx;cases hx;rfl
 subst hx';refine⟨hsz,fun j u hj=> ?_⟩;have hj':j<size:=by rw[←hsz];exact(akX.1 hj).1
 rw[Uy zv.cells m size hzs hs i j (by omega) hj'];exact⟨e2 j (by omega),e3 j u hj⟩
theorem Cc{H:Heap}{size:Nat}{agg:Bool}:∀(xs:List (Nat×AV)) (es es':List AV) (l l':List Nm),pW H size agg es l xs=some (es',l')→es'.length=es.length∧∀g,g∈l→g∈l':=by
 intro xs
 induction xs with
 |nil=>intro es es' l l' h;simp[pW]at h;obtain⟨rfl,rfl⟩:=h;exact⟨rfl,fun g h=>h⟩
 |cons p r ih=>
  intro es es' l l' h;obtain⟨i,x⟩:=p;simp only[pW]at h
  cases hp:jO H x with
  |none=>simp[hp]at h
  |some q=>
   obtain⟨u,m⟩:=q;simp only[hp]at h;split at h
   ·obtain⟨h1,h2⟩:=ih _ _ _ _ h;exact⟨by simpa using h1,fun g hg=>h2 g (by simp[hg])⟩
   ·cases h
theorem M6{H:Heap}(hr:HR Y w ρ H){size:Nat}{agg:Bool}{X':XT}:∀(xs:List (Nat×AV)) (vs:List (Nat×Value)) (cs:Array Value) (es es':List AV) (l l':List Nm),
  cs.size=es.length*size→bg false w X' ρ cs size es→lH w (XU Y ρ H) ρ vs xs→pW H size agg es l xs=some (es',l')→Shut Y ρ H X' l'→
  ∃cs',Instr.fill (fun i=>some (i*size,size)) cs vs=some cs'∧cs'.size=es'.length*size∧bg false w X' ρ cs' size es':=by
 intro xs
 induction xs with
 |nil=>
  intro vs cs es es' l l' hc he hv h _;have:vs=[]:=amc (by simpa using hv.1);subst this;simp[pW]at h;obtain⟨rfl,rfl⟩:=h;exact⟨cs,rfl,hc,he⟩
 |cons p r ih=>
  intro vs cs es es' l l' hc he hv h hX;obtain⟨i,x⟩:=p;obtain⟨v,vr,rfl,hvx,hvr⟩:=hv.cons;simp only[pW]at h
  cases hp:jO H x with
  |none=>simp[hp]at h
  |some q=>
   obtain⟨u,m⟩:=q;simp only[hp]at h;split at h
   ·rename_i hcc;obtain⟨c1,c2,c3,c4⟩:=hcc;obtain⟨hlen,hsub⟩:=Cc r _ _ _ _ h;have hpr:=Ie hr hvx hp (hX.mono (fun g hg=>hsub g (by simp[hg])));obtain⟨e1,e2,e3⟩:=hpr.cells c4;have hvs:v.cells.toList.length=size:=by simp[e1,c1]
    obtain⟨y,hy⟩:∃y,es[i]?=some y:=⟨es[i],by simp[c3]⟩
    have hst:=he.store (X':=X') (fun _ _ h=>h) hy (off:=0) (size:=size) (x':=u) (u:=u) (by simp[jy]) c1 (by omega) hvs (fun j z hz=>by
     rw[jd];have hj:j<v.cells.size:=by rw[e1];exact(akX.1 hz).1
     exact⟨e2 j hj,e3 j z hz⟩)
    simp only[amB]at hst;have hmul:(i+1)*size≤es.length*size:=alq _ c3;rw[alX]at hmul;have hfit:i*size+v.cells.toList.length≤cs.size:=by omega
    have hfit':i*size+v.cells.size≤cs.size:=by simpa using hfit
    rw[←EX (i*size) v.cells cs hfit']at hst
    have hcs:(v.cells.zipIdx.foldl (fun cs p=>cs.setIfInBounds (i*size+p.2) p.1) cs).size=(es.set i u).length*size:=by
     rw[EX _ _ _ hfit',bJ _ _ _ hfit,hc];simp
    obtain⟨cs',h1,h2,h3⟩:=ih vr _ _ _ _ _ hcs hst hvr h hX;refine⟨cs',?_,h2,h3⟩;simp only[Instr.fill];rw[if_neg (by simp[e1,c1];omega)];exact h1
   ·cases h
structure Gives(P:Program)(Y:XT)(w:World)(ρ:dP)(H:Heap)(slot:Nat)(r:iD)(s:Sem Value):Prop where
 out:∃v w' ρ',s.run P w= .ok v w'∧Made Y w ρ H w' ρ' ((aP H r.wr).set slot (r.new.map some)) v r.val
theorem Gives.block{H:Heap}{slot:Nat}{r:iD}{s:Sem Value}{k:cB}(hk:r.new=[k]){v:Value}{w':World}{ρ':dP}(hrun:s.run P w= .ok v w')
  (h:Made Y w ρ H w' ρ' ((aP H r.wr).set slot [some k]) v r.val):Gives P Y w ρ H slot r s:=⟨v,w',ρ',hrun,by rw[hk];exact h⟩
theorem zh{H H1:Heap}(hr:HR Y w ρ H)(hl:Less H1 H){slot:Nat}(hf:Free H1 slot){w1:World}{b:Nat}(hb:w.heap.size≤b)(hb1:b<w1.heap.size)
  (hos:w1.os=w.os) (htape:w1.tape=w.tape) (hout:w1.output=w.output) (hold:∀i,i<w.heap.size→w1.heap[i]?=w.heap[i]?)
  (k:cB) (h0:0<k.sz) {cs:Array Value} {T:TypeId} (hc:w1.heap[b]?=some (.cells cs T (0,0))) (he:bg k.box w (XU Y ρ H1) ρ cs k.sz k.elems) {v:Value} {x:AV}
  (hv:∀X',VR w1 X' (upd ρ (slot,0) b) v x):Made Y w ρ H w1 (upd ρ (slot,0) b) (H1.set slot [some k]) v x:=by
 obtain⟨h1,h2,h3⟩:=(hr.less hl).new hf hb hb1 hos htape hout hold k h0 hc he;exact⟨h1,hv _,hl.st.trans h2,h3⟩
theorem VR.Ga{w1:World}{X':XT}{slot b sz len cap:Nat}{cs:Array Value}{T:TypeId}(hc:w1.heap[b]?=some (.cells cs T (0,0)))(hl:len≤cap)(hs:cap*sz≤cs.size):
  VR w1 X' (upd ρ (slot,0) b) (.slice (some ⟨b,0,none⟩) len cap) (.own (slot,0) sz 0 len):=by
 have hb:b<w1.heap.size:=(amf.1 hc).1;have h:VR w1 X' (upd ρ (slot,0) b) (.slice (some ⟨b,0*sz,none⟩) len cap) (.own (slot,0) sz 0 len):=.own _ _ _ _ _ _ (by simp[upd]) hb hl (by simp[bsize,hc];exact hs);simpa using h
theorem xW{H:Heap}(hr:HR Y w ρ H){slot:Nat}(hf:Free H slot){t:TypeId}{n:Nat}{ps:List (Nat×AV)}{vs:Array (Nat×Value)}{r:iD}
  (hv:lH w (XU Y ρ H) ρ vs.toList ps) (h:gG P t n ps H slot=some r):Gives P Y w ρ H slot r (Instr.buildSlice t n vs):=by
 unfold gG at h
 cases he:kL P t with
 |none=>simp[he]at h
 |some e=>
  simp only[he]at h
  cases hs:bf P e with
  |none=>simp[hs]at h
  |some size=>
   cases ha:BV P e with
   |none=>simp[hs,ha]at h
   |some agg=>
    cases hz:tQ P e with
    |none=>simp[hs,ha,hz]at h
    |some z=>
     simp only[hs,ha,hz]at h;split at h
     ·rename_i hc;obtain⟨c1,c2,c3,c4⟩:=hc
      cases hfl:pW H size agg (List.replicate n z) [] ps with
      |none=>simp[hfl]at h
      |some q=>
       obtain⟨es,l⟩:=q;simp only[hfl,alg]at h;subst h;obtain⟨zv,hrun,hcv,_⟩:=y7 hz w;have hless:Less (aP H (stops H l)) H:=Less.stops l H (Less.refl H);have hshut:Shut Y ρ H (XU Y ρ (aP H (stops H l))) l:=Shut.K5 hr hless (fun g' hg' k1 hk1 k' hk'=>qQ H g' hk1 l H hg' k' hk');have hzr:∀X',PR w X' zv z:=fun X'=>by rw[hcv];exact(rG w X' zv).nt
       have hlen:=(Cc ps _ _ _ _ hfl).1
       obtain⟨zero,hzero,hzs,hze⟩:∃zero:Array Value,((n*size=0∧zero= #[])∨(¬ n*size=0∧zero=zv.cells))∧
         ((Array.range (n*size)).map (zero[· % zero.size]!)).size=(List.replicate n z).length*size∧
         bg false w (XU Y ρ (aP H (stops H l))) ρ ((Array.range (n*size)).map (zero[· % zero.size]!)) size (List.replicate n z):=by
        by_cases h0:n*size=0
        ·have hn:n=0:=by
          rcases Nat.mul_eq_zero.1 h0 with h|h
          ·exact h
          ·omega
         subst hn;refine⟨#[],.inl ⟨h0,rfl⟩,by simp,by simp,fun i x hx=>by simp at hx⟩
        ·refine⟨zv.cells,.inr ⟨h0,rfl⟩,by simp,?_⟩;exact mE (hzr _) c4 c3 c2 (alj _)
       obtain⟨cs',f1,f2,f3⟩:=M6 hr ps vs.toList _ _ _ _ _ hzs hze hv hfl hshut;have hfr:Free (aP H (stops H l)) slot:=hf.aP _;refine Gives.block (k:=⟨size,es,0,false⟩) rfl (v:=.slice (some ⟨w.heap.size,0,none⟩) n n) (w':=w.alloc (.cells cs' e)) (ρ':=upd ρ (slot,0) w.heap.size) ?_ ?_
       ·have:¬(n*size>2 ^ 24):=by omega
        rcases hzero with⟨h0,rfl⟩|⟨h0,rfl⟩
        ·simp only[Instr.buildSlice,Sem.run_bind,run_underlying (gD he),Result.andThen_ok,bN hs,if_neg this,if_pos h0,Sem.run_pure,f1,newRow,run_newObj];rfl
        ·simp only[Instr.buildSlice,Sem.run_bind,run_underlying (gD he),Result.andThen_ok,bN hs,if_neg this,if_neg h0,Sem.run_pure,hrun,f1,newRow,run_newObj];rfl
       ·refine zh (w1:=w.alloc (.cells cs' e)) hr hless hfr (alj _) (by simp) rfl rfl rfl (fun i hi=>uO w _ i hi) ⟨size,es,0,false⟩ (show 0<size by omega) (heap_alloc_new w _) f3 (fun X'=> ?_);refine VR.Ga (heap_alloc_new w _) (alj _) ?_;rw[f2,hlen];simp
     ·cases h
theorem Aw{H:Heap}(hr:HR Y w ρ H){slot:Nat}(hf:Free H slot){t:TypeId}{l c:AV}{vl vc:Value}{r:iD}
  (hl:VR w (XU Y ρ H) ρ vl l) (hc:VR w (XU Y ρ H) ρ vc c) (h:lG P t l c slot=some r):Gives P Y w ρ H slot r (Instr.makeSlice t vl vc):=by
 unfold lG at h
 cases he:kL P t with
 |none=>simp[he]at h
 |some e=>
  cases l<;>simp[he]at h;rename_i kl n;cases c<;>simp at h;rename_i kc m;have e1:=hl.eY;subst e1;have e2:=hc.eY;subst e2
  cases hs:bf P e with
  |none=>simp[hs]at h
  |some size=>
   cases hby:vO P e with
   |none=>simp[hs,hby]at h
   |some bytes=>
    cases hz:tQ P e with
    |none=>simp[hs,hby,hz]at h
    |some z=>
     simp only[hs,hby,hz]at h;split at h
     ·rename_i hcc;obtain⟨c0,c1,c2,c3,c4,c5,c6⟩:=hcc;cases h;obtain⟨zv,hrun,hcv,_⟩:=y7 hz w;have hzr:∀X',PR w X' zv z:=fun X'=>by rw[hcv];exact(rG w X' zv).nt
      obtain⟨ti,hti,hbb,hrb⟩:=FW hby w;have wn:IntKind.i64.wrap n=n:=IntWalk.i64_in n (by omega);have wm:IntKind.i64.wrap m=m:=IntWalk.i64_in m (by omega)
      obtain⟨zero,hzero,hze⟩:∃zero:Array Value,((m.toNat*size=0∧zero= #[])∨(¬ m.toNat*size=0∧zero=zv.cells))∧
        bg false w (XU Y ρ H) ρ ((Array.range (m.toNat*size)).map (zero[· % zero.size]!)) size (List.replicate n.toNat z):=by
       by_cases h0:m.toNat*size=0
       ·have hm:m.toNat=0:=by
         rcases Nat.mul_eq_zero.1 h0 with h|h
         ·exact h
         ·omega
        have hn:n.toNat=0:=by omega
        rw[hn,hm];refine⟨#[],.inl ⟨by simp,rfl⟩,by simp,fun i x hx=>by simp at hx⟩
       ·refine⟨zv.cells,.inr ⟨h0,rfl⟩,?_⟩;exact mE (hzr _) c6 c5 c4 (by omega)
      refine Gives.block (k:=⟨size,List.replicate n.toNat z,0,false⟩) rfl (v:=.slice (some ⟨w.heap.size,0,none⟩) n.toNat m.toNat) (w':=w.alloc (.cells ((Array.range (m.toNat*size)).map (zero[· % zero.size]!)) e)) (ρ':=upd ρ (slot,0) w.heap.size) ?_ ?_
      ·have hbig:¬((ti.bytes:Int)*m>2 ^ 48):=by
        rw[hbb]
        have:(bytes:Int)*m≤32768*4294967296:=by
         refine Int.le_trans (Int.mul_le_mul_of_nonneg_right (by omega) (by omega)) (Int.mul_le_mul_of_nonneg_left c2 (by omega))
        omega
       have hbig2:¬((ti.bytes:Int)*n>2 ^ 48):=by
        have:(ti.bytes:Int)*n≤ti.bytes*m:=Int.mul_le_mul_of_nonneg_left c1 (by omega);omega
       have hcond:(decide (m<0)||decide ((ti.bytes:Int)*m>2 ^ 48)||decide (n<0)||decide (n>m))=false:=by
        simp only[alW,amk];omega
       rcases hzero with⟨h0,rfl⟩|⟨h0,rfl⟩
       ·simp only[Instr.makeSlice,Sem.run_bind,run_underlying (gD he),Result.andThen_ok,asInt,asIntOf,Sem.run_pure,hrb,wn,wm,hcond,alo,if_false,run_askRoom,bN hs,if_pos h0,newRow,run_newObj];rfl
       ·simp only[Instr.makeSlice,Sem.run_bind,run_underlying (gD he),Result.andThen_ok,asInt,asIntOf,Sem.run_pure,hrb,wn,wm,hcond,alo,if_false,run_askRoom,bN hs,if_neg h0,hrun,newRow,run_newObj];rfl
      ·refine zh (w1:=w.alloc (.cells ((Array.range (m.toNat*size)).map (zero[· % zero.size]!)) e)) hr (Less.refl H) hf (alj _) (by simp) rfl rfl rfl (fun i hi=>uO w _ i hi) ⟨size,List.replicate n.toNat z,0,false⟩ (show 0<size by omega) (heap_alloc_new w _) hze (fun X'=> ?_);exact VR.Ga (heap_alloc_new w _) (by omega) (by simp)
     ·cases h
end
section
variable{P:Program}{w:World}{X Y:XT}{ρ:dP}
def Cells(P:Program)(w:World)(size n:Nat)(v:Value)(cs:Array Value):Prop:=
 (Builtin.lenOf v).run P w= .ok n w∧∀w':World,w'.heap=w.heap→(Builtin.firstCells size n v).run P w'= .ok cs w'
theorem jf{size c:Nat}{a:Option Addr}:Cells P w size 0 (.slice a 0 c) #[]:=by
 refine⟨rfl,fun w' _=> ?_⟩
 cases a with
 |none=>simp[Builtin.firstCells]
 |some a=>simp[Builtin.firstCells,loadCells,loadCellsFrom]
theorem wZ{size n c b o:Nat}(f:Nat→Value)(hf:∀j,j<n*size→w.cell? ⟨b,o+j,none⟩=some (f j)):Cells P w size n (.slice (some ⟨b,o,none⟩) n c) ((List.range (n*size)).map f).toArray:=by
 refine⟨rfl,fun w' hw=> ?_⟩;simp only[Builtin.firstCells];rw[run_loadCells w' ⟨b,o,none⟩ (n*size) f (fun j hj=> ?_)];rw[addr_add];have:w'.cell? ⟨b,o+j,none⟩=w.cell? ⟨b,o+j,none⟩:=World.cell?_of_block (w:=w) (by rw[hw]);rw[this];exact hf j hj
theorem lZ{t ty e:TypeId}{i:TypeInfo}{z:Value}(ht:P.underlying t=some (.slice e))(hi:P.info? e=some i)(hz:i.zero=some z)
  {base:Option Addr} {n cap m:Nat} {x:Value} {olds news:Array Value} (ho:Cells P w i.size n (.slice base n cap) olds) (hn:Cells P w i.size m x news)
  (hg:cap<n+m) (h63:n+m≤4294967296) (hb:i.bytes≤32768) (hzs:z.cells.size=i.size):
  ∃nc rest,n+m≤nc∧rest.size=(nc-(n+m))*i.size∧(Builtin.append_ #[t,t] ty #[.slice base n cap,x]).run P w=
   .ok (.slice (some ⟨w.heap.size,0,none⟩) (n+m) nc) (w.drew.alloc (.cells (olds++news++rest) e)):=by
 have h1:¬(n+m≤cap):=by omega
 have h2:¬(9223372036854775807<((n:Int)+(m:Int))):=by omega
 have hfit:Builtin.nextslicecap (n+m) cap*i.bytes≤281474976710656:=by
  refine growslice_fits hg ?_
  calc (n+m)*i.bytes≤4294967296*32768:=Nat.mul_le_mul h63 hb
   _=140737488355328:=rfl
 have h3:¬(281474976710656<Builtin.nextslicecap (n+m) cap*i.bytes):=by omega
 refine⟨grownCap w (n+m) cap e,Builtin.zeroCells z.cells (grownCap w (n+m) cap e-(n+m)),grownCap_ge w _ _ _,by simp[Builtin.zeroCells,hzs],?_⟩;have ho':=ho.2 w.drew rfl;have hn':=hn.2 w.drew rfl;have hl:=hn.1;simp[Builtin.append_,run_underlying ht,sizeOf,typeInfo,zeroValue,hi,hz,hl,h1,h2,h3,Question.forced,ho',hn',newRow,grownCap]
theorem run_append_room'{t ty e:TypeId}{i:TypeInfo}(ht:P.underlying t=some (.slice e))(hi:P.info? e=some i)
  {base:Option Addr} {n cap m:Nat} {x:Value} {news:Array Value} (hn:Cells P w i.size m x news) (hg:n+m≤cap) {w':World}
  (hst:∀a,base=some a→(storeCells (a.add (n*i.size)) news.toList).run P w= .ok () w') (hno:base=none→w'=w):
  (Builtin.append_ #[t,t] ty #[.slice base n cap,x]).run P w= .ok (.slice base (n+m) cap) w':=by
 have hl:=hn.1;have hn':=hn.2 w rfl
 cases base with
 |none=>have:=hno rfl;subst this;simp[Builtin.append_,run_underlying ht,sizeOf,typeInfo,hi,hl,hg,hn']
 |some a=>have:=hst a rfl;simp[Builtin.append_,run_underlying ht,sizeOf,typeInfo,hi,hl,hg,hn',this]
structure iV(w:World)(X:XT)(cs:Array Value)(sz:Nat)(es:List AV):Prop where
 size:cs.size=es.length*sz
 one:∀v∈cs.toList,v.oneCell'=true
 el:∀ρ,bg false w X ρ cs sz es
theorem iV.of{f:Nat→Nat→Value}{sz:Nat}(hpos:0<sz){es:List AV}(h1:∀(i:Nat) (x:AV),es[i]?=some x→x.cells.length=sz∧∀(j:Nat) (u:AV),x.cells[j]?=some u→(f i j).oneCell'=true∧PR w X (f i j) u):
  iV w X ((List.range (es.length*sz)).map fun k=>f (k / sz) (k % sz)).toArray sz es:=by
 have hget:∀k,k<es.length*sz→(((List.range (es.length*sz)).map fun k=>f (k / sz) (k % sz)).toArray).getD k undef=f (k / sz) (k % sz):=by
  intro k hk;simp[ala,hk]
 have hone:∀k,k<es.length*sz→(f (k / sz) (k % sz)).oneCell'=true:=by
  intro k hk;have hi:k / sz<es.length:=Nat.div_lt_of_lt_mul (by rw[Nat.mul_comm];exact hk);have hj:k % sz<sz:=Nat.mod_lt _ hpos;obtain⟨a1,a2⟩:=h1 (k / sz) es[k / sz] (by simp[hi]);exact(a2 (k % sz) es[k / sz].cells[k % sz] (by simp[a1,hj])).1
 refine⟨by simp,fun v hv=> ?_,fun ρ=>⟨by simp,fun i x hx=>⟨(h1 i x hx).1,fun j u hj=> ?_⟩⟩⟩
 ·simp only[amb,amI]at hv;obtain⟨k,hk,rfl⟩:=hv;exact hone k hk
 ·have hi:i<es.length:=(akX.1 hx).1;have hj':j<sz:=by rw[←(h1 i x hx).1];exact(akX.1 hj).1
  have hlt:i*sz+j<es.length*sz:=by
   have:(i+1)*sz≤es.length*sz:=alq _ hi;rw[alX]at this;omega
  rw[hget _ hlt];have d1:(i*sz+j)/ sz=i:=by rw[Nat.mul_comm,Nat.mul_add_div hpos,Nat.div_eq_of_lt hj'];omega
  have d2:(i*sz+j)% sz=j:=by rw[Nat.mul_comm,Nat.mul_add_mod,Nat.mod_eq_of_lt hj']
  rw[d1,d2];exact(h1 i x hx).2 j u hj
theorem iV.nil{sz:Nat}:iV w X #[] sz []:=⟨by simp,fun v hv=>by simp at hv,fun ρ=>⟨by simp,fun i x hx=>by simp at hx⟩⟩
theorem iV.mono{w':World}{X':XT}(hs:Stable w X w' X'){cs:Array Value}{sz:Nat}{es:List AV}(h:iV w X cs sz es):iV w' X' cs sz es:=
 ⟨h.size,h.one,fun ρ=>(h.el ρ).mono hs (fun _ _ h=>h)⟩
theorem PR.row{sz:Nat}(hpos:0<sz){xs:List AV}{t:Bool}{a:Option Addr}{cap sz':Nat}(hs:sz'=sz∨xs=[])(h:PR w X (.slice a xs.length cap) (.eO sz' xs t)):
  ∃cs,Cells P w sz xs.length (.slice a xs.length cap) cs∧iV w X cs sz xs:=by
 generalize hn:xs.length=n at h
 cases h with
 |lst0 a cap sz' t ht=>exact⟨#[],jf,.nil⟩
 |eO b o n cap sz' t xs f hn' hc ht hsz hx hr=>
  rcases hs with rfl|rfl
  ·subst hn;have row:=iV.of (w:=w) (X:=X) (f:=f) hpos (es:=xs) (fun i x hi=>⟨hsz i x hi,fun j u hj=>⟨(hx i x hi j u hj).2.2,hr i x hi j u hj⟩⟩);refine⟨_,wZ (fun k=>f (k / sz') (k % sz')) (fun k hk=> ?_),row⟩;have hi:k / sz'<xs.length:=Nat.div_lt_of_lt_mul (by rw[Nat.mul_comm];exact hk);have hj:k % sz'<sz':=Nat.mod_lt _ hpos;have hl:=hsz (k / sz') xs[k / sz'] (by simp[hi]);have:=(hx (k / sz') xs[k / sz'] (by simp[hi]) (k % sz') xs[k / sz'].cells[k % sz'] (by simp[hl,hj])).2.1;rw[show k / sz'*sz'+k % sz'=k from Nat.div_add_mod' k sz']at this;exact this
  ·simp at hn;subst hn;exact⟨#[],jf,.nil⟩
theorem jC.row{b:Nat}{k:cB}(hpos:0<k.sz)(hb:jC w X ρ b k)(hbox:k.box=false){off len cap:Nat}(hl:off+len≤k.elems.length):
  ∃cs,Cells P w k.sz len (.slice (some ⟨b,off*k.sz,none⟩) len cap) cs∧iV w X cs k.sz ((k.elems.drop off).take len):=by
 obtain⟨cs,T,hh,hle,he⟩:=hb.cells hpos;have hlen:((k.elems.drop off).take len).length=len:=by simp;omega
 have hget:∀i x,((k.elems.drop off).take len)[i]?=some x→k.elems[off+i]?=some x:=by
  intro i x hi;rw[amA,amw]at hi;split at hi
  ·exact hi
  ·cases hi
 have row:=iV.of (w:=w) (X:=X) (f:=fun i j=>cs.getD ((off+i)*k.sz+j) undef) hpos (es:=(k.elems.drop off).take len) (fun i x hi=>by
  obtain⟨a1,a2⟩:=he _ _ (hget i x hi);refine⟨a1,fun j u hj=> ?_⟩;have:=a2 j u hj;rw[hbox]at this;exact this)
 rw[hlen]at row;refine⟨_,wZ (fun q=>cs.getD ((off+q / k.sz)*k.sz+q % k.sz) undef) (fun q hq=> ?_),row⟩;rw[cell_of_row w b _ cs T (0,0) hh]
 have e:(off+q / k.sz)*k.sz+q % k.sz=off*k.sz+q:=by
  rw[alX,Nat.add_assoc,Nat.div_add_mod']
 rw[e]
 have:off*k.sz+q<cs.size:=by
  have:(off+len)*k.sz≤k.elems.length*k.sz:=alq _ hl;rw[alX]at this;omega
 simp[ala,this]
theorem LP{H:Heap}(hr:HR Y w ρ H){x:AV}{v:Value}{sz size:Nat}{ys:List AV}{l:List Nm}(hpos:0<size)(hv:VR w (XU Y ρ H) ρ v x)(h:jP H x=some (sz,ys,l))(hs:sz=size∨ys=[]):
  ∃cs,Cells P w size ys.length v cs∧iV w (XU Y ρ H) cs size ys:=by
 cases x with
 |eO sz' xs t=>
  simp only[jP,alg,al1]at h;obtain⟨rfl,rfl,rfl⟩:=h;obtain⟨a,cap,rfl,_,_,hp⟩:=hv.oD;exact hp.row hpos hs
 |own g sz' off len=>
  simp only[jP]at h
  cases hg:get H g with
  |none=>simp[hg]at h
  |some k=>
   simp only[hg]at h;split at h
   ·rename_i hc;obtain⟨c1,c2,c3,_⟩:=hc;simp only[alg,al1]at h;obtain⟨rfl,rfl,rfl⟩:=h;have hlen:((k.elems.drop off).take len).length=len:=by simp;omega
    rcases hv.jV with⟨a,rfl,rfl⟩|⟨b,cap,rfl,hρ,_,_,_⟩
    ·simp only[amH];exact⟨#[],jf,.nil⟩
    ·subst c3;rcases hs with rfl|he
     ·have:=(hr.at hg hρ).row (P:=P) hpos c2 (cap:=cap) c1;rw[hlen];exact this
     ·rw[he]at hlen;simp at hlen;subst hlen;rw[he];exact⟨#[],jf,.nil⟩
   ·cases h
 |_=>simp[jP]at h
theorem iV.append{cs ds:Array Value}{sz:Nat}{xs ys:List AV}(h:iV w X cs sz xs)(k:iV w X ds sz ys)(rest:Array Value)(ρ:dP):bg false w X ρ (cs++ds++rest) sz (xs++ys):=by
 refine⟨by simp[h.size,k.size,alX],fun i x hx=> ?_⟩
 have hg:∀q,q<cs.size→(cs++ds++rest).getD q undef=cs.getD q undef:=by
  intro q hq;simp only[ala];rw[am4 (by simp;omega),am4 hq]
 have hg2:∀q,q<ds.size→(cs++ds++rest).getD (cs.size+q) undef=ds.getD q undef:=by
  intro q hq;simp only[ala];rw[am4 (by simp;omega),Array.getElem?_append_right (by omega)];simp
 rcases am8 i xs.length with hi|hi
 ·rw[alp hi]at hx;obtain⟨a1,a2⟩:=(h.el ρ).2 i x hx;refine⟨a1,fun j u hj=> ?_⟩;have hj':j<sz:=by rw[←a1];exact(akX.1 hj).1
  have hlt:i*sz+j<cs.size:=by
   rw[h.size];have:(i+1)*sz≤xs.length*sz:=alq _ hi;rw[alX]at this;omega
  rw[hg _ hlt];exact a2 j u hj
 ·rw[alm hi]at hx;obtain⟨a1,a2⟩:=(k.el ρ).2 _ x hx;refine⟨a1,fun j u hj=> ?_⟩;have hj':j<sz:=by rw[←a1];exact(akX.1 hj).1
  have hi2:i-xs.length<ys.length:=(akX.1 hx).1
  have hlt:(i-xs.length)*sz+j<ds.size:=by
   rw[k.size];have:(i-xs.length+1)*sz≤ys.length*sz:=alq _ hi2;rw[alX]at this;omega
  have e:i*sz+j=cs.size+((i-xs.length)*sz+j):=by
   rw[h.size,←Nat.add_assoc,←alX]
   congr 2
   omega
  rw[e,hg2 _ hlt];exact a2 j u hj
theorem bg.behind{cs ds:Array Value}{sz:Nat}{xs ys:List AV}(h:bg false w X ρ cs sz xs)(k:iV w X ds sz ys)(hfit:xs.length*sz+ds.toList.length≤cs.size):
  bg false w X ρ ((cs.toList.take (xs.length*sz)++ds.toList++cs.toList.drop (xs.length*sz+ds.toList.length)).toArray) sz (xs++ys):=by
 have hds:ds.toList.length=ys.length*sz:=by simp[k.size]
 refine⟨by rw[bJ _ _ _ hfit];simp[alX];omega,fun i x hx=> ?_⟩;rcases am8 i xs.length with hi|hi
 ·rw[alp hi]at hx;obtain⟨a1,a2⟩:=h.2 i x hx;refine⟨a1,fun j u hj=> ?_⟩;have hj':j<sz:=by rw[←a1];exact(akX.1 hj).1
  have hlt:i*sz+j<xs.length*sz:=by
   have:(i+1)*sz≤xs.length*sz:=alq _ hi;rw[alX]at this;omega
  rw[fH _ _ _ hfit,if_neg (by omega)];exact a2 j u hj
 ·rw[alm hi]at hx;obtain⟨a1,a2⟩:=(k.el ρ).2 _ x hx;refine⟨a1,fun j u hj=> ?_⟩;have hj':j<sz:=by rw[←a1];exact(akX.1 hj).1
  have hi2:i-xs.length<ys.length:=(akX.1 hx).1
  have hlt:(i-xs.length)*sz+j<ys.length*sz:=by
   have:(i-xs.length+1)*sz≤ys.length*sz:=alq _ hi2;rw[alX]at this;omega
  have e:i*sz+j=xs.length*sz+((i-xs.length)*sz+j):=by
   rw[←Nat.add_assoc,←alX]
   congr 2
   omega
  rw[fH _ _ _ hfit,if_pos (by omega)];have e2:i*sz+j-xs.length*sz=(i-xs.length)*sz+j:=by omega
  rw[e2,jd];exact a2 j u hj
theorem bg.take{cs:Array Value}{sz:Nat}{xs:List AV}(h:bg false w X ρ cs sz xs)(n:Nat):bg false w X ρ cs sz (xs.take n):=by
 refine⟨alS (alq _ (by simp;omega)) h.1,fun i x hx=> ?_⟩;rw[amA]at hx;split at hx
 ·exact h.2 i x hx
 ·cases hx
theorem Gf {H:Heap} (hr:HR Y w ρ H) {slot:Nat} (hf:Free H slot) {t ty:TypeId} {s x:AV} {vs vx:Value} {r:iD}
  (hs:VR w (XU Y ρ H) ρ vs s) (hx:VR w (XU Y ρ H) ρ vx x) (h:lF P t s x H slot=some r):Gives P Y w ρ H slot r (Builtin.append_ #[t,t] ty #[vs,vx]):=by
 unfold lF at h
 cases he:kL P t with
 |none=>simp[he]at h
 |some e=>
  simp only[he]at h
  cases hsz:bf P e with
  |none=>simp[hsz]at h
  |some size=>
   cases hby:vO P e with
   |none=>simp[hsz,hby]at h
   |some bytes=>
    cases hz:oo P e with
    |none=>simp[hsz,hby,hz]at h
    |some z=>
    cases hsrc:jP H x with
    |none=>simp[hsz,hby,hz,hsrc]at h
    |some q=>
     obtain⟨sz',ys,l⟩:=q;simp only[hsz,hby,hz,hsrc]at h;split at h
     ·rename_i hc;obtain⟨c1,c2,c4,c5,c3⟩:=hc;obtain⟨ti,hti,hbb,_⟩:=FW hby w
      have hsi:ti.size=size:=by
       unfold bf at hsz;rw[hti]at hsz;simpa using hsz
      obtain⟨news,hnc,hnr⟩:=LP (P:=P) hr c1 hx hsrc c3;obtain⟨zv,_,hcv,ti',hti',hzv⟩:=nU hz w;rw[hti]at hti';cases hti'
      have hzs:zv.cells.size=ti.size:=by
       have h1:VR w (XU Y ρ H) ρ zv z:=by rw[hcv];exact .pur _ _ (rG w _ zv)
       rw[(h1.KH c5).size,c4,hsi]
      rw[←hsi]at hnc
      have more:∀(H1:Heap) (hl:Less H1 H) (hlen1:H1.length=H.length) (base:Option Addr) (n cap:Nat) (olds:Array Value) (es:List AV) (jw:Nat),es.length=n→Cells P w ti.size n (.slice base n cap) olds→
        iV w (XU Y ρ H) olds size es→cap<n+ys.length→n+ys.length≤4294967296→
        ∃v w' ρ',(Builtin.append_ #[t,t] ty #[.slice base n cap,vx]).run P w= .ok v w'∧
         Made Y w ρ H w' ρ' (H1.set slot [some ⟨size,es++ys,jw,false⟩]) v (.own (slot,0) size 0 (n+ys.length)):=by
       intro H1 hl hlen1 base n cap olds es jw hn ho hor hg h63;obtain⟨nc,rest,g1,g2,g3⟩:=lZ (ty:=ty) (gD he) hti hzv ho hnc hg h63 (by omega) hzs;have hfr:Free H1 slot:=hf.less hl hlen1;refine⟨_,_,upd ρ (slot,0) w.heap.size,g3,?_⟩;refine zh (w1:=w.drew.alloc (.cells (olds++news++rest) e)) hr hl hfr (alj _) (by simp) rfl rfl rfl (fun i hi=>uO w.drew _ i hi) ⟨size,es++ys,jw,false⟩ (show 0<size by omega) (heap_alloc_new w.drew _) ?_ (fun X'=> ?_)
       ·exact(hor.append hnr rest ρ).mono (hl.st.xu Y) (fun _ _ h=>h)
       ·refine VR.Ga (heap_alloc_new w.drew _) g1 ?_;have e1:=hor.size;have e2:=hnr.size;simp only[Array.size_append,e1,e2,g2,hn,hsi];rw[←alX,←alX];exact alq _ (by omega)
      cases s with
      |eO sz xs tight=>
       simp only at h;split at h
       ·rename_i hcc;obtain⟨rfl,_⟩:=hcc;split at h
        ·rename_i hsz2;cases h;obtain⟨a,cap,rfl,hcap,_,_⟩:=hs.oD
         have hnews:news= #[]:=by
          have:=hnr.size;simp at this;exact this
         subst hnews;have hrun:=run_append_room' (ty:=ty) (base:=a) (n:=xs.length) (cap:=cap) (w':=w) (gD he) hti hnc (by simpa using hcap) (fun a _=>by simp[storeCells]) (fun _=>rfl);refine⟨_,w,ρ,hrun,?_⟩
         have hset:(aP H []).set slot (([]:List cB).map some)=H:=by
          show H.set slot []=H
          apply List.ext_getElem?;intro j;rw[List.getElem?_set];split
          ·rename_i e;subst e;have h2:=hf.2;rw[al8]at h2;rw[if_pos hf.1]
           cases hh:H[slot]? with
           |none=>have:=amj.1 hh;have:=hf.1;omega
           |some q=>rw[hh]at h2;simp at h2;rw[h2]
          ·rfl
         show Made Y w ρ H w ρ ((aP H []).set slot (([]:List cB).map some)) _ _
         rw[hset];refine⟨hr,?_,Stable.refl w _,fun _ _ h=>h⟩;rw[hsz2]at hs;simpa using hs
        ·cases h
       split at h
       ·rename_i hcc;obtain⟨d1,d2,d3,d4⟩:=hcc;cases h;obtain⟨a,cap,rfl,hcap,htight,hp⟩:=hs.oD;have hcap':=htight d1;subst hcap';by_cases hm:ys.length=0
        ·have hys:ys=[]:=amc hm
         have hxs:xs=[]:=by
          rcases d3 with h|h
          ·exact h
          ·omega
         subst hys hxs
         have hnews:news= #[]:=by
          have:=hnr.size;simp at this;exact this
         subst hnews;have hrun:=run_append_room' (ty:=ty) (base:=a) (n:=0) (cap:=0) (w':=w) (gD he) hti hnc (alj _) (fun a _=>by simp[storeCells]) (fun _=>rfl);obtain⟨v1,v2⟩:=hr.MZ hf ⟨size,[],0,false⟩ rfl rfl;exact Gives.block (k:=⟨size,[],0,false⟩) rfl hrun ⟨v1,.own0 _ _ _ _,v2,fun _ _ h=>h⟩
        ·obtain⟨olds,hoc,hor⟩:=hp.row (P:=P) c1 d2;rw[←hsi]at hoc;obtain⟨v,w',ρ',m1,m2⟩:=more H (Less.refl H) rfl a xs.length xs.length olds xs 0 rfl hoc hor (by omega) d4;exact Gives.block (k:=⟨size,xs++ys,0,false⟩) rfl m1 m2
       ·cases h
      |own g sz off len=>
       simp only at h
       cases hg:get H g with
       |none=>simp[hg]at h
       |some k=>
        simp only[hg]at h;split at h
        ·rename_i hcc;obtain⟨d1,d2,d3,d4,d5,d6,d7⟩:=hcc;subst d3;have htl:(k.elems.take len).length=len:=by simp;omega
         cases h;have hl:Less (set H g none) H:=Less.AR H g;have hfs:Free (set H g none) slot:=hf.less hl (wV H g none);rcases hs.jV with⟨a,rfl,hlen⟩|⟨b,cap,rfl,hρ,hb,hlc,hk⟩
         ·have hes:k.elems.take len=[]:=amc (by rw[htl];exact hlen);by_cases hm:ys.length=0
          ·have hys:ys=[]:=amc hm;subst hys
           have hnews:news= #[]:=by
            have:=hnr.size;simp at this;exact this
           subst hnews;have hrun:=run_append_room' (ty:=ty) (base:=a) (n:=0) (cap:=0) (w':=w) (gD he) hti hnc (alj _) (fun a _=>by simp[storeCells]) (fun _=>rfl);obtain⟨v1,v2⟩:=(hr.less hl).MZ hfs ⟨size,k.elems.take len++ [],k.jw,false⟩ (by rw[hes];rfl) rfl;refine Gives.block (k:=⟨size,k.elems.take len++ [],k.jw,false⟩) rfl hrun (ρ':=ρ) ⟨v1,?_,hl.st.trans v2,fun _ _ h=>h⟩;subst hlen;exact .own0 _ _ _ _
          ·obtain⟨v,w',ρ',m1,m2⟩:=more (set H g none) hl (wV H g none) a 0 0 #[] (k.elems.take len) k.jw (by rw[hes];rfl) jf (by rw[hes];exact .nil) (by omega) (by omega);refine Gives.block (k:=⟨size,k.elems.take len++ys,k.jw,false⟩) rfl m1 (ρ':=ρ') ?_;subst hlen;exact m2
         ·simp only[Nat.zero_mul]at *;by_cases hroom:len+ys.length≤cap
          ·obtain⟨cs,T,hh,hel⟩:=(hr.at hg hρ).cells (by rw[d2];exact c1);have hbs:bsize w b=cs.size:=by simp[bsize,hh]
           have hds:news.toList.length=ys.length*size:=by simp[hnr.size]
           have hfit:len*size+news.toList.length≤cs.size:=by
            rw[hds,←alX,←hbs];have:(len+ys.length)*size≤cap*size:=alq _ hroom;rw[d1]at hk;omega
           have hst:=run_storeCells_at P b (len*size) T news.toList 0 cs w hh (by simpa using hfit) hnr.one;simp only[amB]at hst
           have hrun:=run_append_room' (ty:=ty) (base:=some ⟨b,0,none⟩) (n:=len) (cap:=cap) (gD he) hti hnc hroom (w':=w.setRow b (cs.toList.take (len*size)++news.toList++cs.toList.drop (len*size+news.toList.length)).toArray) (fun a ha=>by
            cases ha;rw[addr_add,hsi,alQ];exact hst) (fun h=>by cases h)
           rw[d2,d5]at hel;have hbeh:=(hel.take len).behind hnr (by rw[htl];exact hfit);rw[htl]at hbeh;have hmove:=hr.move hf hg hρ (w1:=w.setRow b (cs.toList.take (len*size)++news.toList++cs.toList.drop (len*size+news.toList.length)).toArray) (k1:=⟨size,k.elems.take len++ys,k.jw,false⟩)
            (show 0<size by omega) rfl rfl rfl (by simp) (fun j hj=>setRow_other w b j _ hj) hh (setRow_heap w b cs _ T _ hh) (bJ _ _ _ hfit)
            (fun o ho=>mH _ _ _ hfit o (by rw[d2]at ho;exact am0 ho (alq _ d6))) d2.symm (alj _) hbeh
           refine Gives.block (k:=⟨size,k.elems.take len++ys,k.jw,false⟩) rfl hrun ⟨hmove.1,?_,hmove.2.1,hmove.2.2⟩;refine VR.Ga (setRow_heap w b cs _ T _ hh) hroom ?_;rw[bJ _ _ _ hfit,←hbs,←d1];omega
          ·have hpos:0<k.sz:=by omega
           obtain⟨olds,hoc,hor⟩:=(hr.at hg hρ).row (P:=P) hpos d5 (off:=0) (len:=len) (cap:=cap) (by omega);simp only[Nat.zero_mul,al9]at hoc hor;rw[d2]at hoc hor;rw[←hsi]at hoc;obtain⟨v,w',ρ',m1,m2⟩:=more (set H g none) hl (wV H g none) (some ⟨b,0,none⟩) len cap olds (k.elems.take len) k.jw htl hoc hor (by omega) d7;exact Gives.block (k:=⟨size,k.elems.take len++ys,k.jw,false⟩) rfl m1 m2
        ·cases h
      |_=>simp at h
     ·cases h
theorem PR.take{sz:Nat}{xs:List AV}{t:Bool}{a:Option Addr}{n cap k:Nat}(h:PR w X (.slice a n cap) (.eO sz xs t))(hk:k≤xs.length):PR w X (.slice a k cap) (.eO sz (xs.take k) false):=by
 cases h with
 |lst0 a cap sz t ht=>
  have:k=0:=by simpa using hk
  subst this;exact .lst0 _ _ _ _ (fun e=>by cases e)
 |eO b o n cap sz t xs f hn hc ht hsz hx hr=>
  have get:∀{i:Nat} {x:AV},(xs.take k)[i]?=some x→xs[i]?=some x:=by
   intro i x hi;rw[amA]at hi;split at hi
   ·exact hi
   ·cases hi
  exact .eO b o k cap sz false (xs.take k) f (by simp;omega) (by omega) (fun e=>by cases e) (fun i x hi=>hsz i x (get hi)) (fun i x hi=>hx i x (get hi)) (fun i x hi=>hr i x (get hi))
theorem Ng{H:Heap}(hr:HR Y w ρ H){x:AV}{v:Value}{sz size k:Nat}{ys:List AV}{l:List Nm}(hpos:0<size)(hv:VR w (XU Y ρ H) ρ v x)(h:jP H x=some (sz,ys,l))(hs:sz=size∨ys=[])(hk:k≤ys.length):
  ∃cs,(Builtin.lenOf v).run P w= .ok ys.length w∧(Builtin.firstCells size k v).run P w= .ok cs w∧iV w (XU Y ρ H) cs size (ys.take k):=by
 have hfc:∀(a:Option Addr) (m m' c c':Nat),Builtin.firstCells size k (.slice a m c)=Builtin.firstCells size k (.slice a m' c'):=fun a m m' c c'=>by cases a<;>rfl
 cases x with
 |eO sz' xs t=>
  simp only[jP,alg,al1]at h;obtain⟨rfl,rfl,rfl⟩:=h;obtain⟨a,cap,rfl,_,_,hp⟩:=hv.oD;have hl:(xs.take k).length=k:=by simp;omega
  have hp2:=hp.take hk;have hp3:PR w (XU Y ρ H) (.slice a (xs.take k).length cap) (.eO sz' (xs.take k) false):=by rw[hl];exact hp2
  obtain⟨cs,c1,c2⟩:=hp3.row (P:=P) hpos (by rcases hs with h|h;exact .inl h;exact .inr (by rw[h];simp));rw[hl]at c1;exact⟨cs,rfl,by rw[hfc a xs.length k cap cap];exact c1.2 w rfl,c2⟩
 |own g sz' off len=>
  simp only[jP]at h
  cases hg:get H g with
  |none=>simp[hg]at h
  |some b0=>
   simp only[hg]at h;split at h
   ·rename_i hc;obtain⟨c1,c2,c3,_⟩:=hc;simp only[alg,al1]at h;obtain⟨rfl,rfl,rfl⟩:=h;have hlen:((b0.elems.drop off).take len).length=len:=by simp;omega
    rw[hlen]at hk ⊢;rw[List.take_take,Nat.min_eq_left hk];rcases hv.jV with⟨a,rfl,rfl⟩|⟨b,cap,rfl,hρ,_,_,_⟩
    ·have:k=0:=by omega
     subst this;exact⟨#[],rfl,(jf (P:=P) (w:=w) (size:=size) (c:=0) (a:=a)).2 w rfl,by rw[amH];exact .nil⟩
    ·subst c3;rcases hs with rfl|he
     ·obtain⟨cs,e1,e2⟩:=(hr.at hg hρ).row (P:=P) hpos c2 (off:=off) (len:=k) (cap:=cap) (by omega);exact⟨cs,rfl,by rw[hfc _ len k cap cap];exact e1.2 w rfl,e2⟩
     ·rw[he]at hlen;have hk0:k=0:=by simp at hlen;omega
      subst hk0;refine⟨#[],rfl,?_,by rw[amH];exact .nil⟩;simp[Builtin.firstCells,loadCells,loadCellsFrom]
   ·cases h
 |_=>simp[jP]at h
theorem bg.mid{cs ds:Array Value}{sz off:Nat}{xs ys:List AV}(h:bg false w X ρ cs sz xs)(k:iV w X ds sz ys)(hle:off+ys.length≤xs.length):
  bg false w X ρ ((cs.toList.take (off*sz)++ds.toList++cs.toList.drop (off*sz+ds.toList.length)).toArray) sz (splice xs off ys):=by
 have hds:ds.toList.length=ys.length*sz:=by simp[k.size]
 have hfit:off*sz+ds.toList.length≤cs.size:=by
  rw[hds,←alX];exact alS (alq _ hle) h.1
 refine⟨by rw[bJ _ _ _ hfit,length_splice _ _ _ hle];exact h.1,fun i x hx=> ?_⟩;rw[uJ _ _ _ hle]at hx;split at hx
 ·rename_i hi;obtain⟨a1,a2⟩:=(k.el ρ).2 _ x hx;refine⟨a1,fun j u hj=> ?_⟩;have hj':j<sz:=by rw[←a1];exact(akX.1 hj).1
  have hi2:i-off<ys.length:=(akX.1 hx).1
  have hlt:(i-off)*sz+j<ys.length*sz:=by
   have:(i-off+1)*sz≤ys.length*sz:=alq _ hi2;rw[alX]at this;omega
  have e:i*sz+j=off*sz+((i-off)*sz+j):=by
   rw[←Nat.add_assoc,←alX]
   congr 2
   omega
  rw[fH _ _ _ hfit,if_pos (by omega)];have e2:i*sz+j-off*sz=(i-off)*sz+j:=by omega
  rw[e2,jd];exact a2 j u hj
 ·rename_i hi;obtain⟨a1,a2⟩:=h.2 i x hx;refine⟨a1,fun j u hj=> ?_⟩;have hj':j<sz:=by rw[←a1];exact(akX.1 hj).1
  have hne:¬(off*sz≤i*sz+j∧i*sz+j<off*sz+ds.toList.length):=by
   intro⟨b1,b2⟩;rw[hds,←alX]at b2;apply hi;constructor
   ·refine Nat.le_of_not_lt fun hlt=> ?_
    have:(i+1)*sz≤off*sz:=alq _ hlt;rw[alX]at this;omega
   ·refine Nat.lt_of_not_le fun hge=> ?_
    have:(off+ys.length)*sz≤i*sz:=alq _ hge;omega
  rw[fH _ _ _ hfit,if_neg hne];exact a2 j u hj
theorem IG{H:Heap}(hr:HR Y w ρ H){g:Nm}{k:cB}(hg:get H g=some k){b:Nat}(hρ:ρ g=some b)(hpos:0<k.sz)(hbox:k.box=false){off:Nat}(hfrz:k.jw≤off){ds:Array Value}{ys:List AV}
  (hd:iV w (XU Y ρ H) ds k.sz ys) (hle:off+ys.length≤k.elems.length):
  ∃w',(storeCells ⟨b,off*k.sz,none⟩ ds.toList).run P w= .ok () w'∧HR Y w' ρ (set H g (some {k with elems:=splice k.elems off ys}))∧Stable w (XX ρ H) w' (XX ρ (set H g (some {k with elems:=splice k.elems off ys}))):=by
 obtain⟨cs,T,hh,hel⟩:=(hr.at hg hρ).cells hpos;rw[hbox]at hel;have hds:ds.toList.length=ys.length*k.sz:=by simp[hd.size]
 have hfit:off*k.sz+ds.toList.length≤cs.size:=by
  rw[hds,←alX];exact alS (alq _ hle) hel.1
 have hst:=run_storeCells_at P b (off*k.sz) T ds.toList 0 cs w hh (by simpa using hfit) hd.one;simp only[amB]at hst;refine⟨_,hst,?_⟩;refine hr.write hg hρ hpos rfl rfl rfl (by simp) (fun j hj=>setRow_other w b j _ hj) hh (setRow_heap w b cs _ T _ hh) (bJ _ _ _ hfit) (fun o ho=>mH _ _ _ hfit o ?_) rfl (alj _) ?_
 ·exact am0 ho (alq _ hfrz)
 ·show bg k.box _ _ _ _ _ _
  rw[hbox];exact hel.mid hd hle
theorem xU(xs:List AV)(off:Nat):splice xs off []=xs:=by simp[splice]
theorem HR.F7{H:Heap}{g:Nm}{k:cB}(hr:HR Y w ρ H)(hg:get H g=some k):HR Y w ρ (set H g (some k))∧Stable w (XX ρ H) w (XX ρ (set H g (some k))):=by
 have hl:Less (set H g (some k)) H:=Less.XA hg rfl rfl rfl (alj _);exact⟨hr.less hl,hl.st⟩
theorem JN{H:Heap}(hr:HR Y w ρ H){t t' ty:TypeId}{d x:AV}{vd vx:Value}{r:iD}(hd:VR w (XU Y ρ H) ρ vd d)(hx:VR w (XU Y ρ H) ρ vx x)(h:uN P t d x H=some r):
  r.new=[]∧∃v w',(Builtin.copy_ #[t,t'] ty #[vd,vx]).run P w= .ok v w'∧HR Y w' ρ (aP H r.wr)∧Stable w (XX ρ H) w' (XX ρ (aP H r.wr))∧VR w' (XU Y ρ (aP H r.wr)) ρ v r.val:=by
 unfold uN at h;split at h
 ·rename_i e he;split at h
  ·rename_i size g sz off len sz' ys l hsz hsrc;split at h
   ·rename_i k hg;split at h
    ·rename_i hc;obtain⟨c1,c2,c3,c4,c5,c6,c7⟩:=hc;cases h;subst c1;obtain⟨news,n1,n2,n3⟩:=Ng (P:=P) (k:=min ys.length len) hr c3 hx hsrc c7 (Nat.min_le_left _ _)
     have htk:ys.take len=ys.take (min ys.length len):=by
      rcases Nat.le_total ys.length len with hh|hh
      ·rw[Nat.min_eq_left hh,alP hh,amd]
      ·rw[Nat.min_eq_right hh]
     have hsz':(sizeOf e).run P w= .ok sz w:=bN hsz w;refine⟨rfl,.int .i64 (min ys.length len:Nat),?_⟩;simp only[aP];rw[htk];rcases hd.jV with⟨a,rfl,rfl⟩|⟨b,cap,rfl,hρ,hb,hlc,hk⟩
     ·have hmin:min ys.length 0=0:=Nat.min_zero _;rw[hmin]at n2 n3 ⊢
      have hnews:news= #[]:=by
       have:=n3.size;simp at this;exact this
      subst hnews;rw[amH,xU];obtain⟨s1,s2⟩:=hr.F7 hg;refine⟨w,?_,s1,s2,.pur _ _ (.int _ _)⟩;have hst:∀a:Addr,(storeCells a []).run P w= .ok () w:=fun a=>by simp[storeCells]
      cases a<;>simp[Builtin.copy_,run_underlying (gD he),n1,n2,hsz',hst,goInt,Nat.min_def]
     ·subst c2;have hlt:(ys.take (min ys.length len)).length=min ys.length len:=by rw[alv];omega
      obtain⟨w',hst,s1,s2⟩:=IG (P:=P) hr hg hρ c3 c5 c6 n3 (by rw[hlt];omega);refine⟨w',?_,s1,s2,.pur _ _ (.int _ _)⟩;have hmn:Nat.min ys.length len=min ys.length len:=rfl;simp[Builtin.copy_,run_underlying (gD he),n1,hmn,n2,hsz',hst,goInt]
    ·cases h
   ·cases h
  ·cases h
 ·cases h
theorem iV.XJ{cs:Array Value}{sz:Nat}{es:List AV}(hpos:0<sz)(hs:cs.size=es.length*sz)(h:∀ρ,bg false w X ρ cs sz es):iV w X cs sz es:=by
 refine⟨hs,fun v hv=> ?_,h⟩;obtain⟨q,hq,rfl⟩:=List.mem_iff_getElem.1 hv;have hq':q<cs.size:=by simpa using hq
 have hi:q / sz<es.length:=Nat.div_lt_of_lt_mul (by rw[Nat.mul_comm,←hs];exact hq');have hj:q % sz<sz:=Nat.mod_lt _ hpos;obtain⟨a1,a2⟩:=(h (fun _=>none)).2 (q / sz) es[q / sz] (by simp[hi]);have:=(a2 (q % sz) es[q / sz].cells[q % sz] (by simp[a1,hj])).1;rw[show q / sz*sz+q % sz=q from Nat.div_add_mod' q sz]at this;simpa[Array.getD,hq']using this
theorem GL{H:Heap}(hr:HR Y w ρ H){t ty:TypeId}{d:AV}{vd:Value}{r:iD}(hd:VR w (XU Y ρ H) ρ vd d)(h:p8 P t d H=some r):
  r.new=[]∧∃v w',(Builtin.clear_ #[t] ty #[vd]).run P w= .ok v w'∧HR Y w' ρ (aP H r.wr)∧Stable w (XX ρ H) w' (XX ρ (aP H r.wr))∧VR w' (XU Y ρ (aP H r.wr)) ρ v r.val:=by
 unfold p8 at h;split at h
 ·rename_i e he;split at h
  ·rename_i size z g sz off len hsz hz;split at h
   ·rename_i k hg;split at h
    ·rename_i hc;obtain⟨c1,c2,c3,c4,c5,c6,c7,c8⟩:=hc;cases h;subst c1;obtain⟨zv,hrun,hcv,_⟩:=y7 hz w;have hzr:∀X',PR w X' zv z:=fun X'=>by rw[hcv];exact(rG w X' zv).nt
     refine⟨rfl,.tuple #[],?_⟩;simp only[aP];rcases hd.jV with⟨a,rfl,rfl⟩|⟨b,cap,rfl,hρ,hb,hlc,hk⟩
     ·rw[List.replicate_zero,xU];obtain⟨s1,s2⟩:=hr.F7 hg;refine⟨w,?_,s1,s2,.tup #[] [] rfl (fun i x hx=>by simp at hx)⟩;cases a<;>simp[Builtin.clear_,run_underlying (gD he)]
     ·subst c2
      have hzs:zv.cells.size=k.sz:=by
       have h1:VR w (XU Y ρ H) ρ zv z:=.pur _ _ (hzr _);rw[(h1.KH c8).size,c7]
      by_cases h0:len=0
      ·subst h0;rw[List.replicate_zero,xU];obtain⟨s1,s2⟩:=hr.F7 hg;refine⟨w,?_,s1,s2,.tup #[] [] rfl (fun i x hx=>by simp at hx)⟩;simp[Builtin.clear_,run_underlying (gD he)]
      ·have hrow:iV w (XU Y ρ H) (Builtin.zeroCells zv.cells len) k.sz (List.replicate len z):=by
        refine iV.XJ c3 (by simp[Builtin.zeroCells,hzs]) (fun ρ'=> ?_);have:=mE (ρ:=ρ') (n:=len) (m:=len) (hzr (XU Y ρ H)) c8 c7 c3 (alj _);simpa[Builtin.zeroCells,hzs]using this
       obtain⟨w',hst,s1,s2⟩:=IG (P:=P) hr hg hρ c3 c5 c6 hrow (by simp;omega);refine⟨w',?_,s1,s2,.tup #[] [] rfl (fun i x hx=>by simp at hx)⟩;obtain⟨m,rfl⟩:∃m,len=m+1:=⟨len-1,by omega⟩
       simp[Builtin.clear_,run_underlying (gD he),hrun,hst]
    ·cases h
   ·cases h
  ·cases h
 ·cases h
end
theorem PK:∀(r l:List Nm) (g:Nm),g∈jg l r↔g∈l∨g∈r:=by
 intro r
 induction r with
 |nil=>intro l g;simp[jg]
 |cons a r ih=>
  intro l g;simp only[jg];split
  ·rename_i h;rw[ih];constructor
   ·rintro(h1|h1)
    ·exact .inl h1
    ·exact .inr (by simp[h1])
   ·rintro(h1|h1)
    ·exact .inl h1
    ·simp at h1;rcases h1 with rfl|h1
     ·exact .inl h
     ·exact .inr h1
  ·rw[ih];simp[or_assoc]
theorem ny:∀(r l:List Nm),l.Nodup→(jg l r).Nodup:=by
 intro r
 induction r with
 |nil=>intro l h;exact h
 |cons a r ih=>
  intro l h;simp only[jg];split
  ·exact ih l h
  ·rename_i hn;refine ih _ ?_;rw[List.nodup_append];exact⟨h,by simp,fun x hx y hy=>by simp at hy;subst hy;intro e;subst e;exact hn hx⟩
theorem Da(H:Heap)(l:List Nm):(reach H l).Nodup:=by
 unfold reach grow;exact ny _ _ (ny _ _ (ny _ _ (ny _ _ (by simp))))
theorem iI(g:Nm):∀(l:List Nm) (i k:Nat),idxOf g l i=some k→i≤k∧l[k-i]?=some g:=by
 intro l
 induction l with
 |nil=>intro i k h;simp[idxOf]at h
 |cons a r ih=>
  intro i k h;simp only[idxOf]at h;split at h
  ·rename_i e;cases h;subst e;simp
  ·obtain⟨h1,h2⟩:=ih (i+1) k h;refine⟨by omega,?_⟩;have:k-i=(k-(i+1))+1:=by omega
   rw[this];simpa using h2
theorem j5:∀(l:List Nm) (i k:Nat) (g:Nm),l.Nodup→l[k]?=some g→idxOf g l i=some (i+k):=by
 intro l
 induction l with
 |nil=>intro i k g _ h;simp at h
 |cons a r ih=>
  intro i k g hn h;simp only[idxOf]
  cases k with
  |zero=>simp at h;subst h;simp
  |succ k=>
   have h':r[k]?=some g:=by simpa using h
   have hne:a≠g:=by
    intro e;subst e;exact(List.nodup_cons.1 hn).1 (alb h')
   rw[if_neg hne,ih (i+1) k g (List.nodup_cons.1 hn).2 h']
   congr 1
   omega
section
variable{P:Program}{w:World}{X:XT}{ρ ρ':dP}
def Moves(f:Ren)(ρ ρ':dP):Prop:=∀g g' b,f g=some g'→ρ g=some b→ρ' g'=some b
theorem EC{f:Ren}(hf:Moves f ρ ρ'){v:Value}{x:AV}(h:VR w X ρ v x):VR w X ρ' v (D5 f x):=by
 cases x with
 |ptr g sz i off=>
  simp only[D5]
  cases hg:f g with
  |none=>exact .undef _
  |some g'=>
   cases h with
   |pur v x h=>cases h
   |ptr _ b _ _ _ hs hρ=>exact .ptr _ _ _ _ _ hs (hf g g' b hg hρ)
   |mp _ b hρ=>exact .mp _ _ (hf g g' b hg hρ)
 |own g sz off len=>
  simp only[D5]
  cases hg:f g with
  |none=>exact .undef _
  |some g'=>
   rcases h.jV with⟨a,rfl,rfl⟩|⟨b,cap,rfl,hρ,hb,hc,hk⟩
   ·exact .own0 _ _ _ _
   ·exact .own _ _ _ _ _ _ (hf g g' b hg hρ) hb hc hk
 |clo=>exact .undef _
 |agg=>exact .undef _
 |tup=>exact .undef _
 |_=>
  cases h with
  |pur v x h=>exact .pur _ _ h
theorem getElem?_map'{α β:Type}(l:List α)(f:α→β){i:Nat}{y:β}(h:(l.map f)[i]?=some y):∃x,l[i]?=some x∧f x=y:=by
 rw[ale]at h;exact alf.1 h
theorem Av{f:Ren}(hf:Moves f ρ ρ'){v:Value}{x:AV}(h:VR w X ρ v x):VR w X ρ' v (Hr f x):=by
 cases x with
 |clo fn cs=>
  cases h with
  |pur v x h=>cases h
  |clo _ akV _ hn hc=>
   refine .clo _ _ _ (by simpa using hn) (fun i y hy=> ?_);obtain⟨z,hz,rfl⟩:=getElem?_map' _ _ hy;exact EC hf (hc i z hz)
 |_=>exact EC hf h
theorem Mc{f:Ren}(hf:Moves f ρ ρ'){v:Value}{x:AV}(h:VR w X ρ v x):VR w X ρ' v (Hf f x):=by
 cases x with
 |agg cs=>
  obtain⟨akV,rfl,hn,h1,hc⟩:=h.kD;refine .agg _ _ (by simpa using hn) h1 (fun i y hy=> ?_);obtain⟨z,hz,rfl⟩:=getElem?_map' _ _ hy;exact Av hf (hc i z hz)
 |_=>exact Av hf h
theorem uQ{f:Ren}(hf:Moves f ρ ρ'){v:Value}{x:AV}(h:VR w X ρ v x):VR w X ρ' v (BJ f x):=by
 cases x with
 |tup cs=>
  obtain⟨akV,rfl,hn,hc⟩:=h.KQ;refine .tup _ _ (by simpa using hn) (fun i y hy=> ?_);obtain⟨z,hz,rfl⟩:=getElem?_map' _ _ hy;exact Mc hf (hc i z hz)
 |_=>exact Mc hf h
theorem P5(f:Ren)(x:AV):(Hf f x).cells=x.cells.map (Hr f):=by
 cases x with
 |agg cs=>rfl
 |clo fn cs=>rfl
 |ptr g sz i off=>cases h:f g<;>simp[AV.cells,Hf,Hr,D5,h]
 |own g sz off len=>cases h:f g<;>simp[AV.cells,Hf,Hr,D5,h]
 |_=>rfl
theorem jC.ren{f:Ren}(hf:Moves f ρ ρ'){b:Nat}{k:cB}(h:jC w X ρ b k):jC w X ρ' b (bZ f k):=by
 rcases h with⟨h0,cs,T,hh,hle,he⟩|⟨m1,m2,m3⟩
 case inr=>
  have e:bZ f k=k:=by unfold bZ;rw[m2];rfl
  rw[e];exact .inr ⟨m1,m2,m3⟩
 refine .inl ⟨by have:=h0;unfold bZ;split<;>exact this,cs,T,hh,?_⟩;unfold bZ
 cases hb:k.box with
 |false=>
  simp only[alo,if_false];refine⟨hle,fun i x hx=>⟨(he i x hx).1,fun j u hj=> ?_⟩⟩;have:=(he i x hx).2 j u hj;rw[hb]at this ⊢;exact this
 |true=>
  simp only[if_true];refine⟨by simpa using hle,fun i y hy=> ?_⟩;obtain⟨x,hx,rfl⟩:=getElem?_map' _ _ hy;obtain⟨h1,h2⟩:=he i x hx;rw[P5];refine⟨by simpa using h1,fun j u hj=> ?_⟩;obtain⟨z,hz,rfl⟩:=getElem?_map' _ _ hj;obtain⟨h3,h4⟩:=h2 j z hz;rw[hb]at h4;exact⟨h3,Av hf h4⟩
theorem mZ(f:Ren)(k:cB):(bZ f k).sz=k.sz∧(bZ f k).jw=k.jw∧(bZ f k).box=k.box∧(bZ f k).elems.length=k.elems.length:=by
 unfold bZ;cases h:k.box<;>simp[h]
theorem EJ(f:Ren){k:cB}(h:k.elems=[]):(bZ f k).elems=[]:=by
 unfold bZ;split<;>simp[h]
def aT(sub:List cB):Heap:=sub.map fun b=> [some b]
def aG(sub:List (Option cB))(new:List cB):Heap:=sub.map (fun b=> [b])++new.map fun b=> [some b]
def Contract(P:Program)(f:FuncId)(args:List AV)(sub:List cB)(out:Out):Prop:=
 ∀(Y:XT) (w:World) (ρ:dP) (vals:Array Value),HR Y w ρ (aT sub)→vals.size=args.length→(∀(i:Nat) (x:AV),args[i]?=some x→VR w (XU Y ρ (aT sub)) ρ (vals.getD i undef) x)→
  Calls P f vals w fun e w'=>∃v ρ',e= .returned v∧HR Y w' ρ' (aG out.2.1 out.2.2)∧VR w' (XU Y ρ' (aG out.2.1 out.2.2)) ρ' v out.1∧
   Stable w (XX ρ (aT sub)) w' (XX ρ' (aG out.2.1 out.2.2))∧∀g b,ρ g=some b→ρ' g=some b
def mX(P:Program)(f:FuncId):Prop:=∀(args:Array Value) (w:World),(callFunc f args).run P w= .ok (.enter f args) w
def Sound(P:Program)(call:CL):Prop:=∀f args sub out,call f args sub=some out→mX P f∧Contract P f args sub out
theorem Gm(sub:List cB)(g:Nm):get (aT sub) g=if g.2=0 then sub[g.1]? else none:=by
 obtain⟨a,c⟩:=g;simp only[get,aT,ale]
 cases h:sub[a]? with
 |none=>simp
 |some k=>
  cases c with
  |zero=>simp
  |succ c=>simp
theorem ko(sub:List (Option cB))(new:List cB)(g:Nm):get (aG sub new) g=if g.2=0 then(if g.1<sub.length then(sub[g.1]?).join else new[g.1-sub.length]?)else none:=by
 obtain⟨a,c⟩:=g;simp only[get,aG];by_cases h:a<sub.length
 ·rw[alp (by simpa using h),ale];simp only[h,if_true]
  cases hs:sub[a]? with
  |none=>simp
  |some k=>
   cases c with
   |zero=>cases k<;>simp
   |succ c=>simp
 ·rw[alm (by simpa using h),ale];simp only[h,if_false,ald]
  cases hs:new[a-sub.length]? with
  |none=>simp
  |some k=>
   cases c with
   |zero=>simp
   |succ c=>simp
end
theorem mapM_some{α β:Type}(f:α→Option β):∀(l:List α) (l':List β),l.mapM f=some l'→l'.length=l.length∧∀(i:Nat) (x:α),l[i]?=some x→∃y,l'[i]?=some y∧f x=some y:=by
 intro l
 induction l with
 |nil=>intro l' h;simp at h;subst h;exact⟨rfl,fun i x hx=>by simp at hx⟩
 |cons a r ih=>
  intro l' h;rw[List.mapM_cons]at h
  cases ha:f a with
  |none=>simp[ha]at h
  |some b=>
   cases hr:r.mapM f with
   |none=>simp[ha,hr]at h
   |some r'=>
    simp[ha,hr]at h;subst h;obtain⟨h1,h2⟩:=ih r' hr;refine⟨by simp[h1],fun i x hx=> ?_⟩
    cases i with
    |zero=>simp at hx;subst hx;exact⟨b,rfl,ha⟩
    |succ i=>obtain⟨y,hy,hfy⟩:=h2 i x (by simpa using hx);exact⟨y,by simpa using hy,hfy⟩
theorem lC(φ:Option cB→Option cB)(g:Nm):∀(R:List Nm) (s:List (Option cB)) (H:Heap),g∉R→get (aP H ((R.zip s).map fun p=>(p.1,φ p.2))) g=get H g:=by
 intro R
 induction R with
 |nil=>intro s H _;rfl
 |cons a r ih=>
  intro s H h;simp only[alN,not_or]at h
  cases s with
  |nil=>rfl
  |cons b s=>
   show get (aP (set H a (φ b)) ((r.zip s).map fun p=>(p.1,φ p.2))) g=_
   rw[ih s _ h.2,lu h.1]
theorem PI(φ:Option cB→Option cB):∀(R:List Nm) (s:List (Option cB)) (H:Heap) (j:Nat) (g:Nm) (b:Option cB),R.Nodup→R[j]?=some g→s[j]?=some b→(∃l,H[g.1]?=some l∧g.2<l.length)→
  get (aP H ((R.zip s).map fun p=>(p.1,φ p.2))) g=φ b:=by
 intro R
 induction R with
 |nil=>intro s H j g b _ h;simp at h
 |cons a r ih=>
  intro s H j g b hn hj hs hp
  cases s with
  |nil=>simp at hs
  |cons c s=>
   show get (aP (set H a (φ c)) ((r.zip s).map fun p=>(p.1,φ p.2))) g=_
   have hn':=List.nodup_cons.1 hn
   cases j with
   |zero=>
    simp at hj hs;subst hj hs;rw[lC φ a r s _ hn'.1,oZ,if_pos ⟨rfl,hp⟩]
   |succ j=>
    refine ih s _ j g b hn'.2 (by simpa using hj) (by simpa using hs) ?_;obtain⟨l,hl,hlt⟩:=hp;have h1:=dX H a (φ c) g.1;simp only[al8,hl,amt]at h1
    cases hq:(set H a (φ c))[g.1]? with
    |none=>rw[hq]at h1;simp at h1;omega
    |some q=>rw[hq]at h1;simp at h1;exact⟨q,rfl,by omega⟩
section
variable{P:Program}{Y:XT}{w:World}{ρ:dP}
theorem HZ{w':World}{X X':XT}{ρ ρ':dP}{v:Value}{x:AV}(h:VR w X ρ v x)(hx:mU x=true)(f:Ren):VR w' X' ρ' v (Hr f x):=by
 cases x with
 |bool b=>have:=h.iY;subst this;exact .pur _ _ (.bool _)
 |int k n=>have:=h.eY;subst this;exact .pur _ _ (.int _ _)
 |str s=>have:=h.jM;subst this;exact .pur _ _ (.str _)
 |undef=>exact .undef _
 |nilp=>have:=h.Zw (.inl rfl);cases this;exact .pur _ _ .nilp
 |nilf=>have:=h.Zw (.inl rfl);cases this;exact .pur _ _ .nilf
 |_=>simp[mU]at hx
theorem IK{w':World}{X X':XT}{ρ ρ':dP}{v:Value}{x:AV}(h:VR w X ρ v x)(hx:ES x=true)(f:Ren):VR w' X' ρ' v (Hf f x):=by
 cases x with
 |agg cs=>
  obtain⟨akV,rfl,hn,h1,hc⟩:=h.kD;refine .agg _ _ (by simpa using hn) h1 (fun i y hy=> ?_);obtain⟨z,hz,rfl⟩:=getElem?_map' _ _ hy;simp only[ES,alF]at hx;exact HZ (hc i z hz) (hx z (alb hz)) f
 |_=>exact HZ h hx f
theorem Xf{w':World}{X X':XT}{ρ ρ':dP}{v:Value}{x:AV}(h:VR w X ρ v x)(hx:Ko x=true)(f:Ren):VR w' X' ρ' v (BJ f x):=by
 cases x with
 |tup cs=>
  obtain⟨akV,rfl,hn,hc⟩:=h.KQ;refine .tup _ _ (by simpa using hn) (fun i y hy=> ?_);obtain⟨z,hz,rfl⟩:=getElem?_map' _ _ hy;simp only[Ko,alF]at hx;exact IK (hc i z hz) (hx z (alb hz)) f
 |_=>exact IK h hx f
def Rest(Y:XT)(ρ:dP)(H:Heap)(R lent:List Nm):XT:=fun b o=>
 Y b o∨∃g k,get H g=some k∧ρ g=some b∧g∉R∧(if g∈lent then max k.jw k.elems.length else k.jw)*k.sz≤o
def handed(ρ:dP)(R:List Nm):dP:=fun g=>if g.2=0 then(match R[g.1]? with|some h=>ρ h|none=>none)else none
theorem Rest.sub{H:Heap}{R lent:List Nm}{b o:Nat}(h:Rest Y ρ H R lent b o):XU Y ρ H b o:=by
 rcases h with h|⟨g,k,h1,h2,_,h4⟩
 ·exact .inr h
 ·refine .inl ⟨g,k,h1,h2,alS (alq _ ?_) h4⟩;split
  ·exact Nat.le_max_left _ _
  ·exact alj _
structure sw(P:Program)(Y:XT)(w:World)(ρ:dP)(H:Heap)(R lent:List Nm)(f:Ren)(sub:List cB):Prop where
 nodup:R.Nodup
 ajR:∀g,f g=(idxOf g R 0).map fun i=>(i,0)
 apart:∀g,g∈lent→g∉R
 len:sub.length=R.length
 sub:∀(j:Nat) (g:Nm),R[j]?=some g→∃k,get H g=some k∧sub[j]?=some (bZ f k)
variable{H:Heap}{R lent:List Nm}{f:Ren}{sub:List cB}
theorem sw.moves(hp:sw P Y w ρ H R lent f sub):Moves f ρ (handed ρ R):=by
 intro g g' b hg hρ;rw[hp.ajR]at hg
 cases hi:idxOf g R 0 with
 |none=>simp[hi]at hg
 |some i=>
  simp[hi]at hg;subst hg;obtain⟨_,h2⟩:=iI g R 0 i hi;simp only[Nat.sub_zero]at h2;simp[handed,h2,hρ]
theorem sw.UA(hp:sw P Y w ρ H R lent f sub){g':Nm}{k':cB}(h:get (aT sub) g'=some k'):∃j g k,g'=(j,0)∧R[j]?=some g∧get H g=some k∧k'=bZ f k:=by
 rw[Gm]at h;obtain⟨j,c⟩:=g';split at h
 ·rename_i hc;simp only at hc h;subst hc;have hj:j<R.length:=by rw[←hp.len];exact(akX.1 h).1
  obtain⟨k,h1,h2⟩:=hp.sub j R[j] (by simp[hj]);rw[h]at h2;cases h2;exact⟨j,R[j],k,rfl,by simp[hj],h1,rfl⟩
 ·cases h
theorem sw.ZX(hp:sw P Y w ρ H R lent f sub){b o:Nat}(h:XX (handed ρ R) (aT sub) b o):∃(j:Nat) (g:Nm) (k:cB),R[j]?=some g∧get H g=some k∧ρ g=some b∧k.jw*k.sz≤o:=by
 obtain⟨g',k',h1,h2,h3⟩:=h;obtain⟨j,g,k,rfl,e1,e2,rfl⟩:=hp.UA h1;simp only[handed,if_true,e1]at h2;rw[(mZ f k).1,(mZ f k).2.1]at h3;exact⟨j,g,k,e1,e2,h2,h3⟩
theorem sw.agu(hp:sw P Y w ρ H R lent f sub){b o:Nat}(h:XU (Rest Y ρ H R lent) (handed ρ R) (aT sub) b o):XU Y ρ H b o:=by
 rcases h with h|h
 ·obtain⟨j,g,k,_,h1,h2,h3⟩:=hp.ZX h;exact .inl ⟨g,k,h1,h2,h3⟩
 ·exact h.sub
theorem sw.st(hp:sw P Y w ρ H R lent f sub):Stable w (XU Y ρ H) w (XU (Rest Y ρ H R lent) (handed ρ R) (aT sub)):=
 (Stable.refl w _).less fun _ _ _ h=>hp.agu h
theorem sw.hr(hp:sw P Y w ρ H R lent f sub)(hr:HR Y w ρ H):HR (Rest Y ρ H R lent) w (handed ρ R) (aT sub):=by
 have hmem:∀(j:Nat) (g:Nm),R[j]?=some g→g∈R:=fun j g h=>alb h
 refine⟨fun g' k' hg=> ?_,fun g1 g2 k1 k2 b h1 h2 e1 e2=> ?_,fun g b hb=> ?_,fun g b hb=> ?_,fun g' k' b o hg hb hy=> ?_,fun b o hy=> ?_⟩
 ·obtain⟨j,g,k,rfl,e1,e2,rfl⟩:=hp.UA hg;have e3:handed ρ R (j,0)=ρ g:=by simp[handed,e1]
  rw[e3];rcases hr.blk g k e2 with⟨a1,a2,a3⟩|⟨b,a1,a2⟩
  ·exact .inl ⟨a1,EJ f a2,by rw[(mZ f k).2.2.1];exact a3⟩
  ·exact .inr ⟨b,a1,jC.ren hp.moves (a2.keep hp.st (fun _ _ h=>h) rfl)⟩
 ·obtain⟨j,g,k,rfl,a1,a2,rfl⟩:=hp.UA h1;obtain⟨j',g',k',rfl,b1,b2,rfl⟩:=hp.UA h2;simp only[handed,if_true,a1,b1]at e1 e2;have e:=hr.inj g g' k k' b a2 b2 e1 e2;subst e;have i1:=j5 R 0 j g hp.nodup a1;have i2:=j5 R 0 j' g hp.nodup b1;rw[i1]at i2;simp at i2;rw[i2]
 ·simp only[handed]at hb;split at hb
  ·rename_i h0
   cases hR:R[g.1]? with
   |none=>simp[hR]at hb
   |some h=>
    have hlt:g.1<sub.length:=by rw[hp.len];exact(akX.1 hR).1
    rw[h0];simp[aT,hlt]
  ·cases hb
 ·simp only[handed]at hb;split at hb
  ·cases hR:R[g.1]? with
   |none=>simp[hR]at hb
   |some h=>simp[hR]at hb;exact hr.lt h b hb
  ·cases hb
 ·obtain⟨j,g,k,rfl,e1,e2,rfl⟩:=hp.UA hg;simp only[handed,if_true,e1]at hb;rcases hy with hy|⟨g2,k2,c1,c2,c3,_⟩
  ·exact hr.sep g k b o e2 hb hy
  ·have:=hr.inj g2 g k2 k b c1 e2 c2 hb;subst this;exact c3 (hmem j _ e1)
 ·rcases hy with hy|⟨g2,k2,c1,c2,_⟩
  ·exact hr.ylt b o hy
  ·exact hr.lt g2 b c2
theorem sw.shut(hp:sw P Y w ρ H R lent f sub)(hr:HR Y w ρ H){l:List Nm}(hl:∀g,g∈l→g∈lent):Shut Y ρ H (XU (Rest Y ρ H R lent) (handed ρ R) (aT sub)) l:=by
 refine⟨fun c o h=>hp.agu h,fun g hg k hk b hb o ho hx=> ?_⟩;rcases hx with hx|hx
 ·obtain⟨j,g2,k2,e1,e2,e3,_⟩:=hp.ZX hx;have:=hr.inj g2 g k2 k b e2 hk e3 hb;subst this;exact hp.apart _ (hl _ hg) (alb e1)
 ·rcases hx with hx|⟨g2,k2,c1,c2,c3,c4⟩
  ·exact hr.sep g k b o hk hb hx
  ·have:=hr.inj g2 g k2 k b c1 hk c2 hb;subst this;rw[hk]at c1;cases c1;rw[if_pos (hl _ hg)]at c4;have:k.elems.length*k.sz≤max k.jw k.elems.length*k.sz:=alq _ (Nat.le_max_right _ _);omega
theorem Im(hp:sw P Y w ρ H R lent f sub)(hr:HR Y w ρ H){share:Bool}{x y:AV}{v:Value}(hv:VR w (XU Y ρ H) ρ v x)(h:qU H share f x=some y)
  (hl:share=false→∀g sz off len,x= .own g sz off len→g∈lent):VR w (XU (Rest Y ρ H R lent) (handed ρ R) (aT sub)) (handed ρ R) v y:=by
 have hv':VR w (XU (Rest Y ρ H R lent) (handed ρ R) (aT sub)) ρ v x:=hv.mono hp.st (fun _ _ h=>h)
 cases x with
 |own g sz off len=>
  simp only[qU]at h
  cases share with
  |true=>
   simp only[if_true]at h;have h2:=EC hp.moves hv';simp only[D5]at h2
   cases hg:f g with
   |none=>simp[hg]at h
   |some g'=>simp only[hg]at h h2;cases h;exact h2
  |false=>
   simp only[alo,if_false]at h;obtain⟨⟨u,l⟩,hu,rfl⟩:=alf.1 h;refine .pur _ _ (nS hr hv hu (hp.shut hr (fun g' hg'=> ?_)));have hg2:=hl rfl g sz off len rfl;simp only[eB]at hu
   cases hk:get H g with
   |none=>simp[hk]at hu
   |some k=>
    simp only[hk]at hu;split at hu
    ·simp only[alg,al1]at hu;rw[←hu.2]at hg';simp at hg';rw[hg'];exact hg2
    ·cases hu
 |eO sz xs t=>
  simp only[qU,alg]at h;subst h;exact .pur _ _ (nS hr hv (u:=.eO (Bd sz xs) xs false) (l:=[]) rfl (hp.shut hr (fun g hg=>by simp at hg)))
 |_=>
  simp only[qU,alg]at h;subst h;exact Av hp.moves hv'
theorem TA(hp:sw P Y w ρ H R lent f sub)(hr:HR Y w ρ H){share:Bool}{x y:AV}{v:Value}(hv:VR w (XU Y ρ H) ρ v x)(h:qL H share f x=some y)
  (hl:share=false→∀g,g∈bC x→g∈lent):VR w (XU (Rest Y ρ H R lent) (handed ρ R) (aT sub)) (handed ρ R) v y:=by
 cases x with
 |agg cs=>
  simp only[qL]at h;obtain⟨ys,hy,rfl⟩:=alf.1 h;obtain⟨akV,rfl,hn,h1,hc⟩:=hv.kD;obtain⟨m1,m2⟩:=mapM_some _ _ _ hy;refine .agg _ _ (by omega) h1 (fun i z hz=> ?_);have hi:i<cs.length:=by rw[←m1];exact(akX.1 hz).1
  obtain⟨z',e1,e2⟩:=m2 i cs[i] (by simp[hi]);rw[hz]at e1;cases e1;refine Im hp hr (hc i cs[i] (by simp[hi])) e2 (fun hs g sz off len e=>hl hs g ?_);simp only[bC,amC];exact⟨cs[i],by simp,by rw[e];simp⟩
 |_=>
  refine Im hp hr hv h (fun hs g sz off len e=>hl hs g ?_)
  first
   |(cases e;simp[bC])
   |cases e
end
section
variable{P:Program}{Y:XT}{w:World}{ρ:dP}{H:Heap}{R lent:List Nm}{f:Ren}{sub:List cB}
def behind(ρ ρ':dP)(R:List Nm)(slot n:Nat):dP:=fun g=>
 match idxOf g R 0 with
 |some j=>ρ' (j,0)
 |none=>if g.1=slot then(if g.2<n then ρ' (R.length+g.2,0)else none)else ρ g
def kW(H:Heap)(R:List Nm)(slot:Nat)(sub':List (Option cB))(new:List cB)(st:List (Nm×Option cB)):Heap:=
 (aP H (((R.zip sub').map fun p=>(p.1,p.2.map (bZ (bU R slot))))++st)).set slot ((new.map (bZ (bU R slot))).map some)
theorem join_some{b:Option cB}{k:cB}(l:List (Option cB)){j:Nat}(h:(l[j]?).join=some k):l[j]?=some (some k):=by
 cases hl:l[j]? with
 |none=>simp[hl]at h
 |some x=>simp[hl]at h;rw[h]
structure After(P:Program)(Y:XT)(w:World)(ρ:dP)(H:Heap)(R lent:List Nm)(f:Ren)(sub:List cB)(slot:Nat)(sub':List (Option cB))(new:List cB)(H':Heap):Prop where
 Vj:sw P Y w ρ H R lent f sub
 len:sub'.length=R.length
 group:∀g k',g.1=slot→get H' g=some k'→∃k,new[g.2]?=some k∧k'=bZ (bU R slot) k
 inR:∀(j:Nat) g k',R[j]?=some g→get H' g=some k'→∃k,sub'[j]?=some (some k)∧k'=bZ (bU R slot) k
 out:∀g k',g.1≠slot→g∉R→get H' g=some k'→∃k,get H g=some k∧k'.sz=k.sz∧k'.elems=k.elems∧k'.box=k.box∧k.jw≤k'.jw
 ab5:∀(j:Nat) g,R[j]?=some g→g.1≠slot
 aeQ:∀i,i≠slot→(H'.getD i []).length=(H.getD i []).length
 ahQ:(H'.getD slot []).length=new.length
variable{slot:Nat}{sub':List (Option cB)}{new:List cB}{H':Heap}{w':World}{ρ':dP}
theorem After.of(hp:sw P Y w ρ H R lent f sub)(hf:Free H slot)(hlen:sub'.length=R.length){st:List (Nm×Option cB)}(hst:st=[]∨st=stops H lent):
  After P Y w ρ H R lent f sub slot sub' new (kW H R slot sub' new st):=by
 have hslot:slot<(aP H (((R.zip sub').map fun p=>(p.1,p.2.map (bZ (bU R slot))))++st)).length:=by rw[Gs];exact hf.1
 have hrs:∀(j:Nat) g,R[j]?=some g→g.1≠slot:=by
  intro j g hj e;obtain⟨k,hk,_⟩:=hp.sub j g hj;obtain⟨a,c⟩:=g;have e':a=slot:=e;subst e';rw[hf.get c]at hk;cases hk
 have hget:∀g,g.1≠slot→get (kW H R slot sub' new st) g=get (aP (aP H ((R.zip sub').map fun p=>(p.1,p.2.map (bZ (bU R slot))))) st) g:=by
  intro g hg;unfold kW;rw[jR,if_neg (fun e=>hg e.1),l7]
 have hstop:∀g,g∉lent→get (aP (aP H ((R.zip sub').map fun p=>(p.1,p.2.map (bZ (bU R slot))))) st) g=get (aP H ((R.zip sub').map fun p=>(p.1,p.2.map (bZ (bU R slot))))) g:=by
  intro g hg;rcases hst with rfl|rfl
  ·rfl
  ·exact rz H g lent _ hg
 refine⟨hp,hlen,fun g k' hg h=> ?_,fun j g k' hj h=> ?_,fun g k' hg hR h=> ?_,hrs,fun i hi=> ?_,?_⟩
 ·unfold kW at h;rw[jR,if_pos ⟨hg,hslot⟩]at h;have h2:=join_some (b:=none) _ h;rw[ale,ale]at h2
  cases hn:new[g.2]? with
  |none=>simp[hn]at h2
  |some k=>simp[hn]at h2;exact⟨k,rfl,h2.symm⟩
 ·have hgl:g∉lent:=fun e=>hp.apart g e (alb hj)
  obtain⟨k0,hk0,_⟩:=hp.sub j g hj;have hjlt:j<sub'.length:=by rw[hlen];exact(akX.1 hj).1
  rw[hget g (hrs j g hj),hstop g hgl,PI (fun b=>b.map (bZ (bU R slot))) R sub' H j g sub'[j] hp.nodup hj (by simp[hjlt]) (pz hk0)]at h;obtain⟨k,hk,rfl⟩:=alf.1 h;exact⟨k,by rw[alh hjlt,hk],rfl⟩
 ·rw[hget g hg]at h;rcases hst with rfl|rfl
  ·change get (aP H ((R.zip sub').map fun p=>(p.1,p.2.map (bZ (bU R slot))))) g=some k' at h
   rw[lC (fun b=>b.map (bZ (bU R slot))) g R sub' H hR]at h;exact⟨k',h,rfl,rfl,rfl,alj _⟩
  ·by_cases hgl:g∈lent
   ·
    have:∀(l:List Nm) (H1:Heap),(∀k1,get H1 g=some k1→∃k,get H g=some k∧k1.sz=k.sz∧k1.elems=k.elems∧k1.box=k.box∧k.jw≤k1.jw)→
      ∀k1,get (aP H1 (stops H l)) g=some k1→∃k,get H g=some k∧k1.sz=k.sz∧k1.elems=k.elems∧k1.box=k.box∧k.jw≤k1.jw:=by
     intro l
     induction l with
     |nil=>intro H1 h1 k1 hk;exact h1 k1 hk
     |cons a r ih=>
      intro H1 h1 k1 hk;refine ih (set H1 a ((get H a).map cB.stop)) (fun k2 hk2=> ?_) k1 hk;rw[oZ]at hk2;split at hk2
      ·rename_i e;obtain⟨e,_⟩:=e;subst e
       cases h0:get H g with
       |none=>rw[h0]at hk2;cases hk2
       |some k=>rw[h0]at hk2;cases hk2;exact⟨k,rfl,rfl,rfl,rfl,Nat.le_max_left _ _⟩
      ·exact h1 k2 hk2
    refine this lent _ (fun k1 hk1=> ?_) k' h;rw[lC (fun b=>b.map (bZ (bU R slot))) g R sub' H hR]at hk1;exact⟨k1,hk1,rfl,rfl,rfl,alj _⟩
   ·rw[hstop g hgl,lC (fun b=>b.map (bZ (bU R slot))) g R sub' H hR]at h;exact⟨k',h,rfl,rfl,rfl,alj _⟩
 ·unfold kW;rw[iF,if_neg (fun e=>hi e.1),CU]
 ·unfold kW;rw[iF,if_pos ⟨rfl,hslot⟩];simp
theorem After.moves(ha:After P Y w ρ H R lent f sub slot sub' new H')(h1:HR (Rest Y ρ H R lent) w' ρ' (aG sub' new)):Moves (bU R slot) ρ' (behind ρ ρ' R slot new.length):=by
 intro g g' b hg hb;obtain⟨a,c⟩:=g;simp only[bU]at hg;split at hg
 ·rename_i hc;have hc':c=0:=hc;subst hc';split at hg
  ·rename_i hlt;have:=j5 R 0 a g' ha.Vj.nodup hg;simp only[behind,this,alQ];exact hb
  ·rename_i hge;cases hg;have hd:=h1.dom (a,0) b hb
   have hlt:a<(aG sub' new).length:=by
    rcases am8 a (aG sub' new).length with h|h
    ·exact h
    ·rw[al8,ama h]at hd;simp at hd
   simp only[aG,alz,ald,ha.len]at hlt
   have hno:idxOf (slot,a-R.length) R 0=none:=by
    cases hi:idxOf (slot,a-R.length) R 0 with
    |none=>rfl
    |some j=>
     obtain⟨_,hj⟩:=iI _ R 0 j hi;exact absurd rfl (ha.ab5 _ _ hj)
   simp only[behind,hno,if_true];rw[if_pos (by omega)];have:R.length+(a-R.length)=a:=by omega
   rw[this];exact hb
 ·cases hg
theorem After.split(ha:After P Y w ρ H R lent f sub slot sub' new H'){g:Nm}{k':cB}(h:get H' g=some k'):
  (∃n k,get (aG sub' new) (n,0)=some k∧k'=bZ (bU R slot) k∧behind ρ ρ' R slot new.length g=ρ' (n,0)∧bU R slot (n,0)=some g)∨
  (g∉R∧g.1≠slot∧behind ρ ρ' R slot new.length g=ρ g∧∃k,get H g=some k∧k'.sz=k.sz∧k'.elems=k.elems∧k'.box=k.box∧k.jw≤k'.jw):=by
 by_cases hR:g∈R
 ·obtain⟨j,hjlt,hj⟩:=List.mem_iff_getElem.1 hR;have hj':R[j]?=some g:=by rw[alh hjlt,hj]
  obtain⟨k,hk,rfl⟩:=ha.inR j g k' hj' h;refine .inl ⟨j,k,?_,rfl,?_,?_⟩
  ·rw[ko];simp only[if_true];rw[if_pos (by rw[ha.len];exact hjlt),hk];rfl
  ·simp only[behind,j5 R 0 j g ha.Vj.nodup hj',alQ]
  ·simp[bU,hjlt,hj]
 ·have hno:idxOf g R 0=none:=by
   cases hi:idxOf g R 0 with
   |none=>rfl
   |some j=>exact absurd (alb (iI _ R 0 j hi).2) hR
  by_cases hs:g.1=slot
  ·obtain⟨k,hk,rfl⟩:=ha.group g k' hs h;have hlt:g.2<new.length:=(akX.1 hk).1;refine .inl ⟨R.length+g.2,k,?_,rfl,?_,?_⟩
   ·rw[ko];simp[ha.len,hk]
   ·simp only[behind,hno,hs,if_true,hlt]
   ·simp only[bU,if_true];rw[if_neg (by omega)];obtain⟨a,c⟩:=g;simp only at hs;simp[hs]
  ·refine .inr ⟨hR,hs,?_,ha.out g k' hs hR h⟩;simp only[behind,hno,hs,if_false]
theorem After.xx(ha:After P Y w ρ H R lent f sub slot sub' new H'){b o:Nat}(h:XX (behind ρ ρ' R slot new.length) H' b o):
  XX ρ' (aG sub' new) b o∨∃g k k',g∉R∧get H g=some k∧get H' g=some k'∧k'.sz=k.sz∧k.jw≤k'.jw∧ρ g=some b∧k'.jw*k'.sz≤o:=by
 obtain⟨g,k',hg,hρ,ho⟩:=h;rcases ha.split (ρ':=ρ') hg with⟨n,k,h1,rfl,h2,_⟩|⟨h1,_,h2,k,h3,h4,_,_,h5⟩
 ·rw[h2]at hρ;rw[(mZ _ k).1,(mZ _ k).2.1]at ho;exact .inl ⟨(n,0),k,h1,hρ,ho⟩
 ·rw[h2]at hρ;exact .inr ⟨g,k,k',h1,h3,hg,h4,h5,hρ,ho⟩
def Way(ρ:dP)(H:Heap)(R lent:List Nm)(H':Heap)(new:List cB)(v:AV):Prop:=
 (Ko v=true∧new=[]∧R=[])∨∀g k k',g∈lent→g∉R→get H g=some k→get H' g=some k'→k.elems.length≤k'.jw
theorem After.made(ha:After P Y w ρ H R lent f sub slot sub' new H')(hf:Free H slot)(hr:HR Y w ρ H)(h1:HR (Rest Y ρ H R lent) w' ρ' (aG sub' new)){v:Value}{x:AV}
  (hv:VR w' (XU (Rest Y ρ H R lent) ρ' (aG sub' new)) ρ' v x) (hst:Stable w (XX (handed ρ R) (aT sub)) w' (XX ρ' (aG sub' new)))
  (hle:∀g b,handed ρ R g=some b→ρ' g=some b) (hway:Way ρ H R lent H' new x):
  Made Y w ρ H w' (behind ρ ρ' R slot new.length) H' v (BJ (bU R slot) x):=by
 have hle2:∀g b,ρ g=some b→behind ρ ρ' R slot new.length g=some b:=by
  intro g b hb;simp only[behind]
  cases hi:idxOf g R 0 with
  |some j=>
   obtain⟨_,hj⟩:=iI g R 0 j hi;simp only[Nat.sub_zero]at hj;exact hle (j,0) b (by simp[handed,hj,hb])
  |none=>
   show(if g.1=slot then _ else _)=some b
   split
   ·rename_i e;obtain⟨a,c⟩:=g;have e':a=slot:=e;subst e';rw[hf.none hr c]at hb;cases hb
   ·exact hb
 have hx0:∀{b o},XX (handed ρ R) (aT sub) b o→XX ρ H b o:=by
  intro b o h;obtain⟨j,g,k,_,e2,e3,e4⟩:=ha.Vj.ZX h;exact⟨g,k,e2,e3,e4⟩
 have hxo:∀{b o},XX (behind ρ ρ' R slot new.length) H' b o→XX ρ' (aG sub' new) b o∨XX ρ H b o:=by
  intro b o h;rcases ha.xx h with h|⟨g,k,k',_,e2,_,e4,e5,e6,e7⟩
  ·exact .inl h
  ·exact .inr ⟨g,k,e2,e6,alS (by rw[e4];exact alq _ e5) e7⟩
 have hstable:Stable w (XX ρ H) w' (XX (behind ρ ρ' R slot new.length) H'):=by
  refine⟨hst.os,hst.tape,hst.output,hst.size,fun b o hb hn=> ?_,hst.bsz,fun b hb hn=>hst.blk b hb fun o h=>hn o (hx0 h)⟩;obtain⟨a1,a2⟩:=hst.cell b o hb (fun h=>hn (hx0 h));exact⟨fun h=>(hxo h).elim a1 hn,a2⟩
 have hback:(∀g k k',g∈lent→g∉R→get H g=some k→get H' g=some k'→k.elems.length≤k'.jw)→
   Stable w' (XU (Rest Y ρ H R lent) ρ' (aG sub' new)) w' (XU Y (behind ρ ρ' R slot new.length) H'):=by
  intro hl;refine(Stable.refl w' _).less fun b o _ h=> ?_
  rcases h with h|h
  ·rcases ha.xx h with h|⟨g,k,k',e1,e2,e3,e4,e5,e6,e7⟩
   ·exact .inl h
   ·refine .inr (.inr ⟨g,k,e2,e6,e1,alS ?_ e7⟩);rw[e4];refine alq _ ?_;split
    ·rename_i hg;exact Nat.max_le.2 ⟨e5,hl g k k' hg e1 e2 e3⟩
    ·exact e5
  ·exact .inr (.inl h)
 have hmoves:=ha.moves h1
 have hrest:∀(g:Nm) (k:cB) (b:Nat),get H g=some k→g∉R→ρ g=some b→¬(∀c,¬ Rest Y ρ H R lent b c):=by
  intro g k b hg hR hb hc;exact hc ((if g∈lent then max k.jw k.elems.length else k.jw)*k.sz) (.inr ⟨g,k,hg,hb,hR,alj _⟩)
 refine⟨⟨fun g k' hg=> ?_,fun g1 g2 k1 k2 b hg1 hg2 e1 e2=> ?_,fun g b hb=> ?_,fun g b hb=> ?_,fun g k' b o hg hb hy=> ?_,fun b o hy=>am0 (hr.ylt b o hy) hst.size⟩,?_,hstable,hle2⟩
 ·rcases ha.split (ρ':=ρ') hg with⟨n,k,a1,rfl,a2,a3⟩|⟨a1,a2,a3,k,a4,a5,a6,a7,a8⟩
  ·rw[a2];rcases hway with⟨_,hn,hR⟩|hl
   ·exfalso
    rw[ko]at a1;have hs:sub'=[]:=amc (by rw[ha.len,hR];rfl);subst hn;simp[hs]at a1
   ·rcases h1.blk (n,0) k a1 with⟨b1,b2,b3⟩|⟨b,b1,b2⟩
    ·exact .inl ⟨b1,EJ _ b2,by rw[(mZ _ k).2.2.1];exact b3⟩
    ·exact .inr ⟨b,b1,jC.ren hmoves (b2.keep (hback hl) (fun _ _ h=>h) rfl)⟩
  ·rw[a3];rcases hr.blk g k a4 with⟨b1,b2,b3⟩|⟨b,b1,b2⟩
   ·exact .inl ⟨b1,a6.trans b2,a7.trans b3⟩
   ·refine .inr ⟨b,b1,?_⟩
    have hsame:w'.heap[b]?=w.heap[b]?:=by
     rw[hst.blk b (hr.lt g b b1) (fun o h=> ?_)];obtain⟨j,g2,k2,e1,e2,e3,_⟩:=ha.Vj.ZX h;have:=hr.inj g2 g k2 k b e2 a4 e3 b1;subst this;exact a1 (alb e1)
    rcases b2.keep (hstable.xu Y) hle2 hsame with⟨c0,cs,T,c1,c2⟩|⟨c1,c2,es,cl,c3,c4⟩
    ·refine .inl ⟨by rw[a5];exact c0,cs,T,c1,?_⟩;rw[a5,a6,a7];exact c2
    ·exact .inr ⟨a5.trans c1,a7.trans c2,es,cl,c3,by rw[a6];exact c4⟩
 ·rcases ha.split (ρ':=ρ') hg1 with⟨n,k,a1,rfl,a2,a3⟩|⟨a1,a2,a3,k,a4,_⟩<;>rcases ha.split (ρ':=ρ') hg2 with⟨n',k',b1,rfl,b2,b3⟩|⟨b1,b2,b3,k',b4,_⟩
  ·rw[a2]at e1;rw[b2]at e2;have:=h1.inj _ _ k k' b a1 b1 e1 e2;rw[this]at a3;rw[a3]at b3;exact Option.some.inj b3
  ·rw[a2]at e1;rw[b3]at e2;exact absurd (fun c=>h1.sep (n,0) k b c a1 e1) (hrest g2 k' b b4 b1 e2)
  ·rw[a3]at e1;rw[b2]at e2;exact absurd (fun c=>h1.sep (n',0) k' b c b1 e2) (hrest g1 k b a4 a1 e1)
  ·rw[a3]at e1;rw[b3]at e2;exact hr.inj g1 g2 k k' b a4 b4 e1 e2
 ·simp only[behind]at hb
  cases hi:idxOf g R 0 with
  |some j=>
   obtain⟨_,hj⟩:=iI g R 0 j hi;obtain⟨k,hk,_⟩:=ha.Vj.sub _ g hj;obtain⟨l,hl,hlt⟩:=pz hk;rw[ha.aeQ g.1 (ha.ab5 _ g hj)];simp[al8,hl,hlt]
  |none=>
   simp only[hi]at hb;split at hb
   ·rename_i hs;split at hb
    ·rename_i hlt;rw[hs,ha.ahQ];exact hlt
    ·cases hb
   ·rename_i hs;rw[ha.aeQ g.1 hs];exact hr.dom g b hb
 ·simp only[behind]at hb
  cases hi:idxOf g R 0 with
  |some j=>simp only[hi]at hb;exact h1.lt _ b hb
  |none=>
   simp only[hi]at hb;split at hb
   ·split at hb
    ·exact h1.lt _ b hb
    ·cases hb
   ·exact am0 (hr.lt g b hb) hst.size
 ·rcases ha.split (ρ':=ρ') hg with⟨n,k,a1,_,a2,_⟩|⟨_,_,a3,k,a4,_⟩
  ·rw[a2]at hb;exact h1.sep (n,0) k b o a1 hb (.inl hy)
  ·rw[a3]at hb;exact hr.sep g k b o a4 hb hy
 ·rcases hway with⟨hsc,_,_⟩|hl
  ·exact Xf hv hsc _
  ·exact uQ hmoves (hv.mono (hback hl) (fun _ _ h=>h))
end
section
variable{P:Program}{Y:XT}{w:World}{ρ:dP}
theorem KG{H:Heap}(hr:HR Y w ρ H){slot:Nat}(hf:Free H slot){share:Bool}{call:List AV→List cB→Option Out}{fid:FuncId}(hc:∀args sub out,call args sub=some out→Contract P fid args sub out)
  {args:List AV} {vals:Array Value} (hn:vals.size=args.length) (hv:∀(i:Nat) (x:AV),args[i]?=some x→VR w (XU Y ρ H) ρ (vals.getD i undef) x) {r:iD} (h:mq share call args H slot=some r):
  Calls P fid vals w fun e w'=>∃v ρ',e= .returned v∧Made Y w ρ H w' ρ' ((aP H r.wr).set slot (r.new.map some)) v r.val:=by
 unfold mq at h;simp only at h;generalize hlent:(if share then []else args.flatMap bC)=lent at h;generalize hR:reach H (args.flatMap (if share then fun v=>fu v++bC v else fu))=R at h;split at h
 ·cases h
 ·rename_i hap;split at h
  ·rename_i args' sub ha hs
   cases hcall:call args' sub with
   |none=>simp[hcall]at h
   |some out=>
    obtain⟨x,sub',new⟩:=out;simp only[hcall]at h;split at h
    ·rename_i hlen;simp only[alg]at h;subst h;obtain⟨s1,s2⟩:=mapM_some _ _ _ hs;obtain⟨a1,a2⟩:=mapM_some _ _ _ ha
     have hp:sw P Y w ρ H R lent (fun g=>(idxOf g R 0).map fun i=>(i,0)) sub:=by
      refine⟨by rw[←hR];exact Da _ _,fun g=>rfl,fun g hg hgR=> ?_,s1,fun j g hj=> ?_⟩
      ·apply hap;rw[List.any_eq_true];exact⟨g,hg,by simpa using hgR⟩
      ·obtain⟨y,e1,e2⟩:=s2 j g hj;obtain⟨k,hk,rfl⟩:=alf.1 e2;exact⟨k,hk,e1⟩
     have hcon:=hc args' sub _ hcall (Rest Y ρ H R lent) w (handed ρ R) vals (hp.hr hr) (by omega) (fun i y hy=>by
      have hi:i<args.length:=by rw[←a1];exact(akX.1 hy).1
      obtain⟨y',e1,e2⟩:=a2 i args[i] (by simp[hi]);rw[hy]at e1;cases e1;refine TA hp hr (hv i args[i] (by simp[hi])) e2 (fun hsh g hg=> ?_);rw[←hlent,hsh];simp only[alo,if_false,amC];exact⟨args[i],by simp,hg⟩)
     refine hcon.mono fun e w' he=> ?_
     obtain⟨v,ρ',rfl,h1,h2,h3,h4⟩:=he;refine⟨v,behind ρ ρ' R slot new.length,rfl,?_⟩;have haft:=After.of (P:=P) (sub':=sub') (new:=new) hp hf hlen (st:=if Ko x&&new.isEmpty&&R.isEmpty then []else stops H lent) (by split<;>simp)
     have:=haft.made hf hr h1 h2 h3 h4 (by
      unfold Way;by_cases hsc:(Ko x&&new.isEmpty&&R.isEmpty)=true
      ·simp only[alu,List.isEmpty_iff]at hsc;exact .inl ⟨hsc.1.1,hsc.1.2,hsc.2⟩
      ·refine .inr fun g k k' hg hgR hk hk'=> ?_
       rw[if_neg hsc]at hk';unfold kW at hk'
       have hgs:g.1≠slot:=by
        intro e;obtain⟨a,c⟩:=g;have e':a=slot:=e;subst e';rw[hf.get c]at hk;cases hk
       rw[jR,if_neg (fun e=>hgs e.1),l7]at hk';exact qQ H g hk lent _ hg k' hk')
     exact this
    ·cases h
  ·cases h
end
section
variable{P:Program}{Y:XT}{w:World}{ρ:dP}{H:Heap}{a:Act}{fr:Fr}
theorem fP{H H':Heap}{slot:Nat}{new:List cB}(h:eH H slot false new=some H'):new=[]∧H'=H:=by
 unfold eH at h;simp only[alo,if_false]at h;split at h
 ·rename_i hn;cases h;exact⟨by simpa using hn,rfl⟩
 ·cases h
theorem fG{H H':Heap}{slot:Nat}{new:List cB}(h:eH H slot true new=some H'):H'=H.set slot (new.map some):=by
 unfold eH at h;simp only[if_true,alg]at h;exact h.symm
theorem fK(hr:HR Y w ρ H){slot:Nat}{mk:Bool}{r:iD}{H':Heap}{v:Value}(hf:mk=true→Free H slot)(hwr:r.wr=[])(hnew:r.new=[])(hv:VR w (XU Y ρ H) ρ v r.val)
  (h:eH (aP H r.wr) slot mk r.new=some H'):Made Y w ρ H w ρ H' v r.val:=by
 rw[hwr,hnew]at h
 cases mk with
 |false=>
  obtain⟨_,rfl⟩:=fP h;exact⟨hr,hv,Stable.refl _ _,fun _ _ h=>h⟩
 |true=>
  have e:=fG h;subst e;obtain⟨h1,h2⟩:=hr.W9 (hf rfl);exact⟨h1,hv.mono (h2.xu Y) (fun _ _ h=>h),h2,fun _ _ h=>h⟩
theorem Qg(hr:HR Y w ρ H){slot:Nat}{r:iD}{H':Heap}{v:Value}(hs:Still Y w ρ H r v)(h:eH (aP H r.wr) slot false r.new=some H'):Made Y w ρ H w ρ H' v r.val:=by
 obtain⟨_,rfl⟩:=fP h;exact⟨hr.less hs.less,hs.val,hs.less.st,fun _ _ h=>h⟩
theorem Rb{t et:TypeId}(h:Pn P t=some et):∃kt,P.underlying t=some (.map kt et)∧P.underlying kt=some (.int .i64):=by
 unfold Pn at h;split at h
 ·rename_i kt et' hu;split at h
  ·rename_i hk;cases h;exact⟨kt,hu,hk⟩
  ·cases h
 ·cases h
theorem ZF(n:Int){L:List MapEntry}{xs:List AV}(h:MapAt L xs):∀i:Nat,
  (∃j v x,Instr.findNow (.int .i64) (.int .i64 n) L i=some (some (j,v))∧mG n xs=some x∧∀w X,PR w X v x)∨(Instr.findNow (.int .i64) (.int .i64 n) L i=some none∧mG n xs=none):=by
 induction h with
 |nil=>intro i;exact .inr ⟨rfl,rfl⟩
 |cons e k x es xs hk hx hv _ ih=>
  intro i;by_cases hn:n=k
  ·refine .inl ⟨i,e.val,x,?_,?_,hv⟩
   ·simp[Instr.findNow,Instr.sameNow,hk,hn]
   ·simp[mG,hn]
  ·have hstep:Instr.findNow (.int .i64) (.int .i64 n) (e::es) i=Instr.findNow (.int .i64) (.int .i64 n) es (i+1):=by
    have hb:(n==k)=false:=by simpa using hn
    simp only[Instr.findNow,Instr.sameNow,hk,if_true,hb]
   have hf:mG n (.agg [.int .i64 k,x]::xs)=mG n xs:=by simp[mG,hn]
   rw[hf,hstep];exact ih (i+1)
theorem acJ(n:Int){v:Value}{y:AV}(hy:okS y=true)(hv':∀w X,PR w X v y){L:List MapEntry}{xs:List AV}(h:MapAt L xs):∀i:Nat,
  (∃(p:Nat) (e:MapEntry),Instr.findNow (.int .i64) (.int .i64 n) L i=some (some (i+p,e.val))∧L[p]?=some e∧e.key= .int .i64 n∧MapAt (L.modify p fun e=>{e with key:=.int .i64 n,val:=v}) (pq n y xs))∨
  (Instr.findNow (.int .i64) (.int .i64 n) L i=some none∧∀e':MapEntry,e'.key= .int .i64 n→e'.val=v→MapAt (L++ [e']) (pq n y xs)):=by
 induction h with
 |nil=>intro i;exact .inr ⟨rfl,fun e' h1 h2=>.cons e' n y [] [] h1 hy (by rw[h2];exact hv') .nil⟩
 |cons e k x es xs hk hx hv hm ih=>
  intro i;by_cases hn:n=k
  ·refine .inl ⟨0,e,?_,rfl,by rw[hk,hn],?_⟩
   ·simp[Instr.findNow,Instr.sameNow,hk,hn]
   ·have e1:pq n y (.agg [.int .i64 k,x]::xs)= .agg [.int .i64 k,y]::xs:=by simp[pq,hn]
    rw[e1];exact .cons _ k y es xs (by rw[←hn]) hy hv' hm
  ·have hstep:Instr.findNow (.int .i64) (.int .i64 n) (e::es) i=Instr.findNow (.int .i64) (.int .i64 n) es (i+1):=by
    have hb:(n==k)=false:=by simpa using hn
    simp only[Instr.findNow,Instr.sameNow,hk,if_true,hb]
   have hf:pq n y (.agg [.int .i64 k,x]::xs)= .agg [.int .i64 k,x]::pq n y xs:=by simp[pq,hn]
   rw[hf,hstep];rcases ih (i+1)with⟨p,e0,h1,h2,h3,h4⟩|⟨h1,h2⟩
   ·refine .inl ⟨p+1,e0,by rw[h1];congr 3;omega,h2,h3,?_⟩;exact .cons e k x _ _ hk hx hv h4
   ·exact .inr ⟨h1,fun e' a b=>.cons e k x _ _ hk hx hv (h2 e' a b)⟩
theorem V9(hr:HR Y w ρ H){m:AV}{g:Nm}{k:cB}{mv:Value}(h:zu H m=some (g,k))(hv:VR w (XU Y ρ H) ρ mv m):
  ∃b es cl,mv= .map (some b)∧ρ g=some b∧get H g=some k∧k.sz=0∧k.box=false∧w.heap[b]?=some (.map es cl)∧MapAt es.toList k.elems:=by
 unfold zu at h;split at h
 ·rename_i g';split at h
  ·rename_i b' hg;split at h
   ·rename_i hc;cases h
    cases hv with
    |pur v x h=>cases h
    |ptr _ _ _ _ _ hs=>omega
    |mp _ b hρ=>
     obtain⟨m1,m2,es,cl,m3,m4⟩:=(hr.at hg hρ).map hc.1;exact⟨b,es,cl,rfl,hρ,hg,m1,m2,m3,m4⟩
   ·cases h
  ·cases h
 ·cases h
theorem II{P:Program}{kt:TypeId}(hkt:P.underlying kt=some (.int .i64))(b:Bool)(n:Int)(w:World):(Instr.checkKey b 10000 kt (.int .i64 n)).run P w= .ok () w:=by
 rw[show(10000:Nat)=9999+1 from rfl];unfold Instr.checkKey;cases b<;>(simp only[Sem.run_bind,run_underlying hkt,Result.andThen_ok];rfl)
theorem D9(hr:HR Y w ρ H){t:TypeId}{m k:AV}{mv kv:Value}{ok:Bool}{r:iD}(hm:VR w (XU Y ρ H) ρ mv m)(hk:VR w (XU Y ρ H) ρ kv k)(h:jN P t m k ok H=some r):
  r.wr=[]∧r.new=[]∧∃u,(Instr.lookup t mv kv ok).run P w= .ok u w∧VR w (XU Y ρ H) ρ u r.val:=by
 unfold jN at h;split at h
 ·rename_i et g b n h1 h2;split at h
  ·rename_i z hz;split at h
   ·rename_i hzs;cases h;refine⟨rfl,rfl,?_⟩;have hkv:=hk.eY;subst hkv;obtain⟨kt,hu,hkt⟩:=Rb h1;obtain⟨bb,es,cl,rfl,hρ,hg,_,_,hobj,hmap⟩:=V9 hr h2 hm;obtain⟨zv,hz1,hz2,_⟩:=nU hz w;have hgo:(getObj bb).run P w= .ok (.map es cl) w:=by simp[getObj,Sem.run,hobj]
    have hck:=II hkt es.isEmpty n w;rcases ZF n hmap 0 with⟨j,v,x,q1,q2,q3⟩|⟨q1,q2⟩
    ·have hfk:(Instr.findKey kt (.int .i64 n) es.toList).run P w= .ok (some (j,v)) w:=by
      simp[Instr.findKey,run_underlying hkt,q1]
     refine⟨if ok then .tuple #[v,.bool true]else v,?_,?_⟩
     ·simp[Instr.lookup,run_underlying hu,hgo,hck,hfk]
     ·rw[q2];cases ok
      ·exact .pur _ _ (q3 _ _)
      ·simp only[if_true,amt,Option.isSome_some];refine .tup _ _ rfl (fun i x hi=> ?_)
       match i,hi with
       |0,hi=>simp at hi;subst hi;exact .pur _ _ (q3 _ _)
       |1,hi=>simp at hi;subst hi;exact .pur _ _ (.bool _)
    ·have hfk:(Instr.findKey kt (.int .i64 n) es.toList).run P w= .ok none w:=by
      simp[Instr.findKey,run_underlying hkt,q1]
     have hzr:VR w (XU Y ρ H) ρ zv z:=by rw[hz2];exact .pur _ _ (rG w _ zv)
     refine⟨if ok then .tuple #[zv,.bool false]else zv,?_,?_⟩
     ·simp[Instr.lookup,run_underlying hu,hgo,hck,hfk,hz1]
     ·rw[q2];cases ok
      ·exact hzr
      ·simp only[if_true,Option.getD_none,Option.isSome_none];refine .tup _ _ rfl (fun i x hi=> ?_)
       match i,hi with
       |0,hi=>simp at hi;subst hi;exact hzr
       |1,hi=>simp at hi;subst hi;exact .pur _ _ (.bool _)
   ·cases h
  ·cases h
 ·cases h
theorem acD{v:Value}{x:AV}{X:XT}(h:VR w X ρ v x)(hx:okS x=true):∀w' X',PR w' X' v x:=by
 intro w' X'
 cases x with
 |bool b=>rw[h.iY];exact .bool b
 |int k n=>rw[h.eY];exact .int k n
 |str s=>rw[h.jM];exact .str s
 |_=>cases hx
theorem AP(hr:HR Y w ρ H){t:TypeId}{m k x:AV}{mv kv v:Value}{r:iD}(hm:VR w (XU Y ρ H) ρ mv m)(hk:VR w (XU Y ρ H) ρ kv k)(hx:VR w (XU Y ρ H) ρ v x)(h:iw P t m k x H=some r):
  r.new=[]∧r.val= .tup []∧∃w',(Instr.mapUpdate t mv kv v).run P w= .ok () w'∧HR Y w' ρ (aP H r.wr)∧Stable w (XX ρ H) w' (XX ρ (aP H r.wr)):=by
 unfold iw at h;split at h
 ·rename_i et g b n h1 h2;split at h
  ·rename_i hxs;cases h;refine⟨rfl,rfl,?_⟩;have hkv:=hk.eY;subst hkv;obtain⟨kt,hu,hkt⟩:=Rb h1;obtain⟨bb,es,cl,rfl,hρ,hg,hsz,hbx,hobj,hmap⟩:=V9 hr h2 hm;have hlt:bb<w.heap.size:=hr.lt _ _ hρ;have hgo:(getObj bb).run P w= .ok (.map es cl) w:=by simp[getObj,Sem.run,hobj]
   have hck:=II hkt false n w
   have fin:∀(es1:Array MapEntry) (c1:Nat),MapAt es1.toList (pq n x b.elems)→
     HR Y {w with heap:=w.heap.setIfInBounds bb (.map es1 c1)} ρ (set H g (some {b with elems:=pq n x b.elems}))∧Stable w (XX ρ H) {w with heap:=w.heap.setIfInBounds bb (.map es1 c1)} (XX ρ (set H g (some {b with elems:=pq n x b.elems}))):=by
    intro es1 c1 hm1;exact hr.adY (es1:=es1) (cl1:=c1) hg hρ rfl rfl rfl (by simp) (fun i hi=>by simp only[Array.getElem?_setIfInBounds];rw[if_neg (fun e=>hi e.symm)]) hobj (by simp[hlt]) hsz hsz hbx hm1
   rcases acJ n hxs (acD hx hxs) hmap 0 with⟨p,e,q1,q2,q3,q4⟩|⟨q1,q2⟩
   ·rw[alQ]at q1
    have hfk:(Instr.findKey kt (.int .i64 n) es.toList).run P w= .ok (some (p,e.val)) w:=by
     simp[Instr.findKey,run_underlying hkt,q1]
    have hep:es[p]?=some e:=by simpa using q2
    have hks:(Instr.keyThatStays (((es[p]?).map (·.key)).getD (.int .i64 n)) (.int .i64 n)).run P w= .ok (.int .i64 n) w:=by
     rw[hep];simp[q3,Instr.keyThatStays,Instr.sameBits]
    obtain⟨f1,f2⟩:=fin (es.modify p fun e=>{e with key:=.int .i64 n,val:=v}) cl (by simpa using q4);refine⟨_,?_,f1,f2⟩;simp[Instr.mapUpdate,run_underlying hu,hgo,hck,hfk,hks,setObj,Sem.run,hobj]
   ·have hfk:(Instr.findKey kt (.int .i64 n) es.toList).run P w= .ok none w:=by
     simp[Instr.findKey,run_underlying hkt,q1]
    obtain⟨f1,f2⟩:=fin (es.push {key:=.int .i64 n,val:=v,born:=cl}) (cl+1) (by simpa using q2 _ rfl rfl);refine⟨_,?_,f1,f2⟩;simp[Instr.mapUpdate,run_underlying hu,hgo,hck,hfk,setObj,Sem.run,hobj]
  ·cases h
 ·cases h
theorem Oh(hf:FR w (XU Y ρ H) ρ a.tmps fr)(ps:Array (Nat×Operand)):lH w (XU Y ρ H) ρ (ps.map fun(i,x)=>(i,a.eval x)).toList (partsOf fr ps):=by
 refine⟨by simp[partsOf],fun n i x hx=> ?_⟩;unfold partsOf at hx;obtain⟨q,hq,he⟩:=getElem?_map' _ _ hx;obtain⟨j,o⟩:=q;simp only[al1]at he;obtain⟨rfl,rfl⟩:=he;refine⟨a.eval o,?_,El hf o⟩;simp only[Array.toList_map,ale,hq,al4]
theorem acW(hf:FR w (XU Y ρ H) ρ a.tmps fr)(o:Option Operand):Ju w (XU Y ρ H) ρ (o.map (sP fr)) (o.map a.eval):=by
 cases o with
 |none=>trivial
 |some x=>exact El hf x
theorem dD{o:Oper}{K:Act→World→Prop}{Q:Exit→Act→World→Prop}{v:Value}{w':World}(h:(execOp a.eval o).run P w= .ok (.value v) w')(hK:K (a.put o.dst v) w'):o.wp P a w K Q:=by
 unfold Oper.wp;rw[h];exact hK
theorem LA{o:Oper}{K:Act→World→Prop}{Q:Exit→Act→World→Prop}{w':World}(h:(execOp a.eval o).run P w= .ok .skip w')(hK:K (a.put o.dst undef) w'):o.wp P a w K Q:=by
 unfold Oper.wp;rw[h];exact hK
theorem Nl{s:Sem Value}{v:Value}{w':World}(h:s.run P w= .ok v w'):(do pure (.value (←s)):Sem Next).run P w= .ok (.value v) w':=by
 simp[h]
theorem Lm{X:XT}{v u:Value}{x y:AV}(hx:VR w X ρ v x)(hy:VR w X ρ u y)(p:Bool):VR w X ρ (if p then v else u) (wB p x y):=by
 have other:VR w X ρ (if p then v else u) (if p then x else y):=by cases p<;>assumption
 cases x<;>cases y<;>first
  |exact other
  |(rw[hx.iY,hy.iY];cases p<;>exact .pur _ _ (.bool _))
theorem VR.aco{X:XT}{v:Value}{sz:Nat}{xs:List AV}{i off:Nat}(h:VR w X ρ v (.lp sz xs i off)):∃b o,v= .pointer (some ⟨b,o,none⟩):=by
 cases h with
 |pur v x h=>
  cases h with
  |lp b o _ _ _ _ f h1 h2 h3=>exact⟨b,_,rfl⟩
theorem MK{share:Bool}{call:List AV→List cB→Option Out}{args:List AV}{H:Heap}{slot:Nat}{r:iD}(h:mq share call args H slot=some r):∃args' sub out,call args' sub=some out:=by
 unfold mq at h;simp only at h;generalize (if share then []else args.flatMap bC)=lent at h;generalize reach H (args.flatMap (if share then fun v=>fu v++bC v else fu))=R at h;split at h
 ·cases h
 ·split at h
  ·rename_i args' sub _ _
   cases hq:call args' sub with
   |none=>simp[hq]at h
   |some out=>exact⟨args',sub,out,hq⟩
  ·cases h
theorem Zo{N:FuncId→Note}{call:CL}(hS:Sound P call){o:Oper}{slot:Nat}{r:iD}{K:Act→World→Prop}{Q:Exit→Act→World→Prop}(hr:HR Y w ρ H)(hf:FR w (XU Y ρ H) ρ a.tmps fr)
  (h:aQ P N call o fr H slot=some r) (hfree:makes o.op=true→Free H slot) {H':Heap} (hH:eH (aP H r.wr) slot (makes o.op) r.new=some H')
  (hK:∀v w' ρ',Made Y w ρ H w' ρ' H' v r.val→K (a.put o.dst v) w'):o.wp P a w K Q:=by
 obtain⟨dst,op,ty,pos,after,guard⟩:=o;have ev:∀x,VR w (XU Y ρ H) ρ (a.eval x) (sP fr x):=fun x=>El hf x
 have quiet:∀(s:Sem Value) (y:AV),(execOp a.eval ⟨dst,op,ty,pos,after,guard⟩=do pure (.value (←s)))→(∃u,s.run P w= .ok u w∧VR w (XU Y ρ H) ρ u y)→r={val:=y}→
   Oper.wp P ⟨dst,op,ty,pos,after,guard⟩ a w K Q:=by
  intro s y h1 ⟨u,h2,h3⟩ h4;subst h4;refine dD (v:=u) (w':=w) (by rw[h1];exact Nl h2) (hK u w ρ (fK hr hfree rfl rfl h3 hH))
 have gives:∀(s:Sem Value),(execOp a.eval ⟨dst,op,ty,pos,after,guard⟩=do pure (.value (←s)))→makes op=true→Gives P Y w ρ H slot r s→Oper.wp P ⟨dst,op,ty,pos,after,guard⟩ a w K Q:=by
  intro s h1 hm ⟨v,w',ρ',h2,h3⟩;have e:H'=_:=fG (by simpa[hm]using hH);subst e;exact dD (v:=v) (w':=w') (by rw[h1];exact Nl h2) (hK v w' ρ' h3)
 have oneO:∀{y:Option AV},one y=some r→∃z,y=some z∧r={val:=z}:=by
  intro y hy;unfold one at hy;obtain⟨z,hz,rfl⟩:=alf.1 hy;exact⟨z,hz,rfl⟩
 cases op with
 |move x=>
  simp only[aQ,alg]at h;subst h;exact dD (v:=a.eval x) (w':=w) rfl (hK _ w ρ (fK hr hfree rfl rfl (ev x) hH))
 |assign x=>
  simp only[aQ]at h;unfold lN at h;split at h
  ·rename_i hx
   cases he:kL P ty with
   |none=>simp[he]at h
   |some e=>
    cases hs:bf P e with
    |none=>simp[he,hs]at h
    |some size=>
     simp only[he,hs,alg]at h;subst h;have e:H'=_:=fG (by simpa[makes]using hH);subst e;obtain⟨h1,h2⟩:=hr.MZ (hfree rfl) ⟨size,[],0,false⟩ rfl rfl;exact dD (v:=.slice none 0 0) (w':=w) rfl (hK _ w ρ ⟨h1,.own0 _ _ _ _,h2,fun _ _ h=>h⟩)
  ·simp only[alg]at h;subst h;exact dD (v:=a.eval x) (w':=w) rfl (hK _ w ρ (fK hr hfree rfl rfl (ev x) hH))
 |pick c x y=>
  simp only[aQ]at h;split at h
  ·rename_i p hc;simp only[alg]at h;subst h;have hcv:=ev c;rw[hc]at hcv;have hb:=hcv.iY;refine dD (v:=if p then a.eval x else a.eval y) (w':=w) ?_ (hK _ w ρ (fK hr hfree rfl rfl ?_ hH))
   ·simp[execOp,asBool,hb]
   ·exact Lm (ev x) (ev y) p
  ·cases h
 |alloc t=>
  simp only[aQ]at h
  cases hz:oo P t with
  |none=>simp[hz]at h
  |some z=>
   simp only[hz]at h;obtain⟨zv,hrun,hcv,_⟩:=nU hz w;have hzr:VR w (XU Y ρ H) ρ zv z:=by rw[hcv];exact .pur _ _ (rG w _ zv)
   obtain⟨k,h0,rfl,h1,h2,h3,h4⟩:=IX (P:=P) hr (hfree rfl) hzr h;have e:H'=_:=fG (by simpa[makes]using hH);subst e;refine dD (v:=.pointer (some ⟨w.heap.size,0,none⟩)) (w':=w.alloc (.cells zv.cells t)) ?_ (hK _ _ _ ⟨h2,VR.X7 h0,h3,h4⟩);simp[execOp,Instr.alloc,hrun,h1]
 |box t x=>
  simp only[aQ]at h;obtain⟨k,h0,rfl,h1,h2,h3,h4⟩:=IX (P:=P) hr (hfree rfl) (ev x) h;have e:H'=_:=fG (by simpa[makes]using hH);subst e;refine dD (v:=.pointer (some ⟨w.heap.size,0,none⟩)) (w':=w.alloc (.cells (a.eval x).cells t)) ?_ (hK _ _ _ ⟨h2,VR.X7 h0,h3,h4⟩);simp[execOp,Instr.box,h1]
 |build t ps=>
  simp only[aQ]at h;obtain⟨z,hz,rfl⟩:=oneO h;exact quiet _ _ rfl (GH (Oh hf ps) hz) rfl
 |buildSlice t n ps=>
  simp only[aQ]at h;exact gives _ rfl rfl (xW hr (hfree rfl) (Oh hf ps) h)
 |load t p=>
  simp only[aQ]at h;obtain⟨h1,h2,u,h3,h4⟩:=AB (P:=P) hr (ev p) h;exact dD (v:=u) (w':=w) (Nl h3) (hK _ w ρ (fK hr hfree h1 h2 h4 hH))
 |store t p x=>
  simp only[aQ]at h;obtain⟨h1,h2,w',h3,h4,h5⟩:=G8 (P:=P) hr (ev p) (ev x) h;obtain⟨_,rfl⟩:=fP hH;refine LA (w':=w') (by simp[execOp,h3]) (hK undef w' ρ ⟨h4,?_,h5,fun _ _ h=>h⟩);rw[h2];exact .tup #[] [] rfl (fun i x hx=>by simp at hx)
 |nilCheck x=>
  have hx:=ev x;simp only[aQ]at h;split at h
  ·rename_i g sz i off he;split at h
   case isFalse=>cases h
   rename_i hs0;cases h;rw[he]at hx;obtain⟨b,hb,hρ⟩:=hx.Fh hs0;refine dD (v:=a.eval x) (w':=w) ?_ (hK _ w ρ (fK hr hfree rfl rfl hx hH));simp[execOp,hb]
  ·rename_i sz xs i off he;cases h;rw[he]at hx;obtain⟨b,o,hb⟩:=hx.aco;refine dD (v:=a.eval x) (w':=w) ?_ (hK _ w ρ (fK hr hfree rfl rfl hx hH));simp[execOp,hb]
  ·cases h
 |binOp op t x y yt=>
  simp only[aQ]at h;obtain⟨z,hz,rfl⟩:=oneO h;exact quiet _ _ rfl (Kg (ev x) (ev y) (fun c hc=>by subst hc;rfl) hz) rfl
 |unOp op t x=>
  simp only[aQ]at h;obtain⟨z,hz,rfl⟩:=oneO h;exact quiet _ _ rfl (Pm (ev x) hz) rfl
 |convert t u x=>
  simp only[aQ]at h;obtain⟨z,hz,rfl⟩:=oneO h;exact quiet _ _ rfl (D6 (ev x) hz) rfl
 |makeFunc fn first caps=>
  cases fn with
  |func f=>
   simp only[aQ]at h;split at h
   ·rename_i hfst;cases h;have hfirst:first= #[]:=by simpa using hfst
    subst hfirst;refine dD (v:=.func (.func f) #[] (caps.map a.eval)) (w':=w) (by simp[execOp,Instr.makeFunc]) (hK _ w ρ (fK hr hfree rfl rfl (.clo _ _ _ (by simp) (fun i x hx=> ?_)) hH));obtain⟨q,hq,rfl⟩:=getElem?_map' _ _ hx
    have:(caps.map a.eval).getD i undef=a.eval q:=by
     simp at hq;simp[ala,hq]
    rw[this];exact ev q
   ·cases h
  |_=>simp[aQ]at h
 |makeSlice t l c=>
  simp only[aQ]at h;exact gives _ rfl rfl (Aw hr (hfree rfl) (ev l) (ev c) h)
 |slice t x lo hi mx=>
  simp only[aQ]at h;obtain⟨u,h1,h2⟩:=GA (P:=P) hr (ev x) (acW hf lo) (acW hf hi) (acW hf mx) h;exact dD (v:=u) (w':=w) (Nl h1) (hK _ w ρ (Qg hr h2 hH))
 |fieldAddr t x f=>
  simp only[aQ]at h;obtain⟨z,hz,rfl⟩:=oneO h;exact quiet _ _ rfl (zY (ev x) hz) rfl
 |field t x f=>
  simp only[aQ]at h;obtain⟨z,hz,rfl⟩:=oneO h;exact quiet _ _ rfl (GY (ev x) hz) rfl
 |indexAddr t x i=>
  simp only[aQ]at h;obtain⟨z,hz,rfl⟩:=oneO h;exact quiet _ _ rfl (Au (ev x) (ev i) hz) rfl
 |index t x i=>
  simp only[aQ]at h;obtain⟨z,hz,rfl⟩:=oneO h;exact quiet _ _ rfl (Ht (ev x) (ev i) hz) rfl
 |lookup t m k ok=>
  simp only[aQ]at h;split at h
  ·rename_i z hz;cases h;exact quiet _ _ rfl (F9 (ev m) (ev k) hz) rfl
  ·obtain⟨h1,h2,u,h3,h4⟩:=D9 (P:=P) hr (ev m) (ev k) h;exact dD (v:=u) (w':=w) (Nl h3) (hK _ w ρ (fK hr hfree h1 h2 h4 hH))
 |mapUpdate t m k x=>
  simp only[aQ]at h;obtain⟨h1,h2,w',h3,h4,h5⟩:=AP (P:=P) hr (ev m) (ev k) (ev x) h;obtain⟨_,rfl⟩:=fP hH;refine LA (w':=w') (by simp[execOp,h3]) (hK undef w' ρ ⟨h4,?_,h5,fun _ _ h=>h⟩);rw[h2];exact .tup #[] [] rfl (fun i x hx=>by simp at hx)
 |makeMap t res=>
  cases res with
  |some x=>simp[aQ]at h
  |none=>
   simp only[aQ,alg]at h;subst h;have e:H'=_:=fG (by simpa[makes]using hH);subst e;obtain⟨h1,h2,h3⟩:=hr.new' (hfree rfl) (w1:=w.alloc (.map #[] 0)) (b:=w.heap.size) (alj _) (by simp) rfl rfl rfl (fun i hi=>uO w _ i hi) ⟨0,[],0,false⟩ (.inr ⟨rfl,rfl,#[],0,heap_alloc_new w _,.nil⟩);refine dD (v:=.map (some w.heap.size)) (w':=w.alloc (.map #[] 0)) ?_ (hK _ _ _ ⟨h1,.mp _ _ (by simp[upd]),h2,h3⟩);simp[execOp,Instr.makeMap]
 |extract x i=>
  have hx:=ev x;simp only[aQ]at h;split at h
  ·rename_i vs he
   cases hi:vs[i]? with
   |none=>simp[hi]at h
   |some y=>
    simp only[hi,alg]at h;subst h;rw[he]at hx;obtain⟨cs,hcs,hn,hc⟩:=hx.KQ;have hlt:i<cs.size:=by rw[hn];exact(akX.1 hi).1
    have hy:=hc i y hi;refine dD (v:=cs.getD i undef) (w':=w) ?_ (hK _ w ρ (fK hr hfree rfl rfl hy hH));simp[execOp,Instr.extract,hcs,hlt,ala]
  ·cases h
 |call c=>
  obtain⟨callee,args,argTypes⟩:=c
  cases callee with
  |value f=>
   have hx:=ev f;simp only[aQ]at h;split at h
   ·rename_i fn caps he;rw[he]at hx;have e:H'=_:=fG (by simpa[makes]using hH);subst e;generalize hfv:a.eval f=fv at hx
    cases hx with
    |pur v y hp=>cases hp
    |clo _ cs _ hn hc=>
     have hent:=MK h;obtain⟨args',sub,out,hq⟩:=hent;have hentered:=(hS fn args' sub out hq).1
     have hcalls:=KG (P:=P) hr (hfree rfl) (fun args sub out hh=>(hS fn args sub out hh).2) (args:=args.toList.map (sP fr)++caps) (vals:=args.map a.eval++cs) (by simp[hn]) (fun i x hx=>by
      rcases am8 i args.size with hi|hi
      ·rw[alp (by simpa using hi)]at hx;obtain⟨q,hq,rfl⟩:=getElem?_map' _ _ hx
       have:(args.map a.eval++cs).getD i undef=a.eval q:=by
        have hq2:args[i]?=some q:=by simpa using hq
        simp only[ala];rw[am4 (by simpa using hi),Array.getElem?_map,hq2];rfl
       rw[this];exact ev q
      ·rw[alm (by simpa using hi)]at hx;simp only[ald,Array.length_toList]at hx
       have:(args.map a.eval++cs).getD i undef=cs.getD (i-args.size) undef:=by
        simp only[ala];rw[Array.getElem?_append_right (by simpa using hi)];simp
       rw[this];exact hc _ x hx) h
     have hrun:(execOp a.eval ⟨dst,.call ⟨.value f,args,argTypes⟩,ty,pos,after,guard⟩).run P w= .ok (.enter fn (args.map a.eval++cs)) w:=by
      simp[execOp,resolve,hfv,Deferred.ofValue,invoke,hentered _ w]
     unfold Oper.wp;rw[hrun,Oper.upon_enter];refine hcalls.mono fun e w'' hh=> ?_
     obtain⟨v,ρ',rfl,hm⟩:=hh;exact hK v w'' ρ' hm
   ·cases h
  |invoke=>simp[aQ]at h
  |builtin b=>
   cases b with
   |len=>
    simp only[aQ]at h;split at h
    ·rename_i x t hx ht;obtain⟨z,hz,rfl⟩:=oneO h;have e1:args= #[x]:=by apply Array.ext';simpa using hx
     have e2:argTypes= #[t]:=by apply Array.ext';simpa using ht
     subst e1 e2;obtain⟨u,h1,h2⟩:=NE (P:=P) (ev x) hz ty;refine dD (v:=u) (w':=w) ?_ (hK _ w ρ (fK hr hfree rfl rfl h2 hH));simp[execOp,resolve,invoke,builtin,h1]
    ·cases h
   |append=>
    simp only[aQ]at h;split at h
    ·rename_i s x t t' hx ht;split at h
     ·rename_i htt;subst htt;have e1:args= #[s,x]:=by apply Array.ext';simpa using hx
      have e2:argTypes= #[t,t]:=by apply Array.ext';simpa using ht
      subst e1 e2;refine gives _ ?_ rfl (Gf (P:=P) (ty:=ty) hr (hfree rfl) (ev s) (ev x) h);simp[execOp,resolve,invoke,builtin]
     ·cases h
    ·cases h
   |copy=>
    simp only[aQ]at h;split at h
    ·rename_i d x t t' hx ht;have e1:args= #[d,x]:=by apply Array.ext';simpa using hx
     have e2:argTypes= #[t,t']:=by apply Array.ext';simpa using ht
     subst e1 e2;obtain⟨_,v,w',h3,h4,h5,h6⟩:=JN (P:=P) (t':=t') (ty:=ty) hr (ev d) (ev x) h;obtain⟨_,rfl⟩:=fP hH;refine dD (v:=v) (w':=w') ?_ (hK v w' ρ ⟨h4,h6,h5,fun _ _ h=>h⟩);simp[execOp,resolve,invoke,builtin,h3]
    ·cases h
   |clear=>
    simp only[aQ]at h;split at h
    ·rename_i d t hx ht;have e1:args= #[d]:=by apply Array.ext';simpa using hx
     have e2:argTypes= #[t]:=by apply Array.ext';simpa using ht
     subst e1 e2;obtain⟨_,v,w',h3,h4,h5,h6⟩:=GL (P:=P) (ty:=ty) hr (ev d) h;obtain⟨_,rfl⟩:=fP hH;refine dD (v:=v) (w':=w') ?_ (hK v w' ρ ⟨h4,h6,h5,fun _ _ h=>h⟩);simp[execOp,resolve,invoke,builtin,h3]
    ·cases h
   |min=>
    simp only[aQ]at h;split at h
    ·rename_i x r' hx;obtain⟨z,hz,rfl⟩:=oneO h
     cases hargs:args.toList with
     |nil=>simp[hargs]at hx
     |cons o1 os=>
      rw[hargs]at hx;simp only[al3,List.cons.injEq]at hx;obtain⟨rfl,rfl⟩:=hx
      obtain⟨u,h1,h2⟩:=Qu (P:=P) (w:=w) (os.map (sP fr)) _ z (a.eval o1) (os.map a.eval) (ev o1) (by simp) (fun i y hy=>by
       obtain⟨q,hq,rfl⟩:=getElem?_map' _ _ hy;exact⟨a.eval q,by simp[hq],ev q⟩) hz
      refine dD (v:=u) (w':=w) ?_ (hK _ w ρ (fK hr hfree rfl rfl h2 hH));have:(args.map a.eval).toList=a.eval o1::os.map a.eval:=by simp[hargs]
      simp[execOp,resolve,invoke,builtin,Builtin.min_,hargs,h1]
    ·cases h
   |max=>
    simp only[aQ]at h;split at h
    ·rename_i x r' hx;obtain⟨z,hz,rfl⟩:=oneO h
     cases hargs:args.toList with
     |nil=>simp[hargs]at hx
     |cons o1 os=>
      rw[hargs]at hx;simp only[al3,List.cons.injEq]at hx;obtain⟨rfl,rfl⟩:=hx
      obtain⟨u,h1,h2⟩:=OT (P:=P) (w:=w) (os.map (sP fr)) _ z (a.eval o1) (os.map a.eval) (ev o1) (by simp) (fun i y hy=>by
       obtain⟨q,hq,rfl⟩:=getElem?_map' _ _ hy;exact⟨a.eval q,by simp[hq],ev q⟩) hz
      refine dD (v:=u) (w':=w) ?_ (hK _ w ρ (fK hr hfree rfl rfl h2 hH));simp[execOp,resolve,invoke,builtin,Builtin.max_,hargs,h1]
    ·cases h
   |_=>simp[aQ]at h
 |_=>simp[aQ]at h
end
structure SR(Y:XT)(nt:Nat)(w:World)(ρ:dP)(a:Act)(s:St):Prop where
 tsz:a.tmps.size=nt
 Yb:a.defers=[]
 fr:FR w (XU Y ρ s.hp) ρ a.tmps s.fr
 hp:HR Y w ρ s.hp
structure sQ(w:World)(ρ:dP)(H:Heap)(w':World)(ρ':dP)(H':Heap):Prop where
 st:Stable w (XX ρ H) w' (XX ρ' H')
 le:∀g b,ρ g=some b→ρ' g=some b
theorem sQ.refl(w:World)(ρ:dP)(H:Heap):sQ w ρ H w ρ H:=⟨Stable.refl _ _,fun _ _ h=>h⟩
theorem sQ.trans{w w' w'':World}{ρ ρ' ρ'':dP}{H H' H'':Heap}(h:sQ w ρ H w' ρ' H')(k:sQ w' ρ' H' w'' ρ'' H''):sQ w ρ H w'' ρ'' H'':=
 ⟨h.st.trans k.st,fun g b e=>k.le g b (h.le g b e)⟩
theorem iK{ops:Array Oper}{i:Nat}{o:Oper}(h:ops[i]?=some o):dY ops i=makes o.op:=by simp[dY,h]
theorem Bq{ops:Array Oper}{base i j:Nat}(hij:i<j)(hm:dY ops i=true):bP ops base i<bP ops base j:=by
 unfold bP
 have hi:i<ops.toList.length:=by
  unfold dY at hm
  cases h:ops[i]? with
  |none=>simp[h]at hm
  |some o=>simpa using (amf.1 h).1
 have e:ops.toList.take j=ops.toList.take (i+1)++(ops.toList.drop (i+1)).take (j-(i+1)):=by
  rw[←List.take_add]
  congr 1
  omega
 have e1:ops.toList.take (i+1)=ops.toList.take i++ [ops.toList[i]]:=by
  rw[List.take_succ_eq_append_getElem hi]
 have hmk:makes ops.toList[i].op=true:=by
  unfold dY at hm;have hi':i<ops.size:=by simpa using hi
  have:ops[i]?=some ops.toList[i]:=by rw[alT hi'];simp
  rw[this]at hm;exact hm
 rw[e,e1];simp only[amo,alz,List.filter_cons,hmk,if_true,List.filter_nil,alI,List.length_nil];omega
theorem Bp{ops:Array Oper}{base i j:Nat}(hij:i≠j)(hi:dY ops i=true)(hj:dY ops j=true):bP ops base i≠bP ops base j:=by
 rcases Nat.lt_or_gt_of_ne hij with h|h
 ·exact Nat.ne_of_lt (Bq h hi)
 ·exact Nat.ne_of_gt (Bq h hj)
theorem zI{ops:Array Oper}{base i:Nat}(hi:dY ops i=true):base≤bP ops base i∧bP ops base i<base+oq ops:=by
 refine⟨Nat.le_add_right _ _,?_⟩
 have h:i<ops.toList.length:=by
  unfold dY at hi
  cases h:ops[i]? with
  |none=>simp[h]at hi
  |some o=>simpa using (amf.1 h).1
 have h1:=Bq (base:=base) h hi
 have h2:bP ops base ops.toList.length=base+oq ops:=by
  unfold bP oq;rw[amd]
 rw[h2]at h1;exact h1
theorem Free.eH{H H':Heap}{slot slot':Nat}{mk:Bool}{new:List cB}(h:Free H slot)(hne:mk=true→slot'≠slot)(hg:eH H slot' mk new=some H'):Free H' slot:=by
 cases mk with
 |false=>obtain⟨_,rfl⟩:=fP hg;exact h
 |true=>
  have e:=fG hg;subst e;refine⟨by simp[h.1],?_⟩;rw[iF,if_neg (fun e=>hne rfl e.1.symm)];exact h.2
section
variable{E:Env}{Y:XT}{ops:Array Oper}{Q:Exit→Act→World→Prop}{base:Nat}
theorem FV{i j:Nat}{s s':St}{x:Option iD}(h:jc E ops base i s=some (s',x))(hij:i≠j)(hj:dY ops j=true)(hf:Free s.hp (bP ops base j)):Free s'.hp (bP ops base j):=by
 unfold jc at h
 cases ho:ops[i]? with
 |none=>simp[ho]at h;rw[←h.1];exact hf
 |some o=>
  simp only[ho]at h;split at h
  ·split at h
   ·cases h
   ·simp only[alg,al1]at h;rw[←h.1];exact hf
   ·split at h
    ·rename_i r hr;split at h
     ·rename_i H hH;simp only[alg,al1]at h;rw[←h.1];exact(hf.aP r.wr).eH (fun hm=>Bp hij (by rw[iK ho];exact hm) hj) hH
     ·cases h
    ·cases h
  ·cases h
theorem wpOp_step(hS:∀i,Sound E.P (E.call i)){i:Nat}{s s':St}{x:Option iD}{a:Act}{w:World}{ρ:dP}(hsr:SR Y E.nt w ρ a s)(hf:dY ops i=true→Free s.hp (bP ops base i))
  (h:jc E ops base i s=some (s',x)) {K:Act→World→Prop} (hK:∀a' w' ρ',SR Y E.nt w' ρ' a' s'→sQ w ρ s.hp w' ρ' s'.hp→K a' w'):wpOp E.P ops Q i K a w:=by
 unfold jc at h;unfold wpOp
 cases ho:ops[i]? with
 |none=>
  simp only[ho]at h ⊢;simp only[alg,al1]at h;rw[←h.1]at hK;exact hK a w ρ hsr (sQ.refl _ _ _)
 |some o=>
  simp only[ho]at h ⊢;split at h
  ·rename_i hd
   have put:∀{w':World} {ρ':dP} {H':Heap} {v:Value} {y:AV},Made Y w ρ s.hp w' ρ' H' v y→SR Y E.nt w' ρ' (a.put o.dst v) {fr:=putDst s.fr o.dst y,hp:=H'}:=by
    intro w' ρ' H' v y hm;have hfr:=hsr.fr.mono (hm.st.xu Y) hm.le
    cases hdst:o.dst with
    |none=>exact⟨hsr.tsz,hsr.Yb,hfr,hm.hr⟩
    |some d=>
     rw[hdst]at hd;have hd':d<a.tmps.size:=by rw[hsr.tsz];simpa[QY]using hd
     exact⟨by simp[Act.put,hsr.tsz],hsr.Yb,hfr.put hd' hm.val,hm.hr⟩
   have wanted:∀b,kY ops s.fr o=some b→Region.wanted o (yielded ops a.tmps)=b:=by
    intro b hb;unfold kY at hb;unfold Region.wanted
    cases hg:o.guard with
    |none=>simp[hg]at hb;simp[hb]
    |some gw=>
     obtain⟨j,want⟩:=gw;simp only[hg]at hb ⊢
     cases hdj:(ops[j]?).bind (·.dst)with
     |none=>simp[hdj]at hb
     |some d=>
      simp only[hdj]at hb;have hrel:=hsr.fr d;unfold yielded;simp only[hdj,alR];split at hb
      ·rename_i p hp;simp only[alg]at hb;subst hb;rw[hp]at hrel;have e:=hrel.iY
       have hlt:d<a.tmps.size:=by
        rcases am8 d a.tmps.size with h|h
        ·exact h
        ·simp[ala,Array.getElem?_eq_none h,undef]at e
       have:a.tmps[d]?=some (.bool p):=by
        rw[alT hlt];simp only[Array.getD,hlt,dite_true]at e;simpa using e
       simp[this]
      ·rename_i hp;simp only[alg]at hb;subst hb;rw[hp]at hrel;obtain⟨cs,hcs,hn,_⟩:=hrel.KQ
       cases ht:a.tmps[d]? with
       |none=>simp
       |some u=>
        have:a.tmps.getD d undef=u:=by simp[ala,ht]
        rw[this]at hcs;subst hcs;simp
      ·cases hb
   split at h
   ·cases h
   ·rename_i hgo;simp only[alg,al1]at h;rw[wanted _ hgo];simp only[alo,if_false];have hm:Made Y w ρ s.hp w ρ s.hp undef (.tup []):=⟨hsr.hp,.tup #[] [] rfl (fun i x hx=>by simp at hx),Stable.refl _ _,fun _ _ h=>h⟩
    have hput:=put hm;rw[←h.1]at hK;exact hK _ w ρ hput (sQ.refl _ _ _)
   ·rename_i hgo;rw[wanted _ hgo];simp only[if_true];split at h
    ·rename_i r hr;split at h
     ·rename_i H hH;simp only[alg,al1]at h;refine .inl (Zo (hS _) hsr.hp hsr.fr hr (fun hm=>hf (by rw[iK ho];exact hm)) hH (fun v w' ρ' hm=> ?_));rw[←h.1]at hK;exact hK _ w' ρ' (put hm) ⟨hm.st,hm.le⟩
     ·cases h
    ·cases h
  ·cases h
theorem TF(hS:∀i,Sound E.P (E.call i)):∀(l:List Nat) (s s':St) (xs:List (Option iD)) (a:Act) (w:World) (ρ:dP),l.Nodup→SR Y E.nt w ρ a s→(∀i∈l,dY ops i=true→Free s.hp (bP ops base i))→
  gm E ops base l s=some (s',xs)→(∀a' w' ρ',SR Y E.nt w' ρ' a' s'→sQ w ρ s.hp w' ρ' s'.hp→Q .normal a' w')→wpOps E.P ops Q l a w:=by
 intro l
 induction l with
 |nil=>
  intro s s' xs a w ρ _ hsr _ h hQ;simp only[gm,alg,al1]at h;rw[←h.1]at hQ;exact hQ a w ρ hsr (sQ.refl _ _ _)
 |cons i r ih=>
  intro s s' xs a w ρ hn hsr hfree h hQ;rw[wpOps_cons];simp only[gm]at h
  cases h1:jc E ops base i s with
  |none=>simp[h1]at h
  |some p=>
   obtain⟨s1,x⟩:=p;simp only[h1]at h
   cases h2:gm E ops base r s1 with
   |none=>simp[h2]at h
   |some q=>
    obtain⟨s2,ys⟩:=q;simp only[h2,alg,al1]at h;obtain⟨rfl,rfl⟩:=h;have hn':=List.nodup_cons.1 hn;refine wpOp_step hS hsr (hfree i (by simp)) h1 (fun a' w' ρ' h3 h4=> ?_);refine ih s1 s2 ys a' w' ρ' hn'.2 h3 (fun j hj hm=>FV h1 (fun e=>hn'.1 (e ▸ hj)) hm (hfree j (by simp[hj]) hm)) h2 (fun a2 w2 ρ2 h5 h6=>hQ a2 w2 ρ2 h5 (h4.trans h6))
theorem qE(H:Heap)(n:Nat)(g:Nm):get (H++List.replicate n []) g=get H g:=by
 obtain⟨a,c⟩:=g;simp only[get];rcases am8 a H.length with h|h
 ·rw[alp h]
 ·rw[alm h,ama h,List.getElem?_replicate];split
  ·rename_i l hl;split at hl
   ·cases hl;rfl
   ·cases hl
  ·rfl
theorem Ao(ρ:dP)(H:Heap)(n:Nat):XX ρ (H++List.replicate n [])=XX ρ H:=by
 funext b o
 simp only[XX,qE]
theorem IJ(H:Heap)(n i:Nat):(H++List.replicate n []).getD i []=H.getD i []:=by
 simp only[al8];rcases am8 i H.length with h|h
 ·rw[alp h]
 ·rw[alm h,ama h,List.getElem?_replicate];split<;>simp
theorem HR.more{w:World}{ρ:dP}{H:Heap}(hr:HR Y w ρ H)(n:Nat):HR Y w ρ (H++List.replicate n []):=by
 refine⟨fun g k h=> ?_,fun g g' k k' b h h'=>hr.inj g g' k k' b (by rw[←qE H n];exact h) (by rw[←qE H n];exact h'),fun g b h=>by rw[IJ];exact hr.dom g b h,hr.lt,
  fun g k b o h=>hr.sep g k b o (by rw[←qE H n];exact h),hr.ylt⟩
 rw[qE]at h;have:=hr.blk g k h;unfold XU at this ⊢;rw[Ao];exact this
theorem SR.more{w:World}{ρ:dP}{a:Act}{s:St}(h:SR Y E.nt w ρ a s)(n:Nat):SR Y E.nt w ρ a {s with hp:=s.hp++List.replicate n []}:=by
 refine⟨h.tsz,h.Yb,?_,h.hp.more n⟩;have:=h.fr;unfold XU at this ⊢;rw[Ao];exact this
theorem Free.more{H:Heap}{n slot:Nat}(h1:H.length≤slot)(h2:slot<H.length+n):Free (H++List.replicate n []) slot:=by
 refine⟨by simp;omega,?_⟩;rw[IJ];simp[al8,ama h1]
theorem SR.clear{w:World}{ρ:dP}{a:Act}{s:St}(h:SR Y E.nt w ρ a s)(j6:List Nat):SR Y E.nt w ρ a {s with fr:=Abs.clear j6 s.fr}:=⟨h.tsz,h.Yb,h.fr.clear j6,h.hp⟩
end
end Go.Abs
