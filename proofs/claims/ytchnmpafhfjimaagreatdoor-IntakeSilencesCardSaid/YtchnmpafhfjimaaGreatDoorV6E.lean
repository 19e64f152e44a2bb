/- Lemmas for the statement of the last text of this claim. -/
import Derived.Test.YtchnmpafhfjimaaGreatDoorV6D
set_option linter.unusedSimpArgs false
set_option linter.unusedVariables false
namespace Go.Proofs.YtchnmpafhfjimaaGreatDoor
open Go Go.Abs Go.Lab
theorem Ut(a b:ByteArray):bl (a++b)=bl a++bl b:=by
 show(a++b).data.toList=_
 rw[ByteArray.data_append,Array.toList_append]
theorem Sq(a b:ByteArray):(a++b).size=a.size+b.size:=ByteArray.size_append
theorem kS(a b:List UInt8):fU a++fU b=fU (a++b):=Ae (by rw[Ut,FT,FT,FT])
theorem aan(s:ByteArray)(b:List UInt8):s++fU b=fU (bl s++b):=Ae (by rw[Ut,FT,FT])
def EC(p:Option LT)(x:LT):Bool:= !o6 x.1||(!xY x.2.1||(x.2.1.toList==ByteArray.empty.toList||(match p with|none=>false|some q=>leB x.1 q.1)))
def bZ(l:List LT):Bool:= !decide ((l.length:Int)>12)&&yM EC none l
def PK(l:List LT):Prop:=l.length≤big∧∀x∈l,x.1.size≤big∧x.2.1.size≤big
theorem Al(l:List LT)(hl:PK l):Y0 ((l,()),())=some ((bZ l,()),()):=by
 unfold Y0 bZ;cases hc:decide ((l.length:Int)>12)
 ·simp only[ax,sS];have h:=oQ (f:=xZ) l (fun i=>(((i:Int),l,l,(l.length:Int),()),())) EC (.inl ((false,()),())) (.inr ((),())) ?_ ?_
  ·refine aU _ h ?_;cases yM EC none l<;>rfl
  ·intro i e he hi;have hl1:=hl.1;unfold big at hl1;have hw:aP ((i:Int)+1)=((i+1:Nat):Int):=aL (by omega);obtain⟨z1,z2⟩:=hl.2 e (air he);have q1:=IY e.1 z1;have q2:=Pj e.2.1 z2;rcases lV hi with h0|⟨p,h0,hp,hp1⟩
   ·rw[if_pos h0];have:decide ((i:Int)>0)=false:=aio (by omega);unfold EC;simp only[xZ,aO,aG he,eO hi,q1,q2,this,ax,sS];cases o6 e.1<;>cases xY e.2.1<;>cases (e.2.1.toList==ByteArray.empty.toList)<;>simp only[ax,sS,hw,ai1,aiG,aiz,ai5]
   ·rw[if_neg (by omega),hp];have:decide ((i:Int)>0)=true:=aim (by omega);unfold EC leB;simp only[xZ,aO,aG he,eO hi,q1,q2,this,hp1 (by omega),aG hp,ax,sS];cases o6 e.1<;>cases xY e.2.1<;>cases (e.2.1.toList==ByteArray.empty.toList)<;>cases Op.bytesLess e.1.toList p.1.toList||e.1.toList==p.1.toList<;>simp only[ax,sS,hw,ai1,aiG,aiz,ai5]
  ·simp only[xZ,fD,ax,sS]
 ·simp only[ax,sS]
theorem UQ(l:List LT)(hl:PK l):m57 ((l,()),())=some ((bZ l,()),()):=by
 unfold m57 bZ;cases hc:decide ((l.length:Int)>12)
 ·simp only[ax,sS];have h:=oQ (f:=x9) l (fun i=>(((i:Int),l,()),())) EC (.inl ((false,()),())) (.inr ((),())) ?_ ?_
  ·refine aU _ h ?_;cases yM EC none l<;>rfl
  ·intro i e he hi;have hl1:=hl.1;unfold big at hl1;have hw:aP ((i:Int)+1)=((i+1:Nat):Int):=aL (by omega);obtain⟨z1,z2⟩:=hl.2 e (air he);have q1:=WJ e.1 z1;have q2:=Xz e.2.1 z2;rcases lV hi with h0|⟨p,h0,hp,hp1⟩
   ·rw[if_pos h0];have:decide ((i:Int)>0)=false:=aio (by omega);unfold EC;simp only[x9,aO,aG he,eO hi,q1,q2,this,ax,sS];cases o6 e.1<;>cases xY e.2.1<;>cases (e.2.1.toList==ByteArray.empty.toList)<;>simp only[ax,sS,hw,ai1,aiG,aiz,ai5]
   ·rw[if_neg (by omega),hp];have:decide ((i:Int)>0)=true:=aim (by omega);unfold EC leB;simp only[x9,aO,aG he,eO hi,q1,q2,this,hp1 (by omega),aG hp,ax,sS];cases o6 e.1<;>cases xY e.2.1<;>cases (e.2.1.toList==ByteArray.empty.toList)<;>cases Op.bytesLess e.1.toList p.1.toList||e.1.toList==p.1.toList<;>simp only[ax,sS,hw,ai1,aiG,aiz,ai5]
  ·simp only[x9,fD,ax,sS]
 ·simp only[ax,sS]
theorem wW{E:Type}{bad:Option E→E→Bool}:∀{l:List E} {p:Option E},yM bad p l=true→∀x∈l,∃q,bad q x=false
 | [],_,_,x,hx=>by cases hx
 |e::r,p,h,x,hx=>by
  unfold yM at h;rw[ai7]at h;rcases aiV.1 hx with rfl|hx
  ·exact⟨p,by simpa using h.1⟩
  ·exact wW h.2 x hx
theorem YC{q:Option LT}{x:LT}(h:EC q x=false):o6 x.1=true∧xY x.2.1=true∧x.2.1≠ByteArray.empty:=by
 unfold EC at h;simp only[aje]at h;refine⟨by simpa using h.1,by simpa using h.2.1,fun e=> ?_⟩;rw[e]at h;simp at h
theorem gP{l:List LT}(h:bZ l=true):l.length≤12∧∀x∈l,o6 x.1=true∧xY x.2.1=true∧x.2.1≠ByteArray.empty:=by
 unfold bZ at h;rw[ai7]at h;refine⟨?_,fun x hx=> ?_⟩
 ·have:decide ((l.length:Int)>12)=false:=by simpa using h.1
  have:=aj8 this;omega
 ·obtain⟨q,hq⟩:=wW h.2 x hx;exact YC hq
theorem Cv{s:ByteArray}(h:o6 s=true):s.size≤24:=by
 have:=(YI (s:=bl s) h).2.1
 rwa [bE]at this
theorem uU{s:ByteArray}(h:xY s=true):s.size≤64:=by
 have h:Wm (bl s)=true:=h;unfold Wm at h;rw[ai7]at h;have:=aix h.2
 rwa [bE]at this
theorem OH:∀(a b:List UInt8),esc (a++b)=esc a++esc b
 | [],b=>rfl
 |c::a,b=>by
  rw[aj7];simp only[esc];rw[OH a b];split<;>rfl
theorem Dp(s:ByteArray):(jN s).size≤2*s.size+2:=by
 unfold jN;rw[size_mk];have:=uI s.data.toList;have e:s.data.toList.length=s.size:=bE s;simp;omega
theorem XE(s:ByteArray)(hs:s.size≤1048576):Wp ((s,()),())=some ((jN s,()),()):=by
 have h:=mZ (f:=sQ) (Q:=fun b=>b=((fU (34::esc (bl s)),()),())) (fun i st=>st=(((i:Int),s,fU (34::esc ((bl s).take i)),()),())) s.size ?_ ?_ _ rfl
 ·obtain⟨b,h1,rfl⟩:=h;unfold Wp;refine aU _ (show aB sQ ((0,s,bs [34],()),())=_ from h1) ?_;have hl:=uI (bl s);rw[bE]at hl;have hb:decide ((fU (34::esc (bl s))).size+1≤4294967296)=true:=aim (by rw[size_mk,aiR];omega);simp only[hb,ax,sS];unfold jN;rw[show bs [34]=fU [34]from rfl,kS];rfl
 ·rintro i _ hi rfl;obtain⟨c,hc⟩:=getD_some (l:=bl s) (i:=i) (by rw[bE];exact hi);have hlt:decide ((i:Int)<(s.size:Int))=true:=aim (by omega);have hbd:decide ((0:Int)≤(i:Int)∧(i:Int)<(s.size:Int))=true:=aim (by omega);have hw:aP ((i:Int)+1)=((i+1:Nat):Int):=aL (by omega);have h0:decide ((0:Int)≤(i:Int))=true:=aim (by omega);have h1:decide ((0:Int)≤((i+1:Nat):Int))=true:=aim (by omega);have h2:decide (i≤i+1∧i+1≤s.size)=true:=aim (by omega)
  have hx:s.extract i (i+1)=fU [c]:=Ae (by
   have hcl:i<(bl s).length:=by rw[bE];exact hi
   rw[ng,FT,List.drop_eq_getElem_cons hcl,show i+1-i=1 by omega,List.take_succ_cons,ajL];rw[(ain.1 hc).2])
  have htk:(bl s).take (i+1)=(bl s).take i++ [c]:=by rw[ajF,hc];rfl
  have hl:=uI ((bl s).take i);rw[ai8]at hl;have hsz:∀b:List UInt8,b.length≤2→decide ((fU (34::(esc ((bl s).take i)++b))).size+1≤4294967296)=true:=fun b hb=>aim (by rw[size_mk];simp;omega)
  have hs0:decide ((fU (34::esc ((bl s).take i))).size+1≤4294967296)=true:=by have:=hsz [] (by simp);rwa [aiO]at this
  have hs1:(fU [c]).size=1:=rfl
  have hs92:fU (34::esc ((bl s).take i))++bs [92]=fU (34::(esc ((bl s).take i)++ [92])):=by
   rw[show bs [92]=fU [92]from rfl,kS];rfl
  have e34:(u8 c==34)=decide (c=34):=by
   by_cases h:c=34
   ·subst h;rfl
   ·rw[aio h];exact ai6.2 fun e=>h (UInt8.toNat_inj.1 (by unfold u8 at e;show c.toNat=34;omega))
  have e92:(u8 c==92)=decide (c=92):=by
   by_cases h:c=92
   ·subst h;rfl
   ·rw[aio h];exact ai6.2 fun e=>h (UInt8.toNat_inj.1 (by unfold u8 at e;show c.toNat=92;omega))
  refine⟨_,?_,rfl⟩;rw[htk,OH];simp only[sQ,hlt,hbd,byte_at hc,e34,e92,ax,sS];by_cases c34:c=34
  ·have he:esc [c]=[92,c]:=by simp[esc,c34]
   simp only[aim c34,ax,sS,hs0,hs92,h0,hw,h1,aip,h2,hx,hs1,hsz [92] (by simp),kS,he];simp
  ·by_cases c92:c=92
   ·have he:esc [c]=[92,c]:=by simp[esc,c92]
    simp only[aio c34,aim c92,ax,sS,hs0,hs92,h0,hw,h1,aip,h2,hx,hs1,hsz [92] (by simp),kS,he];simp
   ·have he:esc [c]=[c]:=by simp[esc,c34,c92]
    simp only[aio c34,aio c92,ax,sS,hs0,h0,hw,h1,aip,h2,hx,hs1,kS,he];simp
 ·rintro _ rfl;refine⟨_,?_,rfl⟩;have:decide ((s.size:Int)<(s.size:Int))=false:=aio (by omega);simp only[sQ,this,ax,sS];rw[aiX (by rw[bE];exact aiy _)]
theorem Bn:∀l:List (List UInt8),Lib.join l [44]=commas l
 | []=>rfl
 | [x]=>Lib.join_one x [44]
 |x::y::l=>by
  rw[Lib.join_cons,tq x (by simp),←Bn (y::l),Lib.join_cons];simp[Lib.joinTail]
def dz(x:LT):List UInt8:=item (bl x.1) [61] (bl x.2.1)
def d9(l:List LT):List UInt8:=123::(commas (l.map dz)++ [125])
def DZ(l:List LT):ByteArray:=if bZ l then fU (d9 l)else ByteArray.empty
theorem Jq(x:LT):(x.1++bs [61])++jN x.2.1=fU (dz x):=by
 rw[show bs [61]=fU [61]from rfl,aan];unfold jN dz item;rw[kS];simp[bl]
theorem JG{x:LT}(h1:o6 x.1=true)(h2:xY x.2.1=true):(dz x).length≤160:=by
 have a:=Cv h1;have b:=uU h2;have:=uI (bl x.2.1);rw[bE]at this;unfold dz item;simp[bE];omega
theorem uD{l:List LT}(h:bZ l=true)(i:Nat):(commas ((l.map dz).take i)).length≤2000:=by
 obtain⟨h1,h2⟩:=gP h
 have:=ET ((l.map dz).take i) 160 (fun x hx=>by
  obtain⟨y,hy,rfl⟩:=ajj.1 (List.mem_of_mem_take hx);exact JG (h2 y hy).1 (h2 y hy).2.1)
 have hl:((l.map dz).take i).length≤12:=by rw[ai8,ais];omega
 have:=ai4 161 hl;omega
theorem H6(l:List LT)(hl:PK l):QI ((l,()),())=some ((DZ l,()),()):=by
 unfold QI DZ;simp only[Al l hl,ax,sS];cases hv:bZ l
 ·simp only[ax,sS,ai2,if_false]
 ·obtain⟨h1,h2⟩:=gP hv;simp only[ax,sS,if_true];have h:=mZ (f:=sH) (Q:=fun b=>b=((),(l.map fun x=>fU (dz x),()))) (fun i st=>st=(((i:Int),l,(l.length:Int),()),((l.take i).map fun x=>fU (dz x),()))) l.length ?_ ?_ _ rfl
  ·obtain⟨b,h3,rfl⟩:=h;refine aU _ (show aB sH ((0,l,(l.length:Int),()),([],()))=_ from h3) ?_
   have hj:qH (l.map fun x=>fU (dz x)) (bs [44])=fU (commas (l.map dz)):=by
    unfold qH;rw[ajv];exact congrArg fU (Bn _)
   have hp:=uD hv l.length;rw[aiX (by rw[ais];exact aiy _)]at hp;have b1:decide (List.length (l.map fun x=>fU (dz x))≤4294967296∧(fU (commas (l.map dz))).size≤140737488355328)=true:=aim (by rw[ais,size_mk];omega);have b2:decide (1+(fU (commas (l.map dz))).size≤4294967296)=true:=aim (by rw[size_mk];omega);have b3:decide ((fU (123::commas (l.map dz))).size+1≤4294967296)=true:=aim (by rw[size_mk,aiR];omega);simp only[hj,b1,b2,ax,sS];rw[show bs [123]=fU [123]from rfl,kS,show [123]++commas (l.map dz)=123::commas (l.map dz)from rfl,b3,show bs [125]=fU [125]from rfl,kS];rfl
  ·rintro i _ hi rfl;obtain⟨e,he⟩:=getD_some (l:=l) (i:=i) hi;obtain⟨k1,k2,_⟩:=h2 e (air he);have z1:=Cv k1;have z2:=uU k2;have z3:=Dp e.2.1;have hw:aP ((i:Int)+1)=((i+1:Nat):Int):=aL (by omega);have b1:decide (e.1.size+1≤4294967296)=true:=aim (by omega);have b2:decide (e.2.1.size≤4294967296)=true:=aim (by omega);have b3:decide ((e.1++(bs [61])).size+(jN e.2.1).size≤4294967296)=true:=aim (by rw[Sq];show e.1.size+1+_≤_;omega);have b4:decide (((l.take i).map fun x=>fU (dz x)).length+ [fU (dz e)].length≤4294967296)=true:=aim (by simp;omega);refine⟨_,?_,rfl⟩;rw[show l.take (i+1)=l.take i++ [e] by rw[ajF,he];rfl,aiL];simp only[sH,aO,aG he,eO hi,b1,b2,b3,Jq,b4,hw,ax,sS];rfl
  ·rintro _ rfl;refine⟨_,?_,rfl⟩;simp only[sH,fD,ax,sS];rw[aiX (aiy _)]
theorem Bv:∀(l:List (List UInt8)) (x:List UInt8),l≠ []→commas (l++ [x])=commas l++44::x
 | [],_,h=>absurd rfl h
 | [a],x,_=>rfl
 |a::b::l,x,_=>by
  rw[aj7,tq a (by simp),Bv (b::l) x (by simp),tq a (by simp)];simp
theorem R5(l:List LT)(hl:PK l):m59 ((l,()),())=some ((DZ l,()),()):=by
 unfold m59 DZ;simp only[UQ l hl,ax,sS];cases hv:bZ l
 ·simp only[ax,sS,ai2,if_false]
 ·obtain⟨h1,h2⟩:=gP hv;simp only[ax,sS,if_true];have h:=mZ (f:=u7) (Q:=fun b=>b=((fU (123::commas (l.map dz)),()),())) (fun i st=>st=(((i:Int),l,fU (123::commas ((l.map dz).take i)),()),())) l.length ?_ ?_ _ rfl
  ·obtain⟨b,h3,rfl⟩:=h;refine aU _ (show aB u7 ((0,l,bs [123],()),())=_ from h3) ?_;have hp:=uD hv l.length;rw[aiX (by rw[ais];exact aiy _)]at hp;have b3:decide ((fU (123::commas (l.map dz))).size+1≤4294967296)=true:=aim (by rw[size_mk,aiR];omega);simp only[b3,ax,sS];rw[show bs [125]=fU [125]from rfl,kS];rfl
  ·rintro i _ hi rfl;obtain⟨e,he⟩:=getD_some (l:=l) (i:=i) hi;obtain⟨k1,k2,_⟩:=h2 e (air he);have z1:=Cv k1;have z2:=uU k2;have z3:=Dp e.2.1;have q:=XE e.2.1 (by omega);have hp:=uD hv i;have hl2:=JG k1 k2;have hw:aP ((i:Int)+1)=((i+1:Nat):Int):=aL (by omega);have b1:decide (e.1.size+1≤4294967296)=true:=aim (by omega);have b3:decide ((e.1++(bs [61])).size+(jN e.2.1).size≤4294967296)=true:=aim (by rw[Sq];show e.1.size+1+_≤_;omega);have hm:(l.map dz)[i]?=some (dz e):=by rw[ait,he];rfl
   have htk:(l.map dz).take (i+1)=(l.map dz).take i++ [dz e]:=by rw[ajF,hm];rfl
   refine⟨_,?_,rfl⟩;rw[htk];by_cases h0:i=0
   ·subst h0;have b5:decide ((fU (123::commas ((l.map dz).take 0))).size+(fU (dz e)).size≤4294967296)=true:=aim (by rw[size_mk,size_mk,aiR];omega);have d0:decide (((0:Nat):Int)>0)=false:=rfl;simp only[u7,aO,aG he,eO hi,d0,b1,q,b3,Jq,b5,hw,kS,ax,sS];rfl
   ·have d0:decide ((i:Int)>0)=true:=aim (by omega);have b4:decide ((fU (123::commas ((l.map dz).take i))).size+1≤4294967296)=true:=aim (by rw[size_mk,aiR];omega)
    have e44:fU (123::commas ((l.map dz).take i))++bs [44]=fU (123::(commas ((l.map dz).take i)++ [44])):=by
     rw[show bs [44]=fU [44]from rfl,kS];rfl
    have b5:decide ((fU (123::(commas ((l.map dz).take i)++ [44]))).size+(fU (dz e)).size≤4294967296)=true:=aim (by rw[size_mk,size_mk,aiR,aiB];simp;omega)
    have hne:(l.map dz).take i≠ []:=by
     intro h;have:=congrArg List.length h;rw[ai8,ais,List.length_nil]at this;omega
    simp only[u7,aO,aG he,eO hi,d0,b4,e44,b1,q,b3,Jq,b5,hw,kS,ax,sS];rw[Bv _ _ hne];simp
  ·rintro _ rfl;refine⟨_,?_,rfl⟩;simp only[u7,fD,ax,sS];rw[aiX (by rw[ais];exact aiy _)]
def gq(ks:List ByteArray)(l:List LT):List LT:=l.filter fun x=>ks.any fun k=>decide (k=x.1)
theorem JF(ks:List ByteArray)(x:List LT):(gq ks x).Sublist x:=List.filter_sublist
theorem Yk(ks:List ByteArray)(s:ByteArray)(hk:ks.length≤big):∃j:Nat,XF ((ks,s,()),())=some ((bif ks.any (fun k=>decide (k=s))then(j:Int)else -1,()),()):=by
 have h:=cO (f:=zb) ks (fun i (_:Unit)=>(((i:Int),ks,s,(ks.length:Int),()),())) (fun i _ e=>bif decide (e=s)then .inr (.inl (((i:Int),()),()))else .inl ()) (fun _=>.inr ((),())) ?_ ?_ ()
 ·obtain⟨j,_,hj⟩:=mG (fun e=>decide (e=s)) (fun i:Nat=>(Sum.inl (((i:Int),()),()):((Int×Unit)×Unit)⊕(Unit×Unit))) (.inr ((),())) ks 0;refine⟨j,?_⟩;unfold XF;refine aU _ (h.trans (congrArg some hj)) ?_
  cases ks.any fun k=>decide (k=s)<;>rfl
 ·intro i e _ he hi;unfold big at hk;have hw:aP ((i:Int)+1)=((i+1:Nat):Int):=aL (by omega)
  have hc:(s.toList==e.toList)=decide (e=s):=by
   rw[bW,bW,rP];exact ajt.2 ⟨Eq.symm,Eq.symm⟩
  simp only[zb,aO,aG he,eO hi,hc,ax,sS];cases decide (e=s)<;>simp only[ax,sS,hw]
 ·intro _;simp only[zb,fD,ax,sS]
theorem O5(ks:List ByteArray)(s:ByteArray)(hk:ks.length≤big):Ip ((ks,s,()),())=some ((ks.any (fun k=>decide (k=s)),()),()):=by
 obtain⟨j,h⟩:=Yk ks s hk;unfold Ip;refine aU _ h ?_
 cases ks.any fun k=>decide (k=s)
 ·rfl
 ·simp only[cond_true,aim (show(j:Int)≥0 by omega)]
theorem Wn(l:List LT)(ks:List ByteArray)(hl:l.length≤1048576)(hk:ks.length≤big):Xb ((l,ks,()),())=some ((),(gq ks l,())):=by
 have h:=mZ (f:=tH) (Q:=fun b=>b=((),(gq ks l,()))) (fun i st=>st=(((i:Int),ks,l,(l.length:Int),()),(gq ks (l.take i),()))) l.length ?_ ?_ _ rfl
 ·obtain⟨b,h3,rfl⟩:=h;unfold Xb;exact aU _ (show aB tH ((0,ks,l,(l.length:Int),()),([],()))=_ from h3) rfl
 ·rintro i _ hi rfl;obtain⟨e,he⟩:=getD_some (l:=l) (i:=i) hi;have hw:aP ((i:Int)+1)=((i+1:Nat):Int):=aL (by omega)
  have hlen:(gq ks (l.take i)).length≤i:=by
   have:=aj5 (fun x:LT=>ks.any fun k=>decide (k=x.1)) (l.take i);rw[ai8]at this;unfold gq;omega
  have b1:decide ((gq ks (l.take i)).length+ [e].length≤4294967296)=true:=aim (by simp;omega);refine⟨_,?_,rfl⟩;rw[show l.take (i+1)=l.take i++ [e] by rw[ajF,he];rfl,show gq ks (l.take i++ [e])=gq ks (l.take i)++gq ks [e]from ajw ..];simp only[tH,aO,aG he,eO hi,O5 ks e.1 hk,ax,sS]
  cases hc:ks.any fun k=>decide (k=e.1)
  ·simp only[ax,sS,hw];rw[show gq ks [e]=[] by unfold gq;simp[List.filter_cons,hc],aiO]
  ·simp only[ax,sS,b1,hw];rw[show gq ks [e]=[e] by unfold gq;simp[List.filter_cons,hc]]
 ·rintro _ rfl;refine⟨_,?_,rfl⟩;simp only[tH,fD,ax,sS];rw[aiX (aiy _)]
theorem YN(l:List LT)(ks:List ByteArray)(hk:ks.length≤big)(n:Nat)(e:LT)(he:l[n]?=some e)(o:List LT)(ho:o.length≤1048576):
  aB yS ((l,ks,(n:Int),0,()),(o,()))=some ((l,ks,(n:Int),()),(o++gq ks [e],())):=by
 have h:=cO (f:=yS) ks (fun i (_:Unit)=>((l,ks,(n:Int),(i:Int),()),(o,()))) (fun i _ k=>bif decide (k=e.1)then .inr ((l,ks,(n:Int),()),(o++ [e],()))else .inl ()) (fun _=>((l,ks,(n:Int),()),(o,()))) ?_ ?_ ()
 ·obtain⟨j,_,hj⟩:=mG (fun k=>decide (k=e.1)) (fun _:Nat=>((l,ks,(n:Int),()),(o++ [e],()))) ((l,ks,(n:Int),()),(o,())) ks 0;refine h.trans (congrArg some (hj.trans ?_));unfold gq
  cases hc:ks.any fun k=>decide (k=e.1)
  ·simp[List.filter_cons,hc]
  ·simp[List.filter_cons,hc]
 ·intro i k _ hki hi;unfold big at hk;have hw:aP ((i:Int)+1)=((i+1:Nat):Int):=aL (by omega);have b1:decide (o.length+ [e].length≤4294967296)=true:=aim (by simp;omega);simp only[yS,aO,aG hki,aG he,eO hi,bW,rP,ax,sS];cases decide (k=e.1)<;>simp only[ax,sS,b1,hw]
 ·intro _;simp only[yS,fD,ax,sS]
theorem abF(l:List LT)(ks:List ByteArray)(hl:l.length≤1048576)(hk:ks.length≤big):m60 ((l,ks,()),())=some ((),(gq ks l,())):=by
 have h:=mZ (f:=yF) (Q:=fun b=>b=((),(gq ks l,()))) (fun i st=>st=(((i:Int),l,ks,()),(gq ks (l.take i),()))) l.length ?_ ?_ _ rfl
 ·obtain⟨b,h3,rfl⟩:=h;unfold m60;exact aU _ (show aB yF ((0,l,ks,()),([],()))=_ from h3) rfl
 ·rintro i _ hi rfl;obtain⟨e,he⟩:=getD_some (l:=l) (i:=i) hi;have hw:aP ((i:Int)+1)=((i+1:Nat):Int):=aL (by omega)
  have hlen:(gq ks (l.take i)).length≤i:=by
   have:=aj5 (fun x:LT=>ks.any fun k=>decide (k=x.1)) (l.take i);rw[ai8]at this;unfold gq;omega
  refine⟨_,?_,rfl⟩;rw[show l.take (i+1)=l.take i++ [e] by rw[ajF,he];rfl,show gq ks (l.take i++ [e])=gq ks (l.take i)++gq ks [e]from ajw ..];simp only[yF,eO hi,ax,sS];refine aU _ (YN l ks hk i e he _ (by omega)) ?_;simp only[hw]
 ·rintro _ rfl;refine⟨_,?_,rfl⟩;simp only[yF,fD,ax,sS];rw[aiX (aiy _)]
abbrev bU:Type:=Int×List MT×Int×List ByteArray×Int×Int×Int×Bool×Unit
def Lv(r:bU):Prop:=(r.2.1.length≤big∧∀m∈r.2.1,Rx m)∧r.2.2.2.1.length≤big∧∀k∈r.2.2.2.1,k.size≤big
def p9(r:bU):Bool:=decide (r.2.2.1<0)||(decide (r.2.2.2.2.1<0)||(decide (r.2.2.2.2.1>r.2.2.2.2.2.1)||(decide (r.2.2.2.2.2.1>r.2.2.2.2.2.2.1)||(decide (r.2.2.2.2.2.2.1>604800)||(r.2.2.2.2.2.2.1==0)))))
def iE(r:bU):Int:=
 bif decide ((r.2.1.length:Int)>8)||decide ((r.2.2.2.1.length:Int)>12)then 5
 else bif !r.2.1.all bn|| !kK r.2.2.2.1 then 8 else bif p9 r then 1 else 0
def kP(i:Nat)(r:bU):Bool:=if i=0 then r.1 != -1 else decide (r.1<0)||decide (r.1≥(i:Int))
def wH(i:Nat)(r:bU):Int:=bif kP i r then 3 else iE r
def zZ{E:Type}(gy:Nat→E→Int):Nat→List E→Int
 |_,[]=>0
 |i,e::r=>bif gy i e !=0 then gy i e else zZ gy (i+1) r
theorem Bh{A B E:Type}{f:A→Option (A⊕B)}(l:List E)(st:Nat→A)(gy:Nat→E→Int)(no:Int→B)(yes:B)
  (h1:∀i e,l[i]?=some e→i<l.length→f (st i)=some (bif gy i e !=0 then .inr (no (gy i e))else .inl (st (i+1)))) (h2:f (st l.length)=some (.inr yes)):
  aB f (st 0)=some (bif zZ gy 0 l !=0 then no (zZ gy 0 l)else yes):=by
 have key:∀(k i:Nat),i+k=l.length→aB f (st i)=some (bif zZ gy i (l.drop i) !=0 then no (zZ gy i (l.drop i))else yes):=by
  intro k
  induction k with
  |zero=>
   intro i h;obtain rfl:i=l.length:=by omega
   rw[ajh];exact aC h2
  |succ k ih=>
   intro i h;obtain⟨e,he,hd⟩:=drop_at (l:=l) (i:=i) (by omega);have q:=h1 i e he (by omega);rw[hd];unfold zZ;cases hb:(gy i e !=0)
   ·rw[hb]at q;rw[ajq,←ih (i+1) (by omega)];exact aM q
   ·rw[hb]at q;rw[cond_true,hb];exact aC q
 have:=key l.length 0 (by omega);rw[aiK]at this;exact this
theorem rU{E:Type}{gy:Nat→E→Int}:∀{l:List E} {i:Nat},zZ gy i l=0→∀(k:Nat) (e:E),l[k]?=some e→gy (i+k) e=0
 | [],_,_,k,e,h=>by simp at h
 |x::r,i,h,k,e,he=>by
  unfold zZ at h;cases hc:(gy i x !=0)
  ·rw[hc]at h
   cases k with
   |zero=>simp at he;subst he;simpa using hc
   |succ k=>
    have:=rU (i:=i+1) h k e (by simpa using he)
    rwa [show i+1+k=i+(k+1) by omega]at this
  ·rw[hc]at h;simp only[cond_true]at h;rw[h]at hc;cases hc
def mJ(l:List bU):Int:=
 bif (l.length:Int)==0 then 7 else bif decide ((l.length:Int)>24)then 5 else bif zZ wH 0 l !=0 then zZ wH 0 l
 else match l[0]? with|some e=>bif decide ((e.2.1.length:Int)>0)then 8 else 0|none=>0
theorem YK(m:MT)(hm:Rx m):YP ((m,()),())=some ((!bn m,()),()):=by
 unfold YP;exact aU _ (OU m hm) rfl
theorem SN(ms:List MT)(hs:ms.length≤big)(hm:∀m∈ms,Rx m):∃j:Nat,aB tX ((0,ms,(ms.length:Int),()),())=some (bif ms.all bn then .inr ((),())else .inl (((j:Int),()),())):=by
 have h:=cO (f:=tX) ms (fun i (_:Unit)=>(((i:Int),ms,(ms.length:Int),()),())) (fun i _ e=>bif !bn e then .inr (.inl (((i:Int),()),()))else .inl ()) (fun _=>.inr ((),())) ?_ ?_ ()
 ·obtain⟨j,_,hj⟩:=mG (fun e=> !bn e) (fun i:Nat=>(Sum.inl (((i:Int),()),()):((Int×Unit)×Unit)⊕(Unit×Unit))) (.inr ((),())) ms 0;refine⟨j,h.trans (congrArg some (hj.trans ?_))⟩;rw[Ci];cases ms.all bn<;>rfl
 ·intro i e _ he hi;unfold big at hs;have hw:aP ((i:Int)+1)=((i+1:Nat):Int):=aL (by omega);simp only[tX,aO,aG he,eO hi,YK e (hm e (air he)),ax,sS];cases bn e<;>simp only[ax,sS,hw,aiD,aiA]
 ·intro _;simp only[tX,fD,ax,sS]
theorem Sy(i:Nat)(r:bU):(i=0∧kP i r=(r.1 != -1))∨(0<i∧kP i r=(decide (r.1<0)||decide (r.1≥(i:Int)))):=by
 unfold kP;by_cases h:i=0
 ·exact .inl ⟨h,by rw[if_pos h]⟩
 ·exact .inr ⟨by omega,by rw[if_neg h]⟩
theorem Xg(r:bU)(hr:Lv r)(i:Nat):Wv ((r,(i:Int),()),())=some ((wH i r,()),()):=by
 obtain⟨⟨a1,a2⟩,c1,c2⟩:=hr;obtain⟨j,hj⟩:=SN r.2.1 a1 a2;have q:=O4 r.2.2.2.1 c1 c2;have hj0:decide ((j:Int)≥0)=true:=aim (by omega)
 have key:((bif ((i:Int)==0)then(bif ((r.1:Int) !=(-1))then(some ((true,()),((r,()),())))else(bif (decide ((i:Int)>0))then(bif (decide ((r.1:Int)<0))then(some ((true,()),((r,()),())))else(some (((decide ((r.1:Int)≥(i:Int))),()),((r,()),()))))else(some ((false,()),((r,()),())))))
   else(bif (decide ((i:Int)>0))then(bif (decide ((r.1:Int)<0))then(some ((true,()),((r,()),())))else(some (((decide ((r.1:Int)≥(i:Int))),()),((r,()),()))))else(some ((false,()),((r,()),()))))):Option ((Bool×Unit)×((bU×Unit)×Unit)))=some ((kP i r,()),((r,()),())):=by
  rcases Sy i r with⟨rfl,hb⟩|⟨h0,hb⟩
  ·rw[hb,show(((0:Nat):Int)==0)=true from rfl,show decide (((0:Nat):Int)>0)=false from rfl];cases (r.1 != -1)<;>rfl
  ·rw[hb,ai6.2 (show(i:Int)≠0 by omega),aim (show(i:Int)>0 by omega)];cases decide (r.1<0)<;>cases decide (r.1≥(i:Int))<;>rfl
 unfold Wv;refine aU _ key ?_;unfold wH;cases kP i r<;>simp only[ax,sS];unfold iE;cases decide ((r.2.1.length:Int)>8)<;>simp only[ax,sS,aiG,ai5,ai1,aiz];cases decide ((r.2.2.2.1.length:Int)>12)<;>simp only[ax,sS,aiG,ai5,ai1,aiz];rw[hj];cases r.2.1.all bn<;>simp only[ax,sS,hj0,q,aiD,aiA,aiG,ai5,ai1,aiz];cases kK r.2.2.2.1<;>simp only[ax,sS,aiD,aiA];unfold p9;cases decide (r.2.2.1<0)<;>simp only[ax,sS,aiG,ai5,ai1,aiz];cases decide (r.2.2.2.2.1<0)<;>simp only[ax,sS,aiG,ai5,ai1,aiz];cases decide (r.2.2.2.2.1>r.2.2.2.2.2.1)<;>simp only[ax,sS,aiG,ai5,ai1,aiz];cases decide (r.2.2.2.2.2.1>r.2.2.2.2.2.2.1)<;>simp only[ax,sS,aiG,ai5,ai1,aiz];cases decide (r.2.2.2.2.2.2.1>604800)<;>simp only[ax,sS,aiG,ai5,ai1,aiz];cases (r.2.2.2.2.2.2.1==0)<;>simp only[ax,sS]
def Ug(l:List bU):Prop:=l.length≤1048576∧∀r∈l,Lv r
theorem Ho(l:List bU)(hl:Ug l):m78 ((l,()),())=some ((mJ l,()),()):=by
 unfold m78 mJ;cases hz:((l.length:Int)==0)
 ·simp only[ax,sS];cases decide ((l.length:Int)>24)
  ·simp only[ax,sS];have h:=Bh (f:=Cx) l (fun i=>(((i:Int),l,l,(l.length:Int),()),())) wH (fun c=>.inl ((c,()),())) (.inr ((l,()),())) ?_ ?_
   ·refine aU _ h ?_;cases hc:(zZ wH 0 l !=0)
    ·obtain⟨e,he⟩:=getD_some (l:=l) (i:=0) (by have:=(ai6.1 hz);omega);rw[he];simp only[ajq,ax,aO];rw[show rR l 0 _=rR l ((0:Nat):Int) _ from rfl,aG he];cases decide ((e.2.1.length:Int)>0)<;>rfl
    ·rfl
   ·intro i e he hi;have hl1:=hl.1;have hw:aP ((i:Int)+1)=((i+1:Nat):Int):=aL (by omega);simp only[Cx,aO,aG he,eO hi,Xg e (hl.2 e (air he)) i,ax,sS];cases wH i e !=0<;>simp only[ax,sS,hw]
   ·simp only[Cx,fD,ax,sS]
  ·simp only[ax,sS]
 ·simp only[ax,sS]
structure LP(l:List bU):Prop where
 pos:0<l.length
 len:l.length≤24
 root:∀r,l[0]?=some r→r.1= -1∧r.2.1=[]
 par:∀(k:Nat) (r:bU),l[k]?=some r→0<k→0≤r.1∧r.1<(k:Int)
 one:∀r∈l,r.2.1.length≤8∧(∀m∈r.2.1,bn m=true)∧kK r.2.2.2.1=true∧r.2.2.2.1.length≤12
theorem abV{r:bU}(h:iE r=0):r.2.1.length≤8∧(∀m∈r.2.1,bn m=true)∧kK r.2.2.2.1=true∧r.2.2.2.1.length≤12:=by
 unfold iE at h;cases h1:(decide ((r.2.1.length:Int)>8)||decide ((r.2.2.2.1.length:Int)>12))
 ·rw[h1]at h;simp only[aje]at h1;have a:=aj8 h1.1;have b:=aj8 h1.2;cases h2:(!r.2.1.all bn|| !kK r.2.2.2.1)
  ·simp only[aje,Bool.not_eq_false']at h2;exact⟨by omega,aiP.1 h2.1,h2.2,by omega⟩
  ·rw[h2]at h;cases h
 ·rw[h1]at h;cases h
theorem UO{l:List bU}(h:mJ l=0):LP l:=by
 unfold mJ at h;cases h1:((l.length:Int)==0)
 ·rw[h1]at h;cases h2:decide ((l.length:Int)>24)
  ·rw[h2]at h;simp only[ajq]at h;cases h3:(zZ wH 0 l !=0)
   ·rw[h3]at h;simp only[ajq]at h;have hz:zZ wH 0 l=0:=by simpa using h3
    have all:=rU hz;simp only[aiY]at all;have hpos:0<l.length:=by have:=ai6.1 h1;omega
    have hone:∀(k:Nat) (e:bU),l[k]?=some e→kP k e=false∧iE e=0:=by
     intro k e he;have:=all k e he;unfold wH at this;cases hb:kP k e
     ·rw[hb]at this;exact⟨rfl,this⟩
     ·rw[hb]at this;cases this
    refine⟨hpos,by have:=aj8 h2;omega,fun r hr=> ?_,fun k r hr h0=> ?_,fun r hr=> ?_⟩
    ·have hb:=(hone 0 r hr).1;unfold kP at hb;rw[if_pos rfl]at hb;rw[hr]at h;simp only at h;refine⟨by simpa using hb,?_⟩;cases hl:decide ((r.2.1.length:Int)>0)
     ·have:=aj8 hl;exact ajC.1 (by omega)
     ·rw[hl]at h;cases h
    ·have hb:=(hone k r hr).1;unfold kP at hb;rw[if_neg (by omega)]at hb;simp only[aje]at hb;have a:=aj8 hb.1;have b:=aj8 hb.2;omega
    ·obtain⟨k,hk,rfl⟩:=List.mem_iff_getElem.1 hr;exact abV (hone k _ (aiw hk)).2
   ·rw[h3]at h;simp only[cond_true]at h;rw[h]at h3;cases h3
  ·rw[h2]at h;cases h
 ·rw[h1]at h;cases h
theorem LP.psz{l:List bU}(h:LP l){r:bU}(hr:r∈l):PSs r.2.1:=by
 obtain⟨h1,h2,_⟩:=h.one r hr;refine⟨by omega,fun m hm=> ?_⟩;have:=h2 m hm;unfold bn at this;simp only[ai7]at this;have:=uU this.2.2.2;unfold PSz;omega
def KG(l:List bU)(i:Int)(k:Nat):Bool:=match l[k]? with|some r=>r.1==i|none=>false
def Dr(l:List bU)(i:Int):List Nat:=(List.range l.length).filter (KG l i)
abbrev ints(l:List Nat):List Int:=l.map fun k:Nat=>(k:Int)
theorem GZ{l:List bU}{i:Int}{k:Nat}:k∈Dr l i↔∃r,l[k]?=some r∧r.1=i:=by
 unfold Dr KG;rw[aj9,ajM];constructor
 ·rintro⟨h1,h2⟩;obtain⟨r,hr⟩:=getD_some h1;rw[hr]at h2;exact⟨r,hr,by simpa using h2⟩
 ·rintro⟨r,hr,rfl⟩;refine⟨(ain.1 hr).1,?_⟩;rw[hr];simp
theorem pY(l:List bU)(i:Int):(Dr l i).Pairwise (· < ·):=List.Pairwise.filter _ (List.pairwise_lt_range)
theorem Q0(p:Nat→Bool)(i:Nat):(List.range (i+1)).filter p=(List.range i).filter p++(if p i then [i]else []):=by
 rw[List.range_succ,ajw];cases h:p i<;>simp[List.filter_cons,h]
theorem Yo(l:List bU)(hl:l.length≤1048576)(i:Int):Yi ((l,i,()),())=some ((),(ints (Dr l i),())):=by
 have h:=mZ (f:=uo) (Q:=fun b=>b=((),(ints (Dr l i),()))) (fun k st=>st=(((k:Int),i,l,(l.length:Int),()),(ints ((List.range k).filter (KG l i)),()))) l.length ?_ ?_ _ rfl
 ·obtain⟨b,h3,rfl⟩:=h;unfold Yi;exact aU _ (show aB uo ((0,i,l,(l.length:Int),()),([],()))=_ from h3) rfl
 ·rintro k _ hk rfl;obtain⟨e,he⟩:=getD_some (l:=l) (i:=k) hk;have hw:aP ((k:Int)+1)=((k+1:Nat):Int):=aL (by omega)
  have hlen:(ints ((List.range k).filter (KG l i))).length≤k:=by
   have:=aj5 (KG l i) (List.range k);rw[List.length_range]at this;rw[ais];exact this
  have b1:decide ((ints ((List.range k).filter (KG l i))).length+ [(k:Int)].length≤4294967296)=true:=aim (by simp only[aiR,List.length_nil];omega);have hc:KG l i k=(e.1==i):=by unfold KG;rw[he]
  refine⟨_,?_,rfl⟩;rw[Q0,hc];simp only[uo,aO,aG he,eO hk,ax,sS];cases (e.1==i)
  ·simp only[ax,sS,hw,ai2,if_false,aiO]
  ·simp only[ax,sS,b1,hw,if_true,aiL,aiE,aiS]
 ·rintro _ rfl;refine⟨_,?_,rfl⟩;simp only[uo,fD,ax,sS];rfl
def goC(rec:Nat→List Nat)(l:List bU)(x:List LT):List Nat→List Nat
 | []=> []
 |k::ks=>match l[k]? with
  |none=> []
  |some r=>bif allM r.2.1 x then rec k++(bif r.2.2.2.2.2.2.2.1 then goC rec l x ks else [])else goC rec l x ks
def eB(l:List bU)(x:List LT):Nat→Nat→List Nat
 |0,_=> []
 |n+1,i=>if goC (eB l x n) l x (Dr l (i:Int))=[]then [i]else goC (eB l x n) l x (Dr l (i:Int))
theorem Sj{a:Nat}(h:0<a):2 ^(a-1)+2 ^(a-1)=2 ^ a:=by
 obtain⟨b,rfl⟩:∃b,a=b+1:=⟨a-1,by omega⟩
 rw[Nat.add_sub_cancel,Nat.pow_succ];omega
theorem OG{rec:Nat→List Nat}{l:List bU}{x:List LT}:∀{ks:List Nat} {j:Nat},ks.Pairwise (· < ·)→(∀k∈ks,j≤k∧k<l.length∧(rec k).length≤2 ^(l.length-k-1))→(goC rec l x ks).length+1≤2 ^(l.length-j)
 | [],j,_,_=>Nat.one_le_two_pow
 |k::ks,j,hp,h=>by
  obtain⟨h1,h2,h3⟩:=h k (ajx ..)
  have ih:=OG (x:=x) (ks:=ks) (j:=k+1) (List.pairwise_cons.1 hp).2 (fun y hy=>by
   obtain⟨_,a,b⟩:=h y (aju _ hy);exact⟨(List.pairwise_cons.1 hp).1 y hy,a,b⟩)
  have e1:l.length-(k+1)=l.length-k-1:=by omega
  rw[e1]at ih;have e2:=Sj (a:=l.length-k) (by omega);have e3:2 ^(l.length-k)≤2 ^(l.length-j):=Nat.pow_le_pow_right (by omega) (by omega);unfold goC;obtain⟨r,hr⟩:=getD_some h2;rw[hr];simp only;cases allM r.2.1 x
  ·simp only[ajq];omega
  ·simp only[cond_true,aiB];cases r.2.2.2.2.2.2.2.1
   ·simp only[ajq,List.length_nil];have:1≤2 ^(l.length-k-1):=Nat.one_le_two_pow;omega
   ·simp only[cond_true];omega
theorem yO{l:List bU}(h:LP l){i k:Nat}(hk:k∈Dr l (i:Int)):i<k∧k<l.length:=by
 obtain⟨r,hr,hi⟩:=GZ.1 hk;have hlt:=(ain.1 hr).1;refine⟨?_,hlt⟩;by_cases h0:k=0
 ·subst h0;have:=(h.root r hr).1;omega
 ·have:=(h.par k r hr (by omega)).2;omega
theorem FQ{l:List bU}(h:LP l)(x:List LT):∀(n i:Nat),i<l.length→(eB l x n i).length≤2 ^(l.length-i-1)
 |0,_,_=>aiN _
 |n+1,i,hi=>by
  unfold eB
  have:=OG (rec:=eB l x n) (x:=x) (j:=i+1) (pY l (i:Int)) (fun k hk=>by
   obtain⟨a,b⟩:=yO h hk;exact⟨a,b,FQ h x n k b⟩)
  rw[show l.length-(i+1)=l.length-i-1 by omega]at this;split
  ·exact Nat.one_le_two_pow
  ·omega
theorem small{l:List bU}(h:LP l){a:List Nat}(k:Nat)(ha:a.length≤2 ^(l.length-k)):a.length≤16777216:=by
 have:=h.len;have e:2 ^(l.length-k)≤2 ^ 24:=Nat.pow_le_pow_right (by omega) (by omega);have:(2:Nat)^ 24=16777216:=rfl;omega
theorem Jg(l:List bU)(hl:LP l)(x:List LT)(hx:OX x)(n:Nat)(rc:(((List bU)×Int×List LT×Unit)×Unit)→Option (Unit×(List Int×Unit)))
  (hrc:∀k:Nat,k<l.length→l.length-k≤n→rc ((l,(k:Int),x,()),())=some ((),(ints (eB l x n k),()))) (o:Int) (ch:List Nat) (hs:ch.Pairwise (· < ·)) (hc:∀k∈ch,k<l.length∧l.length-k≤n):
  ∀(k i:Nat) (out:List Int),i+k=ch.length→out.length≤16777216*i→aB (nC rc) (((i:Int),o,l,x,((ch.length:Nat):Int),()),(out,(ints ch,())))=some ((o,()),(out++ints (goC (eB l x n) l x (ch.drop i)),())):=by
 have hcl:ch.length≤24:=by
  have:=hl.len
  have:ch.length≤l.length:=by
   have hsub:ch.Sublist (List.range l.length):=by
    have h1:ch=(List.range l.length).filter (fun k=>decide (k∈ch)):=by
     apply List.Perm.eq_of_pairwise (le:=(· < ·)) (fun a b _ _ h1 h2=>absurd h1 (by omega)) hs (List.Pairwise.filter _ List.pairwise_lt_range);refine(List.perm_ext_iff_of_nodup (hs.imp (fun h=>by omega)) ((List.nodup_range).filter _)).2 fun a=> ?_
     rw[aj9,ajM,aiU];exact⟨fun h=>⟨(hc a h).1,h⟩,fun h=>h.2⟩
    rw[h1];exact List.filter_sublist
   have:=hsub.length_le
   rwa [List.length_range]at this
  omega
 intro k
 induction k with
 |zero=>
  intro i out h ho;obtain rfl:i=ch.length:=by omega
  rw[ajh];refine aC ?_;simp only[nC,fD,ax,sS];simp[goC]
 |succ k ih=>
  intro i out h ho;obtain⟨e,he,hd⟩:=drop_at (l:=ch) (i:=i) (by omega);obtain⟨he1,he2⟩:=hc e (air he);obtain⟨r,hr⟩:=getD_some he1;have hp:=hl.psz (air hr);have hei:(ints ch)[i]?=some (e:Int):=by rw[ait,he];rfl
  have hb:decide ((0:Int)≤(i:Int)∧(i:Int)<(((ints ch).length:Nat):Int))=true:=aim (by rw[ais];omega);have hlt:decide ((i:Int)<((ch.length:Nat):Int))=true:=aim (by omega);have hw:aP ((i:Int)+1)=((i+1:Nat):Int):=aL (by omega);have hfl:(eB l x n e).length≤16777216:=small hl (e+1) (by have:=FQ hl x n e he1;rwa [show l.length-(e+1)=l.length-e-1 by omega]);have hmul:16777216*i≤16777216*24:=Nat.mul_le_mul_left _ (by omega);have hb2:decide (out.length+(ints (eB l x n e)).length≤4294967296)=true:=aim (by rw[ais];omega);rw[hd];unfold goC;rw[hr];simp only;cases hq:allM r.2.1 x
  ·simp only[ajq];rw[←ih (i+1) out (by omega) (by omega)];refine aM ?_;simp only[nC,hlt,hb,aip,hei,aO,aG hr,qi r.2.1 x hp hx,hq,hw,ax,ax,sS]
  ·simp only[cond_true];cases hcont:r.2.2.2.2.2.2.2.1
   ·simp only[ajq,aiO];refine aC ?_;simp only[nC,hlt,hb,aip,hei,aO,aG hr,qi r.2.1 x hp hx,hq,hrc e he1 he2,hb2,hcont,ax,ax,sS]
   ·simp only[cond_true]
    rw[show ints (eB l x n e++goC (eB l x n) l x (ch.drop (i+1)))=ints (eB l x n e)++ints (goC (eB l x n) l x (ch.drop (i+1)))from aiL,←aiI,
     ←ih (i+1) (out++ints (eB l x n e)) (by omega) (by rw[aiB,ais];omega)]
    refine aM ?_;simp only[nC,hlt,hb,aip,hei,aO,aG hr,qi r.2.1 x hp hx,hq,hrc e he1 he2,hb2,hcont,hw,ax,ax,sS]
theorem Yh(l:List bU)(hl:LP l)(x:List LT)(hx:OX x):∀(n i:Nat),i<l.length→l.length-i≤n→Gs n ((l,(i:Int),x,()),())=some ((),(ints (eB l x n i),())):=by
 intro n
 induction n with
 |zero=>intro i h1 h2;omega
 |succ n ih=>
  intro i hi hn;have hlen:=hl.len;have q:=Yo l (by omega) (i:Int)
  have q2:=Jg l hl x hx n (Gs n) (fun k h1 h2=>ih k h1 h2) (i:Int) (Dr l (i:Int)) (pY l _) (fun k hk=>by
   obtain⟨a,b⟩:=yO hl hk;exact⟨b,by omega⟩) (Dr l (i:Int)).length 0 [] (by omega) (by simp)
  rw[aiK,ajI]at q2
  show Um (Gs n) ((l,(i:Int),x,()),())=_
  unfold Um;simp only[q,ax,sS];rw[ais];refine aU _ (show aB (nC (Gs n)) ((0,(i:Int),l,x,(((Dr l (i:Int)).length:Nat):Int),()),([],(ints (Dr l (i:Int)),())))=_ from q2) ?_;unfold eB;by_cases h:goC (eB l x n) l x (Dr l (i:Int))=[]
  ·rw[if_pos h,h];rfl
  ·rw[if_neg h]
   have:(((ints (goC (eB l x n) l x (Dr l (i:Int)))).length:Int)==0)=false:=ai6.2 (by
    rw[ais];intro e;exact h (ajC.1 (by omega)))
   simp only[this,ax,sS]
def kD(l:List bU)(x:List LT):List Nat:=if mJ l=0∧bZ x=true then eB l x 400 0 else []
theorem He{x:List LT}(h:bZ x=true):OX x:=by
 obtain⟨h1,h2⟩:=gP h;exact⟨by omega,fun y hy=>by have:=uU (h2 y hy).2.1;omega⟩
theorem abP(l:List bU)(hl:Ug l)(x:List LT)(hx:PK x):m68 ((l,x,()),())=some ((),(ints (kD l x),())):=by
 unfold m68 kD;by_cases h:mJ l=0
 ·have hb:(mJ l !=0)=false:=by rw[h];rfl
  have hk:=UO h;simp only[Ho l hl,Al x hx,hb,ax,sS];cases hv:bZ x
  ·simp only[ax,sS];rw[if_neg (by simp)];rfl
  ·have q:=Yh l hk x (He hv) 400 0 hk.pos (by have:=hk.len;omega);simp only[ax,sS];rw[if_pos ⟨h,trivial⟩];exact aU _ q rfl
 ·have hb:(mJ l !=0)=true:=ajg.2 h;simp only[Ho l hl,hb,ax,sS];rw[if_neg (fun e=>h e.1)];rfl
def ic(l:List bU):Nat→Nat→List Nat
 |0,_=> []
 |n+1,i=>if i=0 then [0]else match l[i]? with|some r=>ic l n r.1.toNat++ [i]|none=> []
def zC(r:bU)(x:List LT):ByteArray:=if bZ x then DZ (gq r.2.2.2.1 x)else ByteArray.empty
theorem Sv{ks:List ByteArray}{x:List LT}(h:PK x):PK (gq ks x):=⟨aja (JF ks x).length_le h.1,fun y hy=>h.2 y ((JF ks x).subset hy)⟩
theorem V5(r:bU)(x:List LT)(hx:PK x)(hr:r.2.2.2.1.length≤big):m69 ((r,x,()),())=some ((zC r x,()),()):=by
 unfold m69 zC;simp only[Al x hx,ax,sS];cases hv:bZ x
 ·rfl
 ·have:=(gP hv).1;simp only[Wn x r.2.2.2.1 (by omega) hr,H6 _ (Sv hx),if_true,ax,sS]
theorem aa7(r:bU)(x:List LT)(hx:PK x)(hr:r.2.2.2.1.length≤big):m20 ((r,x,()),())=some ((zC r x,()),()):=by
 unfold m20 zC;simp only[UQ x hx,ax,sS];cases hv:bZ x
 ·rfl
 ·have:=(gP hv).1;simp only[abF x r.2.2.2.1 (by omega) hr,R5 _ (Sv hx),if_true,ax,sS]
theorem LK:∀{l:List ByteArray} {p:Option ByteArray},(∀k∈l,o6 k=true)→l.Pairwise (fun a b=>leB b a=false)→(∀q,p=some q→∀k∈l,leB k q=false)→yM NR p l=true
 | [],_,_,_,_=>rfl
 |k::l,p,h1,h2,h3=>by
  unfold yM;have h2:=List.pairwise_cons.1 h2;rw[LK (p:=some k) (fun y hy=>h1 y (aju _ hy)) h2.2 (fun q hq y hy=>by cases hq;exact h2.1 y hy),Bool.and_true];unfold NR;rw[h1 k (ajx ..)]
  cases p with
  |none=>rfl
  |some q=>simp only;rw[h3 q rfl k (ajx ..)];rfl
theorem Pv:kE.Pairwise (fun a b=>leB b a=false):=by decide+kernel
theorem Lm{l:List ByteArray}(h:l.Sublist kE):kK l=true:=LK (fun k hk=>(Ei k (h.subset hk)).1) (Pv.sublist h) (fun q hq=>by cases hq)
def FP(r:bU):Prop:=(r.2.1.length≤8∧∀m∈r.2.1,wT m)∧r.2.2.2.1.Sublist kE∧p9 r=false∧r.2.2.2.2.2.1≤1000∧0≤r.2.2.2.2.2.1∧0≤r.2.2.2.2.2.2.1∧r.2.2.2.2.2.2.1≤10000
theorem FP.z{r:bU}(h:FP r):Lv r:=by
 obtain⟨⟨h1,h2⟩,h3,_⟩:=h;have h4:=h3.length_le;rw[show kE.length=4 from rfl]at h4;exact⟨⟨by unfold big;omega,fun m hm=>(h2 m hm).z⟩,by unfold big;omega,fun k hk=>by have:=(Ei k (h3.subset hk)).2;unfold big;omega⟩
theorem FP.one{r:bU}(h:FP r):iE r=0:=by
 obtain⟨⟨h1,h2⟩,h3,h4,_⟩:=h;have h5:=h3.length_le;rw[show kE.length=4 from rfl]at h5;unfold iE;rw[aio (show¬(r.2.1.length:Int)>8 by omega),aio (show¬(r.2.2.2.1.length:Int)>12 by omega),aiP.2 (fun m hm=>(h2 m hm).1),Lm h3,h4];rfl
theorem R8{E:Type}{gy:Nat→E→Int}:∀{l:List E} {i:Nat},(∀(k:Nat) (e:E),l[k]?=some e→gy (i+k) e=0)→zZ gy i l=0
 | [],_,_=>rfl
 |x::r,i,h=>by
  unfold zZ;have h0:=h 0 x rfl;rw[ajH]at h0;rw[h0]
  exact R8 (i:=i+1) fun k e he=>by
   have:=h (k+1) e (by simpa using he)
   rwa [show i+(k+1)=i+1+k by omega]at this
structure z8(l:List bU):Prop where
 pos:0<l.length
 len:l.length≤24
 root:∀r,l[0]?=some r→r.1= -1∧r.2.1=[]
 par:∀(k:Nat) (r:bU),l[k]?=some r→0<k→0≤r.1∧r.1<(k:Int)
 good:∀r∈l,FP r
theorem aaB{l:List bU}(pos:0<l.length)(len:l.length≤24)(root:∀r,l[0]?=some r→r.1= -1∧r.2.1=[])(par:∀(k:Nat) (r:bU),l[k]?=some r→0<k→0≤r.1∧r.1<(k:Int))(one:∀r∈l,iE r=0):mJ l=0:=by
 unfold mJ;rw[ai6.2 (show(l.length:Int)≠0 by omega),aio (show¬(l.length:Int)>24 by omega),R8 (fun k e he=> ?_)]
 ·obtain⟨r,hr⟩:=getD_some pos;rw[hr];simp only[(root r hr).2];rfl
 ·rw[aiY];unfold wH kP
  have:(if k=0 then e.1 != -1 else decide (e.1<0)||decide (e.1≥(k:Int)))=false:=by
   by_cases h0:k=0
   ·subst h0;rw[if_pos rfl,(root e he).1];rfl
   ·rw[if_neg h0];obtain⟨a,b⟩:=par k e he (by omega);rw[aio (by omega),aio (by omega)];rfl
  rw[this];exact one e (air he)
theorem z8.gy{l:List bU}(h:z8 l):mJ l=0:=aaB h.pos h.len h.root h.par (fun r hr=>(h.good r hr).one)
theorem z8.z{l:List bU}(h:z8 l):Ug l:=⟨by have:=h.len;omega,fun r hr=>(h.good r hr).z⟩
theorem mem3{x a b c:Int}(h:x∈ [a,b,c]):x=a∨x=b∨x=c:=by simpa using h
theorem aga{x a b c d:Int}(h:x∈ [a,b,c,d]):x=a∨x=b∨x=c∨x=d:=by simpa using h
def J4(l:List bU)(x:List LT)(k:Nat):Bool:=match l[k]? with|some r=>allM r.2.1 x|none=>false
def cnt(l:List bU)(k:Nat):Bool:=match l[k]? with|some r=>r.2.2.2.2.2.2.2.1|none=>false
inductive Down(l:List bU)(x:List LT):Nat→Nat→Prop where
 |here (i:Nat) (h:∀c∈Dr l (i:Int),J4 l x c=false):Down l x i i
 |step (i k j:Nat) (hk:k∈Dr l (i:Int)) (hm:J4 l x k=true) (hs:∀c∈Dr l (i:Int),c<k→J4 l x c=true→cnt l c=true) (h:Down l x k j):Down l x i j
theorem Jb{rec:Nat→List Nat}{l:List bU}{x:List LT}:∀{ks:List Nat},ks.Pairwise (· < ·)→(∀k∈ks,k<l.length)→∀j∈goC rec l x ks,∃k∈ks,J4 l x k=true∧j∈rec k∧∀c∈ks,c<k→J4 l x c=true→cnt l c=true
 | [],_,_,j,hj=>by cases hj
 |k::ks,hp,hl,j,hj=>by
  obtain⟨r,hr⟩:=getD_some (hl k (ajx ..));unfold goC at hj;rw[hr]at hj;simp only at hj;have hp:=List.pairwise_cons.1 hp;have hm:J4 l x k=allM r.2.1 x:=by unfold J4;rw[hr]
  have hc:cnt l k=r.2.2.2.2.2.2.2.1:=by unfold cnt;rw[hr]
  have tail:j∈goC rec l x ks→(J4 l x k=true→cnt l k=true)→∃k'∈k::ks,J4 l x k'=true∧j∈rec k'∧∀c∈k::ks,c<k'→J4 l x c=true→cnt l c=true:=fun h hk=>by
   obtain⟨k',h1,h2,h3,h4⟩:=Jb hp.2 (fun y hy=>hl y (aju _ hy)) j h;refine⟨k',aju _ h1,h2,h3,fun c hcm hlt hmc=> ?_⟩;rcases aiV.1 hcm with rfl|hcm
   ·exact hk hmc
   ·exact h4 c hcm hlt hmc
  cases hq:allM r.2.1 x
  ·rw[hq]at hj;exact tail hj (fun h=>by rw[hm,hq]at h;cases h)
  ·rw[hq]at hj;simp only[cond_true]at hj;rcases ai9.1 hj with h|h
   ·refine⟨k,ajx ..,by rw[hm,hq],h,fun c hcm hlt=> ?_⟩;rcases aiV.1 hcm with rfl|hcm
    ·omega
    ·have:=hp.1 c hcm;omega
   ·cases hco:r.2.2.2.2.2.2.2.1
    ·rw[hco]at h;cases h
    ·rw[hco]at h;exact tail h (fun _=>by rw[hc,hco])
theorem UR(l:List bU)(x:List LT)(n i:Nat):eB l x (n+1) i≠ []:=by
 unfold eB;split
 ·simp
 ·assumption
theorem O3{rec:Nat→List Nat}{l:List bU}{x:List LT}:∀{ks:List Nat},(∀k∈ks,k<l.length∧rec k≠ [])→goC rec l x ks=[]→∀c∈ks,J4 l x c=false
 | [],_,_,c,hc=>by cases hc
 |k::ks,hl,h,c,hc=>by
  obtain⟨r,hr⟩:=getD_some (hl k (ajx ..)).1;unfold goC at h;rw[hr]at h;simp only at h;have hm:J4 l x k=allM r.2.1 x:=by unfold J4;rw[hr]
  cases hq:allM r.2.1 x
  ·rw[hq]at h;rcases aiV.1 hc with rfl|hc
   ·rw[hm,hq]
   ·exact O3 (fun y hy=>hl y (aju _ hy)) h c hc
  ·rw[hq]at h;simp only[cond_true]at h;exact absurd (List.append_eq_nil_iff.1 h).1 (hl k (ajx ..)).2
theorem uO{l:List bU}(hl:LP l)(x:List LT):∀(n i:Nat),l.length-i≤n→i<l.length→∀j∈eB l x n i,Down l x i j
 |0,i,h,hi,j,hj=>by omega
 |n+1,i,h,hi,j,hj=>by
  have hc:∀k∈Dr l (i:Int),k<l.length∧eB l x n k≠ []:=fun k hk=>by
   obtain⟨a,b⟩:=yO hl hk;obtain⟨m,rfl⟩:∃m,n=m+1:=⟨n-1,by omega⟩
   exact⟨b,UR l x m k⟩
  unfold eB at hj;split at hj
  ·rename_i h0;simp only[ajd]at hj;subst hj;exact .here j (O3 hc h0)
  ·obtain⟨k,h1,h2,h3,h4⟩:=Jb (pY l _) (fun k hk=>(hc k hk).1) j hj;obtain⟨a,b⟩:=yO hl h1;exact .step i k j h1 h2 h4 (uO hl x n k (by omega) b j h3)
theorem GH{l:List bU}(hl:LP l):∀(n m i:Nat),i<n→i<m→i<l.length→ic l n i=ic l m i
 |0,_,_,h,_,_=>by omega
 |_+1,0,_,_,h,_=>by omega
 |n+1,m+1,i,hn,hm,hi=>by
  unfold ic;by_cases h0:i=0
  ·rw[if_pos h0,if_pos h0]
  ·rw[if_neg h0,if_neg h0];obtain⟨r,hr⟩:=getD_some hi;obtain⟨p1,p2⟩:=hl.par i r hr (by omega);rw[hr];simp only;rw[GH hl n m r.1.toNat (by omega) (by omega) (by omega)]
theorem qA{l:List bU}(hl:LP l){i k:Nat}(hk:k∈Dr l (i:Int)):ic l 400 k=ic l 400 i++ [k]:=by
 obtain⟨a,b⟩:=yO hl hk;obtain⟨r,hr,hi⟩:=GZ.1 hk;have hlen:=hl.len;rw[show(400:Nat)=399+1 from rfl]
 conv=>lhs;unfold ic
 rw[if_neg (by omega),hr];simp only;rw[hi,aip,GH hl 399 (399+1) i (by omega) (by omega) (by omega)]
def EH(l:List bU)(x:List LT)(p:List Nat):Prop:=
 (∀k∈p,k<l.length∧J4 l x k=true)∧∀(k a b:Nat),p[k]?=some a→p[k+1]?=some b→∀c∈Dr l (a:Int),c<b→J4 l x c=true→cnt l c=true
theorem FU{l:List bU}(hl:LP l){i:Nat}(hi:i<l.length):∃q,ic l 400 i=q++ [i]:=by
 have hlen:=hl.len;rw[show(400:Nat)=399+1 from rfl];unfold ic;by_cases h0:i=0
 ·rw[if_pos h0,h0];exact⟨[],rfl⟩
 ·rw[if_neg h0];obtain⟨r,hr⟩:=getD_some hi;rw[hr];exact⟨_,rfl⟩
theorem QK{l:List bU}(hl:LP l){x:List LT}{i j:Nat}(h:Down l x i j):i<l.length→EH l x (ic l 400 i)→∃s,ic l 400 j=ic l 400 i++s∧EH l x (ic l 400 j)∧j<l.length∧∀c∈Dr l (j:Int),J4 l x c=false:=by
 induction h with
 |here i h=>intro hi hp;exact⟨[],by simp,hp,hi,h⟩
 |step i k j hk hm hs h ih=>
  intro hi hp;obtain⟨a,b⟩:=yO hl hk;have e:=qA hl hk
  have hp2:EH l x (ic l 400 k):=by
   rw[e];refine⟨fun y hy=> ?_,fun n a b ha hb=> ?_⟩
   ·rcases ai9.1 hy with h|h
    ·exact hp.1 y h
    ·simp only[ajd]at h;subst h;exact⟨by assumption,hm⟩
   ·by_cases hn:n+1<(ic l 400 i).length
    ·rw[ai3 (by omega)]at ha hb;exact hp.2 n a b ha hb
    ·have hlt:=(ain.1 hb).1;rw[aiB,List.length_singleton]at hlt;obtain⟨q,hq⟩:=FU hl hi;have hl2:(ic l 400 i).length=q.length+1:=by rw[hq];simp
     obtain rfl:n=q.length:=by omega
     rw[ai3 (by omega),hq,ai0 (aiy _),Nat.sub_self]at ha;rw[ai0 (by omega),show q.length+1-(ic l 400 i).length=0 by omega]at hb;simp at ha hb;subst ha;subst hb;exact hs
  obtain⟨s,h1,h2,h3,h4⟩:=ih b hp2;exact⟨[k]++s,by rw[h1,e,aiI],h2,h3,h4⟩
theorem Qs{l:List bU}(hl:LP l)(x:List LT):EH l x (ic l 400 0):=by
 have e:ic l 400 0=[0]:=rfl;rw[e];refine⟨fun k hk=> ?_,fun k a b ha hb=> ?_⟩
 ·simp only[ajd]at hk;subst hk;obtain⟨r,hr⟩:=getD_some hl.pos;refine⟨hl.pos,?_⟩;unfold J4;rw[hr];simp only[(hl.root r hr).2];rfl
 ·simp at hb
theorem Gb{rec:Nat→List Nat}{l:List bU}{x:List LT}:∀{ks:List Nat},ks.Pairwise (· < ·)→(∀k∈ks,k<l.length∧(rec k).Nodup)→(∀k∈ks,∀k'∈ks,∀j,j∈rec k→j∈rec k'→k=k')→(goC rec l x ks).Nodup
 | [],_,_,_=>List.nodup_nil
 |k::ks,hp,hl,hd=>by
  obtain⟨h1,h2⟩:=hl k (ajx ..);obtain⟨r,hr⟩:=getD_some h1;have hp:=List.pairwise_cons.1 hp;have ih:=Gb (rec:=rec) (l:=l) (x:=x) hp.2 (fun y hy=>hl y (aju _ hy)) (fun a ha b hb=>hd a (aju _ ha) b (aju _ hb));unfold goC;rw[hr];simp only;cases allM r.2.1 x
  ·exact ih
  ·simp only[cond_true];cases r.2.2.2.2.2.2.2.1
   ·simp only[ajq,aiO];exact h2
   ·simp only[cond_true];refine List.nodup_append.2 ⟨h2,ih,fun a ha b hb e=> ?_⟩;subst e;obtain⟨k',g1,_,g3,_⟩:=Jb hp.2 (fun y hy=>(hl y (aju _ hy)).1) a hb;have:=hd k (ajx ..) k' (aju _ g1) a ha g3;have:=hp.1 k' g1;omega
theorem JK{l:List bU}(hl:LP l){x:List LT}{i j:Nat}(h:Down l x i j):∃s,ic l 400 j=ic l 400 i++s:=by
 induction h with
 |here i h=>exact⟨[],by simp⟩
 |step i k j hk hm hs h ih=>
  obtain⟨s,hs⟩:=ih;exact⟨[k]++s,by rw[hs,qA hl hk,aiI]⟩
theorem BA{l:List bU}(hl:LP l)(x:List LT):∀(n i:Nat),l.length-i≤n→i<l.length→(eB l x n i).Nodup
 |0,_,h,hi=>by omega
 |n+1,i,h,hi=>by
  unfold eB;split
  ·simp
  ·refine Gb (pY l _) (fun k hk=> ?_) (fun k hk k' hk' j hj hj'=> ?_)
   ·obtain⟨a,b⟩:=yO hl hk;exact⟨b,BA hl x n k (by omega) b⟩
   ·obtain⟨a,b⟩:=yO hl hk;obtain⟨a',b'⟩:=yO hl hk';obtain⟨s,hs⟩:=JK hl (uO hl x n k (by omega) b j hj);obtain⟨s',hs'⟩:=JK hl (uO hl x n k' (by omega) b' j hj');rw[qA hl hk]at hs;rw[qA hl hk',hs,aiI,aiI]at hs';have:=List.append_cancel_left hs';simp at this;exact this.1
theorem found{l:List bU}(hl:LP l){x:List LT}{j:Nat}(hj:j∈eB l x 400 0):
  j<l.length∧(∃q,ic l 400 j=0::q)∧(∃q,ic l 400 j=q++ [j])∧EH l x (ic l 400 j)∧∀c∈Dr l (j:Int),J4 l x c=false:=by
 have hlen:=hl.len;obtain⟨s,h1,h2,h3,h4⟩:=QK hl (uO hl x 400 0 (by omega) hl.pos j hj) hl.pos (Qs hl x);exact⟨h3,⟨s,h1⟩,FU hl h3,h2,h4⟩
abbrev bM:Type:=ByteArray×List LT×Int×Int×Bool×Bool×Unit
abbrev bA:Type:=Int×ByteArray×List bM×Int×Int×Unit
abbrev aI(m:bM):ByteArray:=m.1
abbrev eF(m:bM):List LT:=m.2.1
abbrev EN(m:bM):Int:=m.2.2.1
abbrev mI(m:bM):Int:=m.2.2.2.1
abbrev fG(m:bM):Bool:=m.2.2.2.2.1
abbrev gY(m:bM):Bool:=m.2.2.2.2.2.1
abbrev aN(g:bA):List bM:=g.2.2.1
abbrev gK(g:bA):Int:=g.2.2.2.1
abbrev dP(g:bA):Int:=g.2.2.2.2.1
structure wz(m:bM):Prop where
 lab:bZ (eF m)=true
 key:aI m=fU (d9 (eF m))
 since:0≤EN m∧EN m≤8589934592
 heard:0≤mI m∧mI m≤8589934592
 told:fG m=true∨gY m=false
abbrev Less(a b:ByteArray):Prop:=leB b a=false
structure VG(g:bA):Prop where
 len:(aN g).length≤256
 rt:0≤g.1
 due: -1≤gK g∧gK g≤8589934592
 sent: -1≤dP g∧dP g≤8589934592
 mem:∀m∈aN g,wz m
 up:((aN g).map aI).Pairwise Less
theorem mW{l:List LT}(h:bZ l=true):PK l:=by
 obtain⟨h1,h2⟩:=gP h;refine⟨by unfold big;omega,fun x hx=> ?_⟩;obtain⟨a,b,_⟩:=h2 x hx;have:=Cv a;have:=uU b;unfold big;omega
theorem CX{l:List LT}(h:bZ l=true):DZ l=fU (d9 l):=if_pos h
theorem yI(a b c:Int):CK ((a,b,c,()),())=some ((decide (b≤a∧a≤c),()),()):=by
 unfold CK;by_cases h1:a≥b<;>by_cases h2:a≤c<;>simp[h1,h2]
theorem Wt{m:bM}(h:wz m):X0 ((m,()),())=some ((true,()),()):=by
 have q1:=Al (eF m) (mW h.lab);rw[h.lab]at q1;have q2:=H6 (eF m) (mW h.lab);rw[CX h.lab,←h.key]at q2;have d1:decide ((0:Int)≤EN m∧EN m≤8589934592)=true:=aim h.since;have d2:decide ((0:Int)≤mI m∧mI m≤8589934592)=true:=aim h.heard;have ht:=h.told;obtain⟨k,l,s,hh,f,t,⟨⟩⟩:=m;dsimp only[aI,eF,EN,mI,fG,gY]at q1 q2 d1 d2 ht;unfold X0;simp only[q1,q2,yI,d1,d2,ax,sS];cases f
 ·have:t=false:=by simpa using ht
  subst this;rfl
 ·rfl
theorem NH{l:List ByteArray}(h:l.Pairwise Less){i:Nat}{a b:ByteArray}(ha:l[i]?=some a)(hb:l[i+1]?=some b):Less a b:=by
 obtain⟨h1,rfl⟩:=ain.1 ha;obtain⟨h2,rfl⟩:=ain.1 hb;exact List.pairwise_iff_getElem.1 h i (i+1) h1 h2 (by omega)
theorem IQ{g:bA}(h:VG g):m82 ((g,()),())=some ((true,()),()):=by
 have hlen:=h.len;have d0:decide (((aN g).length:Int)>256)=false:=aio (by omega);have d1:decide (g.1<0)=false:=aio (by have:=h.rt;omega);have d2:decide ((-1:Int)≤gK g∧gK g≤8589934592)=true:=aim h.due;have d3:decide ((-1:Int)≤dP g∧dP g≤8589934592)=true:=aim h.sent
 have hl:aB yG (((0:Int),aN g,((aN g).length:Int),()),((g,()),()))=some (.inr ((),())):=mr (aN g) (fun i=>(((i:Int),aN g,((aN g).length:Int),()),((g,()),()))) _ (fun i e he hi=>by
  have q:=Wt (h.mem e (air he));have hw:=aL (i:=i) (by omega);obtain⟨rt,ky,ms,du,se,⟨⟩⟩:=g;rcases lV hi with h0|⟨p,h0,hp,hp1⟩
  ·have:decide ((i:Int)>0)=false:=aio (by omega);simp only[yG,eO hi,aO,aG he,q,this,hw,ax,sS]
  ·have:decide ((i:Int)>0)=true:=aim (by omega);have hlt:=NH h.up (i:=i-1) (a:=aI p) (b:=aI e) (by rw[ait,hp];rfl) (by rw[show i-1+1=i by omega,ait,he];rfl);have hlt:(Op.bytesLess e.1.toList p.1.toList||e.1.toList==p.1.toList)=false:=hlt;simp only[yG,eO hi,aO,aG he,q,this,hp1 (by omega),aG hp,hlt,hw,ax,sS]) (by simp only[yG,fD,ax,sS])
 obtain⟨rt,ky,ms,du,se,⟨⟩⟩:=g;dsimp only[aN,gK,dP]at d0 d1 d2 d3 hl;unfold m82;simp only[d0,d1,yI,d2,d3,ax,sS];refine aU _ hl ?_;simp only[ax,sS]
theorem isNaN(s:ByteArray):TD ((s,()),())=some ((false,()),()):=by
 unfold TD;simp
def BP(a b:ByteArray):Int:=if Op.bytesLess a.toList b.toList=true then -1 else if leB a b=false then 1 else 0
theorem O1(a b:ByteArray):Ui ((a,b,()),())=some ((BP a b,()),()):=by
 unfold Ui BP leB;simp only[isNaN,ax,sS];cases Op.bytesLess a.toList b.toList
 ·cases (a.toList==b.toList)<;>rfl
 ·rfl
theorem Jm(m:bM)(k:ByteArray):VF ((m,k,()),())=some ((BP (aI m) k,()),()):=by
 unfold VF;simp only[O1,ax,sS]
theorem SH:∀x:List UInt8,Op.bytesLess x x=false
 | []=>rfl
 |a::x=>by
  have:=SH x;simp[Op.bytesLess,this]
theorem KZ:∀{x y z:List UInt8},Op.bytesLess x y=true→Op.bytesLess y z=true→Op.bytesLess x z=true
 |_,[],_,h,_=>by cases ‹List UInt8›<;>simp[Op.bytesLess]at h
 |_,_::_,[],_,h=>by simp[Op.bytesLess]at h
 | [],_::_,_::_,_,_=>by simp[Op.bytesLess]
 |a::x,b::y,c::z,h1,h2=>by
  simp only[Op.bytesLess,ajJ,aiU,ai7,beq_iff_eq]at h1 h2 ⊢;rcases h1 with h1|⟨rfl,h1⟩
  ·rcases h2 with h2|⟨rfl,h2⟩
   ·exact .inl (UInt8.lt_trans h1 h2)
   ·exact .inl h1
  ·rcases h2 with h2|⟨rfl,h2⟩
   ·exact .inl h2
   ·exact .inr ⟨rfl,KZ h1 h2⟩
theorem U1:∀(x y:List UInt8),Op.bytesLess x y=true∨x=y∨Op.bytesLess y x=true
 | [],[]=>.inr (.inl rfl)
 | [],_::_=>.inl rfl
 |_::_,[]=>.inr (.inr rfl)
 |a::x,b::y=>by
  simp only[Op.bytesLess,ajJ,aiU,ai7,beq_iff_eq];rcases Nat.lt_trichotomy a.toNat b.toNat with h|h|h
  ·exact .inl (.inl (UInt8.lt_iff_toNat_lt.2 h))
  ·have h:=UInt8.toNat_inj.1 h;subst h;rcases U1 x y with h|h|h
   ·exact .inl (.inr ⟨rfl,h⟩)
   ·exact .inr (.inl (by rw[h]))
   ·exact .inr (.inr (.inr ⟨rfl,h⟩))
  ·exact .inr (.inr (.inl (UInt8.lt_iff_toNat_lt.2 h)))
abbrev Lt(a b:ByteArray):Prop:=Op.bytesLess a.toList b.toList=true
theorem I4{a b:ByteArray}(h:a.toList=b.toList):a=b:=Ae (by rw[←bW,←bW,h])
theorem nD(a:ByteArray):¬ Lt a a:=fun h=>by rw[Lt,SH]at h;cases h
theorem lt_trans{a b c:ByteArray}(h:Lt a b)(k:Lt b c):Lt a c:=KZ h k
theorem Ht(a b:ByteArray):Lt a b∨a=b∨Lt b a:=by
 rcases U1 a.toList b.toList with h|h|h
 ·exact .inl h
 ·exact .inr (.inl (I4 h))
 ·exact .inr (.inr h)
theorem fK{a b:ByteArray}:Less a b↔Lt a b:=by
 unfold Less leB;rw[aje];constructor
 ·rintro⟨h1,h2⟩;rcases Ht a b with h|h|h
  ·exact h
  ·subst h;simp at h2
  ·rw[h]at h1;cases h1
 ·intro h;refine⟨?_,?_⟩
  ·cases hc:Op.bytesLess b.toList a.toList
   ·rfl
   ·exact absurd (lt_trans h hc) (nD a)
  ·cases hc:(b.toList==a.toList)
   ·rfl
   ·have:b=a:=I4 (by simpa using hc);subst this;exact absurd h (nD b)
theorem JW{a b:ByteArray}:BP a b<0↔Lt a b:=by
 unfold BP;by_cases h:Lt a b
 ·rw[if_pos h];exact⟨fun _=>h,fun _=>by omega⟩
 ·rw[if_neg h];constructor
  ·intro h2;split at h2<;>omega
  ·exact fun h2=>absurd h2 h
theorem uN{a b:ByteArray}:BP a b=0↔a=b:=by
 unfold BP;by_cases h:Lt a b
 ·rw[if_pos h];exact⟨fun h2=>by omega,fun h2=>by subst h2;exact absurd h (nD a)⟩
 ·rw[if_neg h];by_cases h2:leB a b=false
  ·rw[if_pos h2];have h3:=fK.1 (show Less b a from h2);exact⟨fun h=>by omega,fun h=>by subst h;exact absurd h3 (nD a)⟩
  ·rw[if_neg h2];refine⟨fun _=> ?_,fun _=>rfl⟩;rcases Ht a b with h3|h3|h3
   ·exact absurd h3 h
   ·exact h3
   ·exact absurd (fK.2 h3) h2
theorem half(i j:Nat)(h:i+j≤1000000):aP (xW .u64 (IntKind.wrap .u64 (aP ((i:Int)+(j:Int)))) 1)=(((i+j)/ 2:Nat):Int):=by
 have h1:aP ((i:Int)+(j:Int))=(i:Int)+(j:Int):=bY (by omega) (by omega);rw[h1]
 have h2:IntKind.wrap .u64 ((i:Int)+(j:Int))=(i:Int)+(j:Int):=by
  have hp:(2:Int)^ IntKind.u64.bits=18446744073709551616:=rfl;simp only[IntKind.wrap,hp,show IntKind.u64.signed=false from rfl,ajp,ai2,if_false];omega
 rw[h2]
 have h3:xW .u64 ((i:Int)+(j:Int)) 1=(((i+j)/ 2:Nat):Int):=by
  unfold xW;rw[show(2:Int)^(min (1:Int).toNat IntKind.u64.bits)=2 from rfl,Int.fdiv_eq_ediv_of_nonneg _ (by omega)];omega
 rw[h3];exact bY (by omega) (by omega)
theorem aa1{g:bA}(hlen:(aN g).length≤256)(hup0:((aN g).map aI).Pairwise Less)(k:ByteArray):∃(i:Nat) (o:Bool),Lj ((g,k,()),())=some (((i:Int),o,()),())∧i≤(aN g).length∧(∀m∈(aN g).take i,Lt (aI m) k)∧
  (∀m∈(aN g).drop i,¬ Lt (aI m) k)∧(o=true→∃m,(aN g)[i]?=some m∧aI m=k)∧(o=false→∀m∈aN g,aI m≠k):=by
 have hup:=List.pairwise_iff_getElem.1 hup0
 have mono:∀(a b:Nat) (x y:bM),(aN g)[a]?=some x→(aN g)[b]?=some y→a≤b→¬ Lt (aI x) k→¬ Lt (aI y) k:=by
  intro a b x y ha hb hab hx hy;by_cases e:a=b
  ·subst e;rw[ha]at hb;injection hb with hb;subst hb;exact hx hy
  ·obtain⟨h1,h1'⟩:=ain.1 ha;obtain⟨h2,h2'⟩:=ain.1 hb;have:=hup a b (by rw[ais];exact h1) (by rw[ais];exact h2) (by omega);rw[List.getElem_map,List.getElem_map,h1',h2']at this;exact hx (lt_trans (fK.1 this) hy)
 have key:∃i:Nat,aB mH ((k,aN g,((aN g).length:Int),0,((aN g).length:Int),()),())=some ((k,(i:Int),aN g,((aN g).length:Int),()),())∧i≤(aN g).length∧
   (∀j m,j<i→(aN g)[j]?=some m→Lt (aI m) k)∧(∀j m,i≤j→(aN g)[j]?=some m→¬ Lt (aI m) k):=by
  have go:∀(d lo hi:Nat),hi-lo≤d→lo≤hi→hi≤(aN g).length→(∀j m,j<lo→(aN g)[j]?=some m→Lt (aI m) k)→(∀j m,hi≤j→(aN g)[j]?=some m→¬ Lt (aI m) k)→
    ∃i:Nat,aB mH ((k,aN g,(hi:Int),(lo:Int),((aN g).length:Int),()),())=some ((k,(i:Int),aN g,((aN g).length:Int),()),())∧i≤(aN g).length∧
     (∀j m,j<i→(aN g)[j]?=some m→Lt (aI m) k)∧(∀j m,i≤j→(aN g)[j]?=some m→¬ Lt (aI m) k):=by
   intro d
   induction d with
   |zero=>
    intro lo hi h0 h1 h2 h3 h4;have:lo=hi:=by omega
    subst this;refine⟨lo,aC ?_,h2,h3,h4⟩;simp only[mH,fD,ax,sS]
   |succ d ih=>
    intro lo hi h0 h1 h2 h3 h4;by_cases hlt:lo<hi
    ·have hm:=half lo hi (by omega);have hmid:(lo+hi)/ 2<(aN g).length:=by omega
     obtain⟨e,he⟩:=getD_some hmid;have dl:decide ((lo:Int)<(hi:Int))=true:=aim (by omega);have d1:decide ((0:Int)≤1)=true:=rfl;have hw:aP ((((lo+hi)/ 2:Nat):Int)+1)=(((lo+hi)/ 2+1:Nat):Int):=aL (by omega);by_cases hc:Lt (aI e) k
     ·have dc:decide (BP (aI e) k<0)=true:=aim (JW.2 hc)
      obtain⟨i,q,r⟩:=ih ((lo+hi)/ 2+1) hi (by omega) (by omega) h2 (fun j m hj hjm=>by
       by_cases hx:Lt (aI m) k
       ·exact hx
       ·exact absurd hc (mono j _ m e hjm he (by omega) hx)) h4
      refine⟨i,(aM ?_).trans q,r⟩;simp only[mH,dl,d1,hm,aO,aG he,Jm,dc,hw,ax,sS]
     ·have dc:decide (BP (aI e) k<0)=false:=aio (fun h=>hc (JW.1 h));obtain⟨i,q,r⟩:=ih lo ((lo+hi)/ 2) (by omega) (by omega) (by omega) h3 (fun j m hj hjm=>mono _ j e m he hjm hj hc);refine⟨i,(aM ?_).trans q,r⟩;simp only[mH,dl,d1,hm,aO,aG he,Jm,dc,ax,sS]
    ·have:lo=hi:=by omega
     subst this;refine⟨lo,aC ?_,h2,h3,h4⟩;simp only[mH,fD,ax,sS]
  exact go _ 0 _ (aiy _) (aiN _) (aiy _) (fun j m hj=>by omega) (fun j m hj hjm=>by
   have:=(ain.1 hjm).1;omega)
 obtain⟨i,q,h1,h2,h3⟩:=key
 have ht:∀m∈(aN g).take i,Lt (aI m) k:=fun m hm=>by
  obtain⟨j,hj,rfl⟩:=List.mem_take_iff_getElem.1 hm;exact h2 j _ (by omega) (aiw _)
 have hd:∀m∈(aN g).drop i,¬ Lt (aI m) k:=fun m hm=>by
  obtain⟨j,hj,rfl⟩:=List.mem_drop_iff_getElem.1 hm;exact h3 (i+j) _ (by omega) (aiw _)
 have hne:(∀m,(aN g)[i]?=some m→aI m≠k)→∀m∈aN g,aI m≠k:=by
  intro hi m hm e;obtain⟨j,hj,rfl⟩:=List.mem_iff_getElem.1 hm;rcases Nat.lt_trichotomy j i with hji|hji|hji
  ·have:=h2 j _ hji (aiw hj);rw[e]at this;exact nD _ this
  ·subst hji;exact hi _ (aiw hj) e
  ·have hil:i<(aN g).length:=by omega
   have a:=hup i j (by rw[ais];exact hil) (by rw[ais];exact hj) hji;rw[List.getElem_map,List.getElem_map]at a;have b:=h3 i _ (aiy _) (aiw hil);have c:=fK.1 a;rw[e]at c;exact b c
 by_cases hil:i<(aN g).length
 ·obtain⟨e,he⟩:=getD_some hil;have dl:decide ((i:Int)<((aN g).length:Int))=true:=aim (by omega);refine⟨i,BP (aI e) k==0,?_,h1,ht,hd,fun ho=>⟨e,he,uN.1 (by simpa using ho)⟩,fun ho=>hne fun m hm hk=> ?_⟩
  ·unfold Lj;refine aU _ q ?_;simp only[dl,aO,aG he,Jm,ax,sS]
  ·rw[he]at hm;injection hm with hm;subst hm;have:=uN.2 hk;rw[this]at ho;cases ho
 ·have dl:decide ((i:Int)<((aN g).length:Int))=false:=aio (by omega);refine⟨i,false,?_,h1,ht,hd,fun ho=>(by cases ho),fun _=>hne fun m hm=> ?_⟩
  ·unfold Lj;refine aU _ q ?_;simp only[dl,ax,sS]
  ·have:=(ain.1 hm).1;omega
abbrev MK:=Int×ByteArray×Int×Int×Unit
def cor(g:bA):MK:=(g.1,g.2.1,gK g,dP g,())
theorem IV{g:bA}(h:VG g):MO ((g,()),())=some ((),((cor g,()),(aN g,()))):=by
 have hlen:=h.len;obtain⟨rt,ky,ms,du,se,⟨⟩⟩:=g;dsimp only[aN]at hlen;have d0:decide (ms.length≤4294967296)=true:=aim (by omega)
 have hl:aB yh (((0:Int),(ms.length:Int),()),(((rt,ky,du,se,()),()),(((0,ByteArray.empty,0,0,()),()),(ms,()))))=some ((),(((((0,ByteArray.empty,0,0,()):MK),()),((((rt,ky,du,se,()):MK),()),(ms,()))))):=by
  refine mr ms (fun i=>(((i:Int),(ms.length:Int),()),(((rt,ky,du,se,()),()),(((0,ByteArray.empty,0,0,()),()),(ms,()))))) _ (fun i e he hi=> ?_) (by simp only[yh,fD,ax,sS]);have hw:=aL (i:=i) (by omega);have d2:decide ((0:Int)≤(i:Int)∧(i:Int)<(ms.length:Int))=true:=aim (by omega);have hm:=h.mem e (air he);have hv:=(gP hm.lab).1;have d3:decide (e.2.1.length≤4294967296)=true:=aim (by dsimp only[eF]at hv;omega)
  have hset:ms.set i (e.1,e.2.1,e.2.2)=ms:=by
   have:=(ain.1 he).2;rw[←this];exact List.set_getElem_self _
  simp only[yh,eO hi,d2,aip,he,RD,d3,hset,hw,ax,sS]
 unfold MO;simp only[ab6,d0,ax,sS];refine aU _ hl ?_;rfl
theorem Wo(t:Int):Kv ((t,()),())=some (((if t>8589934592 then -1 else t),()),()):=by
 unfold Kv;by_cases h:t>8589934592
 ·simp only[h,if_true,ax,sS]
 ·simp only[h,if_false,ax,sS]
abbrev inst(t:Int):Bool:=decide (0≤t∧t≤8589934592)
def strip(r:bU):bU:=(-1,[],r.2.2)
def Au(r:bU):Bool:=iE (strip r)==0
theorem Zb{r:bU}(h:Lv r):Lv (strip r):=⟨⟨aiN _,fun m hm=>by cases hm⟩,h.2⟩
theorem Nn(r:bU):mJ [strip r]=iE (strip r):=by
 have h1:wH 0 (strip r)=iE (strip r):=rfl;have h2:(([strip r]:List bU)[0]?)=some (strip r):=rfl;have h3:decide (((strip r).2.1.length:Int)>0)=false:=rfl;unfold mJ;simp only[zZ,h1,h2,h3,List.length_singleton];by_cases h:iE (strip r)=0
 ·rw[h];rfl
 ·rw[ajg.2 h];simp only[cond_true];rw[ajg.2 h];rfl
theorem I7(r:bU)(hr:Lv r):Rb ((r,()),())=some ((Au r,()),()):=by
 unfold Rb;refine aU _ (Ho [strip r] ⟨by simp,fun x hx=>by simp at hx;subst hx;exact Zb hr⟩) ?_;rw[Nn];rfl
abbrev fH(r:bU):Int:=r.2.2.2.2.1
abbrev bR(r:bU):Int:=r.2.2.2.2.2.1
abbrev nI(r:bU):Int:=r.2.2.2.2.2.2.1
structure RR(r:bU):Prop where
 z:Lv r
 ok:Au r=true
 pol:0≤r.2.2.1
 wait:0≤fH r
 int:fH r≤bR r
 TS:bR r≤nI r
 max:nI r≤604800
 pos:nI r≠0
theorem adi{r:bU}(z:Lv r)(h:Au r=true):RR r:=by
 have h0:iE (strip r)=0:=by unfold Au at h;simpa using h
 unfold iE at h0;cases h1:(decide (((strip r).2.1.length:Int)>8)||decide (((strip r).2.2.2.1.length:Int)>12))
 ·rw[h1]at h0;cases h2:(!(strip r).2.1.all bn|| !kK (strip r).2.2.2.1)
  ·rw[h2]at h0;cases h3:p9 (strip r)
   ·unfold p9 at h3;simp only[aje,ajs,ai6]at h3;obtain⟨a,b,c,d,e,f⟩:=h3;have a:¬ r.2.2.1<0:=a;have b:¬ r.2.2.2.2.1<0:=b;have c:¬ r.2.2.2.2.1>r.2.2.2.2.2.1:=c;have d:¬ r.2.2.2.2.2.1>r.2.2.2.2.2.2.1:=d;have e:¬ r.2.2.2.2.2.2.1>604800:=e;exact⟨z,h,by omega,by unfold fH;omega,by unfold fH bR;omega,by unfold bR nI;omega,by unfold nI;omega,f⟩
   ·rw[h3]at h0;cases h0
  ·rw[h2]at h0;cases h0
 ·rw[h1]at h0;cases h0
def pos(k:ByteArray):List bM→Nat
 | []=>0
 |m::r=>if Op.bytesLess (aI m).toList k.toList=true then pos k r+1 else 0
def hit(k:ByteArray)(l:List bM):Bool:=match l[pos k l]? with|some m=>decide (aI m=k)|none=>false
theorem Ng{k:ByteArray}:∀{l:List bM} {i:Nat},i≤l.length→(∀m∈l.take i,Lt (aI m) k)→(∀m∈l.drop i,¬ Lt (aI m) k)→pos k l=i
 | [],i,h,_,_=>by simp at h;subst h;rfl
 |m::r,0,_,_,h=>by
  unfold pos;rw[if_neg (h m (by simp))]
 |m::r,i+1,h0,h1,h2=>by
  unfold pos;rw[if_pos (h1 m (by simp)),Ng (by simpa using h0) (fun x hx=>h1 x (by rw[List.take_succ_cons];exact aju _ hx)) (fun x hx=>h2 x (by simpa using hx))]
theorem Na(k:ByteArray):∀l:List bM,pos k l≤l.length
 | []=>aiy _
 |m::r=>by
  unfold pos;have:=Na k r;split<;>simp<;>omega
theorem xM{k:ByteArray}:∀{l:List bM},∀m∈l.take (pos k l),Lt (aI m) k
 | [],m,h=>by simp at h
 |x::r,m,h=>by
  unfold pos at h;split at h
  ·rename_i hx;rw[List.take_succ_cons]at h;rcases aiV.1 h with rfl|h
   ·exact hx
   ·exact xM m h
  ·simp at h
theorem pos_at{k:ByteArray}:∀{l:List bM} {m:bM},l[pos k l]?=some m→¬ Lt (aI m) k
 | [],m,h=>by simp at h
 |x::r,m,h=>by
  unfold pos at h;split at h
  ·exact pos_at (by simpa using h)
  ·rename_i hx;simp at h;subst h;exact hx
theorem YJ{l:List bM}(h:(l.map aI).Pairwise Less){i:Nat}{e m:bM}(he:l[i]?=some e)(hm:m∈l.drop (i+1)):Less (aI e) (aI m):=by
 obtain⟨j,hj,rfl⟩:=List.mem_drop_iff_getElem.1 hm;obtain⟨h1,rfl⟩:=ain.1 he;have:=List.pairwise_iff_getElem.1 h i (i+1+j) (by rw[ais];exact h1) (by rw[ais];omega) (by omega)
 rwa [List.getElem_map,List.getElem_map]at this
theorem EO{k:ByteArray}{l:List bM}(h:(l.map aI).Pairwise Less)(hh:hit k l=false):∀m∈l.drop (pos k l),Lt k (aI m):=by
 intro m hm;by_cases hl:pos k l<l.length
 ·obtain⟨e,he,hd⟩:=drop_at hl;have h1:=pos_at he
  have h2:aI e≠k:=by
   unfold hit at hh;rw[he]at hh;simpa using hh
  have h3:Lt k (aI e):=by
   rcases Ht (aI e) k with h|h|h
   ·exact absurd h h1
   ·exact absurd h h2
   ·exact h
  rw[hd]at hm;rcases aiV.1 hm with rfl|hm
  ·exact h3
  ·exact lt_trans h3 (fK.1 (YJ h he hm))
 ·rw[aiH (by omega)]at hm;cases hm
theorem wU{k:ByteArray}{l:List bM}(h:hit k l=true):∃m,l[pos k l]?=some m∧aI m=k:=by
 unfold hit at h;split at h
 ·rename_i m hm;exact⟨m,hm,by simpa using h⟩
 ·cases h
theorem KJ{g:bA}(hlen:(aN g).length≤256)(hup:((aN g).map aI).Pairwise Less)(k:ByteArray):Lj ((g,k,()),())=some (((pos k (aN g):Int),hit k (aN g),()),()):=by
 obtain⟨i,o,e,h1,h2,h3,h4,h5⟩:=aa1 hlen hup k;have hi:=Ng h1 h2 h3
 have ho:hit k (aN g)=o:=by
  unfold hit;rw[hi];cases o
  ·split
   ·rename_i m hm;exact aio (h5 rfl m (air hm))
   ·rfl
  ·obtain⟨m,hm,hk⟩:=h4 rfl;rw[hm];exact aim hk
 rw[e,hi,ho]
theorem find_eq{g:bA}(h:VG g)(k:ByteArray):Lj ((g,k,()),())=some (((pos k (aN g):Int),hit k (aN g),()),()):=KJ h.len h.up k
def EX(t:Int):Int:=if t>8589934592 then -1 else t
def lu(se wait int t:Int):Int:=if se= -1 then t+wait else if se+int>t then se+int else t
def gX(du se wait int t:Int):Int:=EX (if du= -1 then lu se wait int t else if du<lu se wait int t then du else lu se wait int t)
theorem nA(t:Int):Kv ((t,()),())=some ((EX t,()),()):=Wo t
abbrev wX:MK:=(0,ByteArray.empty,0,0,())
abbrev tT(g:bA)(d:Int):MK:=(g.1,g.2.1,d,dP g,())
def sw(m:bM)(t:Int):bM:=(m.1,m.2.1,m.2.2.1,t,m.2.2.2.2)
def stepM(m:bM)(on:Bool)(t:Int):bM:=(m.1,m.2.1,t,mI m,on,on,())
abbrev Pn(g:bA)(r:bU)(t:Int):Int:=gX (gK g) (dP g) (fH r) (bR r) t
def Ey(g:bA)(ms:List bM):Int:=if ms.length=0 then -1 else gK g
def mQ(g:bA)(r:bU)(l:List LT)(on:Bool)(t:Int):Int×MK×List bM:=
 let k:=fU (d9 l)
 let ms:=aN g
 let i:=pos k ms
 if hit k ms=true then
  match ms[i]? with
  |none=>(0,wX,[])
  |some m=>
   if fG m=on then(0,tT g (gK g),ms.set i (sw m t))
   else if on=true then(0,tT g (gK g),ms.set i (stepM (sw m t) true t))
   else if gY m=true then(0,tT g (Pn g r t),ms.set i (stepM (sw m t) false t))
   else(0,tT g (Ey g (ms.take i++ms.drop (i+1))),ms.take i++ms.drop (i+1))
 else if on=true then
  if ms.length=256 then(5,wX,[])else(0,tT g (Pn g r t),ms.take i++ [(k,l,t,t,true,false,())]++ms.drop i)
 else(0,tT g (Ey g ms),ms)
abbrev Sd(x:Int×MK×List bM):Option ((Int×Unit)×((MK×Unit)×(List bM×Unit))):=some ((x.1,()),((x.2.1,()),(x.2.2,())))
theorem abx{l:List bM}{i:Nat}{e:bM}(h:l[i]?=some e)(x:bM):(l.set i x)[i]?=some x:=by
 rw[List.getElem?_set_self (ain.1 h).1]
theorem vv(l:List bM)(i:Nat)(x:bM):(l.set i x).take i=l.take i:=by
 rw[List.take_set,List.set_eq_of_length_le (by rw[ai8];omega)]
theorem F4(l:List bM)(i:Nat)(x:bM):(l.set i x).drop (i+1)=l.drop (i+1):=by
 rw[List.drop_set,if_pos (by omega)]
theorem acT(l:List bM):(((l.length:Nat):Int)==0)=decide (l.length=0):=by
 rw[cZ];exact ajt.2 (by omega)
theorem aeU{g:bA}(h:VG g){r:bU}(hr:RR r){l:List LT}(hl:bZ l=true)(on:Bool){t:Int}(ht:0≤t∧t≤8589934592):
  m73 ((g,r,l,on,t,()),())=Sd (mQ g r l on t):=by
 have q1:=IQ h;have q2:=I7 r hr.z;rw[hr.ok]at q2;have q3:=Al l (mW hl);rw[hl]at q3;have q4:=H6 l (mW hl);rw[CX hl]at q4;have q5:=find_eq h (fU (d9 l));have q6:=IV h;have dt:decide ((0:Int)≤t∧t≤8589934592)=true:=aim ht;have hlen:=h.len;have hsent:=h.sent;have hdue:=h.due;have hv:=(gP hl).1;have hw:=hr.wait;have hi:=hr.int;have hp:=hr.TS;have hx:=hr.max;have w1:aP (dP g+bR r)=dP g+bR r:=bY (by omega) (by omega);have w2:aP (t+fH r)=t+fH r:=bY (by omega) (by omega);have hple:=Na (fU (d9 l)) (aN g);obtain⟨rt,ky,ms,du,se,⟨⟩⟩:=g;obtain⟨pa,mt,po,gb,wa,ir,rp,co,⟨⟩⟩:=r;dsimp only[aN,gK,dP,fH,bR,nI,cor]at *;unfold m73;simp only[q1,q2,q3,q4,q5,q6,yI,dt,aip,ajc,ax,sS];unfold mQ;dsimp only[aN,gK,dP,fH,bR,nI,tT,Pn];have hx0:hit (fU (d9 l)) ms=match ms[pos (fU (d9 l)) ms]? with|some m=>decide (aI m=(fU (d9 l)))|none=>false:=rfl
 generalize pos (fU (d9 l)) ms=i at *;cases hh:hit (fU (d9 l)) ms
 ·simp only[ai2,if_false,ax,sS];cases on
  ·have b0:((ms.length:Int)==0)=decide (ms.length=0):=by
    rw[cZ];exact ajt.2 (by omega)
   simp only[Ey,aN,gK,b0,eq_self,ai2,if_false,ax,sS];by_cases h0:ms.length=0
   ·simp only[h0,eq_self,if_true,ax,sS]
   ·simp only[h0,eq_self,if_false,ax,sS]
  ·by_cases h6:ms.length=256
   ·have b6:((ms.length:Int)==256)=true:=by rw[cZ];exact aim (by omega)
    simp only[b6,eq_self,if_true,ax,sS];rw[if_pos h6]
   ·have b6:((ms.length:Int)==256)=false:=by rw[cZ];exact aio (by omega)
    have d1:decide (l.length≤4294967296)=true:=aim (by omega);have d2:decide ((0:Int)≤(i:Int)∧(i:Int)≤(ms.length:Int)∧ms.length≤4294967295)=true:=aim (by omega)
    have b0:((((ms.take i++ [(fU (d9 l),l,t,t,true,false,())]++ms.drop i).length:Nat):Int)==0)=false:=by
     rw[cZ];exact aio (by simp only[aiB,List.length_singleton];omega)
    simp only[b6,h6,RD,d1,d2,List.length_singleton,aip,eq_self,and_true,if_true,if_false,ax,sS];by_cases hs:se= -1<;>by_cases hd:du= -1
    ·subst hs;subst hd;simp only[w1,w2,gX,lu,nA,b0,eq_self,if_true,if_false,ax,sS]
    ·subst hs;have bd:(du != -1)=true:=ajg.2 hd;simp only[w1,w2,bd,hd,gX,lu,nA,b0,eq_self,if_true,if_false,ax,sS]
    ·subst hd;have bs:(se != -1)=true:=ajg.2 hs;simp only[w1,w2,bs,hs,gX,lu,nA,b0,eq_self,if_true,if_false,ax,sS]
    ·have bd:(du != -1)=true:=ajg.2 hd;have bs:(se != -1)=true:=ajg.2 hs;simp only[w1,w2,bd,bs,hd,hs,gX,lu,nA,b0,eq_self,if_true,if_false,ax,sS]
 ·have hm:∃m,ms[i]?=some m:=by
   by_cases hil:i<ms.length
   ·exact getD_some hil
   ·rw[aji (by omega)]at hx0;exact absurd hh (by rw[hx0];simp)
  obtain⟨m,hm⟩:=hm;have hlt:i<ms.length:=(ain.1 hm).1;have db:decide ((0:Int)≤(i:Int)∧(i:Int)<(ms.length:Int))=true:=aim (by omega);have wi:aP ((i:Int)+1)=((i+1:Nat):Int):=aL (by omega);have dd:decide ((0:Int)≤(i:Int)∧(i:Int)<((i+1:Nat):Int)∧((i+1:Nat):Int)≤(ms.length:Int)∧ms.length≤4294967296)=true:=aim (by omega);have sa:=abx hm;have b0:((ms.length:Int)==0)=false:=by rw[cZ];exact aio (by omega)
  obtain⟨mk,ml,mn,mh,mf,mt',⟨⟩⟩:=m;simp only[hm,sa,db,List.set_set,ajc,aip,sw,stepM,aI,eF,mI,fG,gY,eq_self,if_true,ax,sS];have ft:(false==true)=false:=rfl;have tf:(true==false)=false:=rfl;cases mf<;>cases on
  ·simp only[b0,ajc,eq_self,if_true,ax,sS]
  ·simp only[ft,b0,ajc,eq_self,if_true,if_false,ai2,ax,sS]
  ·cases mt'
   ·simp only[tf,wi,dd,vv,F4,Ey,aN,gK,acT,ajc,aip,eq_self,if_true,if_false,Bool.true_eq_false,ai2,ax,sS];by_cases h0:(ms.take i++ms.drop (i+1)).length=0
    ·simp only[h0,eq_self,if_true,ax,sS]
    ·simp only[h0,eq_self,if_false,ax,sS]
   ·simp only[tf,if_true,if_false,Bool.true_eq_false,ai2,ax,sS];by_cases hs:se= -1<;>by_cases hd:du= -1
    ·subst hs;subst hd;simp only[w1,w2,gX,lu,nA,b0,ajc,eq_self,if_true,if_false,ax,sS]
    ·subst hs;have bd:(du != -1)=true:=ajg.2 hd;simp only[w1,w2,bd,hd,gX,lu,nA,b0,ajc,eq_self,if_true,if_false,ax,sS]
    ·subst hd;have bs:(se != -1)=true:=ajg.2 hs;simp only[w1,w2,bs,hs,gX,lu,nA,b0,ajc,eq_self,if_true,if_false,ax,sS]
    ·have bd:(du != -1)=true:=ajg.2 hd;have bs:(se != -1)=true:=ajg.2 hs;simp only[w1,w2,bd,bs,hd,hs,gX,lu,nA,b0,ajc,eq_self,if_true,if_false,ax,sS]
  ·simp only[b0,ajc,eq_self,if_true,ax,sS]
end Go.Proofs.YtchnmpafhfjimaaGreatDoor
namespace Go.Proofs.YtchnmpafhfjimaaGreatDoor
open Go Go.Abs Go.Lab
def WM(m:bM)(t a:Int):Bool:=fG m&&decide (mI m≤t-a)
def lN(se wa ir t a:Int):List bM→Int→List bM→List bM×Int
 |kept,du,[]=>(kept,du)
 |kept,du,m::r=>
  if WM m t a=true then
   if gY m=true then lN se wa ir t a (kept++ [stepM m false t]) (gX du se wa ir t) r
   else lN se wa ir t a kept (if(kept++r).length=0 then -1 else du) r
  else lN se wa ir t a (kept++ [m]) du r
def F6(g:bA)(r:bU)(t a:Int):Int×MK×List bM:=
 if a=0 then(0,tT g (gK g),aN g)
 else(0,tT g (lN (dP g) (fH r) (bR r) t a [] (gK g) (aN g)).2,(lN (dP g) (fH r) (bR r) t a [] (gK g) (aN g)).1)
theorem WU{A B:List bM}{m:bM}(h:((A++m::B).map aI).Pairwise Less):pos (aI m) (A++m::B)=A.length∧hit (aI m) (A++m::B)=true:=by
 rw[aiL,aiE,List.pairwise_append]at h;obtain⟨h1,h2,h3⟩:=h;have h2:=List.pairwise_cons.1 h2
 have hp:pos (aI m) (A++m::B)=A.length:=by
  refine Ng (by simp) (fun x hx=> ?_) (fun x hx=> ?_)
  ·rw[List.take_left' rfl]at hx;exact fK.1 (h3 (aI x) (List.mem_map_of_mem hx) (aI m) (by simp))
  ·rw[List.drop_left' rfl]at hx;rcases aiV.1 hx with rfl|hx
   ·exact nD _
   ·exact fun hc=>nD _ (lt_trans (fK.1 (h2.1 (aI x) (List.mem_map_of_mem hx))) hc)
 refine⟨hp,?_⟩;unfold hit;rw[hp,ai0 (aiy _),Nat.sub_self];simp
theorem Mk(A:List bM)(m:bM)(B:List bM):(A++m::B)[A.length]?=some m:=by
 rw[ai0 (aiy _),Nat.sub_self];rfl
theorem O7(A:List bM)(m x:bM)(B:List bM):(A++m::B).set A.length x=A++x::B:=by
 rw[List.set_append_right _ _ (aiy _),Nat.sub_self];rfl
theorem Vr(A:List bM)(m:bM)(B:List bM):(A++m::B).take A.length=A:=List.take_left' rfl
theorem RJ(A:List bM)(m:bM)(B:List bM):(A++m::B).drop (A.length+1)=B:=by
 rw[List.drop_append,aiH (by omega),ajI];simp
theorem Ua{du se wa ir t:Int}(h1:0≤t∧t≤8589934592)(h2:0≤wa)(h3: -1≤du∧du≤8589934592)(h4: -1≤se)(h5:0≤ir): -1≤gX du se wa ir t∧gX du se wa ir t≤8589934592:=by
 unfold gX lu EX;split<;>split<;>(repeat' split)<;>omega
theorem Nq(rt:Int)(ky:ByteArray)(se t a:Int){r:bU}(hr:RR r)(gms:List bM)(hse: -1≤se∧se≤8589934592)(ht:0≤t∧t≤8589934592)(ha:0≤a∧a≤604800)(hg:gms.length≤256):∀(rem:List bM) (i:Nat) (kept:List bM) (du:Int),gms.drop i=rem→i≤gms.length→
  ((kept++rem).map aI).Pairwise Less→kept.length≤i→ -1≤du∧du≤8589934592→
  aB oU (((i:Int),t,a,gms,(gms.length:Int),()),(((rt,ky,du,se,()),()),((r,()),((wX,()),(kept++rem,())))))=
   some ((),((wX,()),(((rt,ky,(lN se (fH r) (bR r) t a kept du rem).2,se,()),()),((lN se (fH r) (bR r) t a kept du rem).1,())))):=by
 intro rem
 induction rem with
 |nil=>
  intro i kept du hd hi hup hk hdu
  have:i=gms.length:=by
   have:=congrArg List.length hd;rw[aiQ]at this;simp at this;omega
  subst this;refine aC ?_;simp only[oU,fD,lN,aiO,ax,sS]
 |cons m rem ih=>
  intro i kept du hd hi hup hk hdu
  have hlt:i<gms.length:=by
   have:=congrArg List.length hd;rw[aiQ]at this;simp at this;omega
  obtain⟨e,he,hd2⟩:=drop_at hlt;rw[hd2]at hd;injection hd with hd0 hd1;subst hd0
  have hrl:rem.length+(i+1)=gms.length:=by
   rw[←hd1,aiQ];omega
  have hw:=aL (i:=i) (by omega);have hkl:(kept++e::rem).length≤256:=by simp;omega
  obtain⟨hp,hh⟩:=WU hup;have q:=KJ (g:=(rt,ky,kept++e::rem,du,se,())) hkl hup (aI e);dsimp only[aN]at q;rw[hp,hh]at q;have hup1:((kept++ [e]++rem).map aI).Pairwise Less:=by rw[aiI];exact hup
  have next:=fun x (hx:aI x=aI e) du' hdu'=>ih (i+1) (kept++ [x]) du' hd1 (by omega) (by
   rw[aiI];rw[aiL,aiL,aiE,aiS,hx];rw[aiL,aiE]at hup;exact hup) (by simp;omega) hdu'
  have w3:aP (t-a)=t-a:=bY (by omega) (by omega);obtain⟨pa,mt,po,gb,wa,ir,rp,co,⟨⟩⟩:=r;have hwa:=hr.wait;have hir:=hr.int;have hrp:=hr.TS;have hmx:=hr.max;dsimp only[fH,bR,nI]at *;obtain⟨mk,ml,mn,mh,mf,mt',⟨⟩⟩:=e;dsimp only[aI]at *;unfold lN;by_cases ho:WM (mk,ml,mn,mh,mf,mt',()) t a=true
  ·rw[if_pos ho];unfold WM at ho;dsimp only[fG,mI]at ho;rw[ai7]at ho;obtain⟨rfl,ho⟩:=ho;have hkl2:kept.length+(rem.length+1)≤256:=by simpa using hkl
   have db:decide ((0:Int)≤(kept.length:Int)∧(kept.length:Int)<((kept.length+(rem.length+1):Nat):Int))=true:=aim (by omega);have wk:aP ((kept.length:Int)+1)=((kept.length+1:Nat):Int):=aL (by omega);have dd:decide ((0:Int)≤(kept.length:Int)∧(kept.length:Int)<((kept.length+1:Nat):Int)∧((kept.length+1:Nat):Int)≤((kept.length+(rem.length+1):Nat):Int)∧kept.length+(rem.length+1)≤4294967296)=true:=aim (by omega);have tf:(true==false)=false:=rfl;have sl:∀x:bM,(kept++x::rem).length=kept.length+(rem.length+1):=fun x=>by simp
   have sz:((((kept.length+(rem.length+1):Nat):Int))==0)=false:=by rw[cZ];exact aio (by omega)
   cases mt'
   ·have n0:(if gY ((mk,ml,mn,mh,true,false,()):bM)=true then lN se wa ir t a (kept++ [stepM (mk,ml,mn,mh,true,false,()) false t]) (gX du se wa ir t) rem else lN se wa ir t a kept (if(kept++rem).length=0 then -1 else du) rem)=lN se wa ir t a kept (if(kept++rem).length=0 then -1 else du) rem:=rfl;rw[n0]
    have q2:=ih (i+1) kept (if(kept++rem).length=0 then -1 else du) hd1 (by omega) (by
     rw[aiL,aiE]at hup;rw[aiL];exact hup.sublist (List.Sublist.append (List.Sublist.refl _) (List.sublist_cons_self _ _))) (by omega) (by split<;>omega)
    rw[←q2];refine aM ?_;simp only[oU,eO hlt,aO,aG he,q,w3,ho,ax,sS];simp only[sl,db,aip,Mk,tf,wk,dd,Vr,RJ,acT,eq_self,ax,sS];by_cases h0:(kept++rem).length=0
    ·simp only[h0,hw,eq_self,if_true,ax,sS]
    ·simp only[h0,hw,eq_self,if_false,ax,sS]
   ·have n0:(if gY ((mk,ml,mn,mh,true,true,()):bM)=true then lN se wa ir t a (kept++ [stepM (mk,ml,mn,mh,true,true,()) false t]) (gX du se wa ir t) rem else lN se wa ir t a kept (if(kept++rem).length=0 then -1 else du) rem)=lN se wa ir t a (kept++ [stepM (mk,ml,mn,mh,true,true,()) false t]) (gX du se wa ir t) rem:=rfl;rw[n0,←next (stepM (mk,ml,mn,mh,true,true,()) false t) rfl (gX du se wa ir t) (Ua ht hwa hdu hse.1 (by omega)),aiI];refine aM ?_;have w1:aP (se+ir)=se+ir:=bY (by omega) (by omega);have w2:aP (t+wa)=t+wa:=bY (by omega) (by omega);simp only[oU,eO hlt,aO,aG he,q,w3,ho,ax,sS];simp only[sl,db,aip,Mk,O7,tf,aj2,stepM,mI,eq_self,ax,sS];by_cases hs:se= -1<;>by_cases hd:du= -1
    ·subst hs;subst hd;simp only[w1,w2,gX,lu,nA,sl,sz,hw,eq_self,if_true,if_false,ax,sS]
    ·subst hs;have bd:(du != -1)=true:=ajg.2 hd;simp only[w1,w2,bd,hd,gX,lu,nA,sl,sz,hw,eq_self,if_true,if_false,ax,sS]
    ·subst hd;have bs:(se != -1)=true:=ajg.2 hs;simp only[w1,w2,bs,hs,gX,lu,nA,sl,sz,hw,eq_self,if_true,if_false,ax,sS]
    ·have bd:(du != -1)=true:=ajg.2 hd;have bs:(se != -1)=true:=ajg.2 hs;simp only[w1,w2,bd,bs,hd,hs,gX,lu,nA,sl,sz,hw,eq_self,if_true,if_false,ax,sS]
  ·rw[if_neg ho];rw[←next _ rfl du hdu,aiI];refine aM ?_;unfold WM at ho;dsimp only[fG,mI]at ho;simp only[oU,eO hlt,aO,aG he,q,w3,ax,sS];cases mf
   ·simp only[hw,aj2,ax,sS]
   ·have:decide (mh≤t-a)=false:=by simpa using ho
    simp only[this,hw,aj2,ax,sS]
theorem adD{g:bA}(h:VG g){r:bU}(hr:RR r){t a:Int}(ht:0≤t∧t≤8589934592)(ha:0≤a∧a≤604800):WY ((g,r,t,a,()),())=Sd (F6 g r t a):=by
 have q1:=IQ h;have q2:=I7 r hr.z;rw[hr.ok]at q2;have q6:=IV h;have dt:decide ((0:Int)≤t∧t≤8589934592)=true:=aim ht;have da:decide ((0:Int)≤a∧a≤604800)=true:=aim ha;have hl:=Nq g.1 g.2.1 (dP g) t a hr (aN g) h.sent ht ha h.len (aN g) 0 [] (gK g) rfl (aiN _) h.up (aiN _) h.due;obtain⟨rt,ky,ms,du,se,⟨⟩⟩:=g;dsimp only[aN,gK,dP,cor]at *;unfold WY F6;simp only[q1,q2,q6,yI,dt,da,ax,sS];by_cases h0:a=0
 ·subst h0;simp only[eq_self,if_true,ajo,ax,sS]
 ·have b0:(a==0)=false:=ai6.2 h0;rw[if_neg h0,b0];simp only[ax,sS];exact aU _ hl rfl
abbrev Rv:=Int×Int×Int×ByteArray×Unit
abbrev kY:Rv:=(0,0,0,ByteArray.empty,())
def Ce(mu:List ByteArray)(k:ByteArray):Bool:=mu.any fun x=>decide (x=k)
def iq(mu:List ByteArray)(ms:List bM):List ByteArray:=(ms.filter fun m=> !Ce mu (aI m)&&fG m).map aI
def jD(mu:List ByteArray)(ms:List bM):List ByteArray:=(ms.filter fun m=> !Ce mu (aI m)&& !fG m).map aI
def Dj(mu:List ByteArray)(ms:List bM):Bool:=ms.any fun m=> !Ce mu (aI m)&&(fG m&& !gY m)
def lg(F:List ByteArray)(m:bM):bM:=(m.1,m.2.1,m.2.2.1,m.2.2.2.1,m.2.2.2.2.1,gY m||Ce F (aI m),())
def vH(F R:List ByteArray)(ms:List bM):List bM:=(ms.filter fun m=> !Ce R (aI m)).map (lg F)
def rM(ms:List bM):Bool:=ms.any fun m=> !gY m
def Em(se TS t:Int)(F:List ByteArray):Bool:=decide (0<F.length)&&(se != -1)&&decide (se+TS≤t)
def Bw(se TS t:Int)(mu:List ByteArray)(ms:List bM):Bool:=Dj mu ms||Em se TS t (iq mu ms)||decide (0<(jD mu ms).length)
def nK(se int TS t:Int)(o:Bool):Int:=EX (max (if o=true∨se+TS≤t then t+int else se+TS) (t+1))
abbrev LkT:=Bool×MK×Rv×List bM×List ByteArray×List ByteArray
def jH(g:bA)(r:bU)(t:Int)(mu:List ByteArray):LkT:=
 if gK g= -1∨gK g>t then(false,tT g (gK g),kY,aN g,[],[])
 else
  let F:=iq mu (aN g)
  let R:=jD mu (aN g)
  if Bw (dP g) (nI r) t mu (aN g)=true then
   (true,(g.1,g.2.1,(if(vH F R (aN g)).length=0 then -1 else nK t (bR r) (nI r) t (rM (vH F R (aN g)))),t,()),(t,g.1,r.2.2.1,g.2.1,()),vH F R (aN g),F,R)
  else(false,tT g (if(aN g).length=0 then -1 else nK (dP g) (bR r) (nI r) t (rM (aN g))),kY,aN g,[],[])
theorem fT{A:Type}{l:List A}{i:Nat}{e:A}(he:l[i]?=some e):l.take (i+1)=l.take i++ [e]:=by
 rw[ajF,he];rfl
theorem PO(mu:List ByteArray)(l:List bM)(e:bM):iq mu (l++ [e])=iq mu l++(if !Ce mu (aI e)&&fG e then [aI e]else []):=by
 unfold iq;rw[ajw,aiL];cases h:(!Ce mu (aI e)&&fG e)<;>simp[h]
theorem QW(mu:List ByteArray)(l:List bM)(e:bM):jD mu (l++ [e])=jD mu l++(if !Ce mu (aI e)&& !fG e then [aI e]else []):=by
 unfold jD;rw[ajw,aiL];cases h:(!Ce mu (aI e)&& !fG e)<;>simp[h]
theorem Qw(mu:List ByteArray)(l:List bM)(e:bM):Dj mu (l++ [e])=(Dj mu l||(!Ce mu (aI e)&&(fG e&& !gY e))):=by
 unfold Dj;rw[List.any_append];simp
theorem L9(mu:List ByteArray)(l:List bM):(iq mu l).length≤l.length:=by
 unfold iq;rw[ais];exact aj5 _ _
theorem JA(mu:List ByteArray)(l:List bM):(jD mu l).length≤l.length:=by
 unfold jD;rw[ais];exact aj5 _ _
theorem Oq(mu:List ByteArray)(k:ByteArray)(h:mu.length≤big):Ip ((mu,k,()),())=some ((Ce mu k,()),()):=O5 mu k h
theorem V7(ms:List bM)(mu:List ByteArray)(t:Int)(nc:Rv)(r:bU)(c:MK)(hl:ms.length≤256)(hm:mu.length≤big):
  aB rO (((0:Int),false,mu,t,((ms.length:Nat):Int),()),(ms,(nc,()),(kY,()),(r,()),(c,()),[],[],()))=
   some ((Dj mu ms,t,()),(ms,(kY,()),(nc,()),(r,()),(c,()),iq mu ms,jD mu ms,())):=by
 have:=mr (f:=rO) ms (fun i=>(((i:Int),Dj mu (ms.take i),mu,t,((ms.length:Nat):Int),()),(ms,(nc,()),(kY,()),(r,()),(c,()),iq mu (ms.take i),jD mu (ms.take i),())))
  ((Dj mu ms,t,()),(ms,(kY,()),(nc,()),(r,()),(c,()),iq mu ms,jD mu ms,())) ?_ ?_
 ·exact this
 ·intro i e he hi;have hw:aP ((i:Int)+1)=((i+1:Nat):Int):=aL (by omega);have hb:decide ((0:Int)≤(i:Int)∧(i:Int)<(ms.length:Int))=true:=aim (by omega);have f1:=L9 mu (ms.take i);have f2:=JA mu (ms.take i);rw[ai8]at f1 f2;have c1:decide ((iq mu (ms.take i)).length+ [aI e].length≤4294967296)=true:=aim (by simp;omega);have c2:decide ((jD mu (ms.take i)).length+ [aI e].length≤4294967296)=true:=aim (by simp;omega);have q:=Oq mu (aI e) hm;obtain⟨mk,ml,mn,mh,mf,mt',⟨⟩⟩:=e;dsimp only[aI]at q c1 c2;rw[fT he,PO,QW,Qw];simp only[rO,eO hi,hb,aip,he,q,aI,fG,gY,ax,sS];cases Ce mu mk
  ·cases mf
   ·simp only[c2,hw,aiO,ai1,if_true,if_false,ai2,ax,sS]
   ·simp only[c1,hw,aiO,ai1,if_true,if_false,ai2,ax,sS];cases Dj mu (ms.take i)<;>simp only[hw,ai5,aiz,ax,sS]
  ·simp only[hw,aiO,ai1,if_true,if_false,ai2,ax,sS]
 ·rw[ajl];simp only[rO,fD,ax,sS]
abbrev pq(R:List ByteArray)(m:bM):Bool:= !Ce R (aI m)
theorem XW(ms:List bM)(nc:Rv)(F R:List ByteArray)(hl:ms.length≤256)(hR:R.length≤big):
  (aB j5 (((0:Int),((ms.length:Nat):Int),()),(ms,(nc,()),F,R,()))=some (.inr ((),(ms,(nc,()),F,R,())))∧ms.filter (pq R)=ms)∨
  ∃j,j<ms.length∧aB j5 (((0:Int),((ms.length:Nat):Int),()),(ms,(nc,()),F,R,()))=some (.inl (((j:Int),()),(ms,(nc,()),F,R,())))∧(ms.take (j+1)).filter (pq R)=ms.take j:=by
 have key:∀(d i:Nat),i+d=ms.length→(ms.take i).filter (pq R)=ms.take i→
   (aB j5 (((i:Int),((ms.length:Nat):Int),()),(ms,(nc,()),F,R,()))=some (.inr ((),(ms,(nc,()),F,R,())))∧ms.filter (pq R)=ms)∨
   ∃j,j<ms.length∧aB j5 (((i:Int),((ms.length:Nat):Int),()),(ms,(nc,()),F,R,()))=some (.inl (((j:Int),()),(ms,(nc,()),F,R,())))∧(ms.take (j+1)).filter (pq R)=ms.take j:=by
  intro d
  induction d with
  |zero=>
   intro i h h2;obtain rfl:i=ms.length:=by omega
   rw[ajl]at h2;refine .inl ⟨aC ?_,h2⟩;simp only[j5,fD,ax,sS]
  |succ d ih=>
   intro i h h2;obtain⟨e,he⟩:=getD_some (l:=ms) (i:=i) (by omega);have hi:i<ms.length:=by omega
   have hw:aP ((i:Int)+1)=((i+1:Nat):Int):=aL (by omega);have hb:decide ((0:Int)≤(i:Int)∧(i:Int)<(ms.length:Int))=true:=aim (by omega);have q:=Oq R (aI e) hR;dsimp only[aI]at q;cases hr:Ce R (aI e)
   ·dsimp only[aI]at hr
    have h3:(ms.take (i+1)).filter (pq R)=ms.take (i+1):=by
     rw[fT he,ajw,h2];simp[pq,hr]
    have hs:j5 (((i:Int),((ms.length:Nat):Int),()),(ms,(nc,()),F,R,()))=some (.inl ((((i+1:Nat):Int),((ms.length:Nat):Int),()),(ms,(nc,()),F,R,()))):=by
     simp only[j5,eO hi,hb,aip,he,q,hr,hw,eq_self,ax,sS]
    rw[aM hs];exact ih (i+1) (by omega) h3
   ·dsimp only[aI]at hr;refine .inr ⟨i,hi,aC ?_,?_⟩
    ·simp only[j5,eO hi,hb,aip,he,q,hr,hw,eq_self,ax,sS]
    ·rw[fT he,ajw,h2];simp[pq,hr]
 exact key ms.length 0 (by omega) rfl
theorem UK(ms:List bM)(nc:Rv)(F R:List ByteArray)(hl:ms.length≤256)(hR:R.length≤big):∀(d src dst:Nat) (blk:List bM),src+d=ms.length→dst<src→blk.length=ms.length→
  blk.take dst=(ms.take src).filter (pq R)→blk.drop src=ms.drop src→
  ∃(dst':Nat) (blk':List bM),aB mK (((src:Int),(dst:Int),()),(blk,(nc,()),F,R,()))=some (((dst':Int),()),(blk',(nc,()),F,R,()))∧dst'≤ms.length∧blk'.length=ms.length∧blk'.take dst'=ms.filter (pq R):=by
 intro d
 induction d with
 |zero=>
  intro src dst blk h1 h2 h3 h4 h5;obtain rfl:src=ms.length:=by omega
  rw[ajl]at h4;refine⟨dst,blk,aC ?_,by omega,h3,h4⟩;have:decide ((ms.length:Int)<((blk.length:Nat):Int))=false:=aio (by omega);simp only[mK,this,ax,sS]
 |succ d ih=>
  intro src dst blk h1 h2 h3 h4 h5;obtain⟨e,he⟩:=getD_some (l:=ms) (i:=src) (by omega)
  have he':blk[src]?=some e:=by
   have:=congrArg (fun l=>l[0]?) h5;simp only[aj3,ajH]at this;rw[this,he]
  have c1:decide ((src:Int)<((blk.length:Nat):Int))=true:=aim (by omega);have c2:decide ((0:Int)≤(src:Int)∧(src:Int)<(blk.length:Int))=true:=aim (by omega);have c3:decide ((0:Int)≤(dst:Int)∧(dst:Int)<(blk.length:Int))=true:=aim (by omega);have c4:decide (dst<blk.length)=true:=aim (by omega);have w1:aP ((src:Int)+1)=((src+1:Nat):Int):=aL (by omega);have w2:aP ((dst:Int)+1)=((dst+1:Nat):Int):=aL (by omega);have q:=Oq R (aI e) hR;dsimp only[aI]at q;cases hr:Ce R (aI e)
  ·dsimp only[aI]at hr
   have hs:mK (((src:Int),(dst:Int),()),(blk,(nc,()),F,R,()))=some (.inl ((((src+1:Nat):Int),((dst+1:Nat):Int),()),(blk.set dst e,(nc,()),F,R,()))):=by
    simp only[mK,c1,c2,aip,he',q,hr,c3,c4,w1,w2,eq_self,ax,sS]
   rw[aM hs];refine ih (src+1) (dst+1) (blk.set dst e) (by omega) (by omega) (by rw[ajc,h3]) ?_ ?_
   ·rw[fT he,ajw,←h4];rw[fT (e:=e) (by rw[List.getElem?_set_self (by omega)]),vv];simp[pq,hr]
   ·rw[List.drop_set,if_pos (by omega)];rw[←ajD,←ajD,h5]
  ·dsimp only[aI]at hr
   have hs:mK (((src:Int),(dst:Int),()),(blk,(nc,()),F,R,()))=some (.inl ((((src+1:Nat):Int),(dst:Int),()),(blk,(nc,()),F,R,()))):=by
    simp only[mK,c1,c2,aip,he',q,hr,w1,eq_self,ax,sS]
   rw[aM hs];refine ih (src+1) dst blk (by omega) (by omega) h3 ?_ ?_
   ·rw[fT he,ajw,←h4];simp[pq,hr]
   ·rw[←ajD,←ajD,h5]
abbrev PgT:=Int×ByteArray×(Nat×Nat)×Int×Int×Unit
theorem abS(M T:List bM)(nc:Rv)(g:PgT)(c0:MK)(n0:Rv)(r:bU)(F R:List ByteArray)(ok:Bool)(t:Int)(hl:M.length≤256)(hF:F.length≤big)(hg:g.2.2.1=(0,M.length)):
  aB pQ (((0:Int),(0,M.length),ok,t,((M.length:Nat):Int),()),((nc,()),(g,()),M++T,(c0,()),(n0,()),(r,()),F,R,()))=
   some ((ok,t,()),((c0,()),(n0,()),(nc,()),(g,()),(r,()),F,R,M.map (lg F)++T,())):=by
 obtain⟨rt,ky,pt,du,se,⟨⟩⟩:=g;dsimp only at hg;subst hg;have:=mr (f:=pQ) M (fun i=>(((i:Int),(0,M.length),ok,t,((M.length:Nat):Int),()),((nc,()),((rt,ky,(0,M.length),du,se,()),()),(M.take i).map (lg F)++(M.drop i++T),(c0,()),(n0,()),(r,()),F,R,())))
  ((ok,t,()),((c0,()),(n0,()),(nc,()),((rt,ky,(0,M.length),du,se,()),()),(r,()),F,R,M.map (lg F)++T,())) ?_ ?_
 ·exact this
 ·intro i e he hi;obtain⟨e',he',hd⟩:=drop_at hi;rw[he]at he';injection he' with he';subst he';have hw:aP ((i:Int)+1)=((i+1:Nat):Int):=aL (by omega);have hb:decide ((0:Int)≤(i:Int)∧(i:Int)<(M.length:Int))=true:=aim (by omega);have hA:((M.take i).map (lg F)).length=i:=by simp;omega
  rw[hd,aj7]
  have at1:∀B:List bM,((M.take i).map (lg F)++e::B)[i]?=some e:=fun B=>by
   have:=Mk ((M.take i).map (lg F)) e B
   rwa [hA]at this
  have st1:∀(x:bM) (B:List bM),((M.take i).map (lg F)++e::B).set i x=(M.take i).map (lg F)++x::B:=fun x B=>by
   have:=O7 ((M.take i).map (lg F)) e x B
   rwa [hA]at this
  have q:=Oq F (aI e) hF;dsimp only[aI]at q
  have hx:(M.take (i+1)).map (lg F)++(M.drop (i+1)++T)=(M.take i).map (lg F)++lg F e::(M.drop (i+1)++T):=by
   rw[fT he,aiL,aiI];rfl
  rw[hx];obtain⟨mk,ml,mn,mh,mf,mt',⟨⟩⟩:=e;dsimp only at q;simp only[pQ,eO hi,hb,aip,aiY,at1,st1,q,hw,ax,sS];cases mt'<;>simp only[st1,hw,lg,gY,aI,ai5,aiz,ax,sS]
 ·rw[ajl,ajh,ajI];simp only[pQ,fD,ax,sS]
theorem abj(l:List bM)(hl:l.length≤256):∃j:Nat,aB sK (((0:Int),l,(l.length:Int),()),())=some (bif rM l then .inl (((j:Int),()),())else .inr ((),())):=by
 have h:=cO (f:=sK) l (fun i (_:Unit)=>(((i:Int),l,(l.length:Int),()),())) (fun i _ e=>bif !gY e then .inr (.inl (((i:Int),()),()))else .inl ()) (fun _=>.inr ((),())) ?_ ?_ ()
 ·obtain⟨j,_,hj⟩:=mG (fun e:bM=> !gY e) (fun i:Nat=>(Sum.inl (((i:Int),()),()):((Int×Unit)×Unit)⊕(Unit×Unit))) (.inr ((),())) l 0;exact⟨j,h.trans (congrArg some hj)⟩
 ·intro i e _ he hi;have hw:aP ((i:Int)+1)=((i+1:Nat):Int):=aL (by omega);have q:aa9 ((e,()),())=some ((!gY e,()),()):=rfl;simp only[sK,aO,aG he,eO hi,q,ax,sS];cases gY e<;>simp only[ax,sS,hw]
 ·intro _;simp only[sK,fD,ax,sS]
def DI(x:LkT)(o:Option ((Bool×Int×Unit)×((PgT×Unit)×(Rv×Unit)×List bM×List ByteArray×List ByteArray×Unit))):Prop:=
 ∃(n:Nat) (blk:List bM),o=some ((x.1,0,()),(((x.2.1.1,x.2.1.2.1,(0,n),x.2.1.2.2.1,x.2.1.2.2.2.1,()),()),(x.2.2.1,()),blk,x.2.2.2.2.1,x.2.2.2.2.2,()))∧n≤blk.length∧blk.take n=x.2.2.2.1
theorem zK{A:Type}{y:LkT}{o:Option A}{f:A→Option ((Bool×Int×Unit)×((PgT×Unit)×(Rv×Unit)×List bM×List ByteArray×List ByteArray×Unit))}(x:A)(h:o=some x)(h2:DI y (f x)):DI y (o.bind f):=by
 rw[h];exact h2
theorem Wd{A:Type}{y:LkT}{o:Option A}{f:A→Option ((Bool×Int×Unit)×((PgT×Unit)×(Rv×Unit)×List bM×List ByteArray×List ByteArray×Unit))}(P:A→Prop)(h:∃x,o=some x∧P x)(h2:∀x,P x→DI y (f x)):DI y (o.bind f):=by
 obtain⟨x,rfl,hp⟩:=h;exact h2 x hp
theorem exb{A B:Type}{o:Option A}{f:A→Option B}{Q:B→Prop}(x:A)(h:o=some x)(h2:∃b,f x=some b∧Q b):∃b,o.bind f=some b∧Q b:=by
 rw[h];exact h2
theorem exP{A B:Type}{o:Option A}{f:A→Option B}{Q:B→Prop}(P:A→Prop)(h:∃x,o=some x∧P x)(h2:∀x,P x→∃b,f x=some b∧Q b):∃b,o.bind f=some b∧Q b:=by
 obtain⟨x,rfl,hp⟩:=h;exact h2 x hp
theorem RS(n:Nat):(((n:Nat):Int)==0)=decide (n=0):=by
 rw[cZ];exact ajt.2 (by omega)
theorem abr{g:bA}(h:VG g){r:bU}(hr:RR r){t:Int}(ht:0≤t∧t≤8589934592){mu:List ByteArray}(hm:mu.length≤big):DI (jH g r t mu) (XG ((g,r,t,mu,()),())):=by
 have q1:=IQ h;have q2:=I7 r hr.z;rw[hr.ok]at q2;have q6:=IV h;have dt:decide ((0:Int)≤t∧t≤8589934592)=true:=aim ht;have hlen:=h.len;have hsent:=h.sent;have hdue:=h.due;have hir:=hr.int;have hwa:=hr.wait;have hrp:=hr.TS;have hmx:=hr.max;obtain⟨rt,ky,ms,du,se,⟨⟩⟩:=g;obtain⟨pa,mt,po,gb,wa,ir,rp,co,⟨⟩⟩:=r;dsimp only[aN,gK,dP,fH,bR,nI,cor]at *;have qn:=fun nc c=>V7 ms mu t nc (pa,mt,po,gb,wa,ir,rp,co,()) c hlen hm
 unfold XG jH;dsimp only[aN,gK,dP,bR,nI,tT];simp only[q1,q2,q6,yI,dt,ax,sS];have w1:aP (se+rp)=se+rp:=bY (by omega) (by omega);have w2:aP (t+1)=t+1:=bY (by omega) (by omega);have w3:aP (t+ir)=t+ir:=bY (by omega) (by omega);have w4:aP (t+rp)=t+rp:=bY (by omega) (by omega);by_cases h1:du= -1
 ·subst h1;rw[if_pos (.inl rfl)];simp only[ajo,ax,sS];exact⟨ms.length,ms,rfl,aiy _,ajl⟩
 have b1:(du== -1)=false:=ai6.2 h1;rw[b1];by_cases h2:du>t
 ·rw[if_pos (.inr h2)];simp only[aim h2,ax,sS];exact⟨ms.length,ms,rfl,aiy _,ajl⟩
 rw[if_neg (by rintro(h|h)<;>contradiction)];simp only[aio h2,qn,ax,sS];have fl:=L9 mu ms;have rl:=JA mu ms;refine zK ((Em se rp t (iq mu ms),Dj mu ms,()),ms,(kY,()),((t,rt,po,ky,()),()),iq mu ms,jD mu ms,()) ?_ ?_
 ·unfold Em;rw[show decide (((iq mu ms).length:Int)>0)=decide (0<(iq mu ms).length)from ajt.2 (by omega),w1];cases decide (0<(iq mu ms).length)<;>cases (se != -1)<;>simp only[ax,sS]
 dsimp only;refine zK ((Bw se rp t mu ms,()),ms,((t,rt,po,ky,()),()),iq mu ms,jD mu ms,()) ?_ ?_
 ·unfold Bw;rw[show decide (((jD mu ms).length:Int)>0)=decide (0<(jD mu ms).length)from ajt.2 (by omega)];cases Dj mu ms<;>cases Em se rp t (iq mu ms)<;>simp only[ai5,aiz,ax,sS]
 dsimp only;rw[show decide (ms.length=ms.length)=true from aim rfl,cond_true]
 refine Wd (fun x=>∃(ok:Bool) (se':Int) (n:Nat) (blk:List bM) (F' R':List ByteArray) (nc:Rv) (c0:MK) (n0:Rv),x=((ok,t,()),(c0,()),(n0,()),(nc,()),((rt,ky,(0,n),du,se',()),()),((pa,mt,po,gb,wa,ir,rp,co,()),()),F',R',blk,())∧
  n≤blk.length∧blk.length≤256∧(-1≤se'∧se'≤8589934592)∧(if Bw se rp t mu ms=true then
   ((true,(rt,ky,(if(vH (iq mu ms) (jD mu ms) ms).length=0 then -1 else nK t ir rp t (rM (vH (iq mu ms) (jD mu ms) ms))),t,()),(t,rt,po,ky,()),vH (iq mu ms) (jD mu ms) ms,iq mu ms,jD mu ms):LkT)
   else(false,(rt,ky,(if ms.length=0 then -1 else nK se ir rp t (rM ms)),se,()),kY,ms,[],[]))=(ok,(rt,ky,(if(blk.take n).length=0 then -1 else nK se' ir rp t (rM (blk.take n))),se',()),nc,blk.take n,F',R')) ?_ ?_
 ·cases Bw se rp t mu ms
  ·refine⟨_,rfl,false,se,ms.length,ms,[],[],kY,wX,kY,rfl,aiy _,hlen,hsent,?_⟩;rw[ajl];rfl
  ·rw[cond_true];refine exP (fun x=>∃(n:Nat) (blk:List bM),x=((true,t,()),((t,rt,po,ky,()),()),((rt,ky,(0,n),du,t,()),()),(wX,()),(kY,()),((pa,mt,po,gb,wa,ir,rp,co,()),()),iq mu ms,jD mu ms,blk,())∧n≤blk.length∧blk.length=ms.length∧blk.take n=ms.filter (pq (jD mu ms))) ?_ ?_
   ·rcases XW ms (t,rt,po,ky,()) (iq mu ms) (jD mu ms) hlen (by unfold big;omega)with⟨e,hf⟩|⟨j,hj,e,hf⟩
    ·rw[e];simp only[eq_self,ajo,ax,sS];exact⟨_,rfl,ms.length,ms,rfl,aiy _,rfl,by rw[ajl,hf]⟩
    ·have bj:((j:Int)== -1)=false:=ai6.2 (by omega);have wj:aP ((j:Int)+1)=((j+1:Nat):Int):=aL (by omega);rw[e];simp only[eq_self,bj,wj,ax,sS];obtain⟨dst,blk,e2,h3,h4,h5⟩:=UK ms (t,rt,po,ky,()) (iq mu ms) (jD mu ms) hlen (by unfold big;omega) (ms.length-(j+1)) (j+1) j ms (by omega) (by omega) rfl hf.symm rfl;refine exb _ e2 ?_;have d1:decide ((0:Int)≤(dst:Int))=true:=aim (by omega);have d2:decide (dst≤blk.length∧True)=true:=aim ⟨by omega,trivial⟩;have d3:decide (dst+(blk.length-dst)≤blk.length)=true:=aim (by omega);have d0:decide (dst≤blk.length∧blk.length≤blk.length)=true:=aim (by omega)
     have sl:(bQ blk dst (List.replicate (blk.length-dst) ((ByteArray.empty,[],0,0,false,false,()):bM))).length=blk.length:=by
      unfold bQ;simp;omega
     have st:(bQ blk dst (List.replicate (blk.length-dst) ((ByteArray.empty,[],0,0,false,false,()):bM))).take dst=blk.take dst:=by
      unfold bQ;rw[aiI,List.take_append_of_le_length (by rw[ai8];omega),aiX (by rw[ai8];omega)]
     have d4:decide (0≤dst∧dst≤blk.length)=true:=aim (by omega);have d5:decide (blk.length=ms.length)=true:=aim h4;simp only[d1,d0,d3,d4,d5,sl,aip,eq_self,ax,sS];exact⟨_,rfl,dst,_,rfl,by rw[sl];omega,by rw[sl,h4],by rw[st,h5]⟩
   ·rintro _ ⟨n,blk,rfl,h1,h2,h3⟩;dsimp only;have hMl:(blk.take n).length=n:=by rw[ai8];omega
    have q:=abS (blk.take n) (blk.drop n) (t,rt,po,ky,()) (rt,ky,(0,n),du,t,()) wX kY (pa,mt,po,gb,wa,ir,rp,co,()) (iq mu ms) (jD mu ms) true t (by rw[hMl];omega) (by unfold big;omega) (by rw[hMl]);rw[aj1,hMl]at q;refine exb _ q ?_
    have ht2:(List.map (lg (iq mu ms)) (List.take n blk)++List.drop n blk).take n=vH (iq mu ms) (jD mu ms) ms:=by
     rw[List.take_append_of_le_length (by rw[ais,hMl];exact aiy _),aiX (by rw[ais,hMl];exact aiy _),h3];rfl
    refine⟨_,rfl,true,t,n,_,iq mu ms,jD mu ms,(t,rt,po,ky,()),wX,kY,rfl,by simp;omega,by simp;omega,by omega,?_⟩;rw[ht2];rfl
 ·rintro _ ⟨ok,se',n,blk,F',R',nc,c0,n0,rfl,h3,h4,h5,h6⟩;rw[h6];dsimp only;have w5:aP (se'+rp)=se'+rp:=bY (by omega) (by omega);have d1:decide (0+n≤blk.length)=true:=aim (by omega);obtain⟨j,ho⟩:=abj (blk.take n) (by rw[ai8];omega);have hl:(blk.take n).length=n:=by rw[ai8];omega
  rw[hl]at ho;simp only[d1,aiK,hl,w2,w3,w5,ax,sS];refine zK ((rM (blk.take n),()),()) ?_ ?_
  ·refine aU _ ho ?_;have dj:decide ((j:Int)≥0)=true:=aim (by omega);cases rM (blk.take n)<;>simp only[dj,ax,sS]
  dsimp only;have mx:∀d:Int,(if t+1>d then t+1 else d)=max d (t+1):=fun d=>by split<;>omega
  unfold nK;cases rM (blk.take n)
  ·by_cases hp:se'+rp≤t
   ·simp only[aim hp,w3,w2,mx,nA,RS,hp,or_true,if_true,eq_self,ax,sS];by_cases hn:n=0
    ·simp only[hn,eq_self,if_true,ax,sS];exact⟨0,blk,rfl,aiN _,rfl⟩
    ·simp only[hn,if_false,ax,sS];exact⟨n,blk,rfl,h3,rfl⟩
   ·simp only[aio hp,w3,w2,mx,nA,RS,hp,or_self,ai2,if_false,eq_self,ax,sS];by_cases hn:n=0
    ·simp only[hn,eq_self,if_true,ax,sS];exact⟨0,blk,rfl,aiN _,rfl⟩
    ·simp only[hn,if_false,ax,sS];exact⟨n,blk,rfl,h3,rfl⟩
  ·simp only[w3,w2,mx,nA,RS,true_or,if_true,eq_self,ax,sS];by_cases hn:n=0
   ·simp only[hn,eq_self,if_true,ax,sS];exact⟨0,blk,rfl,aiN _,rfl⟩
   ·simp only[hn,if_false,ax,sS];exact⟨n,blk,rfl,h3,rfl⟩
theorem UE(F R:List ByteArray)(l:List bM):(vH F R l).length≤l.length:=by
 unfold vH;rw[ais];exact aj5 _ _
def vX(c:MK)(ms:List bM):bA:=(c.1,c.2.1,ms,c.2.2.1,c.2.2.2.1,())
theorem Wz:VG (vX wX []):=⟨by decide,by decide,by decide,by decide,fun m hm=>(by cases hm),List.Pairwise.nil⟩
theorem key_inj{ms:List bM}(h:(ms.map aI).Pairwise Less){a b:bM}(ha:a∈ms)(hb:b∈ms)(e:aI a=aI b):a=b:=by
 obtain⟨i,hi,rfl⟩:=List.mem_iff_getElem.1 ha;obtain⟨j,hj,rfl⟩:=List.mem_iff_getElem.1 hb;have hp:=List.pairwise_iff_getElem.1 h;rcases Nat.lt_trichotomy i j with hij|hij|hij
 ·have:=hp i j (by rwa [ais]) (by rwa [ais]) hij;rw[List.getElem_map,List.getElem_map,e]at this;exact absurd (fK.1 this) (nD _)
 ·subst hij;rfl
 ·have:=hp j i (by rwa [ais]) (by rwa [ais]) hij;rw[List.getElem_map,List.getElem_map,e]at this;exact absurd (fK.1 this) (nD _)
theorem TT{ms:List bM}{i:Nat}{m x:bM}(h:ms[i]?=some m)(e:aI x=aI m):(ms.set i x).map aI=ms.map aI:=by
 rw[List.map_set,e];obtain⟨hi,rfl⟩:=ain.1 h;have:aI ms[i]=(ms.map aI)[i]'(by rwa [ais]):=by rw[List.getElem_map]
 rw[this,List.set_getElem_self]
theorem mem_set{A:Type}{l:List A}{i:Nat}{x y:A}(h:y∈l.set i x):y∈l∨y=x:=List.mem_or_eq_of_mem_set h
theorem DK{du se wa ir t:Int}(h1:0≤t∧t≤8589934592)(h2:0≤wa)(h3: -1≤du∧du≤8589934592)(h4: -1≤se)(h5:0≤ir): -1≤gX du se wa ir t∧gX du se wa ir t≤8589934592:=Ua h1 h2 h3 h4 h5
theorem Pw{t:Int}(h: -1≤t): -1≤EX t∧EX t≤8589934592:=by unfold EX;split<;>omega
theorem MQ{se ir rp t:Int}{o:Bool}(h:0≤t): -1≤nK se ir rp t o∧nK se ir rp t o≤8589934592:=by
 unfold nK;exact Pw (by omega)
theorem Ef{m:bM}(h:wz m){t:Int}(ht:0≤t∧t≤8589934592):wz (sw m t):=⟨h.lab,h.key,h.since,ht,h.told⟩
theorem step_ok{m:bM}(h:wz m){t:Int}(ht:0≤t∧t≤8589934592)(on:Bool):wz (stepM m on t):=
 ⟨h.lab,h.key,ht,h.heard,by show on=true∨on=false;cases on<;>simp⟩
theorem Sr{l:List LT}(hl:bZ l=true){t:Int}(ht:0≤t∧t≤8589934592):wz (fU (d9 l),l,t,t,true,false,()):=⟨hl,rfl,ht,ht,.inl rfl⟩
theorem abU{g:bA}(h:VG g){r:bU}(hr:RR r){l:List LT}(hl:bZ l=true)(on:Bool){t:Int}(ht:0≤t∧t≤8589934592):VG (vX (mQ g r l on t).2.1 (mQ g r l on t).2.2):=by
 have hw:=DK ht hr.wait h.due h.sent.1 (by have:=hr.wait;have:=hr.int;omega:(0:Int)≤bR r)
 have hrest:∀ms,-1≤Ey g ms∧Ey g ms≤8589934592:=fun ms=>by
  have:=h.due;unfold Ey;split<;>omega
 have hlen:=h.len;unfold mQ;dsimp only;by_cases hh:hit (fU (d9 l)) (aN g)=true
 ·rw[if_pos hh];obtain⟨m,hm,hk⟩:=wU hh;have hmo:=h.mem m (air hm);rw[hm];dsimp only
  have hset:∀(x:bM) (d:Int),aI x=aI m→wz x→(-1≤d∧d≤8589934592)→VG (vX (tT g d) ((aN g).set (pos (fU (d9 l)) (aN g)) x)):=fun x d hx ho hd=>
   ⟨by show((aN g).set _ x).length≤256;rw[ajc];exact hlen,h.rt,hd,h.sent,fun y hy=>by
    rcases mem_set hy with hy|rfl
    ·exact h.mem y hy
    ·exact ho,by show(((aN g).set _ x).map aI).Pairwise Less;rw[TT hm hx];exact h.up⟩
  split
  ·exact hset _ _ rfl (Ef hmo ht) h.due
  ·split
   ·exact hset _ _ rfl (step_ok (Ef hmo ht) ht true) h.due
   ·split
    ·exact hset _ _ rfl (step_ok (Ef hmo ht) ht false) hw
    ·have hsub:((aN g).take (pos (fU (d9 l)) (aN g))++(aN g).drop (pos (fU (d9 l)) (aN g)+1)).Sublist (aN g):=by
      conv=>rhs;rw[←aj1 (pos (fU (d9 l)) (aN g)) (aN g)]
      exact(List.Sublist.refl _).append (List.drop_sublist_drop_left _ (by omega))
     exact⟨aja hsub.length_le hlen,h.rt,hrest _,h.sent,fun y hy=>h.mem y (hsub.subset hy),h.up.sublist (hsub.map aI)⟩
 ·rw[if_neg hh];split
  ·split
   ·exact Wz
   ·have hp:=Na (fU (d9 l)) (aN g);refine⟨?_,h.rt,hw,h.sent,fun y hy=> ?_,?_⟩
    ·show(List.take _ _++_++List.drop _ _).length≤256
     simp;omega
    ·have hy:y∈List.take _ _++ [_]++List.drop _ _:=hy;simp only[ai9,ajd]at hy;rcases hy with(hy|rfl)|hy
     ·exact h.mem y (List.mem_of_mem_take hy)
     ·exact Sr hl ht
     ·exact h.mem y (List.mem_of_mem_drop hy)
    ·show((List.take (pos (fU (d9 l)) (aN g)) (aN g)++ [(fU (d9 l),l,t,t,true,false,())]++List.drop (pos (fU (d9 l)) (aN g)) (aN g)).map aI).Pairwise Less
     rw[aiI,aiL,aiL,List.pairwise_append];have hup:=h.up;rw[←aj1 (pos (fU (d9 l)) (aN g)) (aN g),aiL,List.pairwise_append]at hup;have ha:∀m∈(aN g).take (pos (fU (d9 l)) (aN g)),Lt (aI m) (fU (d9 l)):=xM;have hb:=EO h.up (by simpa using hh:hit (fU (d9 l)) (aN g)=false);refine⟨hup.1,?_,fun a ha' b hb'=> ?_⟩
     ·rw[aiE,aiS,aj2];refine List.pairwise_cons.2 ⟨fun k hk=> ?_,hup.2.1⟩;obtain⟨m,hm,rfl⟩:=ajj.1 hk;exact fK.2 (hb m hm)
     ·obtain⟨m,hm,rfl⟩:=ajj.1 ha';rw[aiE,aiS,aj2]at hb';rcases aiV.1 hb' with rfl|hb'
      ·exact fK.2 (ha m hm)
      ·obtain⟨m',hm',rfl⟩:=ajj.1 hb';exact fK.2 (lt_trans (ha m hm) (hb m' hm'))
  ·exact⟨hlen,h.rt,hrest _,h.sent,h.mem,h.up⟩
theorem Cj{se wa ir t a:Int}(ht:0≤t∧t≤8589934592)(hwa:0≤wa)(hir:0≤ir)(hse: -1≤se):∀(rem kept:List bM) (du:Int),(∀m∈kept++rem,wz m)→((kept++rem).map aI).Pairwise Less→(-1≤du∧du≤8589934592)→
  (∀m∈(lN se wa ir t a kept du rem).1,wz m)∧(((lN se wa ir t a kept du rem).1).map aI).Pairwise Less∧(-1≤(lN se wa ir t a kept du rem).2∧(lN se wa ir t a kept du rem).2≤8589934592)∧(lN se wa ir t a kept du rem).1.length≤kept.length+rem.length
 | [],kept,du,h1,h2,h3=>by rw[aiO]at h1 h2;exact⟨h1,h2,h3,aiy _⟩
 |m::rem,kept,du,h1,h2,h3=>by
  have e:∀x:bM,kept++ [x]++rem=kept++x::rem:=fun x=>by rw[aiI];rfl
  have hm:wz m:=h1 m (by simp)
  have put:∀x:bM,aI x=aI m→wz x→(∀y∈kept++ [x]++rem,wz y)∧((kept++ [x]++rem).map aI).Pairwise Less:=fun x hx ho=>by
   rw[e];refine⟨fun y hy=> ?_,?_⟩
   ·rcases ai9.1 hy with hy|hy
    ·exact h1 y (List.mem_append_left _ hy)
    ·rcases aiV.1 hy with rfl|hy
     ·exact ho
     ·exact h1 y (List.mem_append_right _ (aju _ hy))
   ·rw[aiL,aiE,hx];rw[aiL,aiE]at h2;exact h2
  unfold lN;split
  ·split
   ·obtain⟨p1,p2⟩:=put (stepM m false t) rfl (step_ok hm ht false);obtain⟨a1,a2,a3,a4⟩:=Cj ht hwa hir hse rem (kept++ [stepM m false t]) (gX du se wa ir t) p1 p2 (DK ht hwa h3 hse hir);exact⟨a1,a2,a3,by simp at a4 ⊢;omega⟩
   ·have hs:(kept++rem).Sublist (kept++m::rem):=(List.Sublist.refl _).append (List.sublist_cons_self _ _);obtain⟨a1,a2,a3,a4⟩:=Cj (a:=a) ht hwa hir hse rem kept (if(kept++rem).length=0 then -1 else du) (fun y hy=>h1 y (hs.subset hy)) (h2.sublist (hs.map aI)) (by split<;>omega);exact⟨a1,a2,a3,by have:(m::rem).length=rem.length+1:=rfl;omega⟩
  ·obtain⟨p1,p2⟩:=put m rfl hm;obtain⟨a1,a2,a3,a4⟩:=Cj (a:=a) ht hwa hir hse rem (kept++ [m]) du p1 p2 h3;exact⟨a1,a2,a3,by simp at a4 ⊢;omega⟩
theorem abG{g:bA}(h:VG g){r:bU}(hr:RR r){t:Int}(a:Int)(ht:0≤t∧t≤8589934592):VG (vX (F6 g r t a).2.1 (F6 g r t a).2.2):=by
 have hlen:=h.len;unfold F6;split
 ·exact⟨hlen,h.rt,h.due,h.sent,h.mem,h.up⟩
 ·obtain⟨a1,a2,a3,a4⟩:=Cj (a:=a) ht hr.wait (by have:=hr.wait;have:=hr.int;omega:(0:Int)≤bR r) h.sent.1 (aN g) [] (gK g) h.mem h.up h.due;exact⟨by simp only[List.length_nil,aiY]at a4;exact aja a4 hlen,h.rt,a3,h.sent,a1,a2⟩
theorem xO{mu:List ByteArray}{k:ByteArray}:Ce mu k=true↔k∈mu:=by
 unfold Ce;rw[List.any_eq_true];constructor
 ·rintro⟨x,hx,e⟩;have:x=k:=by simpa using e
  exact this ▸ hx
 ·exact fun h=>⟨k,h,by simp⟩
theorem WA{mu:List ByteArray}{k:ByteArray}(h:k∉mu):Ce mu k=false:=by
 cases hc:Ce mu k
 ·rfl
 ·exact absurd (xO.1 hc) h
theorem VT{mu:List ByteArray}{ms:List bM}{k:ByteArray}:k∈iq mu ms↔∃m∈ms,aI m=k∧k∉mu∧fG m=true:=by
 unfold iq;rw[ajj];constructor
 ·rintro⟨m,hm,rfl⟩;rw[aj9,ai7,ajB]at hm;exact⟨m,hm.1,rfl,fun hc=>by rw[xO.2 hc]at hm;exact absurd hm.2.1 (by simp),hm.2.2⟩
 ·rintro⟨m,hm,rfl,h1,h2⟩;refine⟨m,aj9.2 ⟨hm,?_⟩,rfl⟩;rw[ai7,ajB];exact⟨WA h1,h2⟩
theorem Sw(F R:List ByteArray)(ms:List bM):(vH F R ms).map aI=(ms.filter fun m=> !Ce R (aI m)).map aI:=by
 unfold vH;rw[ajv];rfl
theorem Oy{F R:List ByteArray}{ms:List bM}{x:bM}:x∈vH F R ms↔∃m∈ms,aI m∉R∧x=lg F m:=by
 unfold vH;rw[ajj];constructor
 ·rintro⟨m,hm,rfl⟩;rw[aj9,ajB]at hm;exact⟨m,hm.1,fun hc=>by rw[xO.2 hc]at hm;exact absurd hm.2 (by simp),rfl⟩
 ·rintro⟨m,hm,h1,rfl⟩;refine⟨m,aj9.2 ⟨hm,?_⟩,rfl⟩;cases hc:Ce R (aI m)
  ·rfl
  ·exact absurd (xO.1 hc) h1
theorem aas{g:bA}(h:VG g)(mu:List ByteArray)(R:List ByteArray)(du se:Int)(hd: -1≤du∧du≤8589934592)(hs: -1≤se∧se≤8589934592):VG (vX (g.1,g.2.1,du,se,()) (vH (iq mu (aN g)) R (aN g))):=by
 refine⟨aja (UE _ _ _) h.len,h.rt,hd,hs,fun x hx=> ?_,?_⟩
 ·obtain⟨m,hm,_,rfl⟩:=Oy.1 hx;have ho:=h.mem m hm;refine⟨ho.lab,ho.key,ho.since,ho.heard,?_⟩
  show fG m=true∨(gY m||Ce (iq mu (aN g)) (aI m))=false
  rcases ho.told with hf|hf
  ·exact .inl hf
  ·cases hc:Ce (iq mu (aN g)) (aI m)
   ·exact .inr (by rw[hf];rfl)
   ·obtain⟨m',hm',e,_,hf'⟩:=VT.1 (xO.1 hc);rw[key_inj h.up hm' hm e]at hf';exact .inl hf'
 ·show((vH _ _ _).map aI).Pairwise Less
  rw[Sw];exact h.up.sublist ((List.filter_sublist).map aI)
theorem X8{g:bA}(h:VG g)(r:bU){t:Int}(mu:List ByteArray)(ht:0≤t∧t≤8589934592):VG (vX (jH g r t mu).2.1 (jH g r t mu).2.2.2.1):=by
 have hn:∀(ms:List bM) se o,-1≤(if ms.length=0 then -1 else nK se (bR r) (nI r) t o)∧(if ms.length=0 then -1 else nK se (bR r) (nI r) t o)≤8589934592:=fun ms se o=>by
  have:=MQ (se:=se) (ir:=bR r) (rp:=nI r) (o:=o) ht.1;split<;>omega
 unfold jH;split
 ·exact⟨h.len,h.rt,h.due,h.sent,h.mem,h.up⟩
 ·dsimp only;split
  ·exact aas h mu _ _ _ (hn _ _ _) (by omega)
  ·exact⟨h.len,h.rt,hn _ _ _,h.sent,h.mem,h.up⟩
end Go.Proofs.YtchnmpafhfjimaaGreatDoor
namespace Go.Proofs.YtchnmpafhfjimaaGreatDoor
open Go Go.Abs Go.Lab
end Go.Proofs.YtchnmpafhfjimaaGreatDoor
namespace Go.Proofs.YtchnmpafhfjimaaGreatDoor
open Go Go.Abs
abbrev dh:Type:=List bU×List FH×Int×Unit
abbrev InT:Type:=Int×List bA×List dZ×Int×Unit
abbrev FW:Type:=Int×List LT×Bool×Unit
abbrev dM(s:InT):Int:=s.1
abbrev bO(s:InT):List bA:=s.2.1
abbrev bV(s:InT):List dZ:=s.2.2.1
abbrev bg(s:InT):Int:=s.2.2.2.1
structure zx(p:dh):Prop where
 rt:Ug p.1
 inl:p.2.1.length≤big
 inh:∀r∈p.2.1,TSz r
 rs:RSs p.2.1
def DV(p:dh):Int:=if mJ p.1≠0 then mJ p.1 else if AB p.2.1≠0 then AB p.2.1 else if p.2.2.1<0∨p.2.2.1>604800 then 1 else 0
theorem UG(p:dh)(hp:zx p):m34 ((p,()),())=some ((DV p,()),()):=by
 unfold m34 DV;refine aU _ (Ho p.1 hp.rt) ?_;by_cases h1:mJ p.1=0
 ·simp only[h1,aiM,ajq,ne_eq,not_true_eq_false,if_false];refine aU _ (aa0 p.2.1 hp.inl hp.inh) ?_;by_cases h2:AB p.2.1=0
  ·simp only[h2,aiM,ajq,not_true_eq_false,if_false];by_cases h3:p.2.2.1<0
   ·simp[h3]
   ·by_cases h4:p.2.2.1>604800<;>simp[h3,h4]
  ·simp only[ajg.2 h2,cond_true,h2,ajK,if_true]
 ·simp only[ajg.2 h1,cond_true,ne_eq,h1,ajK,if_true]
theorem jg{p:dh}(h:DV p=0):mJ p.1=0∧AB p.2.1=0∧0≤p.2.2.1∧p.2.2.1≤604800:=by
 unfold DV at h;split at h
 ·rename_i h1;exact absurd h h1
 ·rename_i h1;split at h
  ·rename_i h2;exact absurd h h2
  ·rename_i h2;split at h
   ·cases h
   ·rename_i h3;exact⟨by simpa using h1,by simpa using h2,by omega,by omega⟩
theorem QJ{r:bU}(h:iE r=0):Au r=true:=by
 unfold Au
 have e:iE (strip r)=0:=by
  unfold iE strip at *;cases h1:(decide ((r.2.1.length:Int)>8)||decide ((r.2.2.2.1.length:Int)>12))
  ·rw[h1]at h;cases h2:(!r.2.1.all bn|| !kK r.2.2.2.1)
   ·rw[h2]at h;simp only[aje]at h1 h2;simp only[h1.2,h2.2,List.length_nil,List.all_nil];exact h
   ·rw[h2]at h;cases h
  ·rw[h1]at h;cases h
 rw[e];rfl
theorem DR{l:List bU}(hl:Ug l)(h:mJ l=0):∀r∈l,RR r:=by
 intro r hr;refine adi (hl.2 r hr) (QJ ?_);unfold mJ at h;cases h0:((l.length:Int)==0)
 ·rw[h0]at h;cases h1:decide ((l.length:Int)>24)
  ·rw[h1]at h
   have h2:zZ wH 0 l=0:=by
    cases h2:(zZ wH 0 l !=0)
    ·simpa using h2
    ·rw[h2]at h;simp only[ajq,cond_true]at h;rw[h]at h2;cases h2
   obtain⟨k,hk,rfl⟩:=List.mem_iff_getElem.1 hr;have:=rU h2 k _ (aiw hk);unfold wH at this;cases hb:kP (0+k) l[k]
   ·rw[hb]at this;exact this
   ·rw[hb]at this;cases this
  ·rw[h1]at h;cases h
 ·rw[h0]at h;cases h
theorem uK{l:List bU}(h:mJ l=0):l.length≤24:=by
 unfold mJ at h;cases h0:((l.length:Int)==0)
 ·rw[h0]at h;cases h1:decide ((l.length:Int)>24)
  ·have:=aj8 h1;omega
  ·rw[h1]at h;cases h
 ·rw[h0]at h;cases h
def jh(rs:List bU)(now:Int)(g:bA):Bool:=
 decide ((aN g).length=0)&&(decide (dP g= -1)||match rs[g.1.toNat]? with|some r=>decide (dP g+bR r≤now)|none=>false)
theorem R6(p:dh)(g:bA)(now:Int)(hg:VG g){r:bU}(h:p.1[g.1.toNat]?=some r)(hr:RR r):WK ((p,g,now,()),())=some ((jh p.1 now g,()),()):=by
 have h1:=hg.sent;have h2:=hg.rt;have h3:=hr.int;have h4:=hr.TS;have h5:=hr.max;have h6:=hr.wait;obtain⟨rt,ky,ms,du,se,⟨⟩⟩:=g;dsimp only[dP,bR,fH,nI]at h h1 h2 h3 h4 h5 h6;have hw:aP (se+r.2.2.2.2.2.1)=se+r.2.2.2.2.2.1:=bY (by omega) (by omega);unfold WK ab3 jh;dsimp only[aN,dP];simp only[aO,jr h2 h,hw];rw[h]
 have e0:((ms.length:Int)==0)=decide (ms.length=0):=by
  by_cases h:ms.length=0
  ·simp[h]
  ·rw[ai6.2 (by omega),aio h]
 simp only[e0,aiZ,cZ];cases decide (ms.length=0)<;>cases decide (se= -1)<;>rfl
def jy(a:bA)(rt:Int)(k:ByteArray):Bool:=decide (a.1<rt)||(decide (a.1=rt)&&Op.bytesLess a.2.1.toList k.toList)
def qy(a:bA)(rt:Int)(k:ByteArray):Int:=if a.1=rt then BP a.2.1 k else a.1-rt
theorem NA(a:bA)(rt:Int)(k:ByteArray)(h1:0≤a.1∧a.1≤1048576)(h2:0≤rt∧rt≤1048576):m84 ((a,rt,k,()),())=some ((qy a rt k,()),()):=by
 unfold m84 qy;by_cases h:a.1=rt
 ·simp only[h,aiM,ajq,if_true];refine aU _ (O1 a.2.1 k) rfl
 ·simp only[ajg.2 h,cond_true,if_neg h,bY (x:=a.1-rt) (by omega) (by omega)]
theorem Ap(a:bA)(rt:Int)(k:ByteArray):decide (qy a rt k<0)=jy a rt k:=by
 unfold qy jy BP;by_cases h:a.1=rt
 ·simp only[h,if_true,Int.lt_irrefl,aj4,ajy,aiT,aiz];cases Op.bytesLess a.2.1.toList k.toList
  ·simp only[ai2,if_false];split<;>rfl
  ·rfl
 ·rw[if_neg h];simp only[h,aj4,ajp,ai1];exact ajt.2 (by omega)
def BX(now t:Int):Int:=if t<now then 6 else if t>8589934592 then 1 else 0
theorem Dc{A B E:Type}{f:A→Option (A⊕B)}(l:List E)(st:Nat→A)(p:E→Bool)(no:Nat→B)(yes:B)
  (h1:∀i e,l[i]?=some e→i<l.length→f (st i)=some (bif p e then .inl (st (i+1))else .inr (no i))) (h2:f (st l.length)=some (.inr yes)):
  ∃j:Nat,aB f (st 0)=some (bif l.all p then yes else no j):=by
 have key:∀(k i:Nat),i+k=l.length→∃j:Nat,aB f (st i)=some (bif (l.drop i).all p then yes else no j):=by
  intro k
  induction k with
  |zero=>
   intro i h;obtain rfl:i=l.length:=by omega
   rw[ajh];exact⟨0,aC h2⟩
  |succ k ih=>
   intro i h;obtain⟨e,he,hd⟩:=drop_at (l:=l) (i:=i) (by omega);have q:=h1 i e he (by omega);rw[hd,List.all_cons];cases hb:p e
   ·rw[hb]at q;exact⟨i,aC q⟩
   ·rw[hb]at q;rw[aiT];obtain⟨j,hj⟩:=ih (i+1) (by omega);exact⟨j,(aM q).trans hj⟩
 have:=key l.length 0 (by omega);rw[aiK]at this;exact this
def Hz(rs:List bU)(g:bA)(m:bM):ByteArray:=match rs[g.1.toNat]? with|some r=>zC r (eF m)|none=>ByteArray.empty
def uY(p:dh)(now:Int)(q:Option bA)(g:bA):Bool:=
 decide (g.1≥(p.1.length:Int))||(jh p.1 now g||((match q with|none=>false|some a=> !jy a g.1 g.2.1)|| !(aN g).all fun m=>decide (Hz p.1 g m=g.2.1)))
def jK(p:dh)(s:InT):Bool:=
 decide (DV p=0)&&(inst (dM s)&&(decide ((bO s).length≤64)&&(decide (ig (bV s)=0)&&(decide (1≤bg s)&&((bV s).all (fun x=>decide (x.1<bg s))&&yM (uY p (dM s)) none (bO s))))))
structure zm(s:InT):Prop where
 len:(bO s).length≤1048576
 vX:∀g∈bO s,VG g∧g.1≤1048576
 F5:Bq (bV s)
theorem KC{l:List bU}{g:bA}(hg:VG g)(h:¬ g.1≥(l.length:Int)):∃r,l[g.1.toNat]?=some r:=by
 have:=hg.rt;exact⟨_,aiw (by omega)⟩
theorem aar(p:dh){g:bA}(hg:VG g){r:bU}(h:p.1[g.1.toNat]?=some r)(hz:r.2.2.2.1.length≤big)(p0:Int):
  ∃j:Nat,aB xB (((0:Int),aN g,((aN g).length:Int),()),((p,()),((g,()),())))=
   some (bif (aN g).all (fun m=>decide (Hz p.1 g m=g.2.1))then .inr ((),((p,()),((g,()),())))else .inl (((j:Int),()),((p,()),((g,()),())))):=by
 have hl:=hg.len;have h2:=hg.rt;refine Dc (f:=xB) (aN g) (fun i=>(((i:Int),aN g,((aN g).length:Int),()),((p,()),((g,()),())))) (fun m=>decide (Hz p.1 g m=g.2.1)) (fun i=>.inl (((i:Int),()),((p,()),((g,()),())))) _ ?_ ?_
 ·intro i e he hi;have hw:=aL (i:=i) (by omega);have q:=V5 r (eF e) (mW (hg.mem e (air he)).lab) hz;have q2:Hz p.1 g e=zC r (eF e):=by unfold Hz;rw[h]
  dsimp only[eF]at q;rw[q2];simp only[xB,eO hi,aO,aG he,jr h2 h,q,bW,rP,hw,ax,sS];cases decide (zC r e.2.1=g.2.1)<;>simp only[hw,ax,sS]
 ·simp only[xB,fD,ax,sS]
theorem Tz(p:dh)(hp:zx p)(h0:mJ p.1=0)(s:InT)(hs:zm s):
  aB qp (((0:Int),bO s,((bO s).length:Int),()),((p,()),((s,()),())))=some (bif yM (uY p (dM s)) none (bO s)then .inr ((),())else .inl ((false,()),())):=by
 have hlen:=hs.len;have hrl:=uK h0;refine oQ (f:=qp) (bO s) (fun i=>(((i:Int),bO s,((bO s).length:Int),()),((p,()),((s,()),())))) (uY p (dM s)) (.inl ((false,()),())) (.inr ((),())) ?_ ?_
 ·intro i e he hi;obtain⟨hv,hv2⟩:=hs.vX e (air he);have hw:=aL (i:=i) (by omega);have q1:=IQ hv;have h2:=hv.rt;unfold uY;by_cases hr:e.1≥(p.1.length:Int)
  ·simp only[qp,eO hi,aO,aG he,q1,aim hr,ai5,aiz,ai1,aiD,aiA,ax,sS]
  ·obtain⟨r,hr2⟩:=KC hv hr;have hrr:=DR hp.rt h0 r (air hr2);have q2:=R6 p e (dM s) hv hr2 hrr;obtain⟨j,q3⟩:=aar p hv hr2 hrr.z.2.1 0;dsimp only[dM,aN]at q2 q3;have hj:decide ((j:Int)≥0)=true:=aim (by omega);rcases lV hi with h0|⟨a,h0,ha,ha1⟩
   ·rw[if_pos h0];have hd:decide ((i:Int)>0)=false:=aio (by omega);simp only[qp,eO hi,aO,aG he,q1,aio hr,q2,hd,dM,aN,ai5,aiz,ai1,aiD,aiA,ax,sS];cases jh p.1 s.1 e<;>simp only[ai5,aiz,ai1,aiD,aiA,ax,sS];rw[q3];cases List.all e.2.2.1 (fun m=>decide (Hz p.1 e m=e.2.1))<;>simp only[hj,hw,ai5,aiz,ai1,aiD,aiA,ax,sS]
   ·rw[if_neg (by omega),ha];obtain⟨av,av2⟩:=hs.vX a (air ha);have hd:decide ((i:Int)>0)=true:=aim (by omega);have q4:=NA a e.1 e.2.1 ⟨av.rt,av2⟩ ⟨h2,by omega⟩
    have q5:decide (qy a e.1 e.2.1≥0)= !jy a e.1 e.2.1:=by
     rw[←Ap,←decide_not];exact ajt.2 (by omega)
    simp only[qp,eO hi,aO,aG he,q1,aio hr,q2,hd,ha1 (by omega),aG ha,q4,q5,dM,aN,ai5,aiz,ai1,aiD,aiA,ax,sS];cases jh p.1 s.1 e<;>simp only[ai5,aiz,ai1,aiD,aiA,ax,sS];cases jy a e.1 e.2.1<;>simp only[ai5,aiz,ai1,aiD,aiA,ax,sS];rw[q3];cases List.all e.2.2.1 (fun m=>decide (Hz p.1 e m=e.2.1))<;>simp only[hj,hw,ai5,aiz,ai1,aiD,aiA,ax,sS]
 ·simp only[qp,fD,ai5,aiz,ai1,aiD,aiA,ax,sS]
theorem TG:∀{l:List dZ},oJ 0 l=0→∀(n:Int),l≠ []→∃x,l[l.length-1]?=some x∧(l.all fun y=>decide (y.1<n))= !decide (x.1≥n):=by
 intro l h n hne;obtain⟨a,x,rfl⟩:∃a x,l=a++ [x]:=⟨l.dropLast,l.getLast hne,(List.dropLast_concat_getLast hne).symm⟩
 refine⟨x,by simp,?_⟩
 have hs:∀y∈a,y.1<x.1:=by
  intro y hy;obtain⟨b,c,rfl⟩:=List.mem_iff_append.1 hy;have:=PX b 0 y (c++ [x]) (by simpa using h);exact this x (by simp)
 rw[List.all_append];by_cases hx:x.1≥n
 ·simp[hx,Int.not_lt.2 hx]
 ·have ha:(a.all fun y=>decide (y.1<n))=true:=aiP.2 fun y hy=>aim (by have:=hs y hy;omega)
  simp[ha,hx,Int.not_le.1 hx]
theorem I5(p:dh)(hp:zx p)(s:InT)(hs:zm s):ZQ ((p,s,()),())=some ((jK p s,()),()):=by
 unfold ZQ;have hl:=hs.len;have q2:=Dv (bV s) hs.F5;have hsl:=hs.F5.1;by_cases hc:DV p=0
 ·obtain⟨c1,c2,c3,c4⟩:=jg hc;have q3:=Tz p hp c1 s hs;obtain⟨now,gs,sl,nx,⟨⟩⟩:=s;dsimp only[bO,bV,dM,bg]at q2 q3 hl hsl;have q1:=UG p hp;unfold jK;rw[hc]at q1;simp only[q1,q2,hc,dM,bO,bV,bg,inst,aiM,ajy,aiT,ax,sS];by_cases h1:now<0
  ·have e:decide (0≤now∧now≤8589934592)=false:=aio (by omega);simp only[h1,e,ajy,ajp,ax,sS]
  by_cases h2:now>8589934592
  ·have e:decide (0≤now∧now≤8589934592)=false:=aio (by omega);simp only[h1,h2,e,ajy,aj4,ajp,ax,sS]
  have e:decide (0≤now∧now≤8589934592)=true:=aim (by omega);by_cases h3:(gs.length:Int)>64
  ·have e3:decide (gs.length≤64)=false:=aio (by omega);simp only[h1,h2,h3,e,e3,ajy,aj4,aiT,ajp,ax,sS]
  have e3:decide (gs.length≤64)=true:=aim (by omega);by_cases h4:ig sl=0
  ·by_cases h5:nx<1
   ·have e5:decide (1≤nx)=false:=aio (by omega);simp only[h1,h2,h3,h4,h5,e,e3,e5,aiM,ajy,aj4,aiT,ajp,ax,sS]
   have e5:decide (1≤nx)=true:=aim (by omega);simp only[h1,h2,h3,h4,h5,e,e3,e5,aiM,ajy,aj4,aiT,ajp,ax,sS];by_cases hn:sl=[]
   ·subst hn;simp only[List.length_nil,List.all_nil,aiT];have e6:decide ((((0:Nat):Nat):Int)>0)=false:=by decide
    simp only[e6,q3,ax,sS];cases yM (uY p now) none gs<;>rfl
   ·obtain⟨x,hx,hx2⟩:=TG (Ew h4).1 nx hn;have hpos:0<sl.length:=List.length_pos_iff.2 hn;have e6:decide (((sl.length:Nat):Int)>0)=true:=aim (by omega);have e7:aP (((sl.length:Nat):Int)-1)=((sl.length-1:Nat):Int):=by rw[bY (by omega) (by omega)];omega
    rw[hx2];simp only[e6,e7,aO,aG hx,ax,sS];cases decide (x.1≥nx)<;>simp only[q3,aiD,aiA,aiT,ajp,ax,sS];cases yM (uY p now) none gs<;>rfl
  ·simp only[h1,h2,h3,h4,ajg.2 h4,e,e3,ajy,aj4,aiT,ajp,ax,sS]
 ·have q1:=UG p hp;unfold jK;simp only[q1,ajg.2 hc,aio hc,ajp,ax,sS]
end Go.Proofs.YtchnmpafhfjimaaGreatDoor
namespace Go.Proofs.YtchnmpafhfjimaaGreatDoor
open Go Go.Abs Go.Lab
theorem Qt{m:bM}(h:wz m):(aI m).size+1≤4294967296:=by
 have h1:=uD h.lab ((eF m).map dz).length;rw[ajl]at h1;rw[h.key,size_mk];unfold d9;simp;omega
end Go.Proofs.YtchnmpafhfjimaaGreatDoor
namespace Go.Proofs.YtchnmpafhfjimaaGreatDoor
open Go Go.Abs
def JM(a:Int×Bool)(g:bA):Int×Bool:=bif (gK g != -1)&&(!a.2||decide (gK g<a.1))then(gK g,true)else a
def SS(l:List bA):Int×Bool:=l.foldl JM (0,false)
theorem Vn(s:InT)(hl:(bO s).length≤1048576):Vf ((s,()),())=some (((SS (bO s)).1,(SS (bO s)).2,()),()):=by
 have h:=cO (f:=Co) (bO s) (fun i (a:Int×Bool)=>(((i:Int),a.1,a.2,bO s,((bO s).length:Int),()),())) (fun _ a e=>.inl (JM a e)) (fun a=>((a.2,a.1,()),())) ?_ ?_ (0,false)
 ·rw[pE]at h;unfold Vf;exact aU _ h rfl
 ·intro i e ⟨a1,a2⟩ he hi;have hw:aP ((i:Int)+1)=((i+1:Nat):Int):=aL (by omega);unfold JM;dsimp only[gK];simp only[Co,aO,aG he,eO hi,ax,sS];cases (e.2.2.2.1 != -1)<;>cases a2<;>cases decide (e.2.2.2.1<a1)<;>simp only[ax,sS,hw,aiD,aiA,aiG,ai5,ai1,aiz,aiT,ajp]
 ·intro a;simp only[Co,fD,ax,sS]
def J5(p:dh)(l:List bA):Prop:=∀g∈l,VG g∧∃r,p.1[g.1.toNat]?=some r∧RR r
def gT(p:dh)(now:Int)(l:List bA):List bA:=l.filter fun g=> !jh p.1 now g
theorem J5.idle{p:dh}{l:List bA}(h:J5 p l){g:bA}(hg:g∈l)(now:Int):WK ((p,g,now,()),())=some ((jh p.1 now g,()),()):=by
 obtain⟨hv,r,hr,rr⟩:=h g hg;exact R6 p g now hv hr rr
theorem Oe{A:Type}{a:List A}{n:Nat}(h:a.length+1≤n)(x:A):decide (a.length+ [x].length≤n)=true:=aim (by simpa using h)
theorem QN{A B E F:Type}{f:A→Option (A⊕B)}(l:List E)(st:Nat→List F→A)(g:E→List F)(fin:List F→B)(hlen:l.length≤1048576)
  (hg:∀e,(g e).length≤1)
  (h1:∀i e a,l[i]?=some e→i<l.length→a.length≤i→f (st i a)=some (.inl (st (i+1) (a++g e)))) (h2:∀a,f (st l.length a)=some (.inr (fin a))):
  aB f (st 0 [])=some (fin (l.flatMap g)):=by
 have key:∀(k i:Nat) (a:List F),i+k=l.length→a.length≤i→aB f (st i a)=some (fin (a++(l.drop i).flatMap g)):=by
  intro k
  induction k with
  |zero=>
   intro i a h ha;obtain rfl:i=l.length:=by omega
   rw[ajh,List.flatMap_nil,aiO];exact aC (h2 a)
  |succ k ih=>
   intro i a h ha;obtain⟨e,he,hd⟩:=drop_at (l:=l) (i:=i) (by omega);rw[hd,ajz,←aiI,←ih (i+1) (a++g e) (by omega) (by have:=hg e;rw[aiB];omega)];exact aM (h1 i e a he (by omega) ha)
 have:=key l.length 0 [] (by omega) (aiy _)
 rwa [aiK,ajI]at this
theorem Ro{A B E:Type}{f:A→Option (A⊕B)}(ms:List E)(keep:E→Bool)(st:Nat→A)(no:B)(yes:Nat→B)
  (h1:∀i e,ms[i]?=some e→i<ms.length→f (st i)=some (bif keep e then .inl (st (i+1))else .inr (yes i))) (h2:f (st ms.length)=some (.inr no)):
  (aB f (st 0)=some no∧ms.filter keep=ms)∨∃j,j<ms.length∧aB f (st 0)=some (yes j)∧(ms.take (j+1)).filter keep=ms.take j:=by
 have key:∀(d i:Nat),i+d=ms.length→(ms.take i).filter keep=ms.take i→
   (aB f (st i)=some no∧ms.filter keep=ms)∨∃j,j<ms.length∧aB f (st i)=some (yes j)∧(ms.take (j+1)).filter keep=ms.take j:=by
  intro d
  induction d with
  |zero=>
   intro i h h3;obtain rfl:i=ms.length:=by omega
   rw[ajl]at h3;exact .inl ⟨aC h2,h3⟩
  |succ d ih=>
   intro i h h3;obtain⟨e,he⟩:=getD_some (l:=ms) (i:=i) (by omega);have q:=h1 i e he (by omega);cases hr:keep e
   ·rw[hr]at q;refine .inr ⟨i,by omega,aC q,?_⟩;rw[fT he,ajw,h3];simp[hr]
   ·rw[hr]at q;rw[aM q];refine ih (i+1) (by omega) ?_;rw[fT he,ajw,h3];simp[hr]
 exact key ms.length 0 (by omega) rfl
theorem M8{A B E:Type}{f:A→Option (A⊕B)}(ms:List E)(keep:E→Bool)(st:Nat→Nat→List E→A)(fin:Nat→List E→B)
  (h1:∀src dst blk e,src<ms.length→dst<src→blk.length=ms.length→blk[src]?=some e→e∈ms→f (st src dst blk)=some (.inl (bif keep e then st (src+1) (dst+1) (blk.set dst e)else st (src+1) dst blk)))
  (h2:∀dst blk,blk.length=ms.length→f (st ms.length dst blk)=some (.inr (fin dst blk))):∀(d src dst:Nat) (blk:List E),src+d=ms.length→dst<src→blk.length=ms.length→
  blk.take dst=(ms.take src).filter keep→blk.drop src=ms.drop src→
  ∃(dst':Nat) (blk':List E),aB f (st src dst blk)=some (fin dst' blk')∧dst'≤ms.length∧blk'.length=ms.length∧blk'.take dst'=ms.filter keep:=by
 intro d
 induction d with
 |zero=>
  intro src dst blk a1 a2 a3 a4 a5;obtain rfl:src=ms.length:=by omega
  rw[ajl]at a4;exact⟨dst,blk,aC (h2 dst blk a3),by omega,a3,a4⟩
 |succ d ih=>
  intro src dst blk a1 a2 a3 a4 a5;obtain⟨e,he⟩:=getD_some (l:=ms) (i:=src) (by omega)
  have he':blk[src]?=some e:=by
   have:=congrArg (fun l=>l[0]?) a5;simp only[aj3,ajH]at this;rw[this,he]
  have q:=h1 src dst blk e (by omega) a2 a3 he' (air he);cases hr:keep e
  ·rw[hr]at q;rw[aM q];refine ih (src+1) dst blk (by omega) (by omega) a3 ?_ ?_
   ·rw[fT he,ajw,←a4];simp[hr]
   ·rw[←ajD,←ajD,a5]
  ·rw[hr]at q;rw[aM q];refine ih (src+1) (dst+1) (blk.set dst e) (by omega) (by omega) (by rw[ajc,a3]) ?_ ?_
   ·rw[fT he,ajw,←a4];rw[fT (e:=e) (by rw[List.getElem?_set_self (by omega)])];rw[show(blk.set dst e).take dst=blk.take dst from by rw[List.take_set,List.set_eq_of_length_le (by rw[ai8];omega)]];simp[hr]
   ·rw[List.drop_set,if_pos (by omega)];rw[←ajD,←ajD,a5]
def oP(acc:List bM)(m:bM):List bM:=if fG m=true∧hit (aI m) acc=false then acc.take (pos (aI m) acc)++ [m]++acc.drop (pos (aI m) acc)else acc
def Gl(gs:List bA)(acc:List bM):List bM:=gs.foldl (fun a g=>(aN g).foldl oP a) acc
def xS(gs:List bA):List bM:=Gl gs []
theorem RP(acc:List bM)(m:bM):(oP acc m).length≤acc.length+1:=by
 unfold oP;split
 ·simp;omega
 ·omega
theorem Rn:∀(ms:List bM) (acc:List bM),(ms.foldl oP acc).length≤acc.length+ms.length:=by
 intro ms
 induction ms with
 |nil=>intro acc;exact aiy _
 |cons m r ih=>intro acc;have:=ih (oP acc m);have:=RP acc m;simp only[List.foldl_cons,aiR];omega
theorem Xu{a b:ByteArray}(h:Lt a b):bl a<bl b:=by
 unfold Lt at h;rw[bW,bW,Go.Proofs.bytesLess_eq]at h;exact aix h
theorem Ia{k:ByteArray}{l:List bM}(h:(l.map aI).Pairwise Less):hit k l=true↔k∈l.map aI:=by
 constructor
 ·intro hh;obtain⟨m,hm,rfl⟩:=wU hh;exact ajj.2 ⟨m,air hm,rfl⟩
 ·intro hk;obtain⟨m,hm,rfl⟩:=ajj.1 hk;cases hh:hit (aI m) l
  ·exfalso
   rw[←aj1 (pos (aI m) l) l,ai9]at hm;rcases hm with hm|hm
   ·exact nD _ (xM m hm)
   ·exact nD _ (EO h hh m hm)
  ·rfl
theorem aa5{m:bM}{l:List bM}(h:(l.map aI).Pairwise Less)(hh:hit (aI m) l=false):((l.take (pos (aI m) l)++ [m]++l.drop (pos (aI m) l)).map aI).Pairwise Less:=by
 rw[aiI,aiL,aiL,List.pairwise_append];have hup:=h;rw[←aj1 (pos (aI m) l) l,aiL,List.pairwise_append]at hup;have ha:∀x∈l.take (pos (aI m) l),Lt (aI x) (aI m):=xM;have hb:=EO h hh;refine⟨hup.1,?_,fun a ha' b hb'=> ?_⟩
 ·rw[aiE,aiS,aj2];refine List.pairwise_cons.2 ⟨fun k hk=> ?_,hup.2.1⟩;obtain⟨x,hx,rfl⟩:=ajj.1 hk;exact fK.2 (hb x hx)
 ·obtain⟨x,hx,rfl⟩:=ajj.1 ha';rw[aiE,aiS,aj2]at hb';rcases aiV.1 hb' with rfl|hb'
  ·exact fK.2 (ha x hx)
  ·obtain⟨x',hx',rfl⟩:=ajj.1 hb';exact fK.2 (lt_trans (ha x hx) (hb x' hx'))
structure Le(pre acc:List bM)(ks:List ByteArray):Prop where
 up:(acc.map aI).Pairwise Less
 perm:ks.Perm (acc.map aI)
 lab:∀a∈acc,pre.find? (fun m=>decide (m.1=aI a))=some a
 all:∀m∈pre,aI m∈acc.map aI
theorem Le.step{pre acc:List bM}{ks:List ByteArray}(h:Le pre acc ks){m:bM}(hm:fG m=true):
  Le (pre++ [m]) (oP acc m) (if ks.any (fun x=>decide (x=aI m))then ks else ks++ [aI m]):=by
 have hc:ks.any (fun x=>decide (x=aI m))=hit (aI m) acc:=by
  rw[Bool.eq_iff_iff,Ia h.up,List.any_eq_true,←h.perm.mem_iff];constructor
  ·rintro⟨x,hx,e⟩;rw[←aix e];exact hx
  ·intro hx;exact⟨_,hx,aim rfl⟩
 rw[hc]
 have old:∀a∈acc,(pre++ [m]).find? (fun x=>decide (x.1=aI a))=some a:=fun a ha=>by
  rw[List.find?_append,h.lab a ha];rfl
 cases hh:hit (aI m) acc
 ·have e:oP acc m=acc.take (pos (aI m) acc)++ [m]++acc.drop (pos (aI m) acc):=by unfold oP;rw[if_pos ⟨hm,hh⟩]
  have hnot:aI m∉acc.map aI:=fun hk=>by rw[(Ia h.up).2 hk]at hh;cases hh
  rw[e];refine⟨aa5 h.up hh,?_,fun a ha=> ?_,fun x hx=> ?_⟩
  ·simp only[ai2,if_false,aiL,List.map_take,List.map_drop,aiE,aiS];have p1:(ks++ [aI m]).Perm (acc.map aI++ [aI m]):=h.perm.append_right _;refine p1.trans ?_
   conv=>lhs;rw[←aj1 (pos (aI m) acc) (acc.map aI)]
   rw[aiI,aiI];exact(List.perm_append_comm).append_left _
  ·simp only[ai9,ajd]at ha;rcases ha with(ha|rfl)|ha
   ·exact old a (List.mem_of_mem_take ha)
   ·rw[List.find?_append]
    have:pre.find? (fun x=>decide (x.1=aI a))=none:=List.find?_eq_none.2 fun x hx=>by
     have:=h.all x hx;intro e;exact hnot (by rwa [show aI x=aI a from aix e]at this)
    rw[this];simp
   ·exact old a (List.mem_of_mem_drop ha)
  ·have hx':aI x∈acc.map aI∨x=m:=by
    rcases ai9.1 hx with hx|hx
    ·exact .inl (h.all x hx)
    ·exact .inr (ajd.1 hx)
   rcases hx' with hx'|rfl
   ·obtain⟨y,hy,e⟩:=ajj.1 hx';rw[←aj1 (pos (aI m) acc) acc,ai9]at hy;refine ajj.2 ⟨y,?_,e⟩;simp only[ai9,ajd];rcases hy with hy|hy
    ·exact .inl (.inl hy)
    ·exact .inr hy
   ·exact ajj.2 ⟨x,by simp,rfl⟩
 ·have e:oP acc m=acc:=by unfold oP;rw[if_neg (by rw[hh];simp)]
  rw[e];refine⟨h.up,by simpa using h.perm,old,fun x hx=> ?_⟩;rcases ai9.1 hx with hx|hx
  ·exact h.all x hx
  ·rw[ajd.1 hx];exact(Ia h.up).1 hh
theorem Le.run:∀(ms pre acc:List bM) (ks:List ByteArray),Le pre acc ks→(∀m∈ms,fG m=true)→Le (pre++ms) (ms.foldl oP acc) (bH ms ks):=by
 intro ms
 induction ms with
 |nil=>intro pre acc ks h _;rw[aiO];exact h
 |cons m r ih=>
  intro pre acc ks h hf;have:=ih (pre++ [m]) _ _ (h.step (hf m (by simp))) (fun x hx=>hf x (by simp[hx]));rw[aiI]at this;exact this
theorem Qj:∀(ms acc:List bM),(ms.filter fun m=>fG m).foldl oP acc=ms.foldl oP acc:=by
 intro ms
 induction ms with
 |nil=>intro acc;rfl
 |cons m r ih=>
  intro acc;rw[List.filter_cons];by_cases h:fG m=true
  ·rw[if_pos h];exact ih _
  ·rw[if_neg h,ih];have e:oP acc m=acc:=by unfold oP;rw[if_neg (fun c=>h c.1)]
   show _=r.foldl oP (oP acc m)
   rw[e]
theorem Vk:∀(gs:List bA) (acc:List bM),(bI gs).foldl oP acc=Gl gs acc:=by
 intro gs
 induction gs with
 |nil=>intro acc;rfl
 |cons g r ih=>
  intro acc;unfold bI Gl;rw[ajz,List.foldl_append,List.foldl_cons];have:=Qj (aN g) acc;dsimp only[fG,aN]at this ⊢;rw[this];exact ih _
theorem LJ(gs:List bA):Le (bI gs) (xS gs) (bH (bI gs) []):=by
 have:=Le.run (bI gs) [] [] [] ⟨List.Pairwise.nil,List.Perm.nil,fun a ha=>(by cases ha),fun m hm=>(by cases hm)⟩ (fun m hm=>by
  unfold bI at hm;obtain⟨g,_,hm⟩:=List.mem_flatMap.1 hm;exact(aj9.1 hm).2)
 rw[ajI,Vk]at this;exact this
theorem Rh(gs:List bA):nP gs=(xS gs).map eF:=by
 have h:=LJ gs;unfold nP
 have p:((bH (bI gs) []).map (·.data.toList)).mergeSort (fun x y=>decide (x≤y))=((xS gs).map aI).map (·.data.toList):=by
  have e:=mergeSort_of_perm (h.perm.map (·.data.toList));refine e.trans (List.mergeSort_of_pairwise ?_)
  have:((xS gs).map aI).Pairwise (fun a b=>(Go.leB a.data.toList b.data.toList)=true):=h.up.imp fun {a b} hab=>by
   have:=Xu (fK.1 hab);simp only[Go.leB,aiU];exact List.le_of_lt this
  exact List.pairwise_map.2 this
 rw[p,ajv,ajv];refine aiW fun a ha=> ?_
 show iT (bI gs) ⟨(aI a).data.toList.toArray⟩=eF a
 have e:(⟨(aI a).data.toList.toArray⟩:ByteArray)=aI a:=rfl;rw[e];unfold iT;rw[h.lab a ha];rfl
abbrev uZ:=Int×Int×Int×ByteArray×List ByteArray×List ByteArray×Unit
def C8(p:dh)(n:Int):bU:=(p.1[n.toNat]?).getD (0,[],0,[],0,0,0,false,())
theorem vS{p:dh}{n:Int}{r:bU}(h:p.1[n.toNat]?=some r):C8 p n=r:=by unfold C8;rw[h];rfl
def Ca(p:dh)(now:Int)(g:bA):bA:=vX (F6 g (C8 p g.1) now p.2.2.1).2.1 (F6 g (C8 p g.1) now p.2.2.1).2.2
def vE(p:dh)(sl:List dZ)(now:Int)(fs:List (List LT))(ms:List bM):List ByteArray:=ms.flatMap fun m=>bif (vQ (eF m) now sl).2||y8 p.2.1 (eF m) fs then [aI m]else []
def og(p:dh)(sl:List dZ)(now:Int)(fs:List (List LT))(g:bA):LkT:=jH g (C8 p g.1) now (vE p sl now fs (aN g))
def rW(p:dh)(sl:List dZ)(now:Int)(fs:List (List LT))(g:bA):bA:=vX (og p sl now fs g).2.1 (og p sl now fs g).2.2.2.1
def RX(x:LkT):uZ:=(x.2.2.1.1,x.2.2.1.2.1,x.2.2.1.2.2.1,x.2.2.1.2.2.2.1,x.2.2.2.2.1,x.2.2.2.2.2,())
def AO(p:dh)(sl:List dZ)(now:Int)(fs:List (List LT))(g:bA):List uZ:=bif (og p sl now fs g).1 then [RX (og p sl now fs g)]else []
def lm(p:dh)(s:InT)(now:Int):List bA:=(bO s).map (Ca p now)
def sF(p:dh)(s:InT)(now:Int):List (List LT):=(xS (lm p s now)).map eF
def vC(p:dh)(s:InT)(now:Int):List bA:=(lm p s now).map (rW p (bV s) now (sF p s now))
def Br(p:dh)(s:InT)(now:Int):List uZ:=(lm p s now).flatMap (AO p (bV s) now (sF p s now))
def BJ(p:dh)(s:InT)(now:Int):InT:=(now,gT p now (vC p s now),bV s,bg s,())
theorem IK(p:dh)(now:Int)(g:bA):(Ca p now g).1=g.1∧(Ca p now g).2.1=g.2.1:=by
 unfold Ca F6;split<;>exact⟨rfl,rfl⟩
theorem Cr(p:dh)(sl:List dZ)(now:Int)(fs:List (List LT))(g:bA):(rW p sl now fs g).1=g.1∧(rW p sl now fs g).2.1=g.2.1:=by
 unfold rW og jH;split
 ·exact⟨rfl,rfl⟩
 ·dsimp only;split<;>exact⟨rfl,rfl⟩
theorem yN{A B E F:Type}{f:A→Option (A⊕B)}(l:List E)(st:Nat→List E→List F→A)(h:E→E)(g:E→List F)(fin:List E→List F→B)(hg:∀e,(g e).length≤1)
  (h1:∀(i:Nat) (a:List E) (n:List F) (e:E),i<l.length→a.length=l.length→n.length≤i→e∈l→l[i]?=some e→a[i]?=some e→f (st i a n)=some (.inl (st (i+1) (a.set i (h e)) (n++g e))))
  (h2:∀(a:List E) (n:List F),a.length=l.length→f (st l.length a n)=some (.inr (fin a n))):aB f (st 0 l [])=some (fin (l.map h) (l.flatMap g)):=by
 have key:∀(d i:Nat) (a:List E) (n:List F),i+d=l.length→a=(l.take i).map h++l.drop i→n.length≤i→aB f (st i a n)=some (fin (l.map h) (n++(l.drop i).flatMap g)):=by
  intro d
  induction d with
  |zero=>
   intro i a n hi ha hn;obtain rfl:i=l.length:=by omega
   rw[ajl,ajh,aiO]at ha;rw[ajh,List.flatMap_nil,aiO];subst ha;exact aC (h2 _ n (by simp))
  |succ d ih=>
   intro i a n hi ha hn;obtain⟨e,he,hd⟩:=drop_at (l:=l) (i:=i) (by omega);have hal:a.length=l.length:=by rw[ha];simp;omega
   have hml:((l.take i).map h).length=i:=by rw[ais,ai8];omega
   have hae:a[i]?=some e:=by
    rw[ha,ai0 (by omega),hml,Nat.sub_self,hd];rfl
   rw[hd,ajz,←aiI,←ih (i+1) (a.set i (h e)) (n++g e) (by omega) ?_ (by have:=hg e;rw[aiB];omega)]
   ·exact aM (h1 i a n e (by omega) hal hn (air he) he hae)
   ·rw[ha,hd,List.set_append_right _ _ (by omega),hml,Nat.sub_self,fT he,aiL,aiI];rfl
 have:=key l.length 0 l [] (by omega) (by simp) (aiy _);rw[aiK,ajI]at this;exact this
structure RI(p:dh)(s:InT)(now:Int):Prop where
 len:(bO s).length≤65
 nJ:J5 p (bO s)
 F5:Bq (bV s)
 rs:RSs p.2.1
 exp:0≤p.2.2.1∧p.2.2.1≤604800
 now:0≤now∧now≤8589934592
theorem uV(s:InT)(hl:(bO s).length≤1048576)(hs:∀g∈bO s,VG g)(hz:Bq (bV s)):m64 ((s,()),())=some ((),(((dM s,bg s,()),()),bO s,bV s,())):=by
 have hc:Xf ((bO s,()),())=some ((),(bO s,())):=by
  unfold Xf;rw[show decide ((bO s).length≤4294967296)=true from aim (by omega)];rfl
 have q:=Ck (bV s) hz;have h:=yN (F:=Unit) (f:=Cw) (bO s) (fun i a _=>(((i:Int),((bO s).length:Int),()),((dM s,bg s,()),()),a,((0,0,()),()),bV s,())) id (fun _=> [])
  (fun a _=>((),((0,0,()),()),((dM s,bg s,()),()),a,bV s,())) (fun _=>aiN _) ?_ ?_
 ·rw[List.map_id]at h;unfold m64;refine aU _ hc ?_;refine aU _ q ?_;refine aU _ h rfl
 ·intro i a n e hi ha _ hm he hae;have hw:=aL (i:=i) (by omega);have c:=IV (hs e hm);have hb:decide ((0:Int)≤(i:Int)∧(i:Int)<(a.length:Int))=true:=aim (by omega);have hb2:decide (i<a.length)=true:=aim (by omega);simp only[Cw,eO hi,hb,hb2,aip,hae,c,hw,cor,ax,sS];rfl
 ·intro a n ha;simp only[Cw,fD,ax,sS]
theorem Km(p:dh)(s:InT)(now:Int)(h:RI p s now)(x1 x2 z1 z2:Int):
  aB xG (((0:Int),now,((bO s).length:Int),()),(p,()),((x1,x2,()),()),bO s,((z1,z2,()),()),bV s,())=
   some ((now,()),((x1,x2,()),()),(p,()),((z1,z2,()),()),lm p s now,bV s,()):=by
 have hl:=h.len;refine yN (F:=Unit) (f:=xG) (bO s) (fun i a _=>(((i:Int),now,((bO s).length:Int),()),(p,()),((x1,x2,()),()),a,((z1,z2,()),()),bV s,())) (Ca p now) (fun _=> [])
  (fun a _=>((now,()),((x1,x2,()),()),(p,()),((z1,z2,()),()),a,bV s,())) (fun _=>aiN _) ?_ ?_
 ·intro i a n e hi ha _ hm he hae;have hw:=aL (i:=i) (by omega);obtain⟨hv,r,hr,rr⟩:=h.nJ e hm;have q:=adD hv rr h.now h.exp;have hb:decide ((0:Int)≤(i:Int)∧(i:Int)<(a.length:Int))=true:=aim (by omega);have hb2:decide (i<a.length)=true:=aim (by omega);have hai:a[((i:Int)).toNat]?=some e:=by rw[aip];exact hae
  unfold Ca;rw[vS hr];simp only[xG,eO hi,hb,hai,aO,jr hv.rt hr,q,hw,ax,sS];simp only[aip,hb2,vX,ax,sS]
 ·intro a n ha;simp only[xG,fD,ax,sS]
theorem NC(p:dh)(sl:List dZ)(hsl:Bq sl)(hrs:RSs p.2.1)(now:Int)(fs:List (List LT))(hf:FSs fs)(ms:List bM)(hl:ms.length≤256)(hm:∀m∈ms,wz m)(blk:List bA)(x2:Int):
  aB za (((0:Int),fs,ms,(ms.length:Int),()),blk,sl,[],((now,x2,()),()),(p,()),())=some ((),blk,sl,vE p sl now fs ms,()):=by
 refine QN (f:=za) ms (fun i a=>(((i:Int),fs,ms,(ms.length:Int),()),blk,sl,a,((now,x2,()),()),(p,()),())) (fun m=>bif (vQ (eF m) now sl).2||y8 p.2.1 (eF m) fs then [aI m]else []) (fun a=>((),blk,sl,a,())) (by omega) (fun e=>by cases ((vQ (eF e) now sl).2||y8 p.2.1 (eF e) fs)<;>simp) ?_ ?_
 ·intro i e a he hi ha;have hw:=aL (i:=i) (by omega);have q:=WB p.2.1 hrs sl hsl (eF e) (He (hm e (air he)).lab) fs hf now;have hs:∀x:ByteArray,decide (a.length+ [x].length≤4294967296)=true:=fun x=>Oe (by omega) x
  dsimp only[eF,aI]at q ⊢;simp only[za,aO,aG he,eO hi,q,ax,sS];cases ((vQ e.2.1 now sl).2||y8 p.2.1 e.2.1 fs)<;>simp only[hs,hw,aiO,ax,sS]
 ·intro a;simp only[za,fD,ax,sS]
theorem Sl{p:dh}{l:List bA}(h:J5 p l)(f:bA→bA)(h1:∀g,(f g).1=g.1)(h2:∀g∈l,VG (f g)):J5 p (l.map f):=by
 intro g hg;obtain⟨x,hx,rfl⟩:=ajj.1 hg;obtain⟨_,r,hr,rr⟩:=h x hx;exact⟨h2 x hx,r,by rw[h1];exact hr,rr⟩
theorem Da{p:dh}{s:InT}{now:Int}(h:RI p s now):J5 p (lm p s now):=
 Sl h.nJ _ (fun g=>(IK p now g).1) (fun g hg=>by
  obtain⟨hv,r,hr,rr⟩:=h.nJ g hg;unfold Ca;rw[vS hr];exact abG hv rr _ h.now)
theorem EK{p:dh}{s:InT}{now:Int}(h:RI p s now):J5 p (vC p s now):=
 Sl (Da h) _ (fun g=>(Cr p _ now _ g).1) (fun g hg=>X8 (Da h g hg).1 _ _ h.now)
theorem R3{gs:List bA}{m:bM}(h:m∈xS gs):∃g∈gs,m∈aN g∧fG m=true:=by
 have:=(LJ gs).lab m h;have hm:=List.mem_of_find?_eq_some this;unfold bI at hm;obtain⟨g,hg,hm⟩:=List.mem_flatMap.1 hm;exact⟨g,hg,(aj9.1 hm).1,(aj9.1 hm).2⟩
theorem PW(gs:List bA)(h:∀g∈gs,VG g):(xS gs).length≤gs.length*256:=by
 have key:∀(gs:List bA) (acc:List bM),(∀g∈gs,VG g)→(Gl gs acc).length≤acc.length+gs.length*256:=by
  intro gs
  induction gs with
  |nil=>intro acc _;simp[Gl]
  |cons g r ih=>
   intro acc h;have h1:=Rn (aN g) acc;have h2:=ih ((aN g).foldl oP acc) (fun x hx=>h x (by simp[hx]));have h3:=(h g (by simp)).len
   show(Gl r ((aN g).foldl oP acc)).length≤_
   rw[aiR];omega
 have:=key gs [] h;simpa[xS]using this
theorem WI{gs:List bA}(h:∀g∈gs,VG g)(hl:gs.length≤1000):FSs ((xS gs).map eF):=by
 refine⟨?_,fun l hl=> ?_⟩
 ·have:=PW gs h;rw[ais];unfold big;omega
 ·obtain⟨m,hm,rfl⟩:=ajj.1 hl;obtain⟨g,hg,hm,_⟩:=R3 hm;exact He ((h g hg).mem m hm).lab
theorem RH{gs:List bA}(h:∀g∈gs,VG g)(hl:gs.length≤1000):ve gs=true:=by
 unfold ve
 have h1:(gs.flatMap fun g=>g.2.2.1).length≤gs.length*256:=by
  clear hl
  induction gs with
  |nil=>simp
  |cons g r ih=>
   have:=ih (fun x hx=>h x (by simp[hx]));have h3:=(h g (by simp)).len;dsimp only[aN]at h3;rw[ajz,aiB,aiR];omega
 simp only[ai7,aiU,aiP];refine⟨by omega,aja h1 (by omega),fun g hg=>⟨?_,fun m hm=>⟨?_,?_⟩⟩⟩
 ·have:=(h g hg).len;dsimp only[aN]at this;omega
 ·have:=Qt ((h g hg).mem m hm);dsimp only[aI]at this;omega
 ·have:=(gP ((h g hg).mem m hm).lab).1;dsimp only[eF]at this;omega
theorem P7(p:dh)(sl:List dZ)(now:Int)(fs:List (List LT))(ms:List bM):(vE p sl now fs ms).length≤ms.length:=by
 unfold vE
 induction ms with
 |nil=>simp
 |cons m r ih=>
  rw[ajz,aiB,aiR]
  have:(bif (vQ (eF m) now sl).2||y8 p.2.1 (eF m) fs then [aI m]else []).length≤1:=by
   cases ((vQ (eF m) now sl).2||y8 p.2.1 (eF m) fs)<;>simp
  omega
theorem P5(p:dh)(sl:List dZ)(hsl:Bq sl)(hrs:RSs p.2.1)(now:Int)(hn:0≤now∧now≤8589934592)(fs:List (List LT))(hf:FSs fs)(gs:List bA)(hl:gs.length≤1000)(h:J5 p gs)(x2 z1 z2:Int):
  aB qY (((0:Int),fs,now,(gs.length:Int),()),[],((now,x2,()),()),(p,()),gs,((z1,z2,()),()),sl,())=
   some ((),((z1,z2,()),()),gs.flatMap (AO p sl now fs),((now,x2,()),()),(p,()),gs.map (rW p sl now fs),sl,()):=by
 refine yN (f:=qY) gs (fun i a n=>(((i:Int),fs,now,(gs.length:Int),()),n,((now,x2,()),()),(p,()),a,((z1,z2,()),()),sl,())) (rW p sl now fs) (AO p sl now fs)
  (fun a n=>((),((z1,z2,()),()),n,((now,x2,()),()),(p,()),a,sl,())) (fun e=>by unfold AO;cases (og p sl now fs e).1<;>simp) ?_ ?_
 ·intro i a n e hi ha hni hm he hae;have hw:=aL (i:=i) (by omega);obtain⟨hv,r,hr,rr⟩:=h e hm;have q:=NC p sl hsl hrs now fs hf (aN e) hv.len hv.mem a x2;obtain⟨k,blk,q2,q3,q4⟩:=abr hv rr hn (mu:=vE p sl now fs (aN e)) (by have:=P7 p sl now fs (aN e);have:=hv.len;unfold big;omega);have hb:decide ((0:Int)≤(i:Int)∧(i:Int)<(a.length:Int))=true:=aim (by omega);have hb2:decide (i<a.length)=true:=aim (by omega);have hb3:decide (0+k≤blk.length)=true:=aim (by omega);have hai:a[((i:Int)).toNat]?=some e:=by rw[aip];exact hae
  have hs:∀x:uZ,decide (n.length+ [x].length≤4294967296)=true:=fun x=>Oe (by omega) x
  have e1:og p sl now fs e=jH e r now (vE p sl now fs (aN e)):=by unfold og;rw[vS hr]
  unfold rW AO RX;rw[e1];generalize jH e r now (vE p sl now fs (aN e))=L at q2 q4 ⊢;dsimp only[aN]at q q2;have hrow:∀{B:Type} (F:bU→Option B),rR p.1 e.1 F=F r:=fun F=>jr hv.rt hr F
  simp only[qY,eO hi,hb,hai,aO,ax,sS];rw[hrow,q];simp only[eq_self,q2,hb,hb3,ax,sS];cases hk:L.1<;>simp only[hs,hb2,hw,aip,aiK,q4,vX,aiO,ax,sS]
 ·intro a n ha;simp only[qY,fD,ax,sS]
theorem EB(p:dh)(sl:List dZ)(now x2:Int)(gs:List bA)(hl:gs.length≤1000)(h:J5 p gs):
  (aB ql (((0:Int),(gs.length:Int),()),gs,(p,()),((now,x2,()),()),sl,())=some (.inr ((),gs,(p,()),((now,x2,()),()),sl,()))∧gT p now gs=gs)∨
  ∃j,j<gs.length∧aB ql (((0:Int),(gs.length:Int),()),gs,(p,()),((now,x2,()),()),sl,())=some (.inl (((j:Int),()),gs,(p,()),((now,x2,()),()),sl,()))∧(gs.take (j+1)).filter (fun g=> !jh p.1 now g)=gs.take j:=by
 refine Ro (f:=ql) gs (fun g=> !jh p.1 now g) (fun i=>(((i:Int),(gs.length:Int),()),gs,(p,()),((now,x2,()),()),sl,())) (.inr ((),gs,(p,()),((now,x2,()),()),sl,())) (fun i=>.inl (((i:Int),()),gs,(p,()),((now,x2,()),()),sl,())) ?_ ?_
 ·intro i e he hi;have hw:=aL (i:=i) (by omega);have hb:decide ((0:Int)≤(i:Int)∧(i:Int)<(gs.length:Int))=true:=aim (by omega);have q:=h.idle (air he) now;simp only[ql,eO hi,hb,aip,he,q,eq_self,ax,sS];cases jh p.1 now e<;>simp only[hw,aiD,aiA,ax,sS]
 ·simp only[ql,fD,ax,sS]
theorem Bf(p:dh)(sl:List dZ)(now x2:Int)(gs:List bA)(hl:gs.length≤1000)(h:J5 p gs):∀(d src dst:Nat) (blk:List bA),src+d=gs.length→dst<src→blk.length=gs.length→
  blk.take dst=(gs.take src).filter (fun g=> !jh p.1 now g)→blk.drop src=gs.drop src→
  ∃(dst':Nat) (blk':List bA),aB uy (((src:Int),(dst:Int),()),blk,(p,()),((now,x2,()),()),sl,())=some (((dst':Int),()),blk',(p,()),((now,x2,()),()),sl,())∧dst'≤gs.length∧blk'.length=gs.length∧blk'.take dst'=gT p now gs:=by
 refine M8 (f:=uy) gs (fun g=> !jh p.1 now g) (fun src dst blk=>(((src:Int),(dst:Int),()),blk,(p,()),((now,x2,()),()),sl,())) (fun dst blk=>(((dst:Int),()),blk,(p,()),((now,x2,()),()),sl,())) ?_ ?_
 ·intro src dst blk e h1 h2 h3 he hm;have c1:decide ((src:Int)<((blk.length:Nat):Int))=true:=aim (by omega);have c2:decide ((0:Int)≤(src:Int)∧(src:Int)<(blk.length:Int))=true:=aim (by omega);have c3:decide ((0:Int)≤(dst:Int)∧(dst:Int)<(blk.length:Int))=true:=aim (by omega);have c4:decide (dst<blk.length)=true:=aim (by omega);have w1:aP ((src:Int)+1)=((src+1:Nat):Int):=aL (by omega);have w2:aP ((dst:Int)+1)=((dst+1:Nat):Int):=aL (by omega);have q:=h.idle hm now;simp only[uy,c1,c2,aip,he,q,eq_self,ax,sS];cases jh p.1 now e<;>simp only[c3,c4,w1,w2,aiD,aiA,ax,sS]
 ·intro dst blk h3;have:decide ((gs.length:Int)<((blk.length:Nat):Int))=false:=aio (by omega);simp only[uy,this,ax,sS]
theorem Az{A:Type}(l x:List A)(k:Nat)(h:k≤l.length):(bQ l k x).take k=l.take k:=by
 unfold bQ;rw[aiI,List.take_append_of_le_length (by rw[ai8];omega),List.take_take,Nat.min_self]
theorem Dm{A:Type}(l:List A)(z:A)(k:Nat)(h:k≤l.length):(bQ l k (List.replicate (l.length-k) z)).length=l.length:=by
 unfold bQ;simp;omega
def HV(p:dh)(s:InT)(now:Int)(o:Option (Unit×((Int×(Nat×Nat)×Int×Unit)×Unit)×List uZ×List bA×List dZ×Unit)):Prop:=
 ∃(n:Nat) (blk:List bA),o=some ((),((now,(0,n),bg s,()),()),Br p s now,blk,bV s,())∧n≤blk.length∧blk.take n=gT p now (vC p s now)
theorem Jz{p:dh}{s:InT}{now:Int}{A:Type}{o:Option A}{f:A→Option (Unit×((Int×(Nat×Nat)×Int×Unit)×Unit)×List uZ×List bA×List dZ×Unit)}(x:A)(h:o=some x)(h2:HV p s now (f x)):HV p s now (o.bind f):=by
 rw[h];exact h2
theorem aa3{p:dh}{s:InT}{now:Int}(h:RI p s now):HV p s now (m75 ((p,s,now,()),())):=by
 have hl:=h.len;have hv:∀g∈bO s,VG g:=fun g hg=>(h.nJ g hg).1
 have g1:=Da h;have g2:=EK h;have l1:(lm p s now).length=(bO s).length:=ais ..;have l2:(vC p s now).length=(bO s).length:=(ais ..).trans l1;have hv1:∀g∈lm p s now,VG g:=fun g hg=>(g1 g hg).1
 have q1:=uV s (by omega) hv h.F5;have q2:=Km p s now h now (bg s) 0 0;have q3:=P5 p (bV s) h.F5 h.rs now h.now (sF p s now) (WI hv1 (by omega)) (lm p s now) (by omega) g1 (bg s) 0 0;have hfe:nP (lm p s now)=sF p s now:=Rh _;have hfb:=RH hv1 (by omega);unfold m75;refine Jz _ q1 ?_;refine Jz _ q2 ?_;simp only[hfb,hfe,eq_self,ax,sS];refine Jz _ q3 ?_;have t2:(lm p s now).map (rW p (bV s) now (sF p s now))=vC p s now:=rfl;have tn:(lm p s now).flatMap (AO p (bV s) now (sF p s now))=Br p s now:=rfl;rw[t2,tn];unfold HV;generalize vC p s now=G at g2 l2 ⊢;rcases EB p (bV s) now (bg s) G (by omega) g2 with⟨e,hf⟩|⟨j,hj,e,hf⟩
 ·rw[e];simp only[eq_self,ajo,ax,sS];exact⟨G.length,G,rfl,aiy _,by rw[ajl,hf]⟩
 ·have bj:((j:Int)== -1)=false:=ai6.2 (by omega);have wj:aP ((j:Int)+1)=((j+1:Nat):Int):=aL (by omega);rw[e];simp only[eq_self,bj,wj,ax,sS];obtain⟨dst,blk,e2,h3,h4,h5⟩:=Bf p (bV s) now (bg s) G (by omega) g2 (G.length-(j+1)) (j+1) j G (by omega) (by omega) rfl hf.symm rfl;rw[e2];have c1:decide ((0:Int)≤(dst:Int))=true:=aim (by omega);have c2:decide (dst≤blk.length∧blk.length≤blk.length)=true:=aim ⟨by omega,aiy _⟩;have c3:decide (dst+(blk.length-dst)≤blk.length)=true:=aim (by omega);have hz:∀z:bA,(bQ blk dst (List.replicate (blk.length-dst) z)).length=blk.length:=fun z=>Dm blk z dst (by omega)
  have c4:∀z:bA,decide (0≤dst∧dst≤(bQ blk dst (List.replicate (blk.length-dst) z)).length)=true:=fun z=>aim ⟨aiN _,by rw[hz];omega⟩
  have c5:∀z:bA,decide ((bQ blk dst (List.replicate (blk.length-dst) z)).length=G.length)=true:=fun z=>aim (by rw[hz];omega)
  simp only[c1,c2,c3,c4,c5,aip,eq_self,ax,sS];exact⟨dst,_,rfl,by rw[hz];omega,(Az blk _ dst (by omega)).trans h5⟩
def lq(p:dh)(s:InT)(now:Int):Int×InT×List uZ:=
 if jK p s=false then(8,(0,[],[],0,()),[])else if BX (dM s) now≠0 then(BX (dM s) now,(0,[],[],0,()),[])else(0,BJ p s now,Br p s now)
structure VI(p:dh)(s:InT):Prop where
 gy:DV p=0
 now:0≤dM s∧dM s≤8589934592
 len:(bO s).length≤64
 F5:ig (bV s)=0
 next:1≤bg s
 ids:∀x∈bV s,x.1<bg s
 vX:yM (uY p (dM s)) none (bO s)=true
theorem jb{p:dh}{s:InT}:jK p s=true↔VI p s:=by
 unfold jK inst;simp only[ai7,aiU,aiP];exact⟨fun⟨a,b,c,d,e,f,g⟩=>⟨a,b,c,d,e,f,g⟩,fun h=>⟨h.gy,h.now,h.len,h.F5,h.next,h.ids,h.vX⟩⟩
theorem VI.nJ{p:dh}{s:InT}(h:VI p s)(hp:zx p)(hs:zm s):J5 p (bO s):=by
 intro g hg;obtain⟨hv,_⟩:=hs.vX g hg;obtain⟨q,hb⟩:=wW h.vX g hg;unfold uY at hb;simp only[aje,ajs]at hb;obtain⟨r,hr⟩:=KC hv hb.1;exact⟨hv,r,hr,DR hp.rt (jg h.gy).1 r (air hr)⟩
theorem VI.tk{p:dh}{s:InT}(h:VI p s)(hp:zx p)(hs:zm s){now:Int}(hn:0≤now∧now≤8589934592):RI p s now:=
 ⟨by have:=h.len;omega,h.nJ hp hs,hs.F5,hp.rs,⟨(jg h.gy).2.2.1,(jg h.gy).2.2.2⟩,hn⟩
theorem RU(s:InT)(t:Int):m67 ((s,t,()),())=some ((BX (dM s) t,()),()):=by
 unfold m67 BX;by_cases h1:t<s.1
 ·simp[h1]
 ·by_cases h2:t>8589934592<;>simp[h1,h2]
theorem mD{now t:Int}(h:BX now t=0)(h0:0≤now):0≤t∧t≤8589934592∧now≤t:=by
 unfold BX at h;split at h
 ·cases h
 ·split at h
  ·cases h
  ·omega
abbrev LG(a:bA)(rt:Int)(k:ByteArray):Prop:=a.1<rt∨(a.1=rt∧Lt a.2.1 k)
theorem wN{a:bA}{rt:Int}{k:ByteArray}:jy a rt k=true↔LG a rt k:=by
 unfold jy LG Lt;simp
theorem Eh{a b:bA}{rt:Int}{k:ByteArray}(h:LG a b.1 b.2.1)(h2:LG b rt k):LG a rt k:=by
 rcases h with h|⟨h,h'⟩<;>rcases h2 with h2|⟨h2,h2'⟩
 ·exact .inl (by omega)
 ·exact .inl (by omega)
 ·exact .inl (by omega)
 ·exact .inr ⟨by omega,lt_trans h' h2'⟩
def J6(gs:List bA):Prop:=gs.Pairwise fun a b=>LG a b.1 b.2.1
theorem wh{p:dh}{now:Int}:∀{gs:List bA} {q:Option bA},yM (uY p now) q gs=true→J6 gs∧∀a,q=some a→∀b∈gs,LG a b.1 b.2.1
 | [],_,_=>⟨List.Pairwise.nil,fun _ _ b hb=>by cases hb⟩
 |g::r,q,h=>by
  unfold yM at h;rw[ai7]at h;obtain⟨h1,h2⟩:=h;obtain⟨u1,u2⟩:=wh h2;have h1:uY p now q g=false:=by simpa using h1
  refine⟨List.pairwise_cons.2 ⟨u2 g rfl,u1⟩,fun a ha b hb=> ?_⟩;subst ha;unfold uY at h1;simp only[aje,Bool.not_eq_false']at h1;have hag:=wN.1 h1.2.2.1;rcases aiV.1 hb with rfl|hb
  ·exact hag
  ·exact Eh hag (u2 g rfl b hb)
def iQ(rt:Int)(k:ByteArray):List bA→Nat
 | []=>0
 |g::r=>if jy g rt k=true then iQ rt k r+1 else 0
def BQ(rt:Int)(k:ByteArray)(gs:List bA):Bool:=match gs[iQ rt k gs]? with|some g=>decide (g.1=rt)&&decide (g.2.1=k)|none=>false
theorem GR(rt:Int)(k:ByteArray):∀gs:List bA,iQ rt k gs≤gs.length
 | []=>aiy _
 |g::r=>by
  unfold iQ;split
  ·have:=GR rt k r;simp;omega
  ·exact aiN _
theorem Jd{rt:Int}{k:ByteArray}:∀{gs:List bA} {i:Nat},i≤gs.length→(∀(j:Nat) g,j<i→gs[j]?=some g→jy g rt k=true)→(∀(j:Nat) g,i≤j→gs[j]?=some g→jy g rt k=false)→iQ rt k gs=i
 | [],i,h,_,_=>by simp at h;subst h;rfl
 |g::r,0,_,_,h2=>by
  unfold iQ;rw[if_neg (by rw[h2 0 g (aiy _) rfl];simp)]
 |g::r,i+1,h,h1,h2=>by
  unfold iQ;rw[if_pos (h1 0 g (by omega) rfl),Jd (i:=i) (by simpa using h) (fun j x hj hx=>h1 (j+1) x (by omega) (by simpa using hx)) (fun j x hj hx=>h2 (j+1) x (by omega) (by simpa using hx))]
theorem FO{rt:Int}{k:ByteArray}:∀{gs:List bA} {j:Nat} {g:bA},j<iQ rt k gs→gs[j]?=some g→jy g rt k=true
 | [],j,g,h,_=>by simp[iQ]at h
 |x::r,j,g,h,hg=>by
  unfold iQ at h;split at h
  ·rename_i hx
   cases j with
   |zero=>simp at hg;subst hg;exact hx
   |succ j=>exact FO (gs:=r) (j:=j) (by omega) (by simpa using hg)
  ·omega
theorem OL{rt:Int}{k:ByteArray}:∀{gs:List bA} {g:bA},gs[iQ rt k gs]?=some g→jy g rt k=false
 | [],g,h=>by simp at h
 |x::r,g,h=>by
  unfold iQ at h;split at h
  ·exact OL (gs:=r) (by simpa using h)
  ·rename_i hx;simp at h;subst h;simpa using hx
theorem Nc(a:bA)(rt:Int)(k:ByteArray):(qy a rt k==0)=(decide (a.1=rt)&&decide (a.2.1=k)):=by
 unfold qy;by_cases h:a.1=rt
 ·rw[if_pos h,aim h,aiT];by_cases hk:a.2.1=k
  ·rw[uN.2 hk,aim hk];rfl
  ·rw[aio hk];exact ai6.2 (fun e=>hk (uN.1 e))
 ·rw[if_neg h,aio h,ajp];exact ai6.2 (by omega)
def GSm(gs:List bA):Prop:=∀g∈gs,0≤g.1∧g.1≤1048576
theorem bsearch(gs:List bA)(hl:gs.length≤1000)(hs:GSm gs)(hu:J6 gs)(rt:Int)(hr:0≤rt∧rt≤1048576)(k:ByteArray):
  aB qb ((k,(gs.length:Int),0,(gs.length:Int),()),gs,(rt,()),())=some ((k,(iQ rt k gs:Int),(gs.length:Int),()),gs,(rt,()),()):=by
 have hup:=List.pairwise_iff_getElem.1 hu
 have mono:∀(a b:Nat) (x y:bA),gs[a]?=some x→gs[b]?=some y→a≤b→jy x rt k=false→jy y rt k=false:=by
  intro a b x y ha hb hab hx;by_cases e:a=b
  ·subst e;rw[ha]at hb;injection hb with hb;subst hb;exact hx
  ·obtain⟨h1,h1'⟩:=ain.1 ha;obtain⟨h2,h2'⟩:=ain.1 hb;have:=hup a b h1 h2 (by omega);rw[h1',h2']at this;cases hy:jy y rt k
   ·rfl
   ·rw[wN.2 (Eh this (wN.1 hy))]at hx;cases hx
 have go:∀(d lo hi:Nat),hi-lo≤d→lo≤hi→hi≤gs.length→(∀(j:Nat) g,j<lo→gs[j]?=some g→jy g rt k=true)→(∀(j:Nat) g,hi≤j→gs[j]?=some g→jy g rt k=false)→
   aB qb ((k,(hi:Int),(lo:Int),(gs.length:Int),()),gs,(rt,()),())=some ((k,(iQ rt k gs:Int),(gs.length:Int),()),gs,(rt,()),()):=by
  intro d
  induction d with
  |zero=>
   intro lo hi h0 h1 h2 h3 h4;have:lo=hi:=by omega
   subst this;rw[Jd h2 h3 h4];refine aC ?_;simp only[qb,fD,ax,sS]
  |succ d ih=>
   intro lo hi h0 h1 h2 h3 h4;by_cases hlt:lo<hi
   ·have hm:=half lo hi (by omega);have hmid:(lo+hi)/ 2<gs.length:=by omega
    obtain⟨e,he⟩:=getD_some hmid;have dl:decide ((lo:Int)<(hi:Int))=true:=aim (by omega);have d1:decide ((0:Int)≤1)=true:=rfl;have d2:decide ((0:Int)≤(((lo+hi)/ 2:Nat):Int)∧(((lo+hi)/ 2:Nat):Int)<(gs.length:Int))=true:=aim (by omega);have hw:aP ((((lo+hi)/ 2:Nat):Int)+1)=(((lo+hi)/ 2+1:Nat):Int):=aL (by omega);have q:=NA e rt k (hs e (air he)) hr;cases hc:jy e rt k
    ·have dc:decide (qy e rt k<0)=false:=by rw[Ap,hc]
     rw[←ih lo ((lo+hi)/ 2) (by omega) (by omega) (by omega) h3 (fun j m hj hjm=>mono _ j e m he hjm hj hc)];refine aM ?_;simp only[qb,dl,d1,hm,d2,aip,he,q,dc,ax,sS]
    ·have dc:decide (qy e rt k<0)=true:=by rw[Ap,hc]
     rw[←ih ((lo+hi)/ 2+1) hi (by omega) (by omega) h2 (fun j m hj hjm=>by
      cases hx:jy m rt k
      ·exact absurd (mono j _ m e hjm he (by omega) hx) (by rw[hc];simp)
      ·rfl) h4]
     refine aM ?_;simp only[qb,dl,d1,hm,d2,aip,he,q,dc,hw,ax,sS]
   ·have:lo=hi:=by omega
    subst this;rw[Jd h2 h3 h4];refine aC ?_;simp only[qb,fD,ax,sS]
 exact go _ 0 gs.length (aiy _) (aiN _) (aiy _) (fun j m hj=>by omega) (fun j m hj hjm=>by
  have:=(ain.1 hjm).1;omega)
def newG(rt:Int)(k:ByteArray):bA:=(rt,k,[],-1,-1,())
def Bp(p:dh)(a:FW)(i:Nat):ByteArray:=zC (C8 p i) a.2.1
def alG(p:dh)(a:FW)(gs:List bA)(i:Nat):List bA:=
 if BQ i (Bp p a i) gs=true then gs else gs.take (iQ i (Bp p a i) gs)++ [newG i (Bp p a i)]++gs.drop (iQ i (Bp p a i) gs)
def VO(p:dh)(a:FW)(gs:List bA)(i:Nat):Int×MK×List bM:=
 mQ (((alG p a gs i)[iQ i (Bp p a i) gs]?).getD (newG 0 ByteArray.empty)) (C8 p i) a.2.1 a.2.2.1 a.1
def rq(p:dh)(a:FW)(gs:List bA)(i:Nat):Option (List bA):=
 if BQ i (Bp p a i) gs=false∧a.2.2.1=false then some gs
 else if(VO p a gs i).1≠0 then none else some ((alG p a gs i).set (iQ i (Bp p a i) gs) (vX (VO p a gs i).2.1 (VO p a gs i).2.2))
theorem Nu{rt:Int}(k:ByteArray)(h:0≤rt):VG (newG rt k):=⟨aiN _,h,⟨by show(-1:Int)≤ -1;omega,by show(-1:Int)≤8589934592;omega⟩,⟨by show(-1:Int)≤ -1;omega,by show(-1:Int)≤8589934592;omega⟩,fun m hm=>(by cases hm),List.Pairwise.nil⟩
structure Ao(p:dh)(gs:List bA)(n:Nat):Prop where
 nJ:J5 p gs
 up:J6 gs
 len:gs.length≤n
theorem Ao.small{p:dh}{gs:List bA}{n:Nat}(h:Ao p gs n)(hp:p.1.length≤24):GSm gs:=by
 intro g hg;obtain⟨hv,r,hr,_⟩:=h.nJ g hg;have h1:=hv.rt;have:=(ain.1 hr).1;exact⟨h1,by omega⟩
theorem NM(p:dh)(a:FW)(gs:List bA)(i:Nat):∃g,(alG p a gs i)[iQ i (Bp p a i) gs]?=some g∧g.1=i∧g.2.1=Bp p a i∧(g∈gs∨g=newG i (Bp p a i)):=by
 unfold alG;cases hh:BQ i (Bp p a i) gs
 ·rw[if_neg (by simp)];refine⟨newG i (Bp p a i),?_,rfl,rfl,.inr rfl⟩;have hle:=GR i (Bp p a i) gs;rw[aiI,ai0 (by rw[ai8];omega),ai8,show iQ i (Bp p a i) gs-min (iQ i (Bp p a i) gs) gs.length=0 by omega];rfl
 ·rw[if_pos rfl];unfold BQ at hh
  cases hg:gs[iQ i (Bp p a i) gs]? with
  |none=>rw[hg]at hh;cases hh
  |some g=>
   rw[hg]at hh;simp only[ai7,aiU]at hh;exact⟨g,rfl,hh.1,hh.2,.inl (air hg)⟩
theorem Kc{g:bA}{r:bU}{l:List LT}{on:Bool}{t:Int}(h:(mQ g r l on t).1=0):(mQ g r l on t).2.1.1=g.1∧(mQ g r l on t).2.1.2.1=g.2.1:=by
 unfold mQ at h ⊢;dsimp only at h ⊢;by_cases hh:hit (fU (d9 l)) (aN g)=true
 ·rw[if_pos hh]at h ⊢;obtain⟨m,hm,_⟩:=wU hh;rw[hm]at h ⊢;dsimp only at h ⊢;split
  ·exact⟨rfl,rfl⟩
  ·split
   ·exact⟨rfl,rfl⟩
   ·split<;>exact⟨rfl,rfl⟩
 ·rw[if_neg hh]at h ⊢;split
  ·rename_i hon;rw[if_pos hon]at h;split
   ·rename_i hl;rw[if_pos hl]at h;cases h
   ·exact⟨rfl,rfl⟩
  ·exact⟨rfl,rfl⟩
theorem aaP{gs:List bA}(hu:J6 gs)(rt:Int)(k:ByteArray)(hh:BQ rt k gs=false):J6 (gs.take (iQ rt k gs)++ [newG rt k]++gs.drop (iQ rt k gs)):=by
 have hu':=hu;unfold J6 at hu' ⊢;rw[aiI,List.pairwise_append];rw[←aj1 (iQ rt k gs) gs,List.pairwise_append]at hu'
 have ha:∀x∈gs.take (iQ rt k gs),LG x rt k:=fun x hx=>by
  obtain⟨j,hj,rfl⟩:=List.mem_take_iff_getElem.1 hx;exact wN.1 (FO (j:=j) (by omega) (aiw _))
 have hb:∀x∈gs.drop (iQ rt k gs),LG (newG rt k) x.1 x.2.1:=fun x hx=>by
  have hnot:∀y,gs[iQ rt k gs]?=some y→LG (newG rt k) y.1 y.2.1:=fun y hy=>by
   have h1:=OL hy;unfold BQ at hh;rw[hy]at hh;simp only[Bool.and_eq_false_iff,ajs]at hh;have h2:¬ LG y rt k:=fun h=>by rw[wN.2 h]at h1;cases h1
   unfold LG at h2 ⊢
   show rt<y.1∨(rt=y.1∧Lt k y.2.1)
   by_cases e:y.1=rt
   ·rcases hh with hh|hh
    ·exact absurd e hh
    ·rcases Ht k y.2.1 with h|h|h
     ·exact .inr ⟨e.symm,h⟩
     ·exact absurd h.symm hh
     ·exact absurd (.inr ⟨e,h⟩) h2
   ·exact .inl (by
     have:¬ y.1<rt:=fun h=>h2 (.inl h)
     omega)
  obtain⟨j,hj,rfl⟩:=List.mem_drop_iff_getElem.1 hx;have hil:iQ rt k gs<gs.length:=by omega
  have h0:=hnot _ (aiw hil);by_cases e:j=0
  ·subst e;exact h0
  ·have:=(List.pairwise_iff_getElem.1 hu) (iQ rt k gs) (iQ rt k gs+j) hil (by omega) (by omega);exact Eh h0 this
 refine⟨hu'.1,?_,fun x hx y hy=> ?_⟩
 ·rw[aj2];exact List.pairwise_cons.2 ⟨hb,hu'.2.1⟩
 ·rw[aj2]at hy;rcases aiV.1 hy with rfl|hy
  ·exact ha x hx
  ·exact hu'.2.2 x hx y hy
theorem aa6{gs:List bA}(hu:J6 gs){i:Nat}{g x:bA}(hg:gs[i]?=some g)(h1:x.1=g.1)(h2:x.2.1=g.2.1):J6 (gs.set i x):=by
 unfold J6 at hu ⊢;rw[List.pairwise_iff_getElem]at hu ⊢;obtain⟨hil,hig⟩:=ain.1 hg
 have rd:∀(j:Nat) (hj:j<(gs.set i x).length),(gs.set i x)[j].1=(gs[j]'(by simpa using hj)).1∧(gs.set i x)[j].2.1=(gs[j]'(by simpa using hj)).2.1:=by
  intro j hj;rw[List.getElem_set];split
  ·rename_i e;subst e;rw[hig];exact⟨h1,h2⟩
  ·exact⟨rfl,rfl⟩
 intro a b ha hb hab;have:=hu a b (by simpa using ha) (by simpa using hb) hab;unfold LG at this ⊢;rw[(rd a ha).1,(rd a ha).2,(rd b hb).1,(rd b hb).2];exact this
theorem GN{p:dh}{a:FW}{gs gs':List bA}{n i:Nat}(h:Ao p gs n)(hi:∃r,p.1[i]?=some r∧RR r)(hl:bZ a.2.1=true)(ht:0≤a.1∧a.1≤8589934592)(e:rq p a gs i=some gs'):Ao p gs' (n+1):=by
 obtain⟨r,hr,rr⟩:=hi;unfold rq at e;split at e
 ·cases e;exact⟨h.nJ,h.up,aja h.len (Nat.le_succ n)⟩
 ·split at e
  ·cases e
  ·rename_i h0;simp only[ne_eq,Decidable.not_not]at h0;cases e;obtain⟨g,hg,g1,g2,hm⟩:=NM p a gs i;have hre:C8 p ((i:Nat):Int)=r:=vS (by rw[aip];exact hr)
   have hv:VG g:=by
    rcases hm with hm|rfl
    ·exact(h.nJ g hm).1
    ·exact Nu _ (by omega)
   have ha:VO p a gs i=mQ g r a.2.1 a.2.2.1 a.1:=by unfold VO;rw[hg,hre];rfl
   rw[ha]at h0 ⊢;obtain⟨k1,k2⟩:=Kc h0;have hx:VG (vX (mQ g r a.2.1 a.2.2.1 a.1).2.1 (mQ g r a.2.1 a.2.2.1 a.1).2.2):=abU hv rr hl _ ht
   have inv:Ao p (alG p a gs i) (n+1):=by
    unfold alG;cases hh:BQ i (Bp p a i) gs
    ·rw[if_neg (by simp)];refine⟨fun x hx=> ?_,aaP h.up _ _ hh,?_⟩
     ·simp only[ai9,ajd]at hx;rcases hx with(hx|rfl)|hx
      ·exact h.nJ x (List.mem_of_mem_take hx)
      ·exact⟨Nu _ (by omega),r,by show p.1[((i:Nat):Int).toNat]?=some r;rw[aip];exact hr,rr⟩
      ·exact h.nJ x (List.mem_of_mem_drop hx)
     ·have:=h.len;simp only[aiB,ai8,aiQ,List.length_singleton];omega
    ·rw[if_pos rfl];exact⟨h.nJ,h.up,aja h.len (Nat.le_succ n)⟩
   refine⟨fun x hx'=> ?_,aa6 inv.up hg k1 k2,by rw[ajc];exact inv.len⟩;rcases mem_set hx' with hx'|rfl
   ·exact inv.nJ x hx'
   ·exact⟨hx,r,by
     show p.1[((mQ g r a.2.1 a.2.2.1 a.1).2.1.1).toNat]?=some r
     rw[k1,g1,aip];exact hr,rr⟩
structure Nf(p:dh)(a:FW)(gs:List bA)(i:Nat):Prop where
 inv:Ao p gs 1000
 rl:p.1.length≤24
 rt:∃r,p.1[i]?=some r∧RR r
 lab:bZ a.2.1=true
 at':0≤a.1∧a.1≤8589934592
theorem Nf.key{p:dh}{a:FW}{gs:List bA}{i:Nat}(h:Nf p a gs i){r:bU}(hr:p.1[i]?=some r)(rr:RR r):
  m69 ((r,a.2.1,()),())=some ((Bp p a i,()),())∧m20 ((r,a.2.1,()),())=some ((Bp p a i,()),()):=by
 have hre:C8 p ((i:Nat):Int)=r:=vS (by rw[aip];exact hr);unfold Bp;rw[hre];exact⟨V5 r a.2.1 (mW h.lab) rr.z.2.1,aa7 r a.2.1 (mW h.lab) rr.z.2.1⟩
theorem NP{p:dh}{a:FW}{gs:List bA}{i:Nat}(h:Nf p a gs i)(hl:gs.length≤900)(l:List Nat)(q:Nat)(hq:l[q]?=some i)(hll:l.length≤1000)(now next:Int)(sl:List dZ):
  uF (((q:Int),(l.length:Int),()),((0,0,()),()),((now,next,()),()),(a,()),(p,()),ints l,gs,sl,())=
   some (match rq p a gs i with
    |some gs'=>.inl ((((q+1:Nat):Int),(l.length:Int),()),((0,0,()),()),((now,next,()),()),(a,()),(p,()),ints l,gs',sl,())
    |none=>.inr (.inl ((5,()),((0,0,()),()),()))):=by
 obtain⟨r,hr,rr⟩:=h.rt;have hql:=(ain.1 hq).1;have hil:=(ain.1 hr).1;have hrl:=h.rl;have il:(ints l).length=l.length:=by simp[ints]
 have hqi:(ints l)[((q:Int)).toNat]?=some (i:Int):=by rw[aip];simp[ints,hq]
 have b1:decide ((0:Int)≤(q:Int)∧(q:Int)<((ints l).length:Int))=true:=aim (by rw[il];omega);have hw:=aL (i:=q) (by omega);have hk:=(h.key hr rr).1;have hbs:=bsearch gs (by omega) (h.inv.small h.rl) h.inv.up (i:Int) ⟨by omega,by omega⟩ (Bp p a i);obtain⟨g,hg,g1,g2,hm⟩:=NM p a gs i;have hre:C8 p ((i:Nat):Int)=r:=vS (by rw[aip];exact hr)
 have hv:VG g:=by
  rcases hm with hm|rfl
  ·exact(h.inv.nJ g hm).1
  ·exact Nu _ (by omega)
 have hadd:=aeU hv rr h.lab a.2.2.1 h.at';have ha:VO p a gs i=mQ g r a.2.1 a.2.2.1 a.1:=by unfold VO;rw[hg,hre];rfl
 have hri:p.1[((i:Int)).toNat]?=some r:=by rw[aip];exact hr
 have hrow:∀{B:Type} (F:bU→Option B),rR p.1 (i:Int) F=F r:=fun F=>jr (by omega) hri F
 have hple:=GR (i:Int) (Bp p a i) gs;have hx0:BQ i (Bp p a i) gs=match gs[iQ i (Bp p a i) gs]? with|some g=>decide (g.1=(i:Int))&&decide (g.2.1=Bp p a i)|none=>false:=rfl
 have hsm:=h.inv.small h.rl;unfold rq;rw[ha];unfold alG at hg ⊢;generalize Bp p a i=k at *;generalize hP:iQ (i:Int) k gs=P at *;unfold uF;simp only[eO hql,b1,hqi,aO,hrow,ax,sS];simp only[hk,hbs,ax,sS]
 have key:∀{B:Type} (F:((Int×Bool×Unit)×(List bA×(Int×Unit)×Unit))→Option B),
   ((bif decide ((P:Int)<(gs.length:Int))then(bif decide ((0:Int)≤(P:Int)∧(P:Int)<(gs.length:Int))then
     (gs[((P:Int)).toNat]?).bind fun e285=>(m84 ((e285,(i:Int),k,()),())).bind fun u286=>some (((P:Int),(u286.1.1==0),()),(gs,((i:Int),()),()))
     else none)else some (((P:Int),false,()),(gs,((i:Int),()),())):Option ((Int×Bool×Unit)×(List bA×(Int×Unit)×Unit))).bind F)=F (((P:Int),BQ i k gs,()),(gs,((i:Int),()),())):=by
  intro B F;rw[hx0];by_cases hpl:P<gs.length
  ·obtain⟨e,he⟩:=getD_some hpl;have d1:decide ((P:Int)<(gs.length:Int))=true:=aim (by omega);have d2:decide ((0:Int)≤(P:Int)∧(P:Int)<(gs.length:Int))=true:=aim (by omega);have q84:=NA e (i:Int) k (hsm e (air he)) ⟨by omega,by omega⟩;simp only[d1,d2,aip,he,q84,Nc,ax,sS]
  ·have d1:decide ((P:Int)<(gs.length:Int))=false:=aio (by omega);rw[show gs[P]?=none from aji (by omega)];simp only[d1,ax,sS]
 rw[key];simp only[eq_self,ax,sS];have hgP:(if BQ (i:Int) k gs=true then gs else List.take P gs++ [newG (i:Int) k]++List.drop P gs)[((P:Int)).toNat]?=some g:=by rw[aip];exact hg
 have hlenG:P<(if BQ (i:Int) k gs=true then gs else List.take P gs++ [newG (i:Int) k]++List.drop P gs).length:=(ain.1 hg).1;have c1:∀z:bA,decide ((0:Int)≤(P:Int)∧(P:Int)≤(gs.length:Int)∧gs.length≤4294967295∧ [z].length=1)=true:=fun z=>aim ⟨by omega,by omega,by omega,rfl⟩
 cases hh:BQ (i:Int) k gs
 ·cases hf:a.2.2.1
  ·simp only[hw,if_true,and_self,aiA,ax,sS]
  ·rw[hh]at hgP hlenG;simp only[ai2,if_false]at hgP hlenG;have c2:decide ((0:Int)≤(P:Int)∧(P:Int)<((List.take P gs++ [newG (i:Int) k]++List.drop P gs).length:Int))=true:=aim (by omega);have c3:decide (P<(List.take P gs++ [newG (i:Int) k]++List.drop P gs).length)=true:=aim hlenG;rw[hf]at hadd;unfold newG at hgP c2 c3;rw[aip]at hgP;simp only[m72,c1,eq_self,aiA,aiD,Bool.true_eq_false,ai2,and_false,if_false,Sd,ax,sS];simp only[aip,c2,c3,hgP,hrow,hf,hadd,Sd,ax,sS];generalize mQ g r a.2.1 true a.1=X;by_cases hX:X.1=0
   ·simp only[hX,aiM,ne_eq,not_true_eq_false,if_false,hw,vX,newG,ax,sS]
   ·simp only[ajg.2 hX,ne_eq,hX,ajK,if_true,ax,sS]
 ·rw[hh]at hgP hlenG;simp only[if_true]at hgP hlenG;have c2:decide ((0:Int)≤(P:Int)∧(P:Int)<(gs.length:Int))=true:=aim (by omega);have c3:decide (P<gs.length)=true:=aim hlenG;simp only[eq_self,c2,hgP,hrow,hadd,aiA,aiD,Bool.true_eq_false,ai2,false_and,if_false,if_true,Sd,ax,sS];generalize mQ g r a.2.1 a.2.2.1 a.1=X;by_cases hX:X.1=0
  ·simp only[hX,aiM,ne_eq,not_true_eq_false,if_false,hw,c3,aip,vX,ax,sS]
  ·simp only[ajg.2 hX,ne_eq,hX,ajK,if_true,ax,sS]
def zJ(p:dh)(a:FW):List Nat→List bA→Option (List bA)
 | [],gs=>some gs
 |i::r,gs=>(rq p a gs i).bind (zJ p a r)
theorem yJ{p:dh}{a:FW}(hlab:bZ a.2.1=true)(ht:0≤a.1∧a.1≤8589934592):∀{l:List Nat} {gs gs':List bA} {n:Nat},(∀i∈l,∃r,p.1[i]?=some r∧RR r)→Ao p gs n→zJ p a l gs=some gs'→Ao p gs' (n+l.length)
 | [],gs,gs',n,_,h,e=>by cases e;exact h
 |i::r,gs,gs',n,hl,h,e=>by
  obtain⟨g1,e1,e2⟩:=ajm.1 e;have:=yJ hlab ht (fun j hj=>hl j (by simp[hj])) (GN h (hl i (by simp)) hlab ht e1) e2;rw[aiR]
  rwa [show n+1+r.length=n+(r.length+1) by omega]at this
theorem NZ{p:dh}{a:FW}(hlab:bZ a.2.1=true)(ht:0≤a.1∧a.1≤8589934592)(hrl:p.1.length≤24)(l:List Nat)(hl:∀i∈l,∃r,p.1[i]?=some r∧RR r)(hll:l.length≤100)(now next:Int)(sl:List dZ)(gs:List bA)(hgs:Ao p gs 100):
  aB uF (((0:Int),(l.length:Int),()),((0,0,()),()),((now,next,()),()),(a,()),(p,()),ints l,gs,sl,())=
   some (match zJ p a l gs with
    |some gs'=>.inr ((),((0,0,()),()),((now,next,()),()),(p,()),gs',sl,())
    |none=>.inl ((5,()),((0,0,()),()),())):=by
 have key:∀(d q:Nat) (gs:List bA),q+d=l.length→Ao p gs (100+q)→
   aB uF (((q:Int),(l.length:Int),()),((0,0,()),()),((now,next,()),()),(a,()),(p,()),ints l,gs,sl,())=
    some (match zJ p a (l.drop q) gs with
     |some gs'=>.inr ((),((0,0,()),()),((now,next,()),()),(p,()),gs',sl,())
     |none=>.inl ((5,()),((0,0,()),()),())):=by
  intro d
  induction d with
  |zero=>
   intro q gs hq h;obtain rfl:q=l.length:=by omega
   rw[ajh];refine aC ?_;simp only[uF,fD,zJ,ax,sS]
  |succ d ih=>
   intro q gs hq h;obtain⟨i,hi,hd⟩:=drop_at (l:=l) (i:=q) (by omega);have hir:=hl i (air hi);have hlen:=h.len;have st:=NP (p:=p) (a:=a) (gs:=gs) (i:=i) ⟨⟨h.nJ,h.up,by omega⟩,hrl,hir,hlab,ht⟩ (by omega) l q hi (by omega) now next sl;rw[hd];unfold zJ
   cases hs:rq p a gs i with
   |none=>
    rw[hs]at st;exact aC st
   |some gs'=>
    rw[hs]at st;rw[aM st];exact ih (q+1) gs' (by omega) (by have:=GN h hir hlab ht hs;rwa [show 100+q+1=100+(q+1) by omega]at this)
 have:=key l.length 0 gs (by omega) hgs;rw[aiK]at this;exact this
theorem MR:Pg=ql:=rfl
theorem Kr:O6=uy:=rfl
abbrev sV:InT:=(0,[],[],0,())
def iy(p:dh)(s:InT)(a:FW):Int×InT:=
 if jK p s=false∨bZ a.2.1=false then(8,sV)else if BX (dM s) a.1≠0 then(BX (dM s) a.1,sV)
 else match zJ p a (kD p.1 a.2.1) (bO s)with
  |none=>(5,sV)
  |some gs=>if(gT p a.1 gs).length>64 then(5,sV)else(0,(a.1,gT p a.1 gs,bV s,bg s,()))
theorem Iq{p:dh}(hp:zx p)(h:mJ p.1=0)(x:List LT):(∀i∈kD p.1 x,∃r,p.1[i]?=some r∧RR r)∧(kD p.1 x).length≤24:=by
 have hl:=uK h;have tok:=UO h;unfold kD;split
 ·have hf:=fun j (hj:j∈eB p.1 x 400 0)=>(found tok hj).1
  refine⟨fun i hi=> ?_,?_⟩
  ·have:=hf i hi;exact⟨p.1[i],aiw this,DR hp.rt h _ (List.getElem_mem this)⟩
  ·have hnd:=BA tok x 400 0 (by omega) tok.pos
   have hp2:(eB p.1 x 400 0).Perm ((List.range p.1.length).filter fun j=>decide (j∈eB p.1 x 400 0)):=
    (List.perm_ext_iff_of_nodup hnd (List.nodup_range.filter _)).2 fun j=>by
     simp only[aj9,ajM,aiU];exact⟨fun hj=>⟨hf j hj,hj⟩,fun hj=>hj.2⟩
   have h1:=hp2.length_eq;have h2:=aj5 (fun j=>decide (j∈eB p.1 x 400 0)) (List.range p.1.length);rw[List.length_range]at h2;omega
 ·exact⟨fun i hi=>(by cases hi),aiN _⟩
def agk(V:Int×InT)(o:Option ((Int×Unit)×((Int×(Nat×Nat)×Int×Unit)×Unit)×List bA×List dZ×Unit)):Prop:=
 ∃(n:Nat) (blk:List bA),o=some ((V.1,()),((V.2.1,(0,n),V.2.2.2.2.1,()),()),blk,V.2.2.2.1,())∧n≤blk.length∧blk.take n=V.2.2.1
theorem Yt{p:dh}(hp:zx p){s:InT}(hs:zm s)(a:FW)(ha:PK a.2.1):agk (iy p s a) (VD ((p,s,a,()),())):=by
 have q1:=I5 p hp s hs;have q2:=Al a.2.1 ha;have q3:=RU s a.1;unfold iy;cases hv:jK p s
 ·rw[if_pos (.inl rfl)];rw[hv]at q1;unfold VD;simp only[q1,ax,sS];exact⟨0,[],rfl,aiy _,rfl⟩
 cases hlab:bZ a.2.1
 ·rw[if_pos (.inr rfl)];rw[hv]at q1;rw[hlab]at q2;unfold VD;simp only[q1,q2,ax,sS];exact⟨0,[],rfl,aiy _,rfl⟩
 rw[if_neg (by simp)];rw[hv]at q1;rw[hlab]at q2;have h:=jb.1 hv;by_cases hc:BX (dM s) a.1=0
 ·rw[if_neg (by simpa using hc)];rw[hc]at q3;obtain⟨n0,n1,n2⟩:=mD hc h.now.1;have hck:=(jg h.gy).1;have nJ:=h.nJ hp hs;obtain⟨f1,f2⟩:=Iq hp hck a.2.1;have hl:=h.len;have q4:=uV s (by omega) (fun g hg=>(nJ g hg).1) hs.F5;have q5:=abP p.1 hp.rt a.2.1 ha;have inv0:Ao p (bO s) 64:=⟨nJ,(wh h.vX).1,hl⟩
  have q6:=NZ hlab ⟨n0,n1⟩ (uK hck) (kD p.1 a.2.1) f1 (by omega) a.1 (bg s) (bV s) (bO s) ⟨nJ,(wh h.vX).1,by omega⟩;have il:((ints (kD p.1 a.2.1)).length:Int)=((kD p.1 a.2.1).length:Int):=by simp[ints]
  unfold VD;simp only[q1,q2,q3,q4,q5,aiM,il,ax,sS];rw[q6]
  cases hr:zJ p a (kD p.1 a.2.1) (bO s)with
  |none=>exact⟨0,[],rfl,aiy _,rfl⟩
  |some gs=>
   have inv:=yJ hlab ⟨n0,n1⟩ f1 inv0 hr;have g2:=inv.nJ;have l2:=inv.len;simp only[MR,Kr,ax,sS];have big64:∀n:Nat,n=(gT p a.1 gs).length→decide (((n:Nat):Int)>64)=decide ((gT p a.1 gs).length>64):=fun n hn=>ajt.2 (by omega)
   rcases EB p (bV s) a.1 (bg s) gs (by omega) g2 with⟨e,hf⟩|⟨j,hj,e,hf⟩
   ·rw[e];simp only[eq_self,ajo,big64 gs.length (by rw[hf]),ax,sS];by_cases hb:(gT p a.1 gs).length>64
    ·rw[if_pos hb];simp only[hb,ajy,ax,sS];exact⟨0,[],rfl,aiy _,rfl⟩
    ·rw[if_neg hb];simp only[hb,aj4,ax,sS];exact⟨gs.length,gs,rfl,aiy _,by rw[ajl];exact hf.symm⟩
   ·have bj:((j:Int)== -1)=false:=ai6.2 (by omega);have wj:aP ((j:Int)+1)=((j+1:Nat):Int):=aL (by omega);rw[e];simp only[eq_self,bj,wj,ax,sS];obtain⟨dst,blk,e2,h3,h4,h5⟩:=Bf p (bV s) a.1 (bg s) gs (by omega) g2 (gs.length-(j+1)) (j+1) j gs (by omega) (by omega) rfl hf.symm rfl;rw[e2];have c1:decide ((0:Int)≤(dst:Int))=true:=aim (by omega);have c2:decide (dst≤blk.length∧blk.length≤blk.length)=true:=aim ⟨by omega,aiy _⟩;have c3:decide (dst+(blk.length-dst)≤blk.length)=true:=aim (by omega);have hz:∀z:bA,(bQ blk dst (List.replicate (blk.length-dst) z)).length=blk.length:=fun z=>Dm blk z dst (by omega)
    have c4:∀z:bA,decide (0≤dst∧dst≤(bQ blk dst (List.replicate (blk.length-dst) z)).length)=true:=fun z=>aim ⟨aiN _,by rw[hz];omega⟩
    have c5:∀z:bA,decide ((bQ blk dst (List.replicate (blk.length-dst) z)).length=gs.length)=true:=fun z=>aim (by rw[hz];omega)
    have hd:dst=(gT p a.1 gs).length:=by
     have:=congrArg List.length h5;rw[ai8]at this;omega
    simp only[c1,c2,c3,c4,c5,aip,eq_self,big64 dst hd,ax,sS];by_cases hb:(gT p a.1 gs).length>64
    ·rw[if_pos hb];simp only[hb,ajy,ax,sS];exact⟨0,[],rfl,aiy _,rfl⟩
    ·rw[if_neg hb];simp only[hb,aj4,ax,sS];exact⟨dst,_,rfl,by rw[hz];omega,(Az blk _ dst (by omega)).trans h5⟩
 ·rw[if_pos hc];unfold VD;simp only[q1,q2,q3,ajg.2 hc,ax,sS];exact⟨0,[],rfl,aiy _,rfl⟩
end Go.Proofs.YtchnmpafhfjimaaGreatDoor
namespace Go.Proofs.YtchnmpafhfjimaaGreatDoor
open Go Go.Abs
def U0(t:Int)(g:bA):bA:=(g.1,g.2.1,g.2.2.1,t,g.2.2.2.2)
def Eu(t:Int)(g:bA):Bool:=(gK g== -1)||decide (gK g>t)
def lD(t:Int)(g:bA):bA:=bif rM (aN g)&&Eu t g then U0 t g else g
theorem MF:OQ=u6:=rfl
theorem Y9(ms:List bM)(hl:ms.length≤256):∃j:Nat,aB xk (((0:Int),ms,(ms.length:Int),()),())=some (bif rM ms then .inl (((j:Int),()),())else .inr ((),())):=by
 obtain⟨j,h⟩:=Dc (f:=xk) ms (fun i=>(((i:Int),ms,(ms.length:Int),()),())) (fun m=>gY m) (fun i=>.inl (((i:Int),()),())) (.inr ((),())) (fun i e he hi=>by
  have hw:=aL (i:=i) (by omega);simp only[xk,XB,eO hi,aO,aG he,ax,sS]
  cases hm:e.2.2.2.2.2.1<;>simp only[hw,hm,aiD,aiA,ax,sS]) (by simp only[xk,fD,ax,sS])
 refine⟨j,h.trans ?_⟩
 have:rM ms= !ms.all (fun m=>gY m):=by
  unfold rM;rw[List.not_all_eq_any_not]
 rw[this];cases ms.all (fun m=>gY m)<;>rfl
theorem Oh(t:Int)(gs:List bA)(hl:gs.length≤1000)(hv:∀g∈gs,VG g)(x1 x2:Int)(sl:List dZ):
  aB u6 (((0:Int),t,(gs.length:Int),()),((x1,x2,()),()),gs,sl,())=some ((),((x1,x2,()),()),gs.map (lD t),sl,()):=by
 refine yN (F:=Unit) (f:=u6) gs (fun i a _=>(((i:Int),t,(gs.length:Int),()),((x1,x2,()),()),a,sl,())) (lD t) (fun _=> []) (fun a _=>((),((x1,x2,()),()),a,sl,())) (fun _=>aiN _) ?_ ?_
 ·intro i a n e hi ha _ hm he hae;have hw:=aL (i:=i) (by omega);have hb:decide ((0:Int)≤(i:Int)∧(i:Int)<(a.length:Int))=true:=aim (by omega);have hai:a[((i:Int)).toNat]?=some e:=by rw[aip];exact hae
  obtain⟨j,hj⟩:=Y9 (aN e) (hv e hm).len;have hj0:decide ((j:Int)≥0)=true:=aim (by omega);dsimp only[aN]at hj;unfold lD Eu U0;dsimp only[aN,gK];simp only[u6,eO hi,hb,hai,hj,ax,sS]
  have hset:a.set i e=a:=by
   obtain⟨h1,h2⟩:=ain.1 hae;rw[←h2];exact List.set_getElem_self h1
  cases rM e.2.2.1<;>simp only[hj0,hw,hset,aiT,ajp,ax,sS];cases (e.2.2.2.1== -1)<;>simp only[hb,hai,hae,hw,aip,ai5,aiz,ax,sS];cases decide (e.2.2.2.1>t)<;>simp only[hb,hai,hae,hw,hset,aip,ax,sS]
 ·intro a n ha;simp only[u6,fD,ax,sS]
def qj(id t:Int)(l:List dZ):Int×List dZ:=
 if ig l≠0 then(ig l,[])else match l.drop (l.takeWhile fun y=>decide (y.1≠id)).length with
  | []=>(3,[])
  |s::b=>La t (l.takeWhile fun y=>decide (y.1≠id)) s b
theorem take_split{id:Int}{a b:List dZ}{s:dZ}(ha:∀y∈a,y.1≠id)(hs:s.1=id):((a++s::b).takeWhile fun y=>decide (y.1≠id))=a:=by
 induction a with
 |nil=>rw[ajI,List.takeWhile_cons,if_neg (by simp[hs])]
 |cons y r ih=>
  rw[aj7,List.takeWhile_cons,if_pos (aim (ha y (by simp))),ih (fun z hz=>ha z (by simp[hz]))]
theorem yu{A:Type}{p:A→Bool}:∀{l:List A},(∀y∈l,p y=true)→l.takeWhile p=l
 | [],_=>rfl
 |y::r,h=>by rw[List.takeWhile_cons,if_pos (h y (by simp)),yu fun z hz=>h z (by simp[hz])]
def uj(p:dh)(s:InT)(x:dZ):Int×Int×InT:=
 if jK p s=false then(0,8,sV)else if bg s≥8589934592 then(0,5,sV)
 else if(vZ (bV s) (bg s,x.2)).1≠0 then(0,(vZ (bV s) (bg s,x.2)).1,sV)
 else(bg s,0,(dM s,(bO s).map (lD x.2.2.1),(vZ (bV s) (bg s,x.2)).2,bg s+1,()))
abbrev TH(V:Int×Int×InT):Option ((Int×Int×Unit)×((Int×Int×Unit)×Unit)×List bA×List dZ×Unit):=some ((V.1,V.2.1,()),((V.2.2.1,V.2.2.2.2.2.1,()),()),V.2.2.2.1,V.2.2.2.2.1,())
theorem VI.short{p:dh}{s:InT}(h:VI p s):(bV s).length≤24:=(Ew h.F5).2
def zf(now:Int):Int:=if 8589934592<now+1 then 8589934592 else now+1
def zD(p:dh)(s:InT)(id:Int):Int×InT:=
 if jK p s=false then(8,sV)else if(qj id (dM s) (bV s)).1≠0 then((qj id (dM s) (bV s)).1,sV)
 else(0,(dM s,(bO s).map (lD (zf (dM s))),(qj id (dM s) (bV s)).2,bg s,()))
abbrev WX(V:Int×InT):Option ((Int×Unit)×((Int×Int×Unit)×Unit)×List bA×List dZ×Unit):=some ((V.1,()),((V.2.1,V.2.2.2.2.1,()),()),V.2.2.1,V.2.2.2.1,())
def qF(p:dh)(g:bA):Prop:=∀m∈aN g,zC (C8 p g.1) (eF m)=g.2.1
theorem Po{p:dh}{g:bA}{r:bU}(h:p.1[g.1.toNat]?=some r)(m:bM):Hz p.1 g m=zC (C8 p g.1) (eF m):=by
 unfold Hz;rw[h,vS h]
theorem Hy{p:dh}{now:Int}{q:Option bA}{g:bA}{r:bU}(h:p.1[g.1.toNat]?=some r):uY p now q g=false↔g.1<(p.1.length:Int)∧jh p.1 now g=false∧(∀a,q=some a→LG a g.1 g.2.1)∧qF p g:=by
 unfold uY
 cases q with
 |none=>
  simp only[aje,ajs,Bool.not_eq_false',aiP,aiU,Po h];exact⟨fun⟨a,b,_,d⟩=>⟨by omega,b,fun _ e=>(by cases e),d⟩,fun⟨a,b,_,d⟩=>⟨by omega,b,trivial,d⟩⟩
 |some x=>
  simp only[aje,ajs,Bool.not_eq_false',aiP,aiU,Po h];exact⟨fun⟨a,b,c,d⟩=>⟨by omega,b,fun _ e=>(by cases e;exact wN.1 c),d⟩,fun⟨a,b,c,d⟩=>⟨by omega,b,wN.2 (c x rfl),d⟩⟩
theorem Ob{p:dh}{now:Int}:∀{gs:List bA} {q:Option bA},J5 p gs→J6 gs→(∀a,q=some a→∀b∈gs,LG a b.1 b.2.1)→(∀g∈gs,jh p.1 now g=false∧qF p g)→yM (uY p now) q gs=true
 | [],_,_,_,_,_=>rfl
 |g::r,q,h,hu,hq,hk=>by
  obtain⟨u1,u2⟩:=List.pairwise_cons.1 hu;obtain⟨hv,rt,hr,rr⟩:=h g (by simp);have hlt:=(ain.1 hr).1;have h1:=hv.rt;unfold yM;rw[ai7];refine⟨?_,Ob (fun x hx=>h x (by simp[hx])) u2 (fun a ha b hb=>by cases ha;exact u1 b hb) (fun x hx=>hk x (by simp[hx]))⟩;rw[ajB,Hy hr];exact⟨by omega,(hk g (by simp)).1,fun a ha=>hq a ha g (by simp),(hk g (by simp)).2⟩
theorem KT{p:dh}{now:Int}{gs:List bA}(hg:J5 p gs)(h:yM (uY p now) none gs=true):∀g∈gs,qF p g:=by
 intro g hg';obtain⟨q,hb⟩:=wW h g hg';obtain⟨_,r,hr,_⟩:=hg g hg';exact((Hy hr).1 hb).2.2.2
theorem J6.map{gs:List bA}(h:J6 gs)(f:bA→bA)(hf:∀g,(f g).1=g.1∧(f g).2.1=g.2.1):J6 (gs.map f):=by
 unfold J6 at h ⊢;refine List.pairwise_map.2 (h.imp fun {a b} hab=> ?_);unfold LG at hab ⊢;rw[(hf a).1,(hf a).2,(hf b).1,(hf b).2];exact hab
theorem J6.sub{gs l:List bA}(h:J6 gs)(hs:l.Sublist gs):J6 l:=List.Pairwise.sublist hs h
theorem GA(p:dh)(now:Int)(gs:List bA):(gT p now gs).Sublist gs:=List.filter_sublist
theorem pI{p:dh}{now:Int}{gs:List bA}{g:bA}(h:g∈gT p now gs):g∈gs∧jh p.1 now g=false:=by
 obtain⟨a,b⟩:=aj9.1 h;exact⟨a,by simpa using b⟩
theorem Ki{p:dh}{s:InT}(h:VI p s){now:Int}(hn:0≤now∧now≤8589934592){gs:List bA}(hg:J5 p gs)(hu:J6 gs)(hk:∀g∈gs,qF p g)(hl:(gT p now gs).length≤64):
  VI p (now,gT p now gs,bV s,bg s,()):=
 ⟨h.gy,hn,hl,h.F5,h.next,h.ids,Ob (fun g hg'=>hg g (pI hg').1) (hu.sub (GA p now gs)) (fun _ ha=>by cases ha) (fun g hg'=>⟨(pI hg').2,hk g (pI hg').1⟩)⟩
theorem yZ(se wa ir t a:Int):∀(rem kept:List bM) (du:Int),∀m∈(lN se wa ir t a kept du rem).1,∃x∈kept++rem,eF x=eF m
 | [],kept,du,m,hm=>⟨m,by simpa[lN]using hm,rfl⟩
 |y::r,kept,du,m,hm=>by
  unfold lN at hm;split at hm
  ·split at hm
   ·obtain⟨x,hx,e⟩:=yZ se wa ir t a r _ _ m hm;simp only[ai9,ajd]at hx;rcases hx with(hx|rfl)|hx
    ·exact⟨x,by simp[hx],e⟩
    ·exact⟨y,by simp,e⟩
    ·exact⟨x,by simp[hx],e⟩
   ·obtain⟨x,hx,e⟩:=yZ se wa ir t a r _ _ m hm;simp only[ai9]at hx;rcases hx with hx|hx
    ·exact⟨x,by simp[hx],e⟩
    ·exact⟨x,by simp[hx],e⟩
  ·obtain⟨x,hx,e⟩:=yZ se wa ir t a r _ _ m hm;simp only[ai9,ajd]at hx;rcases hx with(hx|rfl)|hx
   ·exact⟨x,by simp[hx],e⟩
   ·exact⟨x,by simp,e⟩
   ·exact⟨x,by simp[hx],e⟩
theorem qF.of{p:dh}{g g':bA}(h:qF p g)(h1:g'.1=g.1)(h2:g'.2.1=g.2.1)(hm:∀m∈aN g',∃x∈aN g,eF x=eF m):qF p g':=by
 intro m hm';obtain⟨x,hx,e⟩:=hm m hm';rw[h1,h2,←e];exact h x hx
theorem Xh(p:dh)(now:Int)(g:bA):∀m∈aN (Ca p now g),∃x∈aN g,eF x=eF m:=by
 intro m hm;unfold Ca F6 at hm;split at hm
 ·exact⟨m,hm,rfl⟩
 ·obtain⟨x,hx,e⟩:=yZ _ _ _ _ _ _ _ _ m hm;exact⟨x,by simpa using hx,e⟩
theorem Vo(p:dh)(sl:List dZ)(now:Int)(fs:List (List LT))(g:bA):∀m∈aN (rW p sl now fs g),∃x∈aN g,eF x=eF m:=by
 intro m hm;unfold rW og jH at hm;split at hm
 ·exact⟨m,hm,rfl⟩
 ·dsimp only at hm;split at hm
  ·obtain⟨x,hx,_,e⟩:=Oy.1 hm;exact⟨x,hx,by rw[e];rfl⟩
  ·exact⟨m,hm,rfl⟩
theorem VU{p:dh}(hp:zx p){s:InT}(hs:zm s)(h:VI p s){now:Int}(hn:0≤now∧now≤8589934592):VI p (BJ p s now):=by
 have tk:=h.tk hp hs hn;have nJ:=h.nJ hp hs;have hk:=KT nJ h.vX;have g2:=EK tk;refine Ki h hn g2 (((wh h.vX).1.map _ (IK p now)).map _ (Cr p _ now _)) (fun g hg=> ?_) ?_
 ·unfold vC lm at hg;simp only[ajj]at hg;obtain⟨g1,⟨g0,hg0,rfl⟩,rfl⟩:=hg;exact((hk g0 hg0).of (IK p now g0).1 (IK p now g0).2 (Xh p now g0)).of (Cr p _ now _ _).1 (Cr p _ now _ _).2 (Vo p _ now _ _)
 ·have h1:=(GA p now (vC p s now)).length_le;have h2:(vC p s now).length=(bO s).length:=(ais ..).trans (ais ..);have:=h.len;omega
theorem XA(g:bA)(r:bU)(l:List LT)(on:Bool)(t:Int):∀m∈(mQ g r l on t).2.2,(∃x∈aN g,eF x=eF m)∨eF m=l:=by
 intro m hm;unfold mQ at hm;dsimp only at hm;by_cases hh:hit (fU (d9 l)) (aN g)=true
 ·rw[if_pos hh]at hm;obtain⟨y,hy,_⟩:=wU hh;rw[hy]at hm;dsimp only at hm;have hym:=air hy
  have set_case:∀z:bM,eF z=eF y→m∈(aN g).set (pos (fU (d9 l)) (aN g)) z→(∃x∈aN g,eF x=eF m)∨eF m=l:=by
   intro z hz hmz;rcases mem_set hmz with hmz|rfl
   ·exact .inl ⟨m,hmz,rfl⟩
   ·exact .inl ⟨y,hym,hz.symm⟩
  split at hm
  ·exact set_case (sw y t) rfl hm
  ·split at hm
   ·exact set_case (stepM (sw y t) true t) rfl hm
   ·split at hm
    ·exact set_case (stepM (sw y t) false t) rfl hm
    ·rcases ai9.1 hm with hm|hm
     ·exact .inl ⟨m,List.mem_of_mem_take hm,rfl⟩
     ·exact .inl ⟨m,List.mem_of_mem_drop hm,rfl⟩
 ·rw[if_neg hh]at hm;split at hm
  ·split at hm
   ·cases hm
   ·simp only[ai9,ajd]at hm;rcases hm with(hm|rfl)|hm
    ·exact .inl ⟨m,List.mem_of_mem_take hm,rfl⟩
    ·exact .inr rfl
    ·exact .inl ⟨m,List.mem_of_mem_drop hm,rfl⟩
  ·exact .inl ⟨m,hm,rfl⟩
theorem QX{p:dh}{a:FW}{gs gs':List bA}{i:Nat}(hk:∀g∈gs,qF p g)(e:rq p a gs i=some gs'):∀g∈gs',qF p g:=by
 unfold rq at e;split at e
 ·cases e;exact hk
 ·split at e
  ·cases e
  ·rename_i h0;simp only[ne_eq,Decidable.not_not]at h0;cases e;obtain⟨g,hg,g1,g2,hm⟩:=NM p a gs i;have ha:VO p a gs i=mQ g (C8 p (i:Int)) a.2.1 a.2.2.1 a.1:=by unfold VO;rw[hg];rfl
   have hg0:qF p g:=by
    rcases hm with hm|rfl
    ·exact hk g hm
    ·exact fun m hm'=>by cases hm'
   rw[ha]at h0 ⊢;obtain⟨k1,k2⟩:=Kc h0;intro x hx;rcases mem_set hx with hx|rfl
   ·unfold alG at hx;split at hx
    ·exact hk x hx
    ·simp only[ai9,ajd]at hx;rcases hx with(hx|rfl)|hx
     ·exact hk x (List.mem_of_mem_take hx)
     ·exact fun m hm'=>by cases hm'
     ·exact hk x (List.mem_of_mem_drop hx)
   ·intro m hm'
    show zC (C8 p (mQ g (C8 p (i:Int)) a.2.1 a.2.2.1 a.1).2.1.1) (eF m)=(mQ g (C8 p (i:Int)) a.2.1 a.2.2.1 a.1).2.1.2.1
    rw[k1,k2];rcases XA _ _ _ _ _ m hm' with⟨y,hy,e⟩|e
    ·rw[←e];exact hg0 y hy
    ·rw[e,g1,g2];rfl
theorem KU{p:dh}{a:FW}:∀{l:List Nat} {gs gs':List bA},(∀g∈gs,qF p g)→zJ p a l gs=some gs'→∀g∈gs',qF p g
 | [],gs,gs',h,e=>by cases e;exact h
 |i::r,gs,gs',h,e=>by
  obtain⟨g1,e1,e2⟩:=ajm.1 e;exact KU (QX h e1) e2
theorem Un{p:dh}(hp:zx p){s:InT}(hs:zm s)(a:FW)(h0:(iy p s a).1=0):VI p (iy p s a).2:=by
 unfold iy at h0 ⊢;split at h0
 ·cases h0
 rename_i hv;rw[if_neg hv];simp only[not_or,Bool.not_eq_false]at hv;have h:=jb.1 hv.1;split at h0
 ·rename_i hc;exact absurd h0 hc
 rename_i hc;rw[if_neg hc];simp only[ne_eq,Decidable.not_not]at hc;obtain⟨n0,n1,n2⟩:=mD hc h.now.1;have hck:=(jg h.gy).1;have nJ:=h.nJ hp hs;obtain⟨f1,f2⟩:=Iq hp hck a.2.1
 cases hr:zJ p a (kD p.1 a.2.1) (bO s)with
 |none=>rw[hr]at h0;cases h0
 |some gs=>
  rw[hr]at h0;simp only at h0 ⊢;have inv:=yJ hv.2 ⟨n0,n1⟩ f1 (⟨nJ,(wh h.vX).1,h.len⟩:Ao p (bO s) 64) hr;split at h0
  ·cases h0
  ·rename_i hl;rw[if_neg hl];exact Ki h ⟨n0,n1⟩ inv.nJ inv.up (KU (KT nJ h.vX) hr) (by omega)
theorem pU(t:Int)(g:bA):(lD t g).1=g.1∧(lD t g).2.1=g.2.1:=by
 unfold lD U0;cases (rM (aN g)&&Eu t g)<;>exact⟨rfl,rfl⟩
theorem DX(t:Int)(g:bA):aN (lD t g)=aN g∧dP (lD t g)=dP g:=by
 unfold lD U0;cases (rM (aN g)&&Eu t g)<;>exact⟨rfl,rfl⟩
theorem WG{t:Int}(ht: -1≤t∧t≤8589934592){g:bA}(h:VG g):VG (lD t g):=by
 unfold lD U0;cases (rM (aN g)&&Eu t g)
 ·exact h
 ·exact⟨h.len,h.rt,ht,h.sent,h.mem,h.up⟩
theorem P8(rs:List bU)(now t:Int)(g:bA):jh rs now (lD t g)=jh rs now g:=by
 unfold jh;rw[(DX t g).1,(DX t g).2,(pU t g).1]
theorem xJ{p:dh}{s:InT}(h:VI p s)(hp:zx p)(hs:zm s){t:Int}(ht: -1≤t∧t≤8589934592):J5 p ((bO s).map (lD t))∧yM (uY p (dM s)) none ((bO s).map (lD t))=true:=by
 have nJ:=h.nJ hp hs;have g2:J5 p ((bO s).map (lD t)):=Sl nJ _ (fun g=>(pU t g).1) (fun g hg=>WG ht (nJ g hg).1);refine⟨g2,Ob g2 ((wh h.vX).1.map _ (pU t)) (fun _ ha=>by cases ha) (fun g hg=> ?_)⟩;obtain⟨x,hx,rfl⟩:=ajj.1 hg;obtain⟨q,hb⟩:=wW h.vX x hx;obtain⟨_,r,hr,_⟩:=nJ x hx;have hb:=(Hy hr).1 hb;rw[P8];exact⟨hb.2.1,hb.2.2.2.of (pU t x).1 (pU t x).2 (fun m hm=>⟨m,by rw[(DX t x).1]at hm;exact hm,rfl⟩)⟩
theorem Dl:∀(l:List dZ) (last:Int) (x:dZ),oJ last (l++ [x])=0→oJ last l=0∧fI (CZ last l) x=0
 | [],last,x,h=>by
  have h:oJ last [x]=0:=h;unfold oJ at h;cases hc:(fI last x !=0)
  ·exact⟨rfl,by show fI last x=0;simpa using hc⟩
  ·rw[hc]at h;simp only[cond_true]at h;rw[h]at hc;cases hc
 |s::r,last,x,h=>by
  rw[aj7]at h;unfold oJ at h ⊢;cases hc:(fI last s !=0)
  ·rw[hc]at h;simp only[ajq]at h ⊢;exact Dl r s.1 x h
  ·rw[hc]at h;simp only[cond_true]at h;rw[h]at hc;cases hc
theorem JI{last:Int}{x:dZ}(h:fI last x=0):0≤x.2.1∧x.2.1<x.2.2.1∧x.2.2.1≤8589934592:=by
 unfold fI at h;cases h1:(decide (x.1<1)||decide (x.1≤last))
 ·rw[h1]at h;cases h2:(decide (x.2.1<0)||(decide (x.2.1≥x.2.2.1)||(decide (x.2.2.1>8589934592)||decide (x.2.2.2.1<0))))
  ·simp only[aje,ajs]at h2;omega
  ·rw[h2]at h;cases h
 ·rw[h1]at h;cases h
theorem TP{p:dh}(hp:zx p){s:InT}(hs:zm s)(x:dZ)(h0:(uj p s x).2.1=0):VI p (uj p s x).2.2:=by
 unfold uj at h0 ⊢;split at h0
 ·cases h0
 rename_i hv;rw[if_neg hv];have h:=jb.1 (by simpa using hv);split at h0
 ·cases h0
 rename_i h1;rw[if_neg h1];split at h0
 ·rename_i h2;exact absurd h0 h2
 rename_i h2;rw[if_neg h2];simp only[ne_eq,Decidable.not_not]at h2;have hnx:=h.next
 have e:ig (bV s++ [((bg s,x.2):dZ)])=0∧(vZ (bV s) (bg s,x.2)).2=bV s++ [(bg s,x.2)]:=by
  unfold vZ at h2 ⊢;cases hc:(ig (bV s++ [((bg s,x.2):dZ)]) !=0)
  ·exact⟨by simpa using hc,rfl⟩
  ·rw[hc]at h2;simp only[cond_true]at h2;rw[h2]at hc;cases hc
 have hg:=(Dl _ _ _ (Ew e.1).1).2;have hr:=JI hg;have hr2: -1≤x.2.2.1∧x.2.2.1≤8589934592:=⟨by have h1:=hr.1;have h2:=hr.2.1;dsimp only at h1 h2;omega,hr.2.2⟩
 obtain⟨k1,k2⟩:=xJ h hp hs hr2;rw[e.2];refine⟨h.gy,h.now,by rw[show bO (dM s,(bO s).map (lD x.2.2.1),bV s++ [(bg s,x.2)],bg s+1,())=(bO s).map (lD x.2.2.1)from rfl,ais];exact h.len,e.1,by show 1≤bg s+1;omega,fun y hy=> ?_,k2⟩
 show y.1<bg s+1
 rcases ai9.1 hy with hy|hy
 ·have:=h.ids y hy;omega
 ·rw[ajd.1 hy];show bg s<bg s+1;omega
theorem Oc:∀(a:List dZ) (last:Int) (s:dZ) (b:List dZ),oJ last (a++s::b)=0→oJ last a=0∧fI (CZ last a) s=0∧oJ s.1 b=0
 | [],last,s,b,h=>by
  have h:oJ last (s::b)=0:=h;unfold oJ at h;cases hc:(fI last s !=0)
  ·rw[hc]at h;exact⟨rfl,by show fI last s=0;simpa using hc,h⟩
  ·rw[hc]at h;simp only[cond_true]at h;rw[h]at hc;cases hc
 |x::r,last,s,b,h=>by
  rw[aj7]at h;unfold oJ at h;cases hc:(fI last x !=0)
  ·rw[hc]at h;simp only[ajq]at h;obtain⟨h1,h2⟩:=Oc r x.1 s b h;refine⟨?_,h2⟩
   show(bif fI last x !=0 then fI last x else oJ x.1 r)=0
   rw[hc];exact h1
  ·rw[hc]at h;simp only[cond_true]at h;rw[h]at hc;cases hc
theorem EQ:∀(a:List dZ) (last:Int) (b:List dZ),oJ last a=0→oJ (CZ last a) b=0→oJ last (a++b)=0
 | [],last,b,_,h=>h
 |x::r,last,b,h,h2=>by
  unfold oJ at h;rw[aj7];unfold oJ;cases hc:(fI last x !=0)
  ·rw[hc]at h;simp only[ajq]at h ⊢;exact EQ r x.1 b h h2
  ·rw[hc]at h;simp only[cond_true]at h;rw[h]at hc;cases hc
theorem Qa:∀(b:List dZ) (l l':Int),l'≤l→oJ l b=0→oJ l' b=0
 | [],_,_,_,_=>rfl
 |x::r,l,l',hl,h=>by
  unfold oJ at h ⊢;cases hc:(fI l x !=0)
  ·rw[hc]at h;have h0:fI l x=0:=by simpa using hc
   have h1:fI l' x=0:=by
    unfold fI at h0 ⊢;cases h2:(decide (x.1<1)||decide (x.1≤l))
    ·rw[h2]at h0
     have h3:(decide (x.1<1)||decide (x.1≤l'))=false:=by
      simp only[aje,ajs]at h2 ⊢;omega
     rw[h3];exact h0
    ·rw[h2]at h0;cases h0
   rw[h1];exact h
  ·rw[hc]at h;simp only[cond_true]at h;rw[h]at hc;cases hc
theorem YO{l:List dZ}{id t:Int}(h:ig l=0)(ht:0≤t∧t≤8589934592)(h0:(qj id t l).1=0):ig (qj id t l).2=0∧∀y∈(qj id t l).2,∃z∈l,z.1=y.1:=by
 unfold qj at h0 ⊢;rw[if_neg (by simpa using h)]at h0 ⊢;rcases vK id l with hn|⟨a,s,b,rfl,ha,hs⟩
 ·have e:(l.takeWhile fun y=>decide (y.1≠id))=l:=yu fun y hy=>aim (hn y hy)
  rw[e,ajh]at h0;cases h0
 ·rw[take_split ha hs,List.drop_left]at h0 ⊢;simp only at h0 ⊢;obtain⟨hg,hl⟩:=Ew h;obtain⟨c1,c2,c3⟩:=Oc a 0 s b hg
  have hsl:CZ 0 a<s.1:=by
   unfold fI at c2;cases h2:(decide (s.1<1)||decide (s.1≤CZ 0 a))
   ·simp only[aje,ajs]at h2;omega
   ·rw[h2]at c2;cases c2
  have mk:∀L:List dZ,L.length≤24→oJ 0 L=0→ig L=0:=fun L hL hG=>by
   unfold ig;rw[show decide ((L.length:Int)>24)=false from aio (by omega)];exact hG
  simp only[aiB,aiR]at hl;unfold La at h0 ⊢;cases e1:decide (s.2.2.1≤t)
  ·rw[e1]at h0;cases e2:decide (s.2.1≥t)
   ·simp only[ajq];refine⟨mk _ (by simp;omega) (EQ a 0 _ c1 ?_),fun y hy=> ?_⟩
    ·unfold oJ
     have h3:fI (CZ 0 a) (s.1,s.2.1,t,s.2.2.2)=0:=by
      have d1:=aj8 e1;have d2:=aj8 e2;unfold fI at c2 ⊢;cases h4:(decide (s.1<1)||decide (s.1≤CZ 0 a))
      ·rw[h4]at c2;simp only[h4];cases h5:(decide (s.2.1<0)||(decide (s.2.1≥s.2.2.1)||(decide (s.2.2.1>8589934592)||decide (s.2.2.2.1<0))))
       ·rw[h5]at c2;simp only[aje,ajs]at h5
        have h6:(decide (s.2.1<0)||(decide (s.2.1≥t)||(decide (t>8589934592)||decide (s.2.2.2.1<0))))=false:=by
         simp only[aje,ajs];omega
        rw[h6];exact c2
       ·rw[h5]at c2;cases c2
      ·rw[h4]at c2;cases c2
     rw[h3];exact c3
    ·rcases ai9.1 hy with hy|hy
     ·exact⟨y,by simp[hy],rfl⟩
     ·rcases aiV.1 hy with rfl|hy
      ·exact⟨s,by simp,rfl⟩
      ·exact⟨y,by simp[hy],rfl⟩
   ·simp only[cond_true,ajq];refine⟨mk _ (by simp;omega) (EQ a 0 b c1 (Qa b _ _ (by omega) c3)),fun y hy=>⟨y,?_,rfl⟩⟩;rcases ai9.1 hy with hy|hy<;>simp[hy]
  ·rw[e1]at h0;cases h0
theorem U2{p:dh}(hp:zx p){s:InT}(hs:zm s)(id:Int)(h0:(zD p s id).1=0):VI p (zD p s id).2:=by
 unfold zD at h0 ⊢;split at h0
 ·cases h0
 rename_i hv;rw[if_neg hv];have h:=jb.1 (by simpa using hv);split at h0
 ·rename_i h2;exact absurd h0 h2
 rename_i h2;rw[if_neg h2];simp only[ne_eq,Decidable.not_not]at h2;have hnow:=h.now;obtain⟨e1,e2⟩:=YO h.F5 h.now h2;have hm: -1≤zf (dM s)∧zf (dM s)≤8589934592:=by unfold zf;split<;>omega
 obtain⟨k1,k2⟩:=xJ h hp hs hm;refine⟨h.gy,h.now,?_,e1,h.next,fun y hy=> ?_,k2⟩
 ·show((bO s).map (lD (zf (dM s)))).length≤64
  rw[ais];exact h.len
 ·obtain⟨z,hz,e⟩:=e2 y hy;rw[←e];exact h.ids z hz
theorem VI.z{p:dh}(hp:zx p){s:InT}(h:VI p s)(hg:J5 p (bO s))(hs:Bq (bV s)):zm s:=
 ⟨by have:=h.len;omega,fun g hg'=>by
  obtain⟨hv,r,hr,_⟩:=hg g hg';have h1:=(ain.1 hr).1;have h2:=uK (jg h.gy).1;have h3:=hv.rt;exact⟨hv,by omega⟩,hs⟩
theorem FV{p:dh}(hp:zx p){s:InT}(hs:zm s)(h:VI p s){now:Int}(hn:0≤now∧now≤8589934592):VI p (BJ p s now)∧zm (BJ p s now):=by
 have hv:=VU hp hs h hn;have g2:=EK (h.tk hp hs hn);exact⟨hv,hv.z hp (fun g hg=>g2 g (pI hg).1) hs.F5⟩
end Go.Proofs.YtchnmpafhfjimaaGreatDoor
namespace Go.Proofs.YtchnmpafhfjimaaGreatDoor
open Go Go.Abs
theorem Mw{p:dh}(hp:zx p){s:InT}(h:VI p s)(hs:zm s)(a:FW)(h0:(iy p s a).1=0):VI p (iy p s a).2∧zm (iy p s a).2:=by
 have hv:=Un hp hs a h0
 have hsil:bV (iy p s a).2=bV s∨bV (iy p s a).2=[]:=by
  unfold iy;split
  ·exact .inr rfl
  ·split
   ·exact .inr rfl
   ·split
    ·exact .inr rfl
    ·split
     ·exact .inr rfl
     ·exact .inl rfl
 have hss:Bq (bV (iy p s a).2):=by
  rcases hsil with e|e
  ·rw[e];exact hs.F5
  ·rw[e];exact⟨aiN _,fun x hx=>by cases hx⟩
 refine⟨hv,hv.z hp ?_ hss⟩;intro g hg;have hgrp:=hv.vX;unfold iy at h0 hg;split at h0
 ·cases h0
 rename_i c1;rw[if_neg c1]at hg;simp only[not_or,Bool.not_eq_false]at c1;split at h0
 ·rename_i c2;exact absurd h0 c2
 rename_i c2;rw[if_neg c2]at hg;simp only[ne_eq,Decidable.not_not]at c2;obtain⟨n0,n1,n2⟩:=mD c2 h.now.1;have nJ:=h.nJ hp hs;obtain⟨f1,f2⟩:=Iq hp (jg h.gy).1 a.2.1
 cases hr:zJ p a (kD p.1 a.2.1) (bO s)with
 |none=>rw[hr]at h0;cases h0
 |some gs=>
  rw[hr]at h0 hg;simp only at h0 hg;have inv:=yJ c1.2 ⟨n0,n1⟩ f1 (⟨nJ,(wh h.vX).1,h.len⟩:Ao p (bO s) 64) hr;split at h0
  ·cases h0
  ·rename_i hl;rw[if_neg hl]at hg;exact inv.nJ g (pI hg).1
abbrev Sn:InT:=(0,[],[],1,())
theorem Tw{p:dh}(h:DV p=0):VI p Sn:=⟨h,⟨by decide,by decide⟩,by decide,rfl,by decide,fun x hx=>(by cases hx),rfl⟩
theorem acX:zm Sn:=⟨by decide,fun g hg=>(by cases hg),⟨by decide,fun x hx=>(by cases hx)⟩⟩
end Go.Proofs.YtchnmpafhfjimaaGreatDoor
namespace Go.Proofs.YtchnmpafhfjimaaGreatDoor
open Go Go.Abs
end Go.Proofs.YtchnmpafhfjimaaGreatDoor
namespace Go.Proofs.YtchnmpafhfjimaaGreatDoor
open Go Go.Abs
end Go.Proofs.YtchnmpafhfjimaaGreatDoor
namespace Go.Proofs.YtchnmpafhfjimaaGreatDoor
open Go Go.Abs Go.Lab
def ahr(p s:List UInt8):Bool:=s.take p.length==p
theorem Om{p s:List UInt8}(h:ahr p s=true):p.length≤s.length:=by
 have:=congrArg List.length (eq_of_beq h);rw[ai8]at this;omega
end Go.Proofs.YtchnmpafhfjimaaGreatDoor
namespace Go.Proofs.YtchnmpafhfjimaaGreatDoor
open Go Go.Abs
theorem kT:zm sV:=⟨by decide,fun g hg=>(by cases hg),⟨by decide,fun x hx=>(by cases hx)⟩⟩
theorem ab2{p:dh}(hp:zx p){s:InT}(hs:zm s)(now:Int):zm (lq p s now).2.1:=by
 unfold lq;split
 ·exact kT
 rename_i hv;split
 ·exact kT
 rename_i h1;have h:=jb.1 (by simpa using hv);have:=mD (by simpa using h1) h.now.1;exact(FV hp hs h ⟨this.1,this.2.1⟩).2
theorem TB{p:dh}(hp:zx p){s:InT}(hs:zm s){now:Int}(h0:(lq p s now).1=0):VI p (lq p s now).2.1:=by
 unfold lq at h0 ⊢;split at h0
 ·cases h0
 rename_i hv;rw[if_neg hv];split at h0
 ·rename_i h1;exact absurd h0 h1
 rename_i h1;rw[if_neg h1];have h:=jb.1 (by simpa using hv);have:=mD (by simpa using h1) h.now.1;exact(FV hp hs h ⟨this.1,this.2.1⟩).1
theorem XP{l:List dZ}(hl:Bq l)(h1:l.length≤999){x:dZ}(hx:LW x):Bq (vZ l x).2:=by
 unfold vZ;cases ig (l++ [x]) !=0
 ·exact hl.app h1 hx
 ·exact⟨aiN _,fun y hy=>(by cases hy)⟩
theorem acF{p:dh}(hp:zx p){s:InT}(hs:zm s)(x:dZ)(hx:LW x):zm (uj p s x).2.2:=by
 by_cases h0:(uj p s x).2.1=0
 ·have hv:=TP hp hs x h0;unfold uj at h0 hv ⊢;split
  ·exact kT
  rename_i c1;rw[if_neg c1]at h0 hv;have h:=jb.1 (by simpa using c1);split
  ·exact kT
  rename_i c2;rw[if_neg c2]at h0 hv;split
  ·exact kT
  rename_i c3;rw[if_neg c3]at h0 hv;have hx':LW (bg s,x.2):=hx;have hr:=XP hs.F5 (by have:=h.short;omega) hx';refine hv.z hp ?_ hr
  have hr2: -1≤x.2.2.1∧x.2.2.1≤8589934592:=by
   have e:ig (bV s++ [((bg s,x.2):dZ)])=0:=by
    simp only[ne_eq,Decidable.not_not]at c3;unfold vZ at c3;cases hc:(ig (bV s++ [((bg s,x.2):dZ)]) !=0)
    ·simpa using hc
    ·rw[hc]at c3;simp only[cond_true]at c3;exact c3
   have hg:=(Dl _ _ _ (Ew e).1).2;have hr:=JI hg;exact⟨by have h1:=hr.1;have h2:=hr.2.1;dsimp only at h1 h2;omega,hr.2.2⟩
  exact(xJ h hp hs hr2).1
 ·unfold uj at h0 ⊢;split
  ·exact kT
  rename_i c1;rw[if_neg c1]at h0;split
  ·exact kT
  rename_i c2;rw[if_neg c2]at h0;split
  ·exact kT
  rename_i c3;rw[if_neg c3]at h0;exact absurd rfl h0
theorem X3{l:List dZ}(hl:Bq l)(id t:Int):Bq (qj id t l).2:=by
 unfold qj;split
 ·exact⟨aiN _,fun y hy=>(by cases hy)⟩
 rcases vK id l with hn|⟨a,s,b,rfl,ha,hs⟩
 ·have e:(l.takeWhile fun y=>decide (y.1≠id))=l:=yu fun y hy=>aim (hn y hy)
  rw[e,ajh];exact⟨aiN _,fun y hy=>(by cases hy)⟩
 ·rw[take_split ha hs,List.drop_left];simp only;have h1:=hl.1;simp only[aiB,aiR]at h1;have hsz:LW s:=hl.2 s (by simp);unfold La;cases decide (s.2.2.1≤t)
  ·cases decide (s.2.1≥t)
   ·simp only[ajq];refine⟨by simp;omega,fun y hy=> ?_⟩;rcases ai9.1 hy with hy|hy
    ·exact hl.2 y (by simp[hy])
    ·rcases aiV.1 hy with rfl|hy
     ·exact hsz
     ·exact hl.2 y (by simp[hy])
   ·simp only[cond_true,ajq];refine⟨by simp;omega,fun y hy=> ?_⟩;rcases ai9.1 hy with hy|hy
    ·exact hl.2 y (by simp[hy])
    ·exact hl.2 y (by simp[hy])
  ·exact⟨aiN _,fun y hy=>(by cases hy)⟩
theorem aeh{p:dh}(hp:zx p){s:InT}(hs:zm s)(id:Int):zm (zD p s id).2:=by
 by_cases h0:(zD p s id).1=0
 ·have hv:=U2 hp hs id h0;unfold zD at h0 hv ⊢;split
  ·exact kT
  rename_i c1;rw[if_neg c1]at h0 hv;have h:=jb.1 (by simpa using c1);split
  ·exact kT
  rename_i c2;rw[if_neg c2]at h0 hv;have hnow:=h.now;have hm: -1≤zf (dM s)∧zf (dM s)≤8589934592:=by unfold zf;split<;>omega
  exact hv.z hp (xJ h hp hs hm).1 (X3 hs.F5 _ _)
 ·unfold zD at h0 ⊢;split
  ·exact kT
  rename_i c1;rw[if_neg c1]at h0;split
  ·exact kT
  rename_i c2;rw[if_neg c2]at h0;exact absurd rfl h0
abbrev KS(y:uZ):Int:=y.1
abbrev Ru(y:uZ):Int:=y.2.1
abbrev ahw(y:uZ):Int:=y.2.2.1
abbrev Uz(y:uZ):ByteArray:=y.2.2.2.1
abbrev nF(y:uZ):List ByteArray:=y.2.2.2.2.1
abbrev nR(y:uZ):List ByteArray:=y.2.2.2.2.2.1
def Rk(z:uZ)(rt:Int)(k:ByteArray):Prop:=Ru z=rt∧Uz z=k
structure GI(p:dh)(Q:List LT→Prop)(nt:List uZ)(now:Int)(g:bA):Prop where
 lab:∀m∈aN g,Q (eF m)∧g.1.toNat∈kD p.1 (eF m)
 told:∀m∈aN g,(fG m=false∨gY m=true)→∃z∈nt,Rk z g.1 g.2.1∧aI m∈nF z
 sent:dP g≠ -1→∃z∈nt,Rk z g.1 g.2.1∧KS z=dP g
 due:dP g≠ -1→gK g= -1∨dP g+bR (C8 p g.1)≤gK g
 past:∀z∈nt,Rk z g.1 g.2.1→KS z≤dP g∨KS z+bR (C8 p g.1)≤now
 now:dP g≤now
theorem GI.app{p:dh}{Q:List LT→Prop}{nt:List uZ}{now:Int}{g:bA}(h:GI p Q nt now g){more:List uZ}(hm:∀z∈more,¬ Rk z g.1 g.2.1):GI p Q (nt++more) now g:=
 ⟨h.lab,fun m hm' c=>by
  obtain⟨z,hz,e⟩:=h.told m hm' c;exact⟨z,List.mem_append_left _ hz,e⟩,fun c=>by
  obtain⟨z,hz,e⟩:=h.sent c;exact⟨z,List.mem_append_left _ hz,e⟩,h.due,fun z hz e=>by
  rcases ai9.1 hz with hz|hz
  ·exact h.past z hz e
  ·exact absurd e (hm z hz),h.now⟩
theorem GI.later{p:dh}{Q:List LT→Prop}{nt:List uZ}{now now':Int}{g:bA}(h:GI p Q nt now g)(hn:now≤now'):GI p Q nt now' g:=
 ⟨h.lab,h.told,h.sent,h.due,fun z hz e=>by
  rcases h.past z hz e with a|a
  ·exact .inl a
  ·exact .inr (by omega),by have:=h.now;omega⟩
structure Good(p:dh)(Q:List LT→Prop)(pre:List uZ)(y:uZ):Prop where
 rt:0≤Ru y∧Ru y<p.1.length
 pol:ahw y=(C8 p (Ru y)).2.2.1
 some:0<(nF y).length+(nR y).length
 key:∀k,k∈nF y∨k∈nR y→∃l,Q l∧bZ l=true∧k=fU (d9 l)∧(Ru y).toNat∈kD p.1 l∧zC (C8 p (Ru y)) l=Uz y
 up:(nF y).Pairwise Less
 res:∀k∈nR y,∃z∈pre,Rk z (Ru y) (Uz y)∧k∈nF z
 apart:∀z∈pre,Rk z (Ru y) (Uz y)→KS z+bR (C8 p (Ru y))≤KS y
 late:∀z∈pre,KS z≤KS y
def AG(p:dh)(Q:List LT→Prop)(nt:List uZ):Prop:=∀a y b,nt=a++y::b→Good p Q a y
theorem AG.nil(p:dh)(Q:List LT→Prop):AG p Q []:=fun a y b e=>by cases a<;>cases e
structure NI(p:dh)(Q:List LT→Prop)(s:InT)(nt:List uZ):Prop where
 gi:∀g∈bO s,GI p Q nt (dM s) g
 gone:∀z∈nt,(∀g∈bO s,¬ Rk z g.1 g.2.1)→KS z+bR (C8 p (Ru z))≤dM s
 good:AG p Q nt
 at_:∀z∈nt,0≤KS z∧KS z≤dM s
structure NG(p:dh)(Q:List LT→Prop)(nt:List uZ)(now:Int)(gs:List bA):Prop where
 gi:∀g∈gs,GI p Q nt now g
 gone:∀z∈nt,(∀g∈gs,¬ Rk z g.1 g.2.1)→KS z+bR (C8 p (Ru z))≤now
theorem Sk{p:dh}(h:p.2.2.1=0)(now:Int)(g:bA):Ca p now g=g:=by
 unfold Ca F6;rw[if_pos h];rfl
structure TJ(p:dh)(mk:ByteArray)(i:Nat)(key:ByteArray)(nt0:List uZ)(at_ W:Int)(s:InT)(nt:List uZ):Prop where
 F5:bV s=[]
 now:at_≤dM s
 mem:∃more,nt=nt0++more∧(∀z∈more,Rk z i key→mk∈nF z∧at_≤KS z)∧∃g∈bO s,g.1=i∧g.2.1=key∧∃m∈aN g,aI m=mk∧fG m=true∧
  ((gY m=false∧(∀z∈more,¬ Rk z i key)∧gK g≠ -1∧gK g≤W∧dM s≤W)∨∃a z b,more=a++z::b∧(∀y∈a,¬ Rk y i key)∧Rk z i key∧KS z≤W)
theorem GI.mono{p:dh}{Q Q':List LT→Prop}{nt:List uZ}{now:Int}{g:bA}(h:GI p Q nt now g)(f:∀l,Q l→Q' l):GI p Q' nt now g:=
 ⟨fun m hm=>⟨f _ (h.lab m hm).1,(h.lab m hm).2⟩,h.told,h.sent,h.due,h.past,h.now⟩
theorem AA.t{r:FH}(h:AA r):TSz r:=by
 obtain⟨h1,h2,h3,h4,h5,_⟩:=h;have h6:=h5.length_le;rw[show kE.length=4 from rfl]at h6;exact⟨⟨by unfold big;omega,fun m hm=>(h3 m hm).z⟩,⟨by unfold big;omega,fun m hm=>(h4 m hm).z⟩,by unfold big;omega,fun k hk=>by have:=(Ei k (h5.subset hk)).2;unfold big;omega⟩
theorem AA.gy{r:FH}(h:AA r):IX r=0:=by
 obtain⟨h1,h2,h3,h4,h5,h6,h7⟩:=h;have h8:=h5.length_le;rw[show kE.length=4 from rfl]at h8;have:=List.length_pos_iff.2 h6;have:=List.length_pos_iff.2 h7;unfold IX
 rw[ai6.2 (show(r.1.length:Int)≠0 by omega),ai6.2 (show(r.2.1.length:Int)≠0 by omega),aio (show¬(r.1.length:Int)>8 by omega),aio (show¬(r.2.1.length:Int)>8 by omega),aio (show¬(r.2.2.1.length:Int)>12 by omega),
  Gf h3,Gf h4,Lm h5]
 rfl
theorem Nh{l:List FH}(hl:l.length≤3)(h:∀r∈l,AA r):AB l=0:=by
 unfold AB;rw[aio (by omega),ajq];clear hl
 induction l with
 |nil=>rfl
 |cons r l ih=>
  unfold Ll;rw[(h r (by simp)).gy];exact ih fun x hx=>h x (by simp[hx])
structure LA(p:dh):Prop where
 rt:z8 p.1
 inl:p.2.1.length≤3
 inh:∀r∈p.2.1,AA r
 exp:0≤p.2.2.1∧p.2.2.1≤1000
theorem LA.z{p:dh}(h:LA p):zx p:=⟨h.rt.z,by have:=h.inl;unfold big;omega,fun r hr=>(h.inh r hr).t,by have:=h.inl;unfold big;omega,fun r hr=>(h.inh r hr).z⟩
theorem LA.gy{p:dh}(h:LA p):DV p=0:=by
 have:=h.exp;unfold DV;rw[h.rt.gy,Nh h.inl h.inh,if_neg (by simp),if_neg (by simp),if_neg (by omega)]
structure ahK(l:List FW)(t:Int):Prop where
 lab:∀a∈l,V4 kE a.2.1
 at_:∀a∈l,0≤a.1∧a.1≤t
 up:l.Pairwise fun a b=>a.1≤b.1
structure nW(p:dh)(s:InT):Prop where
 vi:VI p s
 z:zm s
theorem U8{p:dh}(hp:zx p){s:InT}(h:nW p s){a:FW}(h0:(iy p s a).1=0):nW p (iy p s a).2:=by
 obtain⟨a,b⟩:=Mw hp h.vi h.z a h0;exact⟨a,b⟩
theorem O0{p:dh}(hp:zx p){s:InT}(h:nW p s){t:Int}(h0:(lq p s t).1=0):nW p (lq p s t).2.1:=⟨TB hp h.z h0,ab2 hp h.z t⟩
theorem ab4{p:dh}(hp:zx p){s:InT}(h:nW p s){x:dZ}(hx:LW x)(h0:(uj p s x).2.1=0):nW p (uj p s x).2.2:=⟨TP hp h.z x h0,acF hp h.z x hx⟩
theorem aaS{p:dh}(hp:zx p){s:InT}(h:nW p s){id:Int}(h0:(zD p s id).1=0):nW p (zD p s id).2:=⟨U2 hp h.z id h0,aeh hp h.z id⟩
theorem abg{p:dh}(h:DV p=0):nW p Sn:=⟨Tw h,acX⟩
set_option maxRecDepth 1000000 in
theorem Sb:m10 ((),())=some ((true,()),()):=by kernel_rfl
theorem Dg{p:dh}(hp:zx p){s:InT}(hs:zm s)(now:Int):
  ∃(n:Nat) (blk:List bA),RN ((p,s,now,()),())=some (((lq p s now).1,()),(((lq p s now).2.1.1,(0,n),(lq p s now).2.1.2.2.2.1,()),()),(lq p s now).2.2,blk,(lq p s now).2.1.2.2.1,())∧n≤blk.length∧blk.take n=(lq p s now).2.1.2.1:=by
 have q1:=I5 p hp s hs;have q3:=RU s now;unfold lq;cases hv:jK p s
 ·rw[if_pos rfl];rw[hv]at q1;unfold RN;simp only[q1,ax,sS];exact⟨0,[],rfl,aiy _,rfl⟩
 ·rw[if_neg (by simp)];rw[hv]at q1;have h:=jb.1 hv;by_cases hc:BX (dM s) now=0
  ·rw[if_neg (by simpa using hc)];rw[hc]at q3;obtain⟨n0,n1,n2⟩:=mD hc h.now.1;have tk:=h.tk hp hs ⟨n0,n1⟩;obtain⟨n,blk,e,e1,e2⟩:=aa3 tk;refine⟨n,blk,?_,e1,e2⟩;unfold RN;simp only[q1,q3,e,aiM,ax,sS];rfl
  ·rw[if_pos hc];unfold RN;simp only[q1,q3,ajg.2 hc,ax,sS];exact⟨0,[],rfl,aiy _,rfl⟩
theorem Ov{p:dh}(hp:zx p){s:InT}(hs:zm s)(x:dZ)(hx:LW x):QO ((p,s,x,()),())=TH (uj p s x):=by
 have q1:=I5 p hp s hs;unfold uj;cases hv:jK p s
 ·rw[if_pos rfl];rw[hv]at q1;unfold QO;simp only[q1,TH,ax,sS]
 rw[if_neg (by simp)];rw[hv]at q1;have h:=jb.1 hv;have nJ:=h.nJ hp hs;have hl:=h.len;have hvg:∀g∈bO s,VG g:=fun g hg=>(nJ g hg).1
 have hx':LW (bg s,x.2):=hx;have q3:=abL (bV s) hs.F5 (by have:=h.short;omega) (bg s,x.2) hx';have q5:=uV s (by omega) hvg hs.F5;have hnx:=h.next;by_cases h1:bg s≥8589934592
 ·rw[if_pos h1];dsimp only[bg]at h1;unfold QO;simp only[q1,h1,ajy,TH,ax,sS]
 rw[if_neg h1];have q6:=Oh x.2.2.1 (bO s) (by omega) hvg (dM s) (bg s+1) (vZ (bV s) (bg s,x.2)).2;have w1:aP (bg s+1)=bg s+1:=bY (by omega) (by omega);dsimp only[bg,bV,dM,bO]at h1 q3 q5 q6 w1 ⊢;generalize vZ s.2.2.1 (s.2.2.2.1,x.2)=A at q3 q6 ⊢;by_cases h2:A.1=0
 ·rw[if_neg (by simpa using h2)];unfold QO;simp only[q1,h1,aj4,q3,h2,aiM,q5,w1,q6,eq_self,ais,TH,ax,sS]
 ·rw[if_pos h2];unfold QO;simp only[q1,h1,aj4,q3,ajg.2 h2,TH,ax,sS]
theorem Wx(l:List dZ)(hl:Bq l)(id t:Int):YT ((l,id,t,()),())=some (((qj id t l).1,()),((qj id t l).2,())):=by
 unfold qj;by_cases h:ig l=0
 ·rw[if_neg (by simpa using h)];rcases vK id l with hn|⟨a,s,b,rfl,ha,hs⟩
  ·have e:(l.takeWhile fun y=>decide (y.1≠id))=l:=by
    exact yu fun y hy=>aim (hn y hy)
   rw[e,ajh];exact SQ l hl id t h hn
  ·rw[take_split ha hs,List.drop_left];subst hs;exact Xr a s b hl t h ha
 ·rw[if_pos h];exact Xi l hl id t h
theorem XZ{p:dh}(hp:zx p){s:InT}(hs:zm s)(id:Int):m29 ((p,s,id,()),())=WX (zD p s id):=by
 have q1:=I5 p hp s hs;unfold zD;cases hv:jK p s
 ·rw[if_pos rfl];rw[hv]at q1;unfold m29;simp only[q1,WX,ax,sS]
 rw[if_neg (by simp)];rw[hv]at q1;have h:=jb.1 hv;have nJ:=h.nJ hp hs;have hl:=h.len;have hnow:=h.now;have hvg:∀g∈bO s,VG g:=fun g hg=>(nJ g hg).1
 have q3:=Wx (bV s) hs.F5 id (dM s);have q5:=uV s (by omega) hvg hs.F5;have w1:aP (dM s+1)=dM s+1:=bY (by omega) (by omega);have q6:=Oh (zf (dM s)) (bO s) (by omega) hvg (dM s) (bg s) (qj id (dM s) (bV s)).2;unfold zf at q6 ⊢;dsimp only[bg,bV,dM,bO]at q3 q5 q6 w1 ⊢;generalize qj id s.1 s.2.2.1=A at q3 q6 ⊢;by_cases h2:A.1=0
 ·rw[if_neg (by simpa using h2)];unfold m29;simp only[q1,q3,h2,aiM,q5,w1,MF,q6,eq_self,ais,WX,ax,sS]
 ·rw[if_pos h2];unfold m29;simp only[q1,q3,ajg.2 h2,WX,ax,sS]
theorem Vq(x n:Int)(h0:1≤n)(h1:n≤4294967296):∃r,m14 ((x,n,()),())=some ((r,()),())∧0≤r∧r<n:=by
 have a:=Int.tmod_lt_of_pos x (show(0:Int)<n by omega);have b:=Int.lt_tmod_of_pos x (show(0:Int)<n by omega);have hw:aP (x.tmod n+n)=x.tmod n+n:=bY (by omega) (by omega);have c:=Int.tmod_lt_of_pos (x.tmod n+n) (show(0:Int)<n by omega);have d:=Int.tmod_nonneg (a:=x.tmod n+n) n (by omega);refine⟨(x.tmod n+n).tmod n,?_,d,c⟩;unfold m14;simp only[aim (show n≠0 by omega),hw,ax,sS]
instance ahQ(k:ByteArray)(l:List ByteArray):Decidable (k∈l):=decidable_of_iff (bl k∈l.map bl) ⟨fun h=>by
 obtain⟨x,hx,e⟩:=ajj.1 h;rw[←Ae e];exact hx,fun h=>List.mem_map_of_mem h⟩
theorem NW(y:uZ)(k:ByteArray)(hF:(nF y).length≤big):∀(d i:Nat),i+d=(nF y).length→
  ∃b,aB uX (((i:Int),k,()),(y,()),())=some b∧(k∈(nF y).drop i→b= .inl ((true,()),()))∧(k∉(nF y).drop i→b= .inr ((),())):=by
 unfold big at hF;intro d
 induction d with
 |zero=>
  intro i hi;have c:decide ((i:Int)<((nF y).length:Int))=false:=aio (by omega);refine⟨_,aC (by simp only[uX,c,ax,sS]),fun h=> ?_,fun _=>rfl⟩;rw[aiH (by omega)]at h;cases h
 |succ d ih=>
  intro i hi;obtain⟨e,he⟩:=getD_some (l:=nF y) (i:=i) (by omega);have c:decide ((i:Int)<((nF y).length:Int))=true:=aim (by omega);have w:aP ((i:Int)+1)=((i+1:Nat):Int):=aL (by omega)
  have hd:(nF y).drop i=e::(nF y).drop (i+1):=by
   obtain⟨h1,h2⟩:=ain.1 he;rw[←h2,List.getElem_cons_drop]
  rw[hd];by_cases h1:e.toList=k.toList
  ·have b1:(e.toList==k.toList)=true:=by rw[h1];exact ajo _
   refine⟨_,aC (by simp only[uX,c,ax,sS];refine(aO _).trans ?_;rw[aG he];simp only[b1,ax,sS]),fun _=>rfl,fun h=>absurd (by rw[I4 h1];simp) h⟩
  ·have b1:(e.toList==k.toList)=false:=ai6.2 h1;obtain⟨b,k1,k2,k3⟩:=ih (i+1) (by omega);refine⟨b,(aM (by simp only[uX,c,ax,sS];refine(aO _).trans ?_;rw[aG he];simp only[b1,w,ax,sS])).trans k1,fun h=>k2 ?_,fun h=>k3 ?_⟩
   ·rcases aiV.1 h with h|h
    ·exact absurd (congrArg ByteArray.toList h.symm) h1
    ·exact h
   ·exact fun h'=>h (aju _ h')
theorem Ub(y:uZ)(l:List LT)(hl:PK l)(hv:bZ l=true)(hF:(nF y).length≤big):m21 ((y,l,()),())=some ((decide (fU (d9 l)∈nF y),()),()):=by
 have q:=R5 l hl;unfold DZ at q;rw[if_pos hv]at q;obtain⟨b,k1,k2,k3⟩:=NW y (fU (d9 l)) hF (nF y).length 0 (by omega);unfold m21;simp only[q,ax,sS];rw[show aB uX ((0,fU (d9 l),()),(y,()),())=_ from k1];rw[aiK]at k2 k3;by_cases h:fU (d9 l)∈nF y
 ·rw[k2 h,aim h];rfl
 ·rw[k3 h,aio h];rfl
def sc(at_ rt:Int)(key mk:ByteArray)(s:Int×Int)(y:uZ):Int×Int:=
 if Ru y=rt∧Uz y=key then(if s.1<0∧mk∈nF y then KS y else s.1,if KS y<at_∨(KS y=at_∧mk∉nF y)then KS y else s.2)else s
structure zL(rt:bU):Prop where
 good:FP rt
 par:rt.1= -1
 ms:rt.2.1=[]
 wait:0≤fH rt∧fH rt≤60
 int:fH rt+20≤bR rt∧bR rt≤1000
abbrev P6(rt:bU):dh:=([rt],[],0,())
theorem zL.ts{rt:bU}(h:zL rt):z8 [rt]:=⟨by simp,by simp,fun r hr=>by
 simp only[List.getElem?_cons_zero,aiv]at hr;subst hr;exact⟨h.par,h.ms⟩,fun k r hr hk=>by
 have:=(ain.1 hr).1;simp only[aiR,List.length_nil]at this;omega,fun r hr=>by rw[ajd.1 hr];exact h.good⟩
theorem zL.p{rt:bU}(h:zL rt):LA (P6 rt):=⟨h.ts,by simp,fun r hr=>(by cases hr),by simp⟩
theorem Vz(d:zy)(hd:Rz d):∃(p w i r:Int) (c:Bool) (by_:List ByteArray) (d':zy),m24 ((),((d,()),()))=some ((),((d',()),(((-1),p,w,i,r,c,()),()),by_,()))∧zL (-1,[],p,by_,w,i,r,c,()):=by
 obtain⟨a1,d1,e1,hd1,b1⟩:=zu [0,30,10,60] d hd (by simp) (by simp);obtain⟨a2,d2,e2,hd2,b2⟩:=zu [20,300,40] d1 hd1 (by simp) (by simp);obtain⟨a3,d3,e3,hd3,b3,_⟩:=Aa 3 d2 hd2 (by omega);have b3:=b3 (by omega);obtain⟨ks,d4,e4,hd4,hk⟩:=MU d3 hd3;obtain⟨a5,d5,e5,hd5,b5⟩:=zu [0,3600,100] d4 hd4 (by simp) (by simp);obtain⟨c,d6,e6,hd6⟩:=GJ 2 d5 hd5 (by omega) (by omega);have b1:=aga b1;have b2:=mem3 b2;have b5:=mem3 b5;have w1:aP (a1+a2)=a1+a2:=bY (by omega) (by omega);have w2:aP (a1+a2+a5)=a1+a2+a5:=bY (by omega) (by omega);refine⟨a3,a1,a1+a2,a1+a2+a5,c,ks,d6,?_,⟨⟨⟨by simp,fun m hm=>(by cases hm)⟩,hk,?_,?_,?_,?_,?_⟩,rfl,rfl,?_,?_⟩⟩
 ·unfold m24;simp only[e1,e2,e3,e4,e5,e6,w1,w2,ax,sS]
 ·unfold p9;simp only[aje];exact⟨aio (by omega),aio (by omega),aio (by omega),aio (by omega),aio (by omega),ai6.2 (by omega)⟩
 all_goals simp only[fH,bR];omega
def jk:List LT:=[(bs [97,112,112],bs [120],())]
def M6(v:ByteArray):List MT:=[(bs [97,112,112],0,v,())]
def K8:ByteArray:=fU (d9 jk)
def K6(rt:bU):ByteArray:=zC rt jk
def B6:bM:=(K8,jk,100,100,true,false,())
def G6(rt:bU)(due:Int):bA:=(0,K6 rt,[B6],due,-1,())
def X6(e:Int):dZ:=(1,0,e,0,M6 (bs [120]),())
abbrev S6(rt:bU)(now due e:Int):InT:=(now,[G6 rt due],[X6 e],2,())
theorem Mf:bZ jk=true:=by kernel_rfl
theorem V6:PK jk:=⟨by unfold big;show 1≤_;omega,fun y hy=>by
 rw[ajd.1 hy];exact⟨by decide,by decide⟩⟩
theorem II:(M6 (bs [120])).all bn=true:=by kernel_rfl
theorem Xx:(M6 (bs [121])).all bn=true:=by kernel_rfl
theorem agu:allM (M6 (bs [120])) jk=true:=by kernel_rfl
theorem afE{rt:bU}(h:zL rt):kD [rt] jk=[0]:=by
 unfold kD;rw[if_pos ⟨h.ts.gy,Mf⟩]
 have hn:Dr [rt] ((0:Nat):Int)=[]:=List.eq_nil_iff_forall_not_mem.2 fun k hk=>by
  obtain⟨r,hr,e⟩:=GZ.1 hk;have h1:=(ain.1 hr).1;simp only[aiR,List.length_nil]at h1;have hk0:k=0:=by omega
  subst hk0;cases hr;rw[h.par]at e;cases e
 show eB [rt] jk (399+1) 0=[0]
 unfold eB;rw[hn];rfl
theorem Pf{p:dh}{s:InT}(h:VI p s){x:dZ}(hn:bg s<8589934592)(hc:ig (bV s++ [(bg s,x.2)])=0):
  uj p s x=(bg s,0,(dM s,(bO s).map (lD x.2.2.1),bV s++ [(bg s,x.2)],bg s+1,())):=by
 have ha:vZ (bV s) (bg s,x.2)=(0,bV s++ [(bg s,x.2)]):=by unfold vZ;rw[hc];rfl
 unfold uj;rw[if_neg (by rw[jb.2 h];simp),if_neg (by omega),if_neg (by rw[ha];simp),ha]
theorem WN(last:Int)(id e:Int)(v:ByteArray)(hv:(M6 v).all bn=true)(h1:last<id)(h2:1≤id)(h3:0<e)(h4:e≤8589934592):fI last (id,0,e,0,M6 v,())=0:=by
 unfold fI;rw[aio (show¬ id<1 by omega),aio (show¬ id≤last by omega),aio (show¬(0:Int)<0 by omega),aio (show¬(0:Int)≥e by omega),aio (show¬ e>8589934592 by omega),hv];rfl
theorem ahu{rt:bU}(h:zL rt){e:Int}(h3:0<e)(h4:e≤8589934592):uj (P6 rt) Sn (0,0,e,0,M6 (bs [120]),())=(1,0,(0,[],[X6 e],2,())):=by
 refine Pf (Tw h.p.gy) (by decide) ?_
 show ig [X6 e]=0
 unfold ig oJ;rw[show fI 0 (X6 e)=0 from WN 0 1 e _ II (by omega) (by omega) h3 h4];rfl
theorem adR{rt:bU}{e:Int}(hv:VI (P6 rt) (0,[],[X6 e],2,()))(h3:0<e)(h4:e≤8589934592):(uj (P6 rt) (0,[],[X6 e],2,()) (0,0,5,0,M6 (bs [121]),())).1=2∧(uj (P6 rt) (0,[],[X6 e],2,()) (0,0,5,0,M6 (bs [121]),())).2.1=0:=by
 have:=Pf (x:=(0,0,5,0,M6 (bs [121]),())) hv (by show(2:Int)<8589934592;omega) (by
  show ig [X6 e,(2,0,5,0,M6 (bs [121]),())]=0
  unfold ig oJ oJ;rw[show fI 0 (X6 e)=0 from WN 0 1 e _ II (by omega) (by omega) h3 h4,show fI (X6 e).1 (2,0,5,0,M6 (bs [121]),())=0 from WN 1 2 5 _ Xx (by omega) (by omega) (by omega) (by omega)];rfl)
 rw[this];exact⟨rfl,rfl⟩
theorem VE(rt:bU)(now due:Int):gT (P6 rt) now [G6 rt due]=[G6 rt due]:=by
 unfold gT jh;rfl
theorem aap{rt:bU}(h:zL rt){e:Int}(hv:VI (P6 rt) (0,[],[X6 e],2,())):iy (P6 rt) (0,[],[X6 e],2,()) (100,jk,true,())=(0,S6 rt 100 (100+fH rt) e):=by
 have hw:=h.wait;have er:C8 (P6 rt) ((0:Nat):Int)=rt:=rfl
 have hr:zJ (P6 rt) (100,jk,true,()) (kD [rt] jk) []=some [G6 rt (100+fH rt)]:=by
  rw[afE h]
  have:rq (P6 rt) (100,jk,true,()) [] 0=some [G6 rt (100+fH rt)]:=by
   have ha:VO (P6 rt) (100,jk,true,()) [] 0=(0,tT (newG 0 (K6 rt)) (100+fH rt),[B6]):=by
    have hx:Pn (newG 0 (K6 rt)) rt 100=100+fH rt:=by
     show EX (100+fH rt)=_
     unfold EX;rw[if_neg (by omega)]
    show mQ (newG 0 (K6 rt)) rt jk true 100=_
    rw[←hx];rfl
   unfold rq;rw[if_neg (by simp),ha];rfl
  show(rq (P6 rt) (100,jk,true,()) [] 0).bind (zJ (P6 rt) (100,jk,true,()) [])=_
  rw[this];rfl
 unfold iy;rw[jb.2 hv,if_neg (by simp[Mf]),if_neg (show¬ BX (0:Int) 100≠0 by decide),hr];simp only[VE];rfl
theorem mu6(rt:bU)(sl:List dZ)(now:Int)(fs:List (List LT)):vE (P6 rt) sl now fs [B6]=bif (vQ jk now sl).2 then [K8]else []:=by
 show(bif (vQ jk now sl).2||false then [K8]else [])++ []=_
 rw[ai1,aiO]
theorem Vg(e now:Int)(h0:0≤now):(vQ jk now [X6 e]).2=decide (now<e):=by
 have hh:Yr jk now (X6 e)=decide (now<e):=by
  unfold Yr;rw[show allM (X6 e).2.2.2.2.1 jk=true from agu,aim (show(X6 e).2.1≤now from h0),aiT,Bool.and_true];rfl
 show(K7 jk now (0,false) (X6 e)).2=_
 unfold K7;rw[hh];cases decide (now<e)<;>rfl
theorem O8(rt:bU)(s:InT)(now:Int)(g:bA)(hs:bO s=[g]):lm (P6 rt) s now=[g]:=by
 unfold lm;rw[hs]
 show [Ca (P6 rt) now g]=[g]
 rw[Sk rfl]
theorem afp{rt:bU}(h:zL rt)(t:Int)(ht:t+bR rt≤8589934592):nK (-1) (bR rt) (nI rt) t true=t+bR rt:=by
 have:=h.int;have:=h.wait;unfold nK EX;rw[if_pos (c:=true=true∨ -1+nI rt≤t) (.inl rfl),if_neg (by omega)];omega
theorem Mc{rt:bU}(h:zL rt)(t:Int)(ht:t≠ -1)(h2:t+bR rt≤8589934592):jH (G6 rt t) rt t [K8]=(false,tT (G6 rt t) (t+bR rt),kY,[B6],[],[]):=by
 have hm:Ce [K8] (aI B6)=true:=by
  show(decide (K8=K8)||false)=true
  rw[aim rfl];rfl
 have hf:iq [K8] [B6]=[]:=by unfold iq;rw[List.filter_cons,hm];rfl
 have hr:jD [K8] [B6]=[]:=by unfold jD;rw[List.filter_cons,hm];rfl
 have hn:Bw (dP (G6 rt t)) (nI rt) t [K8] (aN (G6 rt t))=false:=by
  show Bw (dP (G6 rt t)) (nI rt) t [K8] [B6]=false
  unfold Bw Em Dj;rw[hf,hr]
  show(((!Ce [K8] (aI B6)&&(fG B6&& !gY B6))||false)||_||_)=false
  rw[hm];rfl
 unfold jH;rw[if_neg (fun c=>c.elim (fun c=>ht c) (fun c=>Int.lt_irrefl t c))];dsimp only;rw[if_neg (by rw[hn];simp)]
 show(false,tT (G6 rt t) (nK (-1) (bR rt) (nI rt) t true),kY,[B6],[],[])=_
 rw[afp h t h2]
theorem Qx(rt:bU)(t:Int)(ht:t≠ -1):(jH (G6 rt t) rt t []).1=true∧(jH (G6 rt t) rt t []).2.2.2.2.1=[K8]:=by
 unfold jH;rw[if_neg (fun c=>c.elim (fun c=>ht c) (fun c=>Int.lt_irrefl t c))];exact⟨rfl,rfl⟩
theorem ER{rt:bU}(h:zL rt)(now due e:Int)(h0:0≤due)(h1:due<e)(h2:due+bR rt≤8589934592):BJ (P6 rt) (S6 rt now due e) due=S6 rt due (due+bR rt) e∧Br (P6 rt) (S6 rt now due e) due=[]:=by
 have ht:lm (P6 rt) (S6 rt now due e) due=[G6 rt due]:=O8 rt _ due _ rfl
 have hl:og (P6 rt) (bV (S6 rt now due e)) due (sF (P6 rt) (S6 rt now due e) due) (G6 rt due)=(false,tT (G6 rt due) (due+bR rt),kY,[B6],[],[]):=by
  unfold og;rw[show vE (P6 rt) (bV (S6 rt now due e)) due (sF (P6 rt) (S6 rt now due e) due) (aN (G6 rt due))=[K8]from(mu6 rt _ _ _).trans (by rw[show vQ jk due (bV (S6 rt now due e))=vQ jk due [X6 e]from rfl,Vg e due h0,aim h1];rfl)];exact Mc h due (by omega) h2
 constructor
 ·unfold BJ vC;rw[ht];simp only[aiE,aiS,rW,hl]
  show(due,gT (P6 rt) due [G6 rt (due+bR rt)],[X6 e],2,())=_
  rw[VE]
 ·unfold Br;rw[ht];simp only[ajz,List.flatMap_nil,AO,hl,ajq,aiO]
theorem G5(rt:bU)(now due e nx:Int)(h0:0≤due)(h1:e≤due):∃y,Br (P6 rt) (now,[G6 rt due],[X6 e],nx,()) due=[y]∧nF y=[K8]:=by
 have ht:lm (P6 rt) (now,[G6 rt due],[X6 e],nx,()) due=[G6 rt due]:=O8 rt _ due _ rfl
 have hl:og (P6 rt) [X6 e] due (sF (P6 rt) (now,[G6 rt due],[X6 e],nx,()) due) (G6 rt due)=jH (G6 rt due) rt due []:=by
  unfold og;rw[show vE (P6 rt) [X6 e] due (sF (P6 rt) (now,[G6 rt due],[X6 e],nx,()) due) (aN (G6 rt due))=[]from(mu6 rt _ _ _).trans (by rw[Vg e due h0,aio (by omega)];rfl)];rfl
 obtain⟨k1,k2⟩:=Qx rt due (by omega);refine⟨RX (jH (G6 rt due) rt due []),?_,k2⟩;unfold Br;rw[ht];simp only[ajz,List.flatMap_nil,AO,aiO];rw[show og (P6 rt) (bV (now,[G6 rt due],[X6 e],nx,())) due (sF (P6 rt) (now,[G6 rt due],[X6 e],nx,()) due) (G6 rt due)=jH (G6 rt due) rt due []from hl,k1];rfl
theorem afH(rt:bU)(d:Int)(hd:d≠ -1):SS [G6 rt d]=(d,true):=by
 show JM (0,false) (G6 rt d)=_
 unfold JM;rw[show(gK (G6 rt d) != -1)=true from ajg.2 hd];rfl
theorem agd(rt:bU)(now due e:Int)(hv:VI (P6 rt) (S6 rt now due e))(h0:0<now)(h1:now<e)(h2:now+1<due)(h3:e≤8589934592):
  zD (P6 rt) (S6 rt now due e) 1=(0,(now,[G6 rt (now+1)],[X6 now],2,())):=by
 have hc:ig [X6 e]=0:=by
  unfold ig oJ;rw[show fI 0 (X6 e)=0 from WN 0 1 e _ II (by omega) (by omega) (by omega) h3];rfl
 have he:qj 1 now [X6 e]=(0,[X6 now]):=by
  unfold qj;rw[if_neg (by rw[hc];simp)]
  show La now [] (X6 e) []=_
  unfold La;rw[aio (show¬(X6 e).2.2.1≤now by show¬ e≤now;omega),aio (show¬(X6 e).2.1≥now by show¬(0:Int)≥now;omega)];rfl
 have hh:lD (zf now) (G6 rt due)=G6 rt (now+1):=by
  have hm:zf now=now+1:=by unfold zf;rw[if_neg (by omega)]
  unfold lD;rw[hm]
  have hcd:Eu (now+1) (G6 rt due)=true:=by
   unfold Eu;rw[aim (show gK (G6 rt due)>now+1 from h2),aiG]
  rw[hcd];rfl
 unfold zD;rw[jb.2 hv,if_neg (by simp)]
 show(if(qj 1 now [X6 e]).1≠0 then((qj 1 now [X6 e]).1,sV)else(0,(now,[lD (zf now) (G6 rt due)],(qj 1 now [X6 e]).2,2,())))=_
 rw[he,hh,if_neg (by simp)]
abbrev Zs6(end_ k now:Int)(o n:Nat)(rt:bU)(blk:List bA)(e:Int):(Int×Int×Unit)×((Int×Unit)×Unit)×List LT×((Int×(Nat×Nat)×Int×Unit)×Unit)×List bU×List bA×List dZ×Unit:=
 ((end_,k,()),((0,()),()),jk,((now,(o,n),2,()),()),[rt],blk,[X6 e],())
theorem rE{p:dh}{s:InT}(h:VI p s){t:Int}(h1:dM s≤t)(h2:t≤8589934592):lq p s t=(0,BJ p s t,Br p s t):=by
 unfold lq;rw[if_neg (by rw[jb.2 h];simp),if_neg (by unfold BX;rw[if_neg (by omega),if_neg (by omega)];simp)]
theorem UW{y:uZ}(hy:nF y=[K8]):m21 ((y,jk,()),())=some ((true,()),()):=by
 rw[Ub y jk V6 Mf (by rw[hy];unfold big;show 1≤_;omega),aim (by rw[hy];exact ajd.2 rfl)]
theorem ad1{rt:bU}(h:zL rt){e:Int}(he:500≤e∧e<1500):∀(d:Nat) (k now:Int) (o n:Nat) (blk:List bA),k+d=90→0≤k→e-now≤20*d→100≤now→now<e→nW (P6 rt) (S6 rt now (now+bR rt) e)→
  o+n≤blk.length→(blk.drop o).take n=[G6 rt (now+bR rt)]→aB uS (Zs6 e k now o n rt blk e)=some (.inl ((true,()),())):=by
 have hint:=h.int;have hwait:=h.wait;intro d
 induction d with
 |zero=>
  intro k now o n blk hk hk0 hd h1 h2 _ _ _;omega
 |succ d ih=>
  intro k now o n blk hk hk0 hd h1 h2 hg hb hx;have c:decide (k<90)=true:=aim (by omega);have c1:decide (o+n≤blk.length)=true:=aim hb
  have q30:Vf (((now,[G6 rt (now+bR rt)],[X6 e],2,()),()),())=some ((now+bR rt,true,()),()):=by
   rw[Vn (now,[G6 rt (now+bR rt)],[X6 e],2,()) hg.z.len];rw[show SS (bO (now,[G6 rt (now+bR rt)],[X6 e],2,()))=(now+bR rt,true)from afH rt _ (by omega)]
  obtain⟨n',blk',q28,b1,b2⟩:=Dg h.p.z hg.z (now+bR rt);rw[rE hg.vi (by show now≤now+bR rt;omega) (by omega)]at q28 b2;by_cases hlt:now+bR rt<e
  ·obtain⟨t1,t2⟩:=ER h now (now+bR rt) e (by omega) hlt (by omega);rw[t1,t2]at q28;dsimp only at b2;rw[t1]at b2
   have hg2:nW (P6 rt) (S6 rt (now+bR rt) (now+bR rt+bR rt) e):=by
    have:=O0 h.p.z hg (t:=now+bR rt) (by rw[rE hg.vi (by show now≤now+bR rt;omega) (by omega)]);rw[rE hg.vi (by show now≤now+bR rt;omega) (by omega)]at this;dsimp only at this
    rwa [t1]at this
   refine(aM ?_).trans (ih (k+1) (now+bR rt) 0 n' blk' (by omega) (by omega) (by omega) (by omega) hlt hg2 (by omega) (by rw[aiK];exact b2));have w:aP (k+1)=k+1:=bY (by omega) (by omega);have n0:decide ((([]:List uZ).length:Int)>0)=false:=rfl;simp only[uS,Zs6,c,c1,hx,q30,q28,w,n0,aiD,aiM,ax,sS]
  ·obtain⟨y,t1,t2⟩:=G5 rt now (now+bR rt) e 2 (by omega) (by omega);rw[t1]at q28;have q21:=UW t2;refine aC ?_;have c2:decide (now+bR rt<e)=false:=aio hlt;have w:aP (e+rt.2.2.2.2.2.1)=e+rt.2.2.2.2.2.1:=bY (by dsimp only[bR]at *;omega) (by dsimp only[bR]at *;omega);have c3:decide (now+bR rt<aP (e+rt.2.2.2.2.2.1))=true:=aim (by rw[w];show now+bR rt<e+bR rt;omega);have n1:decide (([y].length:Int)>0)=true:=rfl;have n2:decide ((0:Int)≤0∧(0:Int)<([y].length:Int))=true:=rfl;have n3:decide ((0:Int)≤0∧(0:Int)<([rt].length:Int))=true:=rfl;simp only[uS,Zs6,c,c1,hx,q30,q28,c2,c3,q21,n1,n2,n3,Sb,aiD,aiM,List.getElem?_cons_zero,ax,sS]
theorem ss6(e:Int)(v:ByteArray)(hv:v.size≤8):LW (0,0,e,0,M6 v,()):=by
 refine⟨by show 1≤4294967296;omega,fun m hm=> ?_⟩;rw[ajd.1 hm];exact⟨by show v.size≤4294967295;omega,by show 3≤9223372036854775807;omega,by show v.size≤9223372036854775807;omega⟩
theorem afk(p w i r:Int)(c:Bool)(by_:List ByteArray)(h:zL (-1,[],p,by_,w,i,r,c,()))(e:Int)(he:500≤e∧e<1500):
  ∃(s2:InT) (n n2:Nat) (blk blk2:List bA) (y:uZ) (st2:InT),
   QO ((P6 (-1,[],p,by_,w,i,r,c,()),Sn,(0,0,e,0,M6 (bs [120]),()),()),())=some ((1,0,()),((0,2,()),()),[],[X6 e],())∧
   QO ((P6 (-1,[],p,by_,w,i,r,c,()),(0,[],[X6 e],2,()),(0,0,5,0,M6 (bs [121]),()),()),())=some ((2,0,()),((s2.1,s2.2.2.2.1,()),()),s2.2.1,s2.2.2.1,())∧
   VD ((P6 (-1,[],p,by_,w,i,r,c,()),(0,[],[X6 e],2,()),(100,jk,true,()),()),())=some ((0,()),((100,(0,n),2,()),()),blk,[X6 e],())∧n≤blk.length∧blk.take n=[G6 (-1,[],p,by_,w,i,r,c,()) (100+w)]∧
   RN ((P6 (-1,[],p,by_,w,i,r,c,()),S6 (-1,[],p,by_,w,i,r,c,()) 100 (100+w) e,100+w,()),())=some ((0,()),((100+w,(0,n2),2,()),()),[],blk2,[X6 e],())∧n2≤blk2.length∧blk2.take n2=[G6 (-1,[],p,by_,w,i,r,c,()) (100+w+i)]∧
   m29 ((P6 (-1,[],p,by_,w,i,r,c,()),S6 (-1,[],p,by_,w,i,r,c,()) (100+w) (100+w+i) e,1,()),())=some ((0,()),((100+w,2,()),()),[G6 (-1,[],p,by_,w,i,r,c,()) (100+w+1)],[X6 (100+w)],())∧
   Vf (((100+w,[G6 (-1,[],p,by_,w,i,r,c,()) (100+w+1)],[X6 (100+w)],2,()),()),())=some ((100+w+1,true,()),())∧
   (∃n3 blk3,RN ((P6 (-1,[],p,by_,w,i,r,c,()),(100+w,[G6 (-1,[],p,by_,w,i,r,c,()) (100+w+1)],[X6 (100+w)],2,()),100+w+1,()),())=some ((0,()),((st2.1,(0,n3),st2.2.2.2.1,()),()),[y],blk3,st2.2.2.1,()))∧nF y=[K8]∧
   nW (P6 (-1,[],p,by_,w,i,r,c,())) (S6 (-1,[],p,by_,w,i,r,c,()) (100+w) (100+w+i) e):=by
 have hw:0≤w∧w≤60:=h.wait;have hi:w+20≤i∧i≤1000:=h.int;generalize hrt:((-1,[],p,by_,w,i,r,c,()):bU)=rt at h ⊢;have ew:fH rt=w:=by rw[←hrt]
 have ei:bR rt=i:=by rw[←hrt]
 have g0:=abg h.p.gy;have v1:=ahu h (e:=e) (by omega) (by omega)
 have g1:nW (P6 rt) (0,[],[X6 e],2,()):=by
  have:=ab4 h.p.z g0 (x:=(0,0,e,0,M6 (bs [120]),())) (ss6 e _ (by decide)) (by rw[v1])
  rwa [v1]at this
 have q1:=Ov h.p.z g0.z (0,0,e,0,M6 (bs [120]),()) (ss6 e _ (by decide));rw[v1]at q1;obtain⟨w1,w2⟩:=adR (rt:=rt) g1.vi (by omega) (by omega);have q2:=Ov h.p.z g1.z (0,0,5,0,M6 (bs [121]),()) (ss6 5 _ (by decide));generalize uj (P6 rt) (0,[],[X6 e],2,()) (0,0,5,0,M6 (bs [121]),())=V2 at q2 w1 w2;obtain⟨a2,b2,s2⟩:=V2;dsimp only at w1 w2;subst w1 w2;have v3:=aap h g1.vi;obtain⟨n,blk,q3,k1,k2⟩:=Yt h.p.z g1.z (100,jk,true,()) V6
 have g3:nW (P6 rt) (S6 rt 100 (100+fH rt) e):=by
  have:=U8 h.p.z g1 (a:=(100,jk,true,())) (by rw[v3])
  rwa [v3]at this
 rw[v3]at q3 k2;rw[ew]at g3 q3 k2;obtain⟨t1,t2⟩:=ER h 100 (100+w) e (by omega) (by omega) (by rw[ei];omega);have v4:=rE g3.vi (t:=100+w) (by show 100≤100+w;omega) (by omega);obtain⟨n2,blk2,q4,k3,k4⟩:=Dg h.p.z g3.z (100+w);have g4:=O0 h.p.z g3 (t:=100+w) (by rw[v4]);rw[v4,t1,t2]at q4;rw[v4]at k4 g4;dsimp only at k4 g4;rw[t1]at k4 g4;rw[ei]at q4 k4 g4;have v5:=agd rt (100+w) (100+w+i) e g4.vi (by omega) (by omega) (by omega) (by omega);have q5:=XZ h.p.z g4.z 1;have g5:=aaS h.p.z g4 (id:=1) (by rw[v5]);rw[v5]at q5 g5
 have q6:Vf (((100+w,[G6 rt (100+w+1)],[X6 (100+w)],2,()),()),())=some ((100+w+1,true,()),()):=by
  rw[Vn (100+w,[G6 rt (100+w+1)],[X6 (100+w)],2,()) g5.z.len,show SS (bO (100+w,[G6 rt (100+w+1)],[X6 (100+w)],2,()))=(100+w+1,true)from afH rt _ (by omega)]
 obtain⟨y,t3,t4⟩:=G5 rt (100+w) (100+w+1) (100+w) 2 (by omega) (by omega);have v7:=rE g5.vi (t:=100+w+1) (by show 100+w≤100+w+1;omega) (by omega);obtain⟨n3,blk3,q7,_,_⟩:=Dg h.p.z g5.z (100+w+1);rw[v7]at q7;dsimp only at q7;rw[t3]at q7;exact⟨s2,n,n2,blk,blk2,y,BJ (P6 rt) (100+w,[G6 rt (100+w+1)],[X6 (100+w)],2,()) (100+w+1),q1,q2,q3,k1,k2,q4,k3,k4,q5,q6,⟨n3,blk3,q7⟩,t4,g4⟩
theorem aeA(t:List Int)(x:Int):m6 ((t,x,()),())=some ((true,()),()):=by
 unfold m6;simp only[light,ax,sS];by_cases ht:t.length≤500
 ·obtain⟨p,w,i,r,c,by_,d1,e1,h⟩:=Vz (t,0,()) (agf ht);obtain⟨a,e2,a1,a2⟩:=Vq x 1000 (by omega) (by omega);have q26:m26 ((),())=some ((),((0,1,()),()),()):=rfl;have w1:aP (500+a)=500+a:=bY (by omega) (by omega);obtain⟨e,he⟩:∃e,e=500+a:=⟨_,rfl⟩
  rw[←he]at w1;have hw:0≤w∧w≤60:=h.wait;have hi:w+20≤i∧i≤1000:=h.int;obtain⟨s2,n,n2,blk,blk2,y,st2,q1,q2,q3,k1,k2,q4,k3,k4,q5,q6,⟨n3,blk3,q7⟩,hy,g4⟩:=afk p w i r c by_ h e (by omega);have q8:=UW hy;have l6:aB uS (Zs6 e 0 (100+w) 0 n2 (-1,[],p,by_,w,i,r,c,()) blk2 e)=_:=ad1 h (by omega) 90 0 (100+w) 0 n2 blk2 (by omega) (by omega) (by omega) (by omega) (by omega) g4 (by omega) (by rw[aiK];exact k4);have w2:aP (100+w)=100+w:=bY (by omega) (by omega);have w3:aP (100+w+1)=100+w+1:=bY (by omega) (by omega);have n0:decide ((0:Int)≤0∧(0:Int)<([((-1,[],p,by_,w,i,r,c,()):bU)].length:Int))=true:=rfl;have n1:decide ((0:Int)≤0∧(0:Int)<([y].length:Int))=true:=rfl;have n4:((([]:List uZ).length:Int) !=0)=false:=rfl;have n5:((([y].length:Nat):Int) !=1)=false:=rfl;have c1:decide (0+n≤blk.length)=true:=aim (by omega);have c2:decide (0+n2≤blk2.length)=true:=aim (by omega)
  have q1:QO ((([(-1,[],p,by_,w,i,r,c,())],[],0,()),(0,[],[],1,()),(0,0,e,0,[(bs [97,112,112],0,bs [120],())],()),()),())=_:=q1;have q2:QO ((([(-1,[],p,by_,w,i,r,c,())],[],0,()),(0,[],[X6 e],2,()),(0,0,5,0,[(bs [97,112,112],0,bs [121],())],()),()),())=_:=q2;have q3:VD ((([(-1,[],p,by_,w,i,r,c,())],[],0,()),(0,[],[X6 e],2,()),(100,[(bs [97,112,112],bs [120],())],true,()),()),())=_:=q3;have q8:m21 ((y,[(bs [97,112,112],bs [120],())],()),())=_:=q8;have l6:aB uS ((e,0,()),((0,()),()),[(bs [97,112,112],bs [120],())],((100+w,(0,n2),2,()),()),[(-1,[],p,by_,w,i,r,c,())],blk2,[X6 e],())=_:=l6;have b1:((1:Int) !=1)=false:=rfl;have b2:((2:Int) !=2)=false:=rfl;simp only[aim ht,roll,e1,e2,q26,←he,w1,q1,q2,q3,n0,List.getElem?_cons_zero,c1,aiK,k2,w2,q4,c2,k4,q5,q6,q7,n4,n5,w3,n1,q8,l6,b1,b2,aiM,aiD,ax,sS]
 ·simp only[aio ht,Sb,ax,sS]
theorem agO:∀x,Abs.Qi [.row (.int .i64),.int .i64] x→m6 (x,())=some ((true,()),()):=fun x _=>aeA x.1 x.2.1
end Go.Proofs.YtchnmpafhfjimaaGreatDoor
