/- Lemmas for the statement of the last text of this claim. -/
import Derived.Test.YtchnmpafhfjimaaGreatDoorV5E
set_option linter.unusedSimpArgs false
set_option linter.unusedVariables false
namespace Go.Proofs.YtchnmpafhfjimaaGreatDoor
open Go Go.Abs Go.Lab
def jq(c:UInt8):Bool:=c==61||(c==33||c==126)
theorem eqU(c:UInt8)(n:UInt8):(u8 c==(n.toNat:Int))=(c==n):=by
 by_cases h:c=n
 ·subst h;simp[u8]
 ·rw[akR.2 h];exact akR.2 fun e=>h (UInt8.toNat_inj.1 (by unfold u8 at e;omega))
theorem I7{p:UInt8→Bool}:∀(s:List UInt8),s=upTo p s++s.drop (upTo p s).length
 | []=>rfl
 |c::s=>by
  unfold upTo;by_cases h:p c=true
  ·rw[if_pos h];rfl
  ·rw[if_neg h,alo,List.drop_succ_cons,amb,←I7 s]
theorem IW{p:UInt8→Bool}:∀(s:List UInt8),s.take (upTo p s).length=upTo p s
 | []=>rfl
 |c::s=>by
  unfold upTo;by_cases h:p c=true
  ·rw[if_pos h];rfl
  ·rw[if_neg h,alo,List.take_succ_cons,IW s]
theorem UJ{p:UInt8→Bool}(s:List UInt8):(upTo p s).length≤s.length:=by
 have:=congrArg List.length (I7 (p:=p) s);rw[akW]at this;omega
abbrev M0:MT:=(ByteArray.empty,0,ByteArray.empty,())
theorem U6(s:ByteArray)(hs:s.size≤4194304)(m:MT):∀(k i:Nat),i+k=s.size→
  aB lF (((i:Int),s,()),((m,()),()))=some ((((i+(upTo jq ((bl s).drop i)).length:Nat):Int),s,()),((m,()),())):=by
 intro k
 induction k with
 |zero=>
  intro i h;rw[ald (by rw[aX];omega)];refine aA ?_;have:decide ((i:Int)<(s.size:Int))=false:=ak9 (by omega);simp only[lF,this,au,sS];rfl
 |succ k ih=>
  intro i h;obtain⟨c,hc,hd⟩:=drop_at (l:=bl s) (i:=i) (by rw[aX];omega);have hlt:decide ((i:Int)<(s.size:Int))=true:=ak7 (by omega);have hbd:decide ((0:Int)≤(i:Int)∧(i:Int)<(s.size:Int))=true:=ak7 (by omega);have hw:aQ ((i:Int)+1)=((i+1:Nat):Int):=aG (by omega);have e1:(u8 c==61)=(c==61):=eqU c 61;have e2:(u8 c==33)=(c==33):=eqU c 33;have e3:(u8 c==126)=(c==126):=eqU c 126
  have hstep:lF (((i:Int),s,()),((m,()),()))=if jq c then some (.inr (((i:Int),s,()),((m,()),())))else some (.inl ((((i+1:Nat):Int),s,()),((m,()),()))):=by
   unfold jq;simp only[lF,hlt,hbd,byte_at hc,bne,e1,e2,e3,au,sS];cases (c==61)<;>cases (c==33)<;>cases (c==126)<;>simp only[au,sS,hw,alb,akQ,akM,akK,akN,if_true,if_false]
  rw[hd];unfold upTo;by_cases hop:jq c=true
  ·rw[if_pos hop]at hstep ⊢;exact aA hstep
  ·rw[if_neg hop]at hstep ⊢;rw[aD hstep,ih (i+1) (by omega),alo];rw[show i+1+(upTo jq ((bl s).drop (i+1))).length=i+((upTo jq ((bl s).drop (i+1))).length+1) by omega]
def xY:List ByteArray:=[(bs [61]),(bs [33,61]),(bs [126]),(bs [33,126])]
theorem Ao(t:ByteArray)(ht:t.size≤4194304)(m0 m:MT)(i:Nat)(op:ByteArray)(ho:xY[i]?=some op)(hsz:op.size≤2):
  gH ((t,(i:Int),()),((m0,()),((m,()),(xY,()))))=some (if xS (bl op++ [34]) (bl t)then .inr ((bR ((bl t).drop (op.size+1)),()),((m0,()),(((m.1,(i:Int),m.2.2),()),())))
   else .inl ((t,((i+1:Nat):Int),()),((m0,()),((m,()),(xY,()))))):=by
 have hi:i<xY.length:=(ak8.1 ho).1;have hi4:i<4:=hi;have hlt:decide ((i:Int)<((xY.length:Nat):Int))=true:=ak7 (by omega);have hbd:decide ((0:Int)≤(i:Int)∧(i:Int)<((xY.length:Nat):Int))=true:=ak7 (by omega);have hw:aQ ((i:Int)+1)=((i+1:Nat):Int):=aG (by omega);by_cases h1:(t.size:Int)>(op.size:Int)
 ·have d0:decide ((0:Int)≤(op.size:Int))=true:=ak7 (by omega);have d1:decide (0≤op.size∧op.size≤t.size)=true:=ak7 (by omega);obtain⟨c,hc⟩:=getD_some (l:=bl t) (i:=op.size) (by rw[aX];omega);have d2:decide ((0:Int)≤(op.size:Int)∧(op.size:Int)<(t.size:Int))=true:=ak7 (by omega);have e34:(u8 c==34)=(c==34):=eqU c 34
  have hpre:xS (bl op++ [34]) (bl t)=((bl t).take op.size==bl op&&c==34):=by
   unfold xS;rw[akW,aX,List.length_singleton,amj,hc];by_cases ha:(bl t).take op.size=bl op
   ·rw[ha];by_cases hb:c=34
    ·subst hb;simp
    ·simp[hb]
   ·rw[akR.2 ha,alH];refine akR.2 fun e=>ha ?_
    have:=List.append_inj_left' e (by simp);exact this
  rw[hpre];simp only[gH,hlt,hbd,akA,ho,ak7 h1,d0,d1,yT,bg,kr,au,sS];cases ha:((bl t).take op.size==bl op)
  ·simp only[au,sS,hw,alH,akN,if_false]
  ·simp only[au,sS,d2,byte_at hc,ou hc,e34,alq];cases hb:(c==34)
   ·simp only[au,sS,hw,akN,if_false]
   ·have hw2:aQ ((op.size:Int)+1)=((op.size+1:Nat):Int):=aG (by omega);have d3:decide ((0:Int)≤((op.size+1:Nat):Int))=true:=ak7 (by omega);have d4:decide (op.size+1≤t.size∧t.size≤t.size)=true:=ak7 (by omega);simp only[au,sS,hw2,d3,akA,d4,BO,if_true]
 ·have:xS (bl op++ [34]) (bl t)=false:=by
   cases hp:xS (bl op++ [34]) (bl t)
   ·rfl
   ·have:=KM hp;rw[akW,aX,aX,List.length_singleton]at this;omega
  rw[this];simp only[gH,hlt,hbd,akA,ho,ak9 h1,hw,au,sS,akN,if_false]
def opR(t:List UInt8):Option (Nat×List UInt8):=
 if xS [61,34] t then some (0,t.drop 2)else if xS [33,61,34] t then some (1,t.drop 3)else if xS [126,34] t then some (2,t.drop 2)else if xS [33,126,34] t then some (3,t.drop 3)else none
theorem X8(t:ByteArray)(ht:t.size≤4194304)(m0 m:MT):
  aB gH ((t,0,()),((m0,()),((m,()),(xY,()))))=some (match opR (bl t)with
   |some (i,r)=>((bR r,()),((m0,()),(((m.1,(i:Int),m.2.2),()),())))
   |none=>((t,()),((m0,()),((m,()),())))):=by
 have s0:=Ao t ht m0 m 0 (bs [61]) rfl (by decide);have s1:=Ao t ht m0 m 1 (bs [33,61]) rfl (by decide);have s2:=Ao t ht m0 m 2 (bs [126]) rfl (by decide);have s3:=Ao t ht m0 m 3 (bs [33,126]) rfl (by decide);have s4:gH ((t,((4:Nat):Int),()),((m0,()),((m,()),(xY,()))))=some (.inr ((t,()),((m0,()),((m,()),())))):=rfl;unfold opR;by_cases h0:xS [61,34] (bl t)=true
 ·rw[if_pos h0];rw[show bl (bs [61])++ [34]=[61,34]from rfl,if_pos h0]at s0;exact aA s0
 ·rw[if_neg h0];rw[show bl (bs [61])++ [34]=[61,34]from rfl,if_neg h0]at s0;rw[show aB gH ((t,0,()),((m0,()),((m,()),(xY,()))))=_ from aD s0];by_cases h1:xS [33,61,34] (bl t)=true
  ·rw[if_pos h1];rw[show bl (bs [33,61])++ [34]=[33,61,34]from rfl,if_pos h1]at s1;exact aA s1
  ·rw[if_neg h1];rw[show bl (bs [33,61])++ [34]=[33,61,34]from rfl,if_neg h1]at s1;rw[show aB gH ((t,((0+1:Nat):Int),()),((m0,()),((m,()),(xY,()))))=_ from aD s1];by_cases h2:xS [126,34] (bl t)=true
   ·rw[if_pos h2];rw[show bl (bs [126])++ [34]=[126,34]from rfl,if_pos h2]at s2;exact aA s2
   ·rw[if_neg h2];rw[show bl (bs [126])++ [34]=[126,34]from rfl,if_neg h2]at s2;rw[show aB gH ((t,((1+1:Nat):Int),()),((m0,()),((m,()),(xY,()))))=_ from aD s2];by_cases h3:xS [33,126,34] (bl t)=true
    ·rw[if_pos h3];rw[show bl (bs [33,126])++ [34]=[33,126,34]from rfl,if_pos h3]at s3;exact aA s3
    ·rw[if_neg h3];rw[show bl (bs [33,126])++ [34]=[33,126,34]from rfl,if_neg h3]at s3;rw[show aB gH ((t,((2+1:Nat):Int),()),((m0,()),((m,()),(xY,()))))=_ from aD s3];exact aA s4
theorem Jm{s:ByteArray}{i:Nat}{c:UInt8}(hc:(bl s)[i]?=some c):s.extract i (i+1)=bR [c]:=pU (by
 have hcl:i<(bl s).length:=(ak8.1 hc).1;rw[ic,kr,List.drop_eq_getElem_cons hcl,show i+1-i=1 by omega,List.take_succ_cons,amq];rw[(ak8.1 hc).2])
theorem Vj(t:ByteArray)(ht:t.size≤4194304)(m0 m:MT):∀(k i:Nat) (v:List UInt8),t.size-i≤k→i≤t.size→v.length≤i→
  aB fu (((i:Int),t,bR v,()),((m0,()),((m,()),())))=some (match Oc ((bl t).drop i)with
   |some (u,r)=>.inl ((bR r,true,()),(((m.1,m.2.1,bR (v++u),()),()),()))
   |none=>.inr ((),((m0,()),((m,()),())))):=by
 intro k
 induction k with
 |zero=>
  intro i v h hi hv;rw[ald (by rw[aX];omega)];refine aA ?_;have:decide ((i:Int)<(t.size:Int))=false:=ak9 (by omega);simp only[fu,this,au,sS];rfl
 |succ k ih=>
  intro i v h hi hv;by_cases hil:i=t.size
  ·rw[ald (by rw[aX];omega)];refine aA ?_;have:decide ((i:Int)<(t.size:Int))=false:=ak9 (by omega);simp only[fu,this,au,sS];rfl
  ·obtain⟨c,hc,hd⟩:=drop_at (l:=bl t) (i:=i) (by rw[aX];omega);have hlt:decide ((i:Int)<(t.size:Int))=true:=ak7 (by omega);have hbd:decide ((0:Int)≤(i:Int)∧(i:Int)<(t.size:Int))=true:=ak7 (by omega);have hw:aQ ((i:Int)+1)=((i+1:Nat):Int):=aG (by omega);have hw2:aQ (((i+1:Nat):Int)+1)=((i+1+1:Nat):Int):=aG (by omega);have e34:(u8 c==34)=(c==34):=eqU c 34;have e92:(u8 c==92)=(c==92):=eqU c 92;have d0:∀n:Nat,decide ((0:Int)≤(n:Int))=true:=fun n=>ak7 (by omega)
   have d1:decide (i+1≤t.size∧t.size≤t.size)=true:=ak7 (by omega);have d2:decide (i≤i+1∧i+1≤t.size)=true:=ak7 (by omega);have d3:∀x:UInt8,decide ((bR v).size+(bR [x]).size≤4294967296)=true:=fun x=>ak7 (by rw[size_mk,size_mk];simp;omega)
   rw[hd];by_cases h34:c=34
   ·subst h34;rw[Yf];refine aA ?_;simp only[fu,hlt,hbd,byte_at hc,ou hc,e34,hw,d0,akA,d1,BO,au,sS,alk]
   ·have b34:(c==34)=false:=akR.2 h34;by_cases h92:c=92
    ·subst h92;by_cases hend:i+1<t.size
     ·obtain⟨d,hdc,hdd⟩:=drop_at (l:=bl t) (i:=i+1) (by rw[aX];exact hend);rw[hdd,Nc];have x1:decide (((i+1:Nat):Int)<(t.size:Int))=true:=ak7 (by omega);have d4:decide (i+1≤i+1+1∧i+1+1≤t.size)=true:=ak7 (by omega);have q:=ih (i+1+1) (v++ [d]) (by omega) (by omega) (by simp;omega)
      have hst:fu (((i:Int),t,bR v,()),((m0,()),((m,()),())))=some (.inl ((((i+1+1:Nat):Int),t,bR (v++ [d]),()),((m0,()),((m,()),())))):=by
       simp only[fu,hlt,hbd,byte_at hc,ou hc,e34,e92,b34,hw,x1,d0,akA,hw2,d4,Jm hdc,d3,jw,au,sS]
      rw[aD hst,q]
      cases Oc ((bl t).drop (i+1+1))with
      |none=>rfl
      |some p=>simp
     ·have hd2:(bl t).drop (i+1)=[]:=ald (by rw[aX];omega);rw[hd2,Vy];have x1:decide (((i+1:Nat):Int)<(t.size:Int))=false:=ak9 (by omega)
      have hst:fu (((i:Int),t,bR v,()),((m0,()),((m,()),())))=some (.inl ((((i+1:Nat):Int),t,bR (v++ [92]),()),((m0,()),((m,()),())))):=by
       simp only[fu,hlt,hbd,byte_at hc,ou hc,e34,e92,b34,hw,x1,d0,akA,d2,Jm hc,d3,jw,au,sS]
      have q:=ih (i+1) (v++ [92]) (by omega) (by omega) (by simp;omega);rw[hd2]at q;rw[aD hst,q];rfl
    ·have b92:(c==92)=false:=akR.2 h92;rw[MO h34 h92];have q:=ih (i+1) (v++ [c]) (by omega) (by omega) (by simp;omega)
     have hst:fu (((i:Int),t,bR v,()),((m0,()),((m,()),())))=some (.inl ((((i+1:Nat):Int),t,bR (v++ [c]),()),((m0,()),((m,()),())))):=by
      simp only[fu,hlt,hbd,byte_at hc,ou hc,e34,e92,b34,b92,hw,d0,akA,d2,Jm hc,d3,jw,au,sS]
     rw[aD hst,q]
     cases Oc ((bl t).drop (i+1))with
     |none=>rfl
     |some p=>simp
def x9(s:List UInt8):Option (List UInt8×Nat×List UInt8×List UInt8):=
 match opR (s.drop (upTo jq s).length)with
 |none=>none
 |some (i,t)=>match Oc t with
  |none=>none
  |some (v,r)=>some (upTo jq s,i,v,r)
theorem aaz(s:ByteArray)(hs:s.size≤4194304):∃m:MT,NQ ((s,()),())=some (match x9 (bl s)with
  |some (k,i,v,r)=>((bR r,true,()),(((bR k,(i:Int),bR v,()),()),()))
  |none=>((ByteArray.empty,false,()),((m,()),()))):=by
 have q1:=U6 s hs M0 s.size 0 (by omega);rw[alx,alg]at q1;have hl:=UJ (p:=jq) (bl s);rw[aX]at hl;have d0:decide ((0:Int)≤(((upTo jq (bl s)).length:Nat):Int))=true:=ak7 (by omega);have d1:decide (0≤(upTo jq (bl s)).length∧(upTo jq (bl s)).length≤s.size)=true:=ak7 (by omega);have d2:decide ((upTo jq (bl s)).length≤s.size∧s.size≤s.size)=true:=ak7 (by omega);have htk:(bl s).take (upTo jq (bl s)).length=upTo jq (bl s):=IW (bl s);have q2:=X8 (bR ((bl s).drop (upTo jq (bl s)).length)) (by rw[size_mk,aln,aX];omega) M0 (bR (upTo jq (bl s)),-1,ByteArray.empty,());rw[kr]at q2
 have go:∀m:MT,NQ ((s,()),())=some (match x9 (bl s)with
  |some (k,i,v,r)=>((bR r,true,()),(((bR k,(i:Int),bR v,()),()),()))
  |none=>((ByteArray.empty,false,()),((m,()),())))→∃m:MT,NQ ((s,()),())=some (match x9 (bl s)with
  |some (k,i,v,r)=>((bR r,true,()),(((bR k,(i:Int),bR v,()),()),()))
  |none=>((ByteArray.empty,false,()),((m,()),()))):=fun m h=>⟨m,h⟩
 unfold x9 at go ⊢
 cases ho:opR ((bl s).drop (upTo jq (bl s)).length)with
 |none=>
  rw[ho]at q2 go;refine go (bR (upTo jq (bl s)),-1,ByteArray.empty,()) ?_;unfold NQ;refine aP _ (show aB lF ((0,s,()),((M0,()),()))=_ from q1) ?_;simp only[d0,akA,d1,d2,BO,yT,htk,Xn,au,sS];refine aP _ (show aB gH ((bR ((bl s).drop (upTo jq (bl s)).length),0,()),((M0,()),(((bR (upTo jq (bl s)),-1,ByteArray.empty,()),()),(xY,()))))=_ from q2) ?_;rfl
 |some p=>
  obtain⟨i,t⟩:=p;rw[ho]at q2 go
  have htl:t.length≤4194304:=by
   have:t.length≤((bl s).drop (upTo jq (bl s)).length).length:=by
    unfold opR at ho
    repeat' split at ho
    all_goals first|(cases ho;rw[aln];omega)|cases ho
   rw[aln,aX]at this;omega
  have q3:=Vj (bR t) (by rw[size_mk];exact htl) M0 (bR (upTo jq (bl s)),(i:Int),ByteArray.empty,()) t.length 0 [] (by rw[size_mk];omega) (by omega) (by simp);rw[kr,alg,←VJ]at q3;have hneg:decide ((i:Int)<0)=false:=ak9 (by omega)
  cases hu:Oc t with
  |none=>
   simp only[hu]at q3 go ⊢;refine go (bR (upTo jq (bl s)),(i:Int),ByteArray.empty,()) ?_;unfold NQ;refine aP _ (show aB lF ((0,s,()),((M0,()),()))=_ from q1) ?_;simp only[d0,akA,d1,d2,BO,yT,htk,Xn,au,sS];refine aP _ (show aB gH ((bR ((bl s).drop (upTo jq (bl s)).length),0,()),((M0,()),(((bR (upTo jq (bl s)),-1,ByteArray.empty,()),()),(xY,()))))=_ from q2) ?_;simp only[hneg,au,sS];exact aP _ (show aB fu ((0,bR t,ByteArray.empty,()),((M0,()),(((bR (upTo jq (bl s)),(i:Int),ByteArray.empty,()),()),())))=_ from q3) rfl
  |some p=>
   simp only[hu]at q3 go ⊢;refine go M0 ?_;unfold NQ;refine aP _ (show aB lF ((0,s,()),((M0,()),()))=_ from q1) ?_;simp only[d0,akA,d1,d2,BO,yT,htk,Xn,au,sS];refine aP _ (show aB gH ((bR ((bl s).drop (upTo jq (bl s)).length),0,()),((M0,()),(((bR (upTo jq (bl s)),-1,ByteArray.empty,()),()),(xY,()))))=_ from q2) ?_;simp only[hneg,au,sS];refine aP _ (show aB fu ((0,bR t,ByteArray.empty,()),((M0,()),(((bR (upTo jq (bl s)),(i:Int),ByteArray.empty,()),()),())))=_ from q3) ?_;simp only[au,amm]
theorem QC(s:ByteArray)(out:List MT)(hs:s.size≤4194304)(ho:out.length≤1000):
  wI ((s,()),(out,()))=some (match x9 (bl s)with
   |none=>.inr ((false,()),([],()))
   |some (k,i,v,r)=>if 20<out.length then .inr ((false,()),([],()))else match r with
    | []=>.inr ((true,()),(out++ [(bR k,(i:Int),bR v,())],()))
    |c::r=>if c=44 then .inl ((bR r,()),(out++ [(bR k,(i:Int),bR v,())],()))else .inr ((false,()),([],()))):=by
 obtain⟨m,q⟩:=aaz s hs
 cases hr:x9 (bl s)with
 |none=>
  rw[hr]at q;simp only[wI,q,au,sS]
 |some p=>
  obtain⟨k,i,v,r⟩:=p;rw[hr]at q;by_cases h20:20<out.length
  ·have d:decide ((((out.length:Nat):Int):Int)>20)=true:=ak7 (by omega);simp only[wI,q,d,au,sS];rw[if_pos h20]
  ·have d:decide ((((out.length:Nat):Int):Int)>20)=false:=ak9 (by omega);have hb:∀z:MT,decide (out.length+([z]:List MT).length≤4294967296)=true:=fun z=>ak7 (by simp;omega)
   simp only[wI,q,d,hb,bg,au,sS];rw[if_neg h20]
   cases r with
   |nil=>
    have:(bl (bR ([]:List UInt8))==bl ByteArray.empty)=true:=rfl;simp only[this,au,sS]
   |cons c r=>
    have e1:(bl (bR (c::r))==bl ByteArray.empty)=false:=rfl;have e2:decide ((0:Int)≤0∧(0:Int)<((bR (c::r)).size:Int))=true:=ak7 (by rw[size_mk,alo];omega);have e3:((((bR (c::r))[0]?.getD 0).toNat:Nat):Int)=u8 c:=ou (s:=bR (c::r)) (i:=0) rfl;have e4:(u8 c==44)=(c==44):=eqU c 44;have e5:decide (1≤(bR (c::r)).size∧(bR (c::r)).size≤(bR (c::r)).size)=true:=ak7 (by rw[size_mk,alo];omega);have e6:(bR (c::r)).extract 1 (bR (c::r)).size=bR r:=by rw[BO,kr];rfl
    simp only[e1,e2,e3,bne,e4,au,sS];by_cases hc:c=44
    ·subst hc;simp only[e5,e6,alF,au,sS,if_true]
    ·rw[akR.2 hc,if_neg hc];simp only[au,sS]
theorem Rq{k v r:List UInt8}(hk:VX k=true):x9 (item k [61] v++r)=some (k,0,v,r):=by
 have hu:upTo jq (item k [61] v++r)=k:=by
  unfold item;rw[show k++([61]++34::(esc v++ [34]))++r=k++61::(34::(esc v++ [34])++r) by simp];refine C9 (fun c hc=> ?_) rfl;have h:=(QK hk).2.2 c hc;unfold jq;rw[akR.2 (yw h (by decide)),akR.2 (yw h (by decide)),akR.2 (yw h (by decide))];rfl
 have hd:(item k [61] v++r).drop k.length=61::34::(esc v++34::r):=by
  unfold item;rw[show k++([61]++34::(esc v++ [34]))++r=k++(61::34::(esc v++34::r)) by simp];exact List.drop_left' rfl
 unfold x9;rw[hu,hd]
 have ho:opR (61::34::(esc v++34::r))=some (0,esc v++34::r):=by
  unfold opR;rw[if_pos (by unfold xS;rfl)];rfl
 rw[ho];simp only[KR]
theorem aaD:∀(l:List LT) (x:LT) (out:List MT),(∀y∈x::l,kM y.1=true)→(commas ((x::l).map bq)).length≤4194304→out.length+l.length≤20→
  aB wI ((bR (commas ((x::l).map bq)),()),(out,()))=some ((true,()),(out++(x::l).map (fun y=>(y.1,0,y.2.1,())),())):=by
 intro l
 induction l with
 |nil=>
  intro x out hk hlen ho;have k1:=hk x (alQ ..);have hcm:commas ([x].map bq)=bq x:=rfl;rw[hcm]at hlen ⊢;have h:=QC (bR (bq x)) out (by rw[size_mk];exact hlen) (by simp at ho;omega);have hr:=Rq (k:=bl x.1) (v:=bl x.2.1) (r:=[]) k1;rw[alk]at hr;rw[kr,show x9 (bq x)=_ from hr]at h;simp only[if_neg (show¬ 20<out.length by simp at ho;omega),abn]at h;exact aA h
 |cons y l ih=>
  intro x out hk hlen ho;have k1:=hk x (alQ ..);have hcm:commas ((x::y::l).map bq)=bq x++44::commas ((y::l).map bq):=rfl;rw[hcm]at hlen ⊢;have h:=QC (bR (bq x++44::commas ((y::l).map bq))) out (by rw[size_mk];exact hlen) (by simp at ho;omega);have hr:=Rq (k:=bl x.1) (v:=bl x.2.1) (r:=44::commas ((y::l).map bq)) k1;rw[kr,show x9 (bq x++44::commas ((y::l).map bq))=_ from hr]at h;simp only[if_neg (show¬ 20<out.length by simp at ho;omega),abn,if_true]at h;rw[aD h,show(((0:Nat):Nat):Int)=0 from rfl];rw[ih y (out++ [(x.1,0,x.2.1,())]) (fun z hz=>hk z (alN _ hz)) (by rw[akW,alo]at hlen;omega) (by simp at ho ⊢;omega)];simp
theorem acf(w:ByteArray)(ms:List MT)(hl:ms.length≤1000):aB zx ((0,w,()),(ms,([],())))=some ((w,()),(ms.map (fun m=>(m.1,m.2.2.1,())),())):=by
 refine UQ (jV (f:=zx) (Q:=fun b=>b=((w,()),(ms.map (fun m:MT=>((m.1,m.2.2.1,()):LT)),()))) (fun i st=>st=(((i:Int),w,()),(ms,((ms.take i).map (fun m:MT=>((m.1,m.2.2.1,()):LT)),())))) ms.length ?_ ?_ _ rfl)
 ·rintro i _ hi rfl;obtain⟨e,he⟩:=getD_some (l:=ms) (i:=i) hi;have hlt:decide ((i:Int)<((ms.length:Nat):Int))=true:=ak7 (by omega);have hbd:decide ((0:Int)≤(i:Int)∧(i:Int)<((ms.length:Nat):Int))=true:=ak7 (by omega);have hw:aQ ((i:Int)+1)=((i+1:Nat):Int):=aG (by omega);have hb:∀z:LT,decide (((ms.take i).map (fun m:MT=>((m.1,m.2.2.1,()):LT))).length+ [z].length≤4294967296)=true:=fun z=>ak7 (by simp;omega)
  refine⟨_,?_,rfl⟩;rw[show ms.take (i+1)=ms.take i++ [e] by rw[amj,he];rfl,alh];simp only[zx,hlt,hbd,akA,he,hb,hw,au,sS];rfl
 ·rintro _ rfl;refine⟨_,?_,rfl⟩;have:decide ((ms.length:Int)<((ms.length:Nat):Int))=false:=ak9 (by omega);simp only[zx,this,au,sS];rw[alv (akJ _)]
theorem Sv{w:ByteArray}{q:List UInt8}{c:UInt8}(h:bl w=q++ [c]):(((w[q.length]?.getD 0).toNat:Nat):Int)=u8 c:=ou (by rw[h,akL (akJ _),Nat.sub_self];rfl)
theorem VB(l:List LT)(h:bO l=true):m22 ((bR (bV l),()),())=some ((0,()),(l,())):=by
 obtain⟨h1,h2⟩:=gK h;have hp:=qC h l.length;rw[alv (by rw[akD];exact akJ _)]at hp
 have hk:IV l:=⟨by unfold big;omega,fun x hx=>by
  obtain⟨a,b,_⟩:=h2 x hx;have:=zO a;have:=rT b;unfold big;omega⟩
 have e3:=Xc l hk;have e4:Di l=bR (bV l):=by unfold Di;rw[if_pos h]
 rw[e4]at e3;unfold m22
 cases l with
 |nil=>
  have:(bl (bR (bV []))==bl (bs [123,125]))=true:=rfl;simp only[this,au,e3,bg,alF,au,sS]
 |cons x l=>
  have hne:commas ((x::l).map bq)≠ []:=by
   rw[akZ];exact Tx Zz
  have e0:(bl (bR (bV (x::l)))==bl (bs [123,125]))=false:=by
   rw[kr];refine akR.2 fun e=>hne ?_
   have e:123::(commas ((x::l).map bq)++ [125])=[123,125]:=e
   cases hc:commas ((x::l).map bq)with
   |nil=>rfl
   |cons a b=>rw[hc]at e;simp at e
  have hsz:(bR (bV (x::l))).size=(commas ((x::l).map bq)).length+2:=by rw[size_mk];unfold bV;simp
  have f1:decide ((((bR (bV (x::l))).size:Int):Int)<2)=false:=ak9 (by rw[hsz];omega);have f2:decide ((0:Int)≤0∧(0:Int)<((bR (bV (x::l))).size:Int))=true:=ak7 (by rw[hsz];omega);have f3:((((bR (bV (x::l)))[0]?.getD 0).toNat:Nat):Int)=u8 123:=ou (i:=0) rfl;have f4:aQ (((bR (bV (x::l))).size:Int)-1)=(((commas ((x::l).map bq)).length+1:Nat):Int):=by rw[hsz,bH (by omega) (by omega)];omega
  have f5:decide ((0:Int)≤(((commas ((x::l).map bq)).length+1:Nat):Int)∧(((commas ((x::l).map bq)).length+1:Nat):Int)<((bR (bV (x::l))).size:Int))=true:=ak7 (by rw[hsz];omega);have f6:((((bR (bV (x::l)))[(commas ((x::l).map bq)).length+1]?.getD 0).toNat:Nat):Int)=u8 125:=Sv (q:=123::commas ((x::l).map bq)) rfl;have f7:decide ((0:Int)≤(((commas ((x::l).map bq)).length+1:Nat):Int))=true:=ak7 (by omega);have f8:decide (1≤(commas ((x::l).map bq)).length+1∧(commas ((x::l).map bq)).length+1≤(bR (bV (x::l))).size)=true:=ak7 (by rw[hsz];omega)
  have f9:(bR (bV (x::l))).extract 1 ((commas ((x::l).map bq)).length+1)=bR (commas ((x::l).map bq)):=pU (by
   rw[ic,kr,kr,Nat.add_sub_cancel]
   show((commas ((x::l).map bq)++ [125])).take _=_
   exact List.take_left' rfl)
  have q1:=aaD l x [] (fun y hy=>(h2 y hy).1) (by omega) (by simp at h1 ⊢;omega);rw[amm]at q1;have q2:=acf (bR (bV (x::l))) ((x::l).map (fun y=>((y.1,0,y.2.1,()):MT))) (by rw[akD];omega);rw[alO]at q2
  have e5:(x::l).map ((fun m:MT=>((m.1,m.2.2.1,()):LT)) ∘ fun y:LT=>((y.1,0,y.2.1,()):MT))=x::l:=by
   conv=>rhs;rw[←List.map_id (x::l)]
   exact alu fun y _=>rfl
  rw[e5]at q2
  have q3:m61 ((bR (commas ((x::l).map bq)),()),())=some ((true,()),((x::l).map (fun y=>((y.1,0,y.2.1,()):MT)),())):=by
   unfold m61;exact aP _ q1 rfl
  have g1:((u8 123:Int) !=123)=false:=rfl;have g2:((u8 125:Int) !=125)=false:=rfl;simp only[e0,f1,f2,f3,f4,f5,akA,f6,f7,f8,f9,g1,g2,q3,q2,au,e3,bg,alF,au,sS]
end Go.Proofs.YtchnmpafhfjimaaGreatDoor
namespace Go.Proofs.YtchnmpafhfjimaaGreatDoor
open Go Go.Abs
theorem adx:w9 mD:=⟨by decide,fun g hg=>(by cases hg),⟨by decide,fun x hx=>(by cases hx)⟩⟩
theorem AL{p:bX}(hp:wW p):∀(r:List rD) (k:Nat) (s:InT) (nt:List fO),VI p s→w9 s→(∀n∈nt,Zq n)→(aW p r k s nt).1=0→
  ∀n∈(aW p r k s nt).2.2.1,Zq n
 | [],k,s,nt,h,hs,hn,_=>hn
 |a::r,k,s,nt,h,hs,hn,e=>by
  obtain⟨u1,u2,u3,u4⟩:=qm hp a.1 k s nt h hs;have us:=vk hp a.1 k s nt h hs hn;unfold aW at e ⊢;split at e
  ·rename_i c;exact absurd e c
  rename_i c;rw[if_neg c];split at e
  ·rename_i c2;exact absurd e c2
  rename_i c2;rw[if_neg c2];obtain⟨v1,v2⟩:=r9 hp u1 u2 a (by simpa using c2);exact AL hp r _ _ _ v1 v2 us e
theorem UW{p:bX}(hp:wW p)(al:List rD)(un:Int):((xL p al un).1=0→VI p (xL p al un).2.1)∧w9 (xL p al un).2.1∧(xL p al un).2.2.length≤64000∧∀n∈(xL p al un).2.2,Zq n:=by
 have no:∀e:Int,e≠0→(((e,mD,[]):RunT).1=0→VI p ((e,mD,[]):RunT).2.1)∧w9 ((e,mD,[]):RunT).2.1∧((e,mD,[]):RunT).2.2.length≤64000∧∀n∈((e,mD,[]):RunT).2.2,Zq n:=
  fun e he=>⟨fun h=>absurd h he,adx,alj _,fun n hn=>(by cases hn)⟩
 unfold xL;split
 ·rename_i c;exact no _ c
 rename_i c1;simp only[ne_eq,Decidable.not_not]at c1;split
 ·exact no _ (by decide)
 split
 ·exact no _ (by decide)
 unfold Yv;split
 ·rename_i c;exact no _ c
 rename_i c2;simp only[ne_eq,Decidable.not_not]at c2;obtain⟨a1,a2,a3,a4⟩:=BB hp al 1000 kL [] (Es c1) Ml c2;have asm:=AL hp al 1000 kL [] (Es c1) Ml (fun n hn=>(by cases hn)) c2;split
 ·rename_i c;exact no _ c
 rename_i c3;have c2':(aW p al 1000 kL []).1=0:=c2
 show((0:Int)=0→VI p (aR p (un+1) (aW p al 1000 kL []).2.2.2 (aW p al 1000 kL []).2.1 (aW p al 1000 kL []).2.2.1).2.1)∧w9 (aR p (un+1) (aW p al 1000 kL []).2.2.2 (aW p al 1000 kL []).2.1 (aW p al 1000 kL []).2.2.1).2.1∧(aR p (un+1) (aW p al 1000 kL []).2.2.2 (aW p al 1000 kL []).2.1 (aW p al 1000 kL []).2.2.1).2.2.1.length≤64000∧∀n∈(aR p (un+1) (aW p al 1000 kL []).2.2.2 (aW p al 1000 kL []).2.1 (aW p al 1000 kL []).2.2.1).2.2.1,Zq n
 generalize aW p al 1000 kL []=A at a1 a2 a3 a4 asm;obtain⟨u1,u2,u3,u4⟩:=qm hp (un+1) A.2.2.2 A.2.1 A.2.2.1 a1 a2;simp only[List.length_nil,alx]at a4;exact⟨fun _=>u1,u2,by omega,vk hp _ _ _ _ a1 a2 asm⟩
abbrev oG(y:fO):Int:=y.1
abbrev qd(y:fO):Int:=y.2.1
abbrev aiU(y:fO):Int:=y.2.2.1
abbrev wX(y:fO):ByteArray:=y.2.2.2.1
abbrev nF(y:fO):List ByteArray:=y.2.2.2.2.1
abbrev nR(y:fO):List ByteArray:=y.2.2.2.2.2.1
def Rk(z:fO)(rt:Int)(k:ByteArray):Prop:=qd z=rt∧wX z=k
structure GI(p:bX)(Q:List LT→Prop)(nt:List fO)(now:Int)(g:bF):Prop where
 lab:∀m∈aM g,Q (cB m)∧g.1.toNat∈gB p.1 (cB m)
 told:∀m∈aM g,(bY m=false∨dL m=true)→∃z∈nt,Rk z g.1 g.2.1∧aK m∈nF z
 sent:dm g≠ -1→∃z∈nt,Rk z g.1 g.2.1∧oG z=dm g
 due:dm g≠ -1→gm g= -1∨dm g+fB (oz p g.1)≤gm g
 past:∀z∈nt,Rk z g.1 g.2.1→oG z≤dm g∨oG z+fB (oz p g.1)≤now
 now:dm g≤now
theorem GI.app{p:bX}{Q:List LT→Prop}{nt:List fO}{now:Int}{g:bF}(h:GI p Q nt now g){more:List fO}(hm:∀z∈more,¬ Rk z g.1 g.2.1):GI p Q (nt++more) now g:=
 ⟨h.lab,fun m hm' c=>by
  obtain⟨z,hz,e⟩:=h.told m hm' c;exact⟨z,List.mem_append_left _ hz,e⟩,fun c=>by
  obtain⟨z,hz,e⟩:=h.sent c;exact⟨z,List.mem_append_left _ hz,e⟩,h.due,fun z hz e=>by
  rcases akU.1 hz with hz|hz
  ·exact h.past z hz e
  ·exact absurd e (hm z hz),h.now⟩
theorem GI.later{p:bX}{Q:List LT→Prop}{nt:List fO}{now now':Int}{g:bF}(h:GI p Q nt now g)(hn:now≤now'):GI p Q nt now' g:=
 ⟨h.lab,h.told,h.sent,h.due,fun z hz e=>by
  rcases h.past z hz e with a|a
  ·exact .inl a
  ·exact .inr (by omega),by have:=h.now;omega⟩
theorem GI.turn{p:bX}{Q:List LT→Prop}{nt:List fO}{now:Int}{g:bF}(h:GI p Q nt now g)(d:Int)(ms:List bS)
  (hd:dm g≠ -1→gm g= -1∨dm g+fB (oz p g.1)≤gm g→d= -1∨dm g+fB (oz p g.1)≤d)
  (hm:∀m∈ms,(∃x∈aM g,cB x=cB m∧aK x=aK m∧((bY m=false∨dL m=true)→(bY x=false∨dL x=true)))∨
   ((Q (cB m)∧g.1.toNat∈gB p.1 (cB m))∧bY m=true∧dL m=false)):GI p Q nt now (tX (yA g d) ms):=
 by
 refine⟨fun m hm'=> ?_,fun m hm' c=> ?_,h.sent,fun c=>hd c (h.due c),h.past,h.now⟩
 ·rcases hm m hm' with⟨x,hx,e,_⟩|⟨e,_⟩
  ·rw[←e];exact h.lab x hx
  ·exact e
 ·rcases hm m hm' with⟨x,hx,_,e,f⟩|⟨_,e,f⟩
  ·have:=h.told x hx (f c)
   rwa [e]at this
  ·rcases c with c|c
   ·rw[e]at c;cases c
   ·rw[f]at c;cases c
theorem KJ{du se wa int t:Int}(h:se≠ -1)(hd:du= -1∨se+int≤du):gD du se wa int t= -1∨se+int≤gD du se wa int t:=by
 unfold gD K8 kX;rw[if_neg h];split<;>(split<;>(try split)<;>(try split))<;>first|omega|(split<;>omega)
theorem DT(se wa ir t a:Int):∀(rem kept:List bS) (du:Int),
  (se≠ -1→du= -1∨se+ir≤du→(jU se wa ir t a kept du rem).2= -1∨se+ir≤(jU se wa ir t a kept du rem).2)∧
  ∀m∈(jU se wa ir t a kept du rem).1,∃x∈kept++rem,cB x=cB m∧aK x=aK m∧((bY m=false∨dL m=true)→(bY x=false∨dL x=true))
 | [],kept,du=>⟨fun _ h=>h,fun m hm=>⟨m,by simpa[jU]using hm,rfl,rfl,fun h=>h⟩⟩
 |y::r,kept,du=>by
  unfold jU;split
  ·split
   ·rename_i ht;obtain⟨h1,h2⟩:=DT se wa ir t a r (kept++ [stepM y false t]) (gD du se wa ir t);refine⟨fun h hd=>h1 h (KJ h hd),fun m hm=> ?_⟩;obtain⟨x,hx,e1,e2,e3⟩:=h2 m hm;simp only[akU,al3]at hx;rcases hx with(hx|rfl)|hx
    ·exact⟨x,by simp[hx],e1,e2,e3⟩
    ·exact⟨y,by simp,e1,e2,fun _=>.inr ht⟩
    ·exact⟨x,by simp[hx],e1,e2,e3⟩
   ·obtain⟨h1,h2⟩:=DT se wa ir t a r kept (if(kept++r).length=0 then -1 else du)
    refine⟨fun h hd=>h1 h (by
     split
     ·exact .inl rfl
     ·exact hd),fun m hm=> ?_⟩
    obtain⟨x,hx,e⟩:=h2 m hm;simp only[akU]at hx;rcases hx with hx|hx
    ·exact⟨x,by simp[hx],e⟩
    ·exact⟨x,by simp[hx],e⟩
  ·obtain⟨h1,h2⟩:=DT se wa ir t a r (kept++ [y]) du;refine⟨h1,fun m hm=> ?_⟩;obtain⟨x,hx,e⟩:=h2 m hm;simp only[akU,al3]at hx;rcases hx with(hx|rfl)|hx
   ·exact⟨x,by simp[hx],e⟩
   ·exact⟨x,by simp,e⟩
   ·exact⟨x,by simp[hx],e⟩
theorem acL{p:bX}{Q:List LT→Prop}{nt:List fO}{now:Int}{g:bF}(h:GI p Q nt now g)(t:Int):GI p Q nt now (BL p t g):=by
 unfold BL Hr;split
 ·exact h.turn _ _ (fun _ hd=>hd) (fun m hm=>.inl ⟨m,hm,rfl,rfl,fun c=>c⟩)
 ·obtain⟨h1,h2⟩:=DT (dm g) (l8 (oz p g.1)) (fB (oz p g.1)) t p.2.2.1 (aM g) [] (gm g);exact h.turn _ _ h1 (fun m hm=>.inl (by simpa using h2 m hm))
structure Good(p:bX)(Q:List LT→Prop)(pre:List fO)(y:fO):Prop where
 rt:0≤qd y∧qd y<p.1.length
 pol:aiU y=(oz p (qd y)).2.2.1
 some:0<(nF y).length+(nR y).length
 key:∀k,k∈nF y∨k∈nR y→∃l,Q l∧bO l=true∧k=bR (bV l)∧(qd y).toNat∈gB p.1 l∧xZ (oz p (qd y)) l=wX y
 up:(nF y).Pairwise Less
 res:∀k∈nR y,∃z∈pre,Rk z (qd y) (wX y)∧k∈nF z
 apart:∀z∈pre,Rk z (qd y) (wX y)→oG z+fB (oz p (qd y))≤oG y
 late:∀z∈pre,oG z≤oG y
theorem Rz{se int KX t:Int}(h0:0≤int)(h1:int≤KX)(h2:se≤t)(o:Bool):mr se int KX t o= -1∨se+int≤mr se int KX t o:=by
 unfold mr K8;rw[Int.max_def];split<;>(try split)<;>(try split)<;>omega
theorem XY{ms:List bS}(h:(ms.map aK).Pairwise Less)(mu:List ByteArray):(fG mu ms).Pairwise Less:=by
 unfold fG;exact h.sublist (List.Sublist.map _ List.filter_sublist)
theorem Sr{se KX t:Int}{mu:List ByteArray}{ms:List bS}(h:Fw se KX t mu ms=true):0<(fG mu ms).length+(jf mu ms).length:=by
 unfold Fw at h;simp only[amn,alr]at h;rcases h with(h|h)|h
 ·unfold Gg at h;obtain⟨m,hm,hc⟩:=List.any_eq_true.1 h;simp only[akS]at hc
  have:aK m∈fG mu ms:=by
   unfold fG;exact al9.2 ⟨m,amd.2 ⟨hm,by rw[hc.1,hc.2.1];rfl⟩,rfl⟩
  have:=List.length_pos_of_mem this;omega
 ·unfold FZ at h;simp only[akS,alr]at h;have:=h.1.1;omega
 ·omega
theorem aaE{p:bX}{Q:List LT→Prop}{nt:List fO}{now:Int}{g:bF}(h:GI p Q nt now g)(hv:VG g)(hk:o5 p g)(hr:∃r,p.1[g.1.toNat]?=some r∧RR r)
  (hat:∀z∈nt,0≤oG z∧oG z≤now) (sl:List lH) (fs:List (List LT)):
  GI p Q (nt++iQ p sl now fs g) now (o8 p sl now fs g)∧∀y∈iQ p sl now fs g,Good p Q nt y∧oG y=now∧Rk y g.1 g.2.1:=by
 obtain⟨r,hr,rr⟩:=hr;have hlt:=(ak8.1 hr).1;have e0:=lU hr;have hrt:=hv.rt;have i0:0≤fB r:=by have:=rr.wait;have:=rr.int;omega
 have i1:=rr.KX;unfold iQ o8 qb;generalize Dg p sl now fs (aM g)=mu;unfold oM;split
 ·simp only[alI,alk];exact⟨h.turn _ _ (fun _ hd=>hd) (fun m hm=>.inl ⟨m,hm,rfl,rfl,fun c=>c⟩),fun y hy=>by cases hy⟩
 rename_i hdue;dsimp only;split
 ·rename_i hn;simp only[cond_true]
  have hy:Good p Q nt (now,g.1,(oz p g.1).2.2.1,g.2.1,fG mu (aM g),jf mu (aM g),()):=by
   refine⟨⟨hrt,by show g.1< _;omega⟩,rfl,Sr hn,fun k hk'=> ?_,XY hv.up mu,fun k hk'=> ?_,fun z hz e=> ?_,fun z hz=>(hat z hz).2⟩
   ·have:∃m∈aM g,aK m=k:=by
     rcases hk' with hk'|hk'
     ·obtain⟨m,hm,e,_⟩:=QF.1 hk';exact⟨m,hm,e⟩
     ·obtain⟨m,hm,e,_⟩:=QW.1 hk';exact⟨m,hm,e⟩
    obtain⟨m,hm,rfl⟩:=this;exact⟨cB m,(h.lab m hm).1,(hv.mem m hm).lab,(hv.mem m hm).key,(h.lab m hm).2,hk m hm⟩
   ·obtain⟨m,hm,rfl,_,e⟩:=QW.1 hk';exact h.told m hm (.inl e)
   ·have hz0:=hat z hz
    show oG z+fB (oz p g.1)≤now
    rcases h.past z hz e with a|a
    ·have hs:dm g≠ -1:=by omega
     rcases h.due hs with d|d
     ·exact absurd (.inl d) hdue
     ·have:¬ gm g>now:=fun c=>hdue (.inr c)
      omega
    ·exact a
  refine⟨⟨fun m hm=> ?_,fun m hm c=> ?_,fun _=> ?_,fun _=> ?_,fun z hz e=> ?_,Int.le_refl _⟩,fun y hy'=>by rw[al3.1 hy'];exact⟨hy,rfl,rfl,rfl⟩⟩
  ·obtain⟨x,hx,_,rfl⟩:=DV.1 hm;exact h.lab x hx
  ·obtain⟨x,hx,_,rfl⟩:=DV.1 hm
   have c':(bY x=false∨dL x=true)∨aK x∈fG mu (aM g):=by
    rcases c with c|c
    ·exact .inl (.inl c)
    ·have c:(dL x||Ed (fG mu (aM g)) (aK x))=true:=c;rw[amn]at c;rcases c with c|c
     ·exact .inl (.inr c)
     ·exact .inr (rO.1 c)
   rcases c' with c'|c'
   ·obtain⟨z,hz,e⟩:=h.told x hx c';exact⟨z,List.mem_append_left _ hz,e⟩
   ·exact⟨_,List.mem_append_right _ (al3.2 rfl),⟨rfl,rfl⟩,c'⟩
  ·exact⟨_,List.mem_append_right _ (al3.2 rfl),⟨rfl,rfl⟩,rfl⟩
  ·show(if(qZ (fG mu (aM g)) (jf mu (aM g)) (aM g)).length=0 then(-1:Int)else mr now (fB (oz p g.1)) (rA (oz p g.1)) now (Fp (qZ (fG mu (aM g)) (jf mu (aM g)) (aM g))))= -1∨now+fB (oz p g.1)≤(if(qZ (fG mu (aM g)) (jf mu (aM g)) (aM g)).length=0 then(-1:Int)else mr now (fB (oz p g.1)) (rA (oz p g.1)) now (Fp (qZ (fG mu (aM g)) (jf mu (aM g)) (aM g))))
   split
   ·exact .inl rfl
   ·rw[e0];exact Rz i0 i1 (Int.le_refl _) _
  ·left
   show oG z≤now
   rcases akU.1 hz with hz|hz
   ·exact(hat z hz).2
   ·rw[al3.1 hz];exact Int.le_refl _
 ·simp only[alI,alk];refine⟨h.turn _ _ (fun _ _=> ?_) (fun m hm=>.inl ⟨m,hm,rfl,rfl,fun c=>c⟩),fun y hy=>by cases hy⟩;split
  ·exact .inl rfl
  ·rw[e0];exact Rz i0 i1 h.now _
def AG(p:bX)(Q:List LT→Prop)(nt:List fO):Prop:=∀a y b,nt=a++y::b→Good p Q a y
theorem AG.nil(p:bX)(Q:List LT→Prop):AG p Q []:=fun a y b e=>by cases a<;>cases e
theorem AG.snoc{p:bX}{Q:List LT→Prop}{nt:List fO}(h:AG p Q nt){y:fO}(hy:Good p Q nt y):AG p Q (nt++ [y]):=by
 intro a z b e;rcases List.eq_nil_or_concat b with rfl|⟨b',x,rfl⟩
 ·obtain⟨rfl,e2⟩:=List.append_inj' e rfl;cases e2;exact hy
 ·have e':nt++ [y]=(a++z::b')++ [x]:=by simpa using e
  obtain⟨e1,_⟩:=List.append_inj' e' rfl;exact h a z b' e1
theorem LX{p:bX}{Q:List LT→Prop}{now:Int}(hn:0≤now)(sl:List lH)(fs:List (List LT)):∀(gs:List bF) (nt:List fO),KT p gs→(∀g∈gs,o5 p g)→Gv gs→(∀g∈gs,GI p Q nt now g)→AG p Q nt→
  (∀z∈nt,0≤oG z∧oG z≤now)→
  (∀g∈gs,GI p Q (nt++gs.flatMap (iQ p sl now fs)) now (o8 p sl now fs g))∧AG p Q (nt++gs.flatMap (iQ p sl now fs))∧
  (∀z∈nt++gs.flatMap (iQ p sl now fs),0≤oG z∧oG z≤now)∧∀z∈gs.flatMap (iQ p sl now fs),∃g∈gs,Rk z g.1 g.2.1
 | [],nt,_,_,_,_,ha,hat=>by
  simp only[List.flatMap_nil,alk];exact⟨fun g hg=>(by cases hg),ha,hat,fun z hz=>(by cases hz)⟩
 |g::r,nt,jA,hk,hu,hg,ha,hat=>by
  have hu':=alX.1 hu;obtain⟨l1,l2⟩:=aaE (hg g (by simp)) (jA g (by simp)).1 (hk g (by simp)) (jA g (by simp)).2 hat sl fs
  have far:∀x∈r,∀z,Rk z g.1 g.2.1→¬ Rk z x.1 x.2.1:=fun x hx z e e'=>by
   have h1:=hu'.1 x hx;rw[←e'.1,←e'.2,e.1,e.2]at h1;exact Qj h1
  have ha1:AG p Q (nt++iQ p sl now fs g):=by
   have hl:(iQ p sl now fs g).length≤1:=by
    unfold iQ;cases (qb p sl now fs g).1
    ·exact alj _
    ·exact akJ _
   match hc:iQ p sl now fs g with
   | []=>rw[alk];exact ha
   | [y]=>exact ha.snoc (l2 y (by rw[hc];simp)).1
   |_::_::_=>rw[hc]at hl;simp at hl
  have hat1:∀z∈nt++iQ p sl now fs g,0≤oG z∧oG z≤now:=fun z hz=>by
   rcases akU.1 hz with hz|hz
   ·exact hat z hz
   ·have:=(l2 z hz).2.1;omega
  obtain⟨k1,k2,k3,k4⟩:=LX hn sl fs r (nt++iQ p sl now fs g) (fun x hx=>jA x (by simp[hx])) (fun x hx=>hk x (by simp[hx])) hu'.2
   (fun x hx=>(hg x (by simp[hx])).app (fun z hz=>far x hx z (l2 z hz).2.2)) ha1 hat1
  rw[alS,←ale];refine⟨fun x hx=> ?_,k2,k3,fun z hz=> ?_⟩
  ·rcases als.1 hx with rfl|hx
   ·refine l1.app (fun z hz=> ?_);obtain⟨x',hx',e⟩:=k4 z hz;rw[(kQ p sl now fs x).1,(kQ p sl now fs x).2];exact fun c=>far x' hx' z c e
   ·exact k1 x hx
  ·rcases akU.1 hz with hz|hz
   ·exact⟨g,by simp,(l2 z hz).2.2⟩
   ·obtain⟨x,hx,e⟩:=k4 z hz;exact⟨x,by simp[hx],e⟩
structure NI(p:bX)(Q:List LT→Prop)(s:InT)(nt:List fO):Prop where
 gi:∀g∈bB s,GI p Q nt (dw s) g
 gone:∀z∈nt,(∀g∈bB s,¬ Rk z g.1 g.2.1)→oG z+fB (oz p (qd z))≤dw s
 good:AG p Q nt
 at_:∀z∈nt,0≤oG z∧oG z≤dw s
theorem ad2(p:bX)(Q:List LT→Prop):NI p Q kL []:=⟨fun g hg=>(by cases hg),fun z hz=>(by cases hz),AG.nil p Q,fun z hz=>(by cases hz)⟩
theorem VH{p:bX}{now:Int}{g:bF}{r:dx}(h:p.1[g.1.toNat]?=some r)(hi:jG p.1 now g=true):dm g= -1∨dm g+fB r≤now:=by
 unfold jG at hi;rw[h]at hi;simp only[akS,amn,alr]at hi;exact hi.2
theorem MG{p:bX}{Q:List LT→Prop}{s:InT}{now:Int}{gs:List bF}{nt:List fO}(jA:KT p gs)(hg:∀g∈gs,GI p Q nt now g)
  (gone:∀z∈nt,(∀g∈gs,¬ Rk z g.1 g.2.1)→oG z+fB (oz p (qd z))≤now) (good:AG p Q nt) (hat:∀z∈nt,0≤oG z∧oG z≤now):NI p Q (now,ja p now gs,dQ s,fJ s,()) nt:=by
 refine⟨fun g hg'=>hg g (nH hg').1,fun z hz hno=> ?_,good,hat⟩
 show oG z+fB (oz p (qd z))≤now
 by_cases hc:∀g∈gs,¬ Rk z g.1 g.2.1
 ·exact gone z hz hc
 ·obtain⟨g,hg',hrk⟩:∃g∈gs,Rk z g.1 g.2.1:=by
   refine Classical.byContradiction fun h=>hc fun g hg' hrk=>h ⟨g,hg',hrk⟩
  obtain⟨_,r,hr,rr⟩:=jA g hg'
  have hid:jG p.1 now g=true:=by
   cases hi:jG p.1 now g
   ·exact absurd hrk (hno g (amd.2 ⟨hg',by rw[hi];rfl⟩))
   ·rfl
  have hz0:=hat z hz;rw[hrk.1];rcases(hg g hg').past z hz hrk with a|a
  ·rcases VH hr hid with b|b
   ·omega
   ·rw[lU hr];omega
  ·exact a
theorem Yj{p:bX}{Q:List LT→Prop}(hp:wW p){s:InT}(hs:w9 s)(h:VI p s){nt:List fO}(hn:NI p Q s nt){now:Int}(h0:dw s≤now)(h1:now≤8589934592):NI p Q (Dj p s now) (nt++sF p s now):=by
 have hnow:=h.now;have tk:=h.tk hp hs (now:=now) ⟨by omega,h1⟩;have jA:=h.jA hp hs;have hk:=FB jA h.tX;have g1:=tY tk;have g2:=Av tk;have hu:=(tF h.tX).1;have hu1:Gv (jP p s now):=hu.map _ (rP p now)
 have mem1:∀g∈jP p s now,∃x∈bB s,g=BL p now x:=fun g hg=>by
  obtain⟨x,hx,rfl⟩:=al9.1 hg;exact⟨x,hx,rfl⟩
 have gi1:∀g∈jP p s now,GI p Q nt now g:=fun g hg=>by
  obtain⟨x,hx,rfl⟩:=mem1 g hg;exact acL ((hn.gi x hx).later h0) now
 have k1:∀g∈jP p s now,o5 p g:=fun g hg=>by
  obtain⟨x,hx,rfl⟩:=mem1 g hg;exact(hk x hx).of (rP p now x).1 (rP p now x).2 (QU p now x)
 have hat:∀z∈nt,0≤oG z∧oG z≤now:=fun z hz=>by have:=hn.at_ z hz;omega
 obtain⟨l1,l2,l3,l4⟩:=LX (by omega) (dQ s) (qF p s now) (jP p s now) nt g1 k1 hu1 gi1 hn.good hat;refine MG g2 (fun g hg=> ?_) (fun z hz hno=> ?_) l2 l3
 ·obtain⟨x,hx,rfl⟩:=al9.1 hg;exact l1 x hx
 ·rcases akU.1 hz with hz|hz
  ·have:=hn.gone z hz (fun g hg hrk=>by
    refine hno (o8 p (dQ s) now (qF p s now) (BL p now g)) (al9.2 ⟨_,al9.2 ⟨g,hg,rfl⟩,rfl⟩) ?_;rw[(kQ p _ now _ _).1,(kQ p _ now _ _).2,(rP p now g).1,(rP p now g).2];exact hrk)
   omega
  ·obtain⟨g,hg,hrk⟩:=l4 z hz;refine absurd ?_ (hno (o8 p (dQ s) now (qF p s now) g) (al9.2 ⟨g,hg,rfl⟩));rw[(kQ p _ now _ _).1,(kQ p _ now _ _).2];exact hrk
theorem Xg{g:bF}{r:dx}{l:List LT}{on:Bool}{t:Int}(h0:(ji g r l on t).1=0):
  ∃d,(ji g r l on t).2.1=yA g d∧(dm g≠ -1→gm g= -1∨dm g+fB r≤gm g→d= -1∨dm g+fB r≤d)∧
   ∀m∈(ji g r l on t).2.2,(∃x∈aM g,cB x=cB m∧aK x=aK m∧((bY m=false∨dL m=true)→(bY x=false∨dL x=true)))∨(cB m=l∧bY m=true∧dL m=false):=by
 have keep:∀m∈aM g,(∃x∈aM g,cB x=cB m∧aK x=aK m∧((bY m=false∨dL m=true)→(bY x=false∨dL x=true)))∨(cB m=l∧bY m=true∧dL m=false):=
  fun m hm=>.inl ⟨m,hm,rfl,rfl,fun c=>c⟩
 have rest:∀ms:List bS,dm g≠ -1→gm g= -1∨dm g+fB r≤gm g→xH g ms= -1∨dm g+fB r≤xH g ms:=fun ms _ hd=>by
  unfold xH;split
  ·exact .inl rfl
  ·exact hd
 unfold ji at h0 ⊢;dsimp only at h0 ⊢;by_cases hh:hit (bR (bV l)) (aM g)=true
 ·rw[if_pos hh]at h0 ⊢;obtain⟨y,hy,_⟩:=tN hh;rw[hy]at h0 ⊢;dsimp only at h0 ⊢;have hym:=akC hy
  have set_case:∀z:bS,cB y=cB z→aK y=aK z→((bY z=false∨dL z=true)→(bY y=false∨dL y=true))→∀m∈(aM g).set (pos (bR (bV l)) (aM g)) z,
    (∃x∈aM g,cB x=cB m∧aK x=aK m∧((bY m=false∨dL m=true)→(bY x=false∨dL x=true)))∨(cB m=l∧bY m=true∧dL m=false):=by
   intro z h1 h2 h3 m hm;rcases mem_set hm with hm|rfl
   ·exact keep m hm
   ·exact .inl ⟨y,hym,h1,h2,h3⟩
  split
  ·exact⟨_,rfl,fun _ hd=>hd,set_case _ rfl rfl (fun c=>c)⟩
  ·rename_i hf;split
   ·rename_i hon
    exact⟨_,rfl,fun _ hd=>hd,set_case _ rfl rfl (fun _=>.inl (by
     cases hc:bY y
     ·rfl
     ·exact absurd (hc.trans hon.symm) hf))⟩
   ·split
    ·rename_i htold;exact⟨_,rfl,fun h hd=>KJ h hd,set_case _ rfl rfl (fun _=>.inr htold)⟩
    ·refine⟨_,rfl,rest _,fun m hm=> ?_⟩;rcases akU.1 hm with hm|hm
     ·exact keep m (List.mem_of_mem_take hm)
     ·exact keep m (List.mem_of_mem_drop hm)
 ·rw[if_neg hh]at h0 ⊢;split
  ·rename_i hon;rw[if_pos hon]at h0;split
   ·rename_i hl;rw[if_pos hl]at h0;cases h0
   ·refine⟨_,rfl,fun h hd=>KJ h hd,fun m hm=> ?_⟩;simp only[akU,al3]at hm;rcases hm with(hm|rfl)|hm
    ·exact keep m (List.mem_of_mem_take hm)
    ·exact .inr ⟨rfl,rfl,rfl⟩
    ·exact keep m (List.mem_of_mem_drop hm)
  ·exact⟨_,rfl,rest _,keep⟩
theorem ac1{p:bX}{Q:List LT→Prop}{nt:List fO}{now:Int}{g:bF}(h:GI p Q nt now g){l:List LT}{on:Bool}{t:Int}(hl:Q l∧g.1.toNat∈gB p.1 l)
  (h0:(ji g (oz p g.1) l on t).1=0):GI p Q nt now (tX (ji g (oz p g.1) l on t).2.1 (ji g (oz p g.1) l on t).2.2):=by
 obtain⟨d,e,hd,hm⟩:=Xg h0;rw[e];refine h.turn d _ hd (fun m hm'=> ?_);rcases hm m hm' with c|⟨rfl,c⟩
 ·exact .inl c
 ·exact .inr ⟨hl,c⟩
theorem VE{gs:List bF}(hu:Gv gs){rt:Int}{k:ByteArray}(hh:zm rt k gs=false):∀g∈gs,¬(g.1=rt∧g.2.1=k):=by
 rintro g hg ⟨rfl,rfl⟩;have:=Wq hu _ _ hh;unfold Gv at this;rw[ale,List.pairwise_append]at this;obtain⟨_,h2,h3⟩:=this;rw[←alU (iH g.1 g.2.1 gs) gs,akU]at hg;rcases hg with hg|hg
 ·exact Qj (h3 g hg (newG g.1 g.2.1) (by simp))
 ·rw[alV]at h2;exact Qj (a:=newG g.1 g.2.1) ((alX.1 h2).1 g hg)
structure NG(p:bX)(Q:List LT→Prop)(nt:List fO)(now:Int)(gs:List bF):Prop where
 gi:∀g∈gs,GI p Q nt now g
 gone:∀z∈nt,(∀g∈gs,¬ Rk z g.1 g.2.1)→oG z+fB (oz p (qd z))≤now
theorem aci{p:bX}{a:rD}{gs:List bF}{i:Nat}{g:bF}(h:g∈Tm p a gs i):g∈gs∨(g=newG i (xJ p a i)∧zm i (xJ p a i) gs=false):=by
 unfold Tm at h;split at h
 ·exact .inl h
 ·rename_i hh;simp only[akU,al3]at h;rcases h with(h|rfl)|h
  ·exact .inl (List.mem_of_mem_take h)
  ·exact .inr ⟨rfl,by simpa using hh⟩
  ·exact .inl (List.mem_of_mem_drop h)
theorem Z8{p:bX}{a:rD}{gs:List bF}{i:Nat}{g:bF}(h:g∈gs):g∈Tm p a gs i:=by
 unfold Tm;split
 ·exact h
 ·rw[←alU (iH i (xJ p a i) gs) gs,akU]at h;simp only[akU,al3];rcases h with h|h
  ·exact .inl (.inl h)
  ·exact .inr h
theorem Vw{p:bX}{Q:List LT→Prop}{nt:List fO}{now:Int}{a:rD}{gs gs':List bF}{i:Nat}(hu:Gv gs)(h:NG p Q nt now gs)(hn:0≤now)(hq:Q a.2.1)(hi:i∈gB p.1 a.2.1)(e:xI p a gs i=some gs'):NG p Q nt now gs':=by
 have gi1:∀g∈Tm p a gs i,GI p Q nt now g:=fun g hg=>by
  rcases aci hg with hg|⟨rfl,hh⟩
  ·exact h.gi g hg
  ·refine⟨fun m hm=>(by cases hm),fun m hm=>(by cases hm),fun c=>absurd rfl c,fun c=>absurd rfl c,fun z hz e=>.inr ?_,by show(-1:Int)≤now;omega⟩;have:=h.gone z hz (fun g hg hrk=>VE hu hh g hg ⟨hrk.1.symm.trans e.1,hrk.2.symm.trans e.2⟩);rw[e.1]at this;exact this
 unfold xI at e;split at e
 ·cases e;exact h
 ·split at e
  ·cases e
  ·rename_i h0;simp only[ne_eq,Decidable.not_not]at h0;cases e;obtain⟨g,hg,g1,g2,hm⟩:=JB p a gs i;have ha:UH p a gs i=ji g (oz p (i:Int)) a.2.1 a.2.2.1 a.1:=by unfold UH;rw[hg];rfl
   rw[ha]at h0 ⊢;rw[←g1]at h0 ⊢;have hgi:=ac1 (gi1 g (akC hg)) (l:=a.2.1) (on:=a.2.2.1) (t:=a.1) ⟨hq,by rw[g1];exact hi⟩ h0;obtain⟨k1,k2⟩:=Gj h0;rw[g1]at hgi k1 k2 ⊢;refine⟨fun x hx=> ?_,fun z hz hno=>h.gone z hz (fun x hx hrk=> ?_)⟩
   ·rcases mem_set hx with hx|rfl
    ·exact gi1 x hx
    ·exact hgi
   ·obtain⟨j,hj⟩:=List.mem_iff_getElem?.1 (Z8 (a:=a) (i:=i) (p:=p) hx);by_cases ej:iH i (xJ p a i) gs=j
    ·subst ej;rw[hg]at hj;cases hj;refine hno (tX (ji g (oz p (i:Int)) a.2.1 a.2.2.1 a.1).2.1 (ji g (oz p (i:Int)) a.2.1 a.2.2.1 a.1).2.2) (akC (i:=iH i (xJ p a i) gs) ?_) (show Rk z (ji g (oz p (i:Int)) a.2.1 a.2.2.1 a.1).2.1.1 (ji g (oz p (i:Int)) a.2.1 a.2.2.1 a.1).2.1.2.1 from ?_)
     ·rw[List.getElem?_set_self (ak8.1 hg).1]
     ·rw[k1,k2];exact⟨hrk.1.trans (by rw[g1]),hrk.2⟩
    ·refine hno x (akC (i:=j) ?_) hrk;rw[List.getElem?_set_ne ej,hj]
theorem Ql{p:bX}{Q:List LT→Prop}{nt:List fO}{now:Int}{a:rD}(hn:0≤now)(hq:Q a.2.1)(hlab:bO a.2.1=true)(ht:0≤a.1∧a.1≤8589934592):∀{l:List Nat} {gs gs':List bF} {n:Nat},(∀i∈l,i∈gB p.1 a.2.1∧∃r,p.1[i]?=some r∧RR r)→xX p gs n→NG p Q nt now gs→Ai p a l gs=some gs'→NG p Q nt now gs'
 | [],gs,gs',n,_,_,h,e=>by cases e;exact h
 |i::r,gs,gs',n,hl,hi,h,e=>by
  obtain⟨g1,e1,e2⟩:=alD.1 e;exact Ql hn hq hlab ht (fun j hj=>hl j (by simp[hj])) (Ce hi (hl i (by simp)).2 hlab ht e1) (Vw hi.up h hn hq (hl i (by simp)).1 e1) e2
theorem Lj{p:bX}{s:InT}{a:rD}(h0:(dD p s a).1=0):VI p s∧bO a.2.1=true∧dw s≤a.1∧a.1≤8589934592∧∃gs,Ai p a (gB p.1 a.2.1) (bB s)=some gs∧dD p s a=(0,(a.1,ja p a.1 gs,dQ s,fJ s,())):=by
 unfold dD at h0 ⊢;split at h0
 ·cases h0
 rename_i c1;rw[if_neg c1];simp only[not_or,Bool.not_eq_false]at c1;have h:=JI.1 c1.1;split at h0
 ·rename_i c2;exact absurd h0 c2
 rename_i c2;rw[if_neg c2];simp only[ne_eq,Decidable.not_not]at c2;obtain⟨n0,n1,n2⟩:=wN c2 h.now.1
 cases hr:Ai p a (gB p.1 a.2.1) (bB s)with
 |none=>rw[hr]at h0;cases h0
 |some gs=>
  rw[hr]at h0;simp only at h0 ⊢;split at h0
  ·cases h0
  ·rename_i hl;rw[if_neg hl];exact⟨h,c1.2,n2,n1,gs,rfl,rfl⟩
theorem Xq{p:bX}{Q:List LT→Prop}(hp:wW p){s:InT}(hs:w9 s){nt:List fO}(hn:NI p Q s nt){a:rD}(hq:Q a.2.1)(h0:(dD p s a).1=0):NI p Q (dD p s a).2 nt:=by
 obtain⟨h,hlab,n2,n1,gs,hr,e⟩:=Lj h0;have hnow:=h.now;have jA:=h.jA hp hs;obtain⟨f1,f2⟩:=zh hp (iD h.iy).1 a.2.1;have ht:0≤a.1∧a.1≤8589934592:=⟨by omega,n1⟩
 have ai:xX p (bB s) 64:=⟨jA,(tF h.tX).1,h.len⟩
 have inv:=vQ hlab ht f1 ai hr;have ng:NG p Q nt a.1 (bB s):=⟨fun g hg=>(hn.gi g hg).later n2,fun z hz hno=>by have:=hn.gone z hz hno;omega⟩
 have ng2:=Ql ht.1 hq hlab ht (fun i hi=>⟨hi,f1 i hi⟩) ai ng hr;rw[e];exact MG inv.jA ng2.gi ng2.gone hn.good (fun z hz=>by have:=hn.at_ z hz;omega)
theorem Ij{p:bX}(hp:wW p)(J:InT→List fO→Prop)(t:Int)(hJ:∀s nt,VI p s→w9 s→J s nt→(iB (bB s)).2=true→(iB (bB s)).1<t→
   J (Dj p s (max (iB (bB s)).1 (dw s))) (nt++sF p s (max (iB (bB s)).1 (dw s)))):∀(k:Nat) (s:InT) (nt:List fO),VI p s→w9 s→J s nt→
  J (aR p t k s nt).2.1 (aR p t k s nt).2.2.1∧((aR p t k s nt).1=0→(iB (bB (aR p t k s nt).2.1)).2=false∨(iB (bB (aR p t k s nt).2.1)).1≥t)∧((aR p t k s nt).1=0∨(aR p t k s nt).1=5)
 |0,s,nt,h,hs,hj=>by
  unfold aR;split
  ·rename_i c;exact⟨hj,fun _=>c,.inl rfl⟩
  ·exact⟨hj,fun c=>(by cases c),.inr rfl⟩
 |k+1,s,nt,h,hs,hj=>by
  unfold aR;split
  ·rename_i c;exact⟨hj,fun _=>c,.inl rfl⟩
  ·rename_i c;simp only[not_or,Bool.not_eq_false]at c;have jA:=h.jA hp hs;have hd:=uE (fun g hg=>(jA g hg).1);have hnow:=h.now;obtain⟨v1,z1⟩:=wJ hp hs h (now:=max (iB (bB s)).1 (dw s)) ⟨by omega,by omega⟩;exact Ij hp J t hJ k _ _ v1 z1 (hJ s nt h hs hj c.1 (by omega))
theorem I5{p:bX}{Q:List LT→Prop}(hp:wW p)(t B:Int)(htB:t≤B)(k:Nat)(s:InT)(nt:List fO)(h:VI p s)(hs:w9 s)(hn:NI p Q s nt)(ht:dw s≤B):
  (NI p Q (aR p t k s nt).2.1 (aR p t k s nt).2.2.1∧dw (aR p t k s nt).2.1≤B)∧((aR p t k s nt).1=0∨(aR p t k s nt).1=5):=by
 have:=Ij hp (fun s nt=>NI p Q s nt∧dw s≤B) t (fun s nt h hs hj _ hd=>by
  have jA:=h.jA hp hs;have hr:=uE (fun g hg=>(jA g hg).1);have hnow:=h.now;refine⟨Yj hp hs h hj.1 (by omega) (by omega),?_⟩
  show max (iB (bB s)).1 (dw s)≤B
  have:=hj.2;omega) k s nt h hs ⟨hn,ht⟩
 exact⟨this.1,this.2.2⟩
theorem Wo{p:bX}{Q:List LT→Prop}(hp:wW p)(t:Int)(k:Nat)(s:InT)(nt:List fO)(h:VI p s)(hs:w9 s)(hn:NI p Q s nt)(ht:dw s≤t):
  (NI p Q (aR p t k s nt).2.1 (aR p t k s nt).2.2.1∧dw (aR p t k s nt).2.1≤t)∧((aR p t k s nt).1=0∨(aR p t k s nt).1=5):=I5 hp t t (Int.le_refl _) k s nt h hs hn ht
theorem IX{p:bX}{Q:List LT→Prop}(hp:wW p):∀(r:List rD) (k:Nat) (s:InT) (nt:List fO),VI p s→w9 s→NI p Q s nt→(∀a∈r,Q a.2.1∧bO a.2.1=true∧dw s≤a.1∧a.1≤8589934592)→r.Pairwise (fun a b=>a.1≤b.1)→
  ((aW p r k s nt).1=0∨(aW p r k s nt).1=5)∧((aW p r k s nt).1=0→NI p Q (aW p r k s nt).2.1 (aW p r k s nt).2.2.1∧VI p (aW p r k s nt).2.1∧w9 (aW p r k s nt).2.1∧
    ∀t,dw s≤t→(∀a∈r,a.1≤t)→dw (aW p r k s nt).2.1≤t)
 | [],k,s,nt,h,hs,hn,_,_=>⟨.inl rfl,fun _=>⟨hn,h,hs,fun t ht _=>ht⟩⟩
 |a::r,k,s,nt,h,hs,hn,ha,hp2=>by
  obtain⟨a1,a2,a3,a4⟩:=ha a (by simp);obtain⟨hp3,hp4⟩:=alX.1 hp2;obtain⟨u1,u2,_,_⟩:=qm hp a.1 k s nt h hs;obtain⟨⟨n1,n2⟩,n3⟩:=Wo hp a.1 k s nt h hs hn a3;unfold aW;split
  ·rename_i c;exact⟨.inr (by rcases n3 with n3|n3;exact absurd n3 c;exact n3),fun e=>absurd e c⟩
  split
  ·rename_i c c2;refine⟨.inr ?_,fun e=>absurd e c2⟩
   show(dD p (aR p a.1 k s nt).2.1 a).1=5
   unfold dD at c2 ⊢;rw[JI.2 u1,a2,if_neg (by simp)]at c2 ⊢;have hk:KD (dw (aR p a.1 k s nt).2.1) a.1=0:=by unfold KD;rw[if_neg (by omega),if_neg (by omega)]
   rw[hk,if_neg (by simp)]at c2 ⊢;split
   ·rfl
   ·rename_i gs e;simp only[e]at c2;split
    ·rfl
    ·rename_i c3;rw[if_neg c3]at c2;exact absurd rfl c2
  ·rename_i c c2;simp only[ne_eq,Decidable.not_not]at c2;obtain⟨v1,v2⟩:=r9 hp u1 u2 a c2;have hv:=Xq hp u2 n1 a1 c2
   have hnow:dw (dD p (aR p a.1 k s nt).2.1 a).2=a.1:=by
    obtain⟨_,_,_,_,gs,_,e⟩:=Lj c2;rw[e]
   obtain⟨k1,k2⟩:=IX hp r (aR p a.1 k s nt).2.2.2 (dD p (aR p a.1 k s nt).2.1 a).2 (aR p a.1 k s nt).2.2.1 v1 v2 hv (fun b hb=>by
    obtain⟨b1,b2,_,b4⟩:=ha b (by simp[hb]);exact⟨b1,b2,by rw[hnow];exact hp3 b hb,b4⟩) hp4
   refine⟨k1,fun e=> ?_⟩;obtain⟨j1,j2,j3,j4⟩:=k2 e;exact⟨j1,j2,j3,fun t _ hall=>j4 t (by rw[hnow];exact hall a (by simp)) (fun b hb=>hall b (by simp[hb]))⟩
theorem adv{p:bX}{Q:List LT→Prop}(hp:wW p)(hc:rH p=0)(al:List rD)(hl:al.length≤256)(un B:Int)(hun:0≤un∧un+1≤B∧B≤8589934592)(ha:∀a∈al,Q a.2.1∧bO a.2.1=true∧0≤a.1∧a.1≤B)(hp2:al.Pairwise (fun a b=>a.1≤b.1)):
  ((xL p al un).1=0∨(xL p al un).1=5)∧((xL p al un).1=0→AG p Q (xL p al un).2.2∧∀z∈(xL p al un).2.2,0≤oG z∧oG z≤B):=by
 unfold xL;rw[if_neg (by simpa using hc),if_neg (by omega),if_neg (by omega)]
 obtain⟨k1,k2⟩:=IX hp al 1000 kL [] (Es hc) Ml (ad2 p Q) (fun a h=>by
  obtain⟨h1,h2,h3,h4⟩:=ha a h;exact⟨h1,h2,h3,by omega⟩) hp2
 unfold Yv;have e0:aW p al 1000 (0,[],[],1,()) []=aW p al 1000 kL []:=rfl;rw[e0];by_cases h:(aW p al 1000 kL []).1=0
 ·obtain⟨j1,j2,j3,j4⟩:=k2 h;have hnow:=j4 B (by show(0:Int)≤B;omega) (fun a h=>by have:=(ha a h).2.2.2;omega);generalize aW p al 1000 kL []=A at h j1 j2 j3 hnow ⊢;rw[if_neg (by simpa using h)];obtain⟨⟨n1,n2⟩,n3⟩:=I5 hp (un+1) B hun.2.1 A.2.2.2 A.2.1 A.2.2.1 j2 j3 j1 hnow;split
  ·rename_i c;exact⟨.inr (by rcases n3 with n3|n3;exact absurd n3 c;exact n3),fun e=>absurd e c⟩
  ·exact⟨.inl rfl,fun _=>⟨n1.good,fun z hz=>by have:=n1.at_ z hz;omega⟩⟩
 ·rw[if_pos h];exact⟨.inr (by rcases k1 with k1|k1;exact absurd k1 h;exact k1),fun e=>absurd e h⟩
structure TJ(p:bX)(mk:ByteArray)(i:Nat)(key:ByteArray)(nt0:List fO)(at_ W:Int)(s:InT)(nt:List fO):Prop where
 R7:dQ s=[]
 now:at_≤dw s
 mem:∃more,nt=nt0++more∧(∀z∈more,Rk z i key→mk∈nF z∧at_≤oG z)∧∃g∈bB s,g.1=i∧g.2.1=key∧∃m∈aM g,aK m=mk∧bY m=true∧
  ((dL m=false∧(∀z∈more,¬ Rk z i key)∧gm g≠ -1∧gm g≤W∧dw s≤W)∨∃a z b,more=a++z::b∧(∀y∈a,¬ Rk y i key)∧Rk z i key∧oG z≤W)
theorem GI.mono{p:bX}{Q Q':List LT→Prop}{nt:List fO}{now:Int}{g:bF}(h:GI p Q nt now g)(f:∀l,Q l→Q' l):GI p Q' nt now g:=
 ⟨fun m hm=>⟨f _ (h.lab m hm).1,(h.lab m hm).2⟩,h.told,h.sent,h.due,h.past,h.now⟩
theorem vY.t{r:yR}(h:vY r):TSz r:=by
 obtain⟨h1,h2,h3,h4,h5,_⟩:=h;have h6:=h5.length_le;rw[show fV.length=4 from rfl]at h6;exact⟨⟨by unfold big;omega,fun m hm=>(h3 m hm).z⟩,⟨by unfold big;omega,fun m hm=>(h4 m hm).z⟩,by unfold big;omega,fun k hk=>by have:=(vG k (h5.subset hk)).2;unfold big;omega⟩
theorem vY.iy{r:yR}(h:vY r):Kr r=0:=by
 obtain⟨h1,h2,h3,h4,h5,h6,h7⟩:=h;have h8:=h5.length_le;rw[show fV.length=4 from rfl]at h8;have:=List.length_pos_iff.2 h6;have:=List.length_pos_iff.2 h7;unfold Kr
 rw[akR.2 (show(r.1.length:Int)≠0 by omega),akR.2 (show(r.2.1.length:Int)≠0 by omega),ak9 (show¬(r.1.length:Int)>8 by omega),ak9 (show¬(r.2.1.length:Int)>8 by omega),ak9 (show¬(r.2.2.1.length:Int)>12 by omega),
  H9 h3,H9 h4,NH h5]
 rfl
theorem Qh{l:List yR}(hl:l.length≤3)(h:∀r∈l,vY r):Cu l=0:=by
 unfold Cu;rw[ak9 (by omega),alI];clear hl
 induction l with
 |nil=>rfl
 |cons r l ih=>
  unfold La;rw[(h r (by simp)).iy];exact ih fun x hx=>h x (by simp[hx])
structure Lr(p:bX):Prop where
 rt:vV p.1
 inl:p.2.1.length≤3
 inh:∀r∈p.2.1,vY r
 exp:0≤p.2.2.1∧p.2.2.1≤1000
theorem Lr.z{p:bX}(h:Lr p):wW p:=⟨h.rt.z,by have:=h.inl;unfold big;omega,fun r hr=>(h.inh r hr).t,by have:=h.inl;unfold big;omega,fun r hr=>(h.inh r hr).z⟩
theorem Lr.iy{p:bX}(h:Lr p):rH p=0:=by
 have:=h.exp;unfold rH;rw[h.rt.iy,Qh h.inl h.inh,if_neg (by simp),if_neg (by simp),if_neg (by omega)]
theorem Pe(n:Int)(d:iK)(hd:sU d)(h0:0≤n)(h1:n≤10):∃(p:bX) (d':iK),m12 ((n,()),((d,()),()))=some ((),((d',()),(((p.2.2.1,()),()),(p.1,(p.2.1,())))))∧sU d'∧Lr p:=by
 obtain⟨rs,d1,e1,hd1,g1⟩:=Nq n d hd h0 h1;obtain⟨is,d2,e2,hd2,g2,g3⟩:=Uy d1 hd1;obtain⟨x,d3,e3,hd3,g4⟩:=pX [0,0,200,1000] d2 hd2 (by simp) (by simp);refine⟨(rs,is,x,()),d3,?_,hd3,g1,g2,g3,?_⟩
 ·unfold m12;simp only[e1,e2,e3,aly]
 ·simp only[als,List.not_mem_nil,or_false]at g4;dsimp only;omega
structure MU(l:List rD)(t:Int):Prop where
 lab:∀a∈l,jT fV a.2.1
 at_:∀a∈l,0≤a.1∧a.1≤t
 up:l.Pairwise fun a b=>a.1≤b.1
theorem MU.k{l:List rD}{t:Int}(h:MU l t):∀a∈l,IV a.2.1:=fun a ha=>U0 (h.lab a ha)
theorem Ld:∀(n:Nat) (i:Int) (t:Int) (d:iK) (l:List rD),sU d→i=n→l.length+n≤1000→0≤t→t+400*n≤1000000→MU l t→
  ∃(l':List rD) (t':Int) (d':iK),aB Eb ((i,t,()),((d,()),(l,())))=some ((),((d',()),(l',())))∧sU d'∧l'.length=l.length+n∧t≤t'∧t'≤t+400*n∧MU l' t':=by
 intro n
 induction n with
 |zero=>
  intro i t d l hd hi hl h0 h1 hg;refine⟨l,t,d,aA ?_,hd,rfl,Int.le_refl _,by omega,hg⟩;have:decide (i>0)=false:=ak9 (by omega);simp only[Eb,this,au,sS]
 |succ n ih=>
  intro i t d l hd hi hl h0 h1 hg;obtain⟨x,d1,e1,hd1,g1⟩:=pX [0,1,10,30,400] d hd (by simp) (by simp);obtain⟨ls,d2,e2,hd2,g2⟩:=MX d1 hd1;obtain⟨y,d3,e3,hd3,_⟩:=fq 3 d2 hd2 (by omega);simp only[als,List.not_mem_nil,or_false]at g1;have hw:aQ (t+x)=t+x:=bH (by omega) (by omega);have hx:0≤x∧x≤400:=by omega
  obtain⟨l',t',d',k1,k2,k3,k4,k5,k6⟩:=ih (i-1) (t+x) d3 (l++ [(t+x,ls,decide (y>0),())]) hd3 (by omega) (by simp;omega) (by omega) (by omega)
   ⟨fun a ha=>by
    rcases akU.1 ha with ha|ha
    ·exact hg.lab a ha
    ·rw[al3.1 ha];exact g2,fun a ha=>by
    rcases akU.1 ha with ha|ha
    ·have:=hg.at_ a ha;omega
    ·rw[al3.1 ha];exact⟨by show 0≤t+x;omega,Int.le_refl _⟩,List.pairwise_append.2 ⟨hg.up,List.pairwise_singleton _ _,fun a ha b hb=>by
     rw[al3.1 hb];have:=hg.at_ a ha
     show a.1≤t+x
     omega⟩⟩
  refine⟨l',t',d',?_,k2,by rw[k3];simp;omega,by omega,by omega,k6⟩;rw[←k1];refine aD ?_;have c0:decide (i>0)=true:=ak7 (by omega);have c1:decide (l.length+([(t+x,ls,decide (y>0),())]:List rD).length≤4294967296)=true:=ak7 (by simp;omega);simp only[Eb,c0,e1,e2,e3,hw,c1,bH (x:=i-1) (by omega) (by omega),au,sS]
theorem LB(n:Int)(d:iK)(hd:sU d)(h0:0≤n)(h1:n≤100):∃(l:List rD) (t:Int) (d':iK),m13 ((n,()),((d,()),()))=some ((),((d',()),(l,())))∧sU d'∧(l.length:Int)≤n∧0≤t∧t≤400*n∧MU l t:=by
 obtain⟨k,d1,e1,hd1,b1,_⟩:=fq (n+1) d hd (by omega);have b1:=b1 (by omega);obtain⟨l',t',d',e2,k2,k3,k4,k5,k6⟩:=Ld k.toNat k 0 d1 [] hd1 (by omega) (by simp;omega) (Int.le_refl _) (by omega) ⟨fun a ha=>(by cases ha),fun a ha=>(by cases ha),List.Pairwise.nil⟩;refine⟨l',t',d',?_,k2,by rw[k3];simp;omega,k4,by omega,k6⟩;unfold m13;simp only[bH (x:=n+1) (by omega) (by omega),e1,aly,e2]
structure aks(p:bX)(s:InT):Prop where
 vi:VI p s
 z:w9 s
set_option maxRecDepth 1000000 in
theorem Oo:m10 ((),())=some ((true,()),()):=by kernel_rfl
end Go.Proofs.YtchnmpafhfjimaaGreatDoor
namespace Go.Proofs.YtchnmpafhfjimaaGreatDoor
open Go Go.Abs
end Go.Proofs.YtchnmpafhfjimaaGreatDoor
namespace Go.Proofs.YtchnmpafhfjimaaGreatDoor
open Go Go.Abs
theorem WI{p:bX}{y:fO}{l:List LT}{r:dx}(hr:p.1[(qd y).toNat]?=some r)(h0:0≤qd y)(hrz:r.2.2.2.1.length≤big)(hl:IV l)(hk:xZ r l=wX y)(L:List Int)(hL:L.length≤1000):
  ∀(k i:Nat),i+k=L.length→(∃j,i≤j∧L[j]?=some (qd y))→aB zU (((i:Int),l,()),(y,()),(p,()),L,())=some (.inl ((true,()),())):=by
 intro k
 induction k with
 |zero=>
  rintro i hi ⟨j,hj,e⟩;have:=(ak8.1 e).1;omega
 |succ k ih=>
  rintro i hi ⟨j,hj,e⟩;obtain⟨x,hx⟩:=getD_some (l:=L) (i:=i) (by omega);have w:aQ ((i:Int)+1)=((i+1:Nat):Int):=aG (by omega);have c:decide ((0:Int)≤(i:Int)∧(i:Int)<L.length)=true:=ak7 ⟨by omega,by omega⟩;have c1:decide ((i:Int)<((L.length:Nat):Int))=true:=ak7 (by omega);by_cases hxy:x=qd y
  ·subst hxy;refine aA ?_;have q:=Uq r l hl hrz;dsimp only[qd,wX]at h0 hr hk hx;simp only[zU,c1,c,akA,hx,alF,aI,au,sS];simp only[jo h0 hr,q,hk,bg,alF,au,sS]
  ·refine(aD ?_).trans (ih (i+1) (by omega) ⟨j,?_,e⟩)
   ·have hb:(x==y.2.1)=false:=akR.2 hxy;simp only[zU,c1,c,akA,hx,hb,w,au,sS]
   ·by_cases hij:j=i
    ·subst hij;rw[hx]at e;cases e;exact absurd rfl hxy
    ·omega
theorem belongs{p:bX}(hp:wW p)(hc:rH p=0){y:fO}{l:List LT}(h0:0≤qd y)(h1:qd y<p.1.length)(hl:IV l)(hi:(qd y).toNat∈gB p.1 l)(hk:xZ (oz p (qd y)) l=wX y):m23 ((p,y,l,()),())=some ((true,()),()):=by
 obtain⟨f1,f2⟩:=zh hp (iD hc).1 l;obtain⟨r,hr,rr⟩:=f1 _ hi;rw[lU hr]at hk;have q:=acC p.1 hp.rt l hl;have hil:(ints (gB p.1 l)).length≤1000:=by unfold ints;rw[akD];omega
 obtain⟨j,hj⟩:=List.mem_iff_getElem?.1 hi
 have:=WI hr h0 rr.z.2.1 hl hk (ints (gB p.1 l)) hil (ints (gB p.1 l)).length 0 (by omega) ⟨j,alj _,by
  unfold ints;rw[akE,hj];simp only[ala,akG];omega⟩
 unfold m23;simp only[q,au,sS];rw[show aB zU ((0,l,()),(y,()),(p,()),ints (gB p.1 l),())=_ from this];rfl
structure NK(p:bX)(y:fO):Prop where
 rt:0≤qd y∧qd y<p.1.length
 key:∀k,k∈nF y∨k∈nR y→∃l,IV l∧bO l=true∧k=bR (bV l)∧(qd y).toNat∈gB p.1 l∧xZ (oz p (qd y)) l=wX y
 up:(nF y).Pairwise Less
 len:(nF y).length≤1048576∧(nR y).length≤1048576
abbrev S5(y:fO)(K:List ByteArray)(x:List fO)(p:bX):(fO×Unit)×((Int×Unit)×Unit)×List ByteArray×List fO×List dx×List yR×Unit:=((y,()),((p.2.2.1,()),()),K,x,p.1,p.2.1,())
theorem RI{p:bX}(hp:wW p)(hc:rH p=0){y:fO}(hy:NK p y)(a b c:Int)(x:List fO)(i:Nat)(hi:i<(nF y++nR y).length):
  pq (((i:Int),a,b,c,((nF y++nR y).length:Int),()),S5 y (nF y++nR y) x p)=some (.inl (((i+1:Nat),a,b,c,((nF y++nR y).length:Int),()),S5 y (nF y++nR y) x p)):=by
 obtain⟨k,hk⟩:=getD_some hi;have hkm:k∈nF y∨k∈nR y:=akU.1 (akC hk);obtain⟨l,l1,l2,l3,l4,l5⟩:=hy.key k hkm;have q1:=VB l l2;rw[←l3]at q1;have q2:=belongs hp hc hy.rt.1 hy.rt.2 l1 l4 l5;have hlen:=hy.len;have hi2:i<4194304:=by simp only[akW]at hi;omega
 have w:aQ ((i:Int)+1)=((i+1:Nat):Int):=aG (by omega);have c1:decide ((i:Int)<((nF y++nR y).length:Int))=true:=ak7 (by omega);have c2:decide ((0:Int)≤(i:Int)∧(i:Int)<(nF y++nR y).length)=true:=ak7 ⟨by omega,by omega⟩;have q2:m23 (((p.1,p.2.1,p.2.2.1,()),y,l,()),())=some ((true,()),()):=q2;by_cases hi0:(i:Int)>0
 ·by_cases hif:(i:Int)<((nF y).length:Int)
  ·have hif':i<(nF y).length:=by omega
   obtain⟨j,rfl⟩:∃j:Nat,i=j+1:=⟨i-1,by omega⟩
   have hw:aQ (((j+1:Nat):Int)-1)=(j:Int):=by rw[bH (by omega) (by omega)];omega
   obtain⟨e,he⟩:=getD_some (l:=nF y) (i:=j) (by omega)
   have hlt:Op.bytesLess e.toList k.toList=true:=by
    have h1:=(List.pairwise_iff_getElem.1 hy.up) j (j+1) (by omega) hif' (by omega);have e1:(nF y)[j]=e:=(ak8.1 he).2
    have e2:(nF y)[j+1]=k:=by
     rw[akO hif']at hk;exact(ak8.1 hk).2
    rw[e1,e2]at h1;exact fU.1 h1
   simp only[pq,c1,c2,akA,hk,q1,q2,ak7 hi0,ak7 hif,aI,hw,aF he,hlt,akY,w,ali,au,sS]
  ·simp only[pq,c1,c2,akA,hk,q1,q2,ak7 hi0,ak9 hif,w,ali,au,sS]
 ·simp only[pq,c1,c2,akA,hk,q1,q2,ak9 hi0,w,ali,au,sS]
theorem aiL{p:bX}(hp:wW p)(hc:rH p=0){y:fO}(hy:NK p y)(a b c:Int)(x:List fO):∀(k i:Nat),i+k=(nF y++nR y).length→
  aB pq (((i:Int),a,b,c,((nF y++nR y).length:Int),()),S5 y (nF y++nR y) x p)=some (.inr ((a,b,c,()),(y,()),x,((p.2.2.1,()),()),p.1,p.2.1,())):=by
 intro k
 induction k with
 |zero=>
  intro i hi;have c1:decide ((i:Int)<((nF y++nR y).length:Int))=false:=ak9 (by omega);exact aA (by simp only[pq,c1,au,sS])
 |succ k ih=>
  intro i hi;exact(aD (RI hp hc hy a b c x i (by omega))).trans (ih (i+1) (by omega))
abbrev D5(y:fO)(x:List fO)(p:bX):(fO×Unit)×List fO×((Int×Unit)×Unit)×List dx×List yR×Unit:=((y,()),x,((p.2.2.1,()),()),p.1,p.2.1,())
theorem ajF(y z:fO)(x:List fO)(p:bX)(k:ByteArray)(F:List ByteArray)(hF:F.length≤big)(q:Nat×Nat)(R:List ByteArray)(c1 c2 c3 c4 c5 c6 c7:Int):∀(d i:Nat) (bef:Bool),i+d=F.length→
  ∃b,aB mU (((i:Int),k,bef,F,q,c1,R,c2,c3,c4,c5,c6,c7,(F.length:Int),()),((y,()),(z,()),x,((p.2.2.1,()),()),p.1,p.2.1,()))=some ((k,b,q,c1,R,c2,c3,c4,c5,c6,c7,()),D5 y x p)∧
   (bef=true→b=true)∧(qd z=qd y→wX z=wX y→(∃j,i≤j∧F[j]?=some k)→b=true):=by
 unfold big at hF;intro d
 induction d with
 |zero=>
  intro i bef hi;have c:decide ((i:Int)<(F.length:Int))=false:=ak9 (by omega);refine⟨bef,aA (by simp only[mU,c,au,sS]),fun h=>h,?_⟩;rintro _ _ ⟨j,hj,e⟩;have:=(ak8.1 e).1;omega
 |succ d ih=>
  intro i bef hi;obtain⟨e,he⟩:=getD_some (l:=F) (i:=i) (by omega);have c:decide ((i:Int)<(F.length:Int))=true:=ak7 (by omega);have w:aQ ((i:Int)+1)=((i+1:Nat):Int):=aG (by omega)
  have key:∃b1,mU (((i:Int),k,bef,F,q,c1,R,c2,c3,c4,c5,c6,c7,(F.length:Int),()),((y,()),(z,()),x,((p.2.2.1,()),()),p.1,p.2.1,()))=some (.inl ((((i+1:Nat):Int),k,b1,F,q,c1,R,c2,c3,c4,c5,c6,c7,(F.length:Int),()),((y,()),(z,()),x,((p.2.2.1,()),()),p.1,p.2.1,())))∧
    (bef=true→b1=true)∧(qd z=qd y→wX z=wX y→e=k→b1=true):=by
   cases bef with
   |true=>exact⟨true,by simp only[mU,c,aI,aF he,w,au,sS],fun h=>h,fun _ _ _=>rfl⟩
   |false=>
    by_cases h1:e.toList=k.toList
    ·by_cases h2:z.2.1=y.2.1
     ·refine⟨(z.2.2.2.1.toList==y.2.2.2.1.toList),?_,fun h=>(by cases h),fun _ h _=>by rw[show z.2.2.2.1=y.2.2.2.1 from h];exact alF _⟩;have b1:(e.toList==k.toList)=true:=by rw[h1];exact alF _
      have b2:(z.2.1==y.2.1)=true:=by rw[h2];exact alF _
      simp only[mU,c,aI,aF he,w,b1,b2,au,sS]
     ·refine⟨false,?_,fun h=>(by cases h),fun h=>absurd h h2⟩;have b1:(e.toList==k.toList)=true:=by rw[h1];exact alF _
      have b2:(z.2.1==y.2.1)=false:=akR.2 h2;simp only[mU,c,aI,aF he,w,b1,b2,au,sS]
    ·refine⟨false,?_,fun h=>(by cases h),fun _ _ h=>absurd (congrArg ByteArray.toList h) h1⟩;have b1:(e.toList==k.toList)=false:=akR.2 h1;simp only[mU,c,aI,aF he,w,b1,au,sS]
  obtain⟨b1,g1,g2,g3⟩:=key;obtain⟨b,k1,k2,k3⟩:=ih (i+1) b1 (by omega);refine⟨b,(aD g1).trans k1,fun h=>k2 (g2 h),?_⟩;rintro hr hk ⟨j,hj,e2⟩;by_cases hij:j=i
  ·subst hij;rw[he]at e2;cases e2;exact k2 (g3 hr hk rfl)
  ·exact k3 hr hk ⟨j,by omega,e2⟩
theorem ajn(y:fO)(x:List fO)(hx:∀z∈x,(nF z).length≤big)(p:bX)(k:ByteArray)(n:Nat)(hn:n≤x.length)(hn2:x.length≤64000)(R:List ByteArray)(c1 c2 c3 c4 c5:Int):∀(d i:Nat) (bef:Bool),i+d=n→
  ∃b,aB wL ((k,bef,(i:Int),(0,n),c1,R,c2,c3,c4,c5,(n:Int),()),D5 y x p)=some ((c1,R,c2,c3,c4,c5,b,()),D5 y x p)∧
   (bef=true→b=true)∧((∃j z,i≤j∧j<n∧x[j]?=some z∧qd z=qd y∧wX z=wX y∧k∈nF z)→b=true):=by
 intro d
 induction d with
 |zero=>
  intro i bef hi;have c:decide ((i:Int)<(n:Int))=false:=ak9 (by omega);refine⟨bef,aA (by simp only[wL,c,au,sS]),fun h=>h,?_⟩;rintro⟨j,z,h1,h2,_⟩;omega
 |succ d ih=>
  intro i bef hi;obtain⟨z,hz⟩:=getD_some (l:=x) (i:=i) (by omega);have c:decide ((i:Int)<(n:Int))=true:=ak7 (by omega);have c0:decide ((0:Int)≤(i:Int)∧(i:Int)<(n:Int))=true:=ak7 ⟨by omega,by omega⟩;have w:aQ ((i:Int)+1)=((i+1:Nat):Int):=aG (by omega);obtain⟨b1,k1,k2,k3⟩:=ajF y z x p k (nF z) (hx z (akC hz)) (0,n) R c1 c2 c3 c4 c5 (n:Int) (i:Int) (nF z).length 0 bef (by omega)
  have g1:wL ((k,bef,(i:Int),(0,n),c1,R,c2,c3,c4,c5,(n:Int),()),D5 y x p)=some (.inl ((k,b1,((i+1:Nat):Int),(0,n),c1,R,c2,c3,c4,c5,(n:Int),()),D5 y x p)):=by
   simp only[wL,c,c0,alx,akA,hz,au,sS];rw[show aB mU ((0,k,bef,z.2.2.2.2.1,(0,n),c1,R,c2,c3,c4,c5,(n:Int),(i:Int),(z.2.2.2.2.1.length:Int),()),((y,()),(z,()),x,((p.2.2.1,()),()),p.1,p.2.1,()))=_ from k1];simp only[w,au,sS]
  obtain⟨b,j1,j2,j3⟩:=ih (i+1) b1 (by omega);refine⟨b,(aD g1).trans j1,fun h=>j2 (k2 h),?_⟩;rintro⟨j,z',h1,h2,h3,h4,h5,h6⟩;by_cases hij:j=i
  ·subst hij;rw[hz]at h3;cases h3;obtain⟨m,hm⟩:=List.mem_iff_getElem?.1 h6;exact j2 (k3 h4 h5 ⟨m,alj _,hm⟩)
  ·exact j3 ⟨j,z',by omega,h2,h3,h4,h5,h6⟩
theorem ajr(y:fO)(x:List fO)(hx:∀z∈x,(nF z).length≤big)(p:bX)(n:Nat)(hn:n≤x.length)(hn2:x.length≤64000)(R:List ByteArray)(hR:R.length≤big)(hres:∀k∈R,∃z∈x.take n,Rk z (qd y) (wX y)∧k∈nF z)(a b:Int):∀(d i:Nat),i+d=R.length→
  aB yU (((i:Int),(n:Int),R,a,b,(R.length:Int),()),D5 y x p)=some (.inr ((a,b,(n:Int),()),((y,()),((p.2.2.1,()),()),x,p.1,p.2.1,()))):=by
 intro d;unfold big at hR
 induction d with
 |zero=>
  intro i hi;have c:decide ((i:Int)<(R.length:Int))=false:=ak9 (by omega);exact aA (by simp only[yU,c,au,sS])
 |succ d ih=>
  intro i hi;obtain⟨k,hk⟩:=getD_some (l:=R) (i:=i) (by omega);have c:decide ((i:Int)<(R.length:Int))=true:=ak7 (by omega);have c0:decide ((0:Int)≤(n:Int))=true:=ak7 (by omega);have c1:decide (0≤n∧n≤x.length)=true:=ak7 ⟨alj _,hn⟩;have w:aQ ((i:Int)+1)=((i+1:Nat):Int):=aG (by omega);obtain⟨b1,k1,_,k3⟩:=ajn y x hx p k n hn hn2 R (n:Int) a b (R.length:Int) (i:Int) n 0 false (by omega)
  have hb1:b1=true:=by
   obtain⟨z,hz,hrk,hkz⟩:=hres k (akC hk);obtain⟨j,hj⟩:=List.mem_iff_getElem?.1 hz
   have hjn:j<n:=by
    have:=(ak8.1 hj).1;rw[akT]at this;omega
   rw[amk,if_pos hjn]at hj;exact k3 ⟨j,z,alj _,hjn,hj,hrk.1,hrk.2,hkz⟩
  subst hb1;refine(aD ?_).trans (ih (i+1) (by omega));simp only[yU,c,c0,c1,akA,au,sS];refine(aI _).trans ?_;rw[aF hk];rw[show aB wL ((k,false,0,(0,n),(n:Int),R,a,b,(R.length:Int),(i:Int),(n:Int),()),(y,()),x,((p.2.2.1,()),()),p.1,p.2.1,())=_ from k1];simp only[w,akY,au,sS]
abbrev E5(y:fO)(x:List fO)(p:bX):(fO×Unit)×((Int×Unit)×Unit)×List fO×List dx×List yR×Unit:=((y,()),((p.2.2.1,()),()),x,p.1,p.2.1,())
theorem ajT(y:fO)(x:List fO)(p:bX)(n:Nat)(hn:n≤x.length)(hn2:x.length≤64000)(hrt:0≤qd y∧qd y<p.1.length)(hat:0≤oG y∧oG y≤8589934592)
  (hap:∀z∈x.take n,0≤oG z∧oG z≤8589934592∧(Rk z (qd y) (wX y)→oG z+fB (oz p (qd y))≤oG y)) (a b:Int):∀(d i:Nat),i+d=n→
  aB qX (((i:Int),(0,n),a,b,(n:Int),()),E5 y x p)=some (.inr ((a,b,()),(((p.2.2.1,()),()),x,p.1,p.2.1,()))):=by
 intro d
 induction d with
 |zero=>
  intro i hi;have c:decide ((i:Int)<(n:Int))=false:=ak9 (by omega);exact aA (by simp only[qX,c,au,sS])
 |succ d ih=>
  intro i hi;obtain⟨z,hz⟩:=getD_some (l:=x) (i:=i) (by omega);have c:decide ((i:Int)<(n:Int))=true:=ak7 (by omega);have c0:decide ((0:Int)≤(i:Int)∧(i:Int)<(n:Int))=true:=ak7 ⟨by omega,by omega⟩;have w:aQ ((i:Int)+1)=((i+1:Nat):Int):=aG (by omega);refine(aD ?_).trans (ih (i+1) (by omega));have hzt:z∈x.take n:=akC (i:=i) (by rw[amk,if_pos (by omega)];exact hz);obtain⟨h1,h2,h3⟩:=hap z hzt;by_cases e1:z.2.1=y.2.1
  ·by_cases e2:z.2.2.2.1.toList=y.2.2.2.1.toList
   ·have b1:(z.2.1==y.2.1)=true:=by rw[e1];exact alF _
    have b2:(z.2.2.2.1.toList==y.2.2.2.1.toList)=true:=by rw[e2];exact alF _
    have e3:z.2.2.2.1=y.2.2.2.1:=KF e2;have h4:=h3 ⟨e1,e3⟩;obtain⟨r,hr⟩:=getD_some (l:=p.1) (i:=(qd y).toNat) (by omega);rw[lU hr]at h4;have c2:decide ((0:Int)≤y.2.1∧(y.2.1:Int)<(p.1.length:Int))=true:=ak7 hrt;have hr:p.1[y.2.1.toNat]?=some r:=hr;have hw:aQ (y.1-z.1)=y.1-z.1:=bH (by dsimp only[oG]at *;omega) (by dsimp only[oG]at *;omega);have hd:decide (aQ (y.1-z.1)<r.2.2.2.2.2.1)=false:=ak9 (by rw[hw];dsimp only[oG,fB]at *;omega);simp only[qX,c,c0,alx,akA,hz,b1,b2,c2,hr,hd,w,au,sS]
   ·have b1:(z.2.1==y.2.1)=true:=by rw[e1];exact alF _
    have b2:(z.2.2.2.1.toList==y.2.2.2.1.toList)=false:=akR.2 e2;simp only[qX,c,c0,alx,akA,hz,b1,b2,w,au,sS]
  ·have b1:(z.2.1==y.2.1)=false:=akR.2 e1;simp only[qX,c,c0,alx,akA,hz,b1,w,au,sS]
abbrev F5(x:List fO)(p:bX):((Int×Unit)×Unit)×List fO×List dx×List yR×Unit:=(((p.2.2.1,()),()),x,p.1,p.2.1,())
structure Ap(p:bX)(x:List fO):Prop where
 len:x.length≤64000
 good:∀(i:Nat) (y:fO),x[i]?=some y→Good p (jT fV) (x.take i) y
 at_:∀z∈x,0≤oG z∧oG z≤8589934592
 small:∀z∈x,Zq z
theorem WL{p:bX}(hp:wW p)(hc:rH p=0){x:List fO}(h:Ap p x)(i:Nat)(hi:i<x.length):
  yh (((i:Int),(x.length:Int),()),F5 x p)=some (.inl ((((i+1:Nat):Int),(x.length:Int),()),F5 x p)):=by
 obtain⟨y,hy⟩:=getD_some hi;have hym:=akC hy;have g:=h.good i y hy;obtain⟨s1,s2⟩:=h.small y hym;have hlen:=h.len;have at_y:=h.at_ y hym;have c:decide ((i:Int)<(x.length:Int))=true:=ak7 (by omega);have c0:decide ((0:Int)≤(i:Int)∧(i:Int)<(x.length:Int))=true:=ak7 ⟨by omega,by omega⟩;have w:aQ ((i:Int)+1)=((i+1:Nat):Int):=aG (by omega);have r0:decide ((y.2.1:Int)<0)=false:=ak9 (by have:=g.rt.1;dsimp only[qd]at this;omega);have r1:decide ((y.2.1:Int)≥((p.1.length:Nat):Int))=false:=ak9 (by have:=g.rt.2;dsimp only[qd]at this;omega);have r2:decide ((0:Int)≤y.2.1∧(y.2.1:Int)<p.1.length)=true:=ak7 g.rt;obtain⟨r,hr⟩:=getD_some (l:=p.1) (i:=(qd y).toNat) (by have:=g.rt;omega);have hpol:=g.pol;rw[lU hr]at hpol;have hr:p.1[y.2.1.toNat]?=some r:=hr;have r3:(y.2.2.1 !=r.2.2.1)=false:=by rw[show y.2.2.1=r.2.2.1 from hpol];exact ali _
 have hw:aQ ((y.2.2.2.2.1.length:Int)+(y.2.2.2.2.2.1.length:Int))=(y.2.2.2.2.1.length:Int)+(y.2.2.2.2.2.1.length:Int):=bH (by omega) (by omega);have r4:(aQ ((y.2.2.2.2.1.length:Int)+(y.2.2.2.2.2.1.length:Int))==0)=false:=akR.2 (by rw[hw];have:=g.some;dsimp only[nF,nR]at this;omega);have k0:decide (0+y.2.2.2.2.1.length≤4294967296)=true:=ak7 (by omega);have k1:decide (y.2.2.2.2.1.length+y.2.2.2.2.2.1.length≤4294967296)=true:=ak7 (by omega)
 have nk:NK p y:=⟨g.rt,fun k hk=>by
  obtain⟨l,l1,l2,l3,l4,l5⟩:=g.key k hk;exact⟨l,U0 l1,l2,l3,l4,l5⟩,g.up,by dsimp only[nF,nR];omega⟩
 have q14:=aiL hp hc nk (i:Int) (x.length:Int) (i:Int) x (nF y++nR y).length 0 (by omega);have q21:=ajr y x (fun z hz=>by have:=(h.small z hz).1;unfold big;dsimp only[nF];omega) p i (by omega) hlen (nR y) (by unfold big;dsimp only[nR];omega) g.res (x.length:Int) (i:Int) (nR y).length 0 (by omega);have q37:=ajT y x p i (by omega) hlen g.rt at_y (fun z hz=>⟨(h.at_ z (List.mem_of_mem_take hz)).1,(h.at_ z (List.mem_of_mem_take hz)).2,g.apart z hz⟩) (x.length:Int) (i:Int) i 0 (by omega);have c3:decide ((0:Int)≤(i:Int))=true:=ak7 (by omega);have c4:decide (0≤i∧i≤x.length)=true:=ak7 ⟨alj _,by omega⟩;have q14:aB pq ((0,(i:Int),(x.length:Int),(i:Int),(((y.2.2.2.2.1++y.2.2.2.2.2.1).length:Nat):Int),()),(y,()),((p.2.2.1,()),()),y.2.2.2.2.1++y.2.2.2.2.2.1,x,p.1,p.2.1,())=_:=q14
 have q21:aB yU ((0,(i:Int),y.2.2.2.2.2.1,(x.length:Int),(i:Int),(y.2.2.2.2.2.1.length:Int),()),(y,()),x,((p.2.2.1,()),()),p.1,p.2.1,())=_:=q21;have q37:aB qX ((0,(0,i),(x.length:Int),(i:Int),(i:Int),()),(y,()),((p.2.2.1,()),()),x,p.1,p.2.1,())=_:=q37;by_cases hi0:(i:Int)>0
 ·obtain⟨j,rfl⟩:∃j:Nat,i=j+1:=⟨i-1,by omega⟩
  have hw1:aQ (((j+1:Nat):Int)-1)=(j:Int):=by rw[bH (by omega) (by omega)];omega
  obtain⟨z,hz⟩:=getD_some (l:=x) (i:=j) (by omega);have c5:decide ((0:Int)≤(j:Int)∧(j:Int)<(x.length:Int))=true:=ak7 ⟨by omega,by omega⟩;have hzt:z∈x.take (j+1):=akC (i:=j) (by rw[amk,if_pos (by omega)];exact hz);have c6:decide ((y.1:Int)<z.1)=false:=ak9 (by have:=g.late z hzt;dsimp only[oG]at this;omega);simp only[yh,c,c0,akA,hy,r0,r1,r2,hr,r3,r4,ak7 hi0,hw1,c5,hz,c6,k0,k1,q14,q21,q37,c3,c4,w,au,sS]
 ·simp only[yh,c,c0,akA,hy,r0,r1,r2,hr,r3,r4,ak9 hi0,k0,k1,q14,q21,q37,c3,c4,w,au,sS]
theorem ap9{p:bX}(hp:wW p)(hc:rH p=0){x:List fO}(h:Ap p x):∀(d i:Nat),i+d=x.length→
  aB yh (((i:Int),(x.length:Int),()),F5 x p)=some (.inr ((),())):=by
 intro d
 induction d with
 |zero=>
  intro i hi;have c:decide ((i:Int)<(x.length:Int))=false:=ak9 (by omega);exact aA (by simp only[yh,c,au,sS])
 |succ d ih=>
  intro i hi;exact(aD (WL hp hc h i (by omega))).trans (ih (i+1) (by omega))
theorem afx(t:List Int):m5 ((t,()),())=some ((true,()),()):=by
 unfold m5;simp only[light,au,sS];by_cases ht:t.length≤500
 ·obtain⟨p,d1,e1,hd1,gp⟩:=Pe 3 (t,0,()) (ajL ht) (by omega) (by omega);obtain⟨l,u,d2,e2,hd2,g1,g2,g3,ga⟩:=LB 14 d1 hd1 (by omega) (by omega);have hun:∀a∈l,jT fV a.2.1∧bO a.2.1=true∧0≤a.1∧a.1≤8000:=fun a ha=>⟨ga.lab a ha,Oh (ga.lab a ha),(ga.at_ a ha).1,by have:=(ga.at_ a ha).2;omega⟩
  obtain⟨r1,r2⟩:=adv gp.z gp.iy l (by omega) 4000 8000 ⟨by omega,by omega,by omega⟩ hun ga.up;obtain⟨_,_,z1,z2⟩:=UW gp.z l 4000;obtain⟨o,n,blk,q,_⟩:=aeg gp.z l ga.k 4000;generalize xL p l 4000=V at r1 r2 z1 z2 q;have q:m15 (((p.1,p.2.1,p.2.2.1,()),l,4000,()),())=_:=q;rcases r1 with r1|r1
  ·obtain⟨g1,g2⟩:=r2 r1
   have ap:Ap p V.2.2:=⟨z1,fun i y hy=>g1 (V.2.2.take i) y (V.2.2.drop (i+1)) (by
    obtain⟨h1,h2⟩:=ak8.1 hy;rw[←h2,List.getElem_cons_drop,alU]),fun z hz=>⟨(g2 z hz).1,by have:=(g2 z hz).2;omega⟩,z2⟩
   have hb:(V.1 !=0)=false:=by rw[r1];rfl
   have q9:aB yh ((0,((V.2.2.length:Nat):Int),()),((p.2.2.1,()),()),V.2.2,p.1,p.2.1,())=_:=ap9 gp.z gp.iy ap V.2.2.length 0 (by omega);simp only[ak7 ht,roll,e1,e2,q,hb,q9,Oo,au,sS]
  ·have hb:(V.1 !=0)=true:=by rw[r1];rfl
   have hb2:(V.1==5)=true:=by rw[r1];rfl
   simp only[ak7 ht,roll,e1,e2,q,hb,hb2,Oo,au,sS]
 ·simp only[ak9 ht,Oo,au,sS]
theorem ajH:∀x,Abs.TI [.row (.int .i64)] x→m5 (x,())=some ((true,()),()):=by
 intro x _;exact afx x.1
end Go.Proofs.YtchnmpafhfjimaaGreatDoor
