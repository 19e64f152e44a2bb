/- Lemmas for the statement of the last text of this claim. -/
import Derived.Test.YtchnmpafhfjimaaGreatDoorV4E
set_option linter.unusedSimpArgs false
set_option linter.unusedVariables false
namespace Go.Proofs.YtchnmpafhfjimaaGreatDoor
open Go Go.Abs Go.Lab
def jE(c:UInt8):Bool:=c==61||(c==33||c==126)
theorem eqU(c:UInt8)(n:UInt8):(u8 c==(n.toNat:Int))=(c==n):=by
 by_cases h:c=n
 ·subst h;simp[u8]
 ·rw[als.2 h];exact als.2 fun e=>h (UInt8.toNat_inj.1 (by unfold u8 at e;omega))
theorem I4{p:UInt8→Bool}:∀(s:List UInt8),s=upTo p s++s.drop (upTo p s).length
 | []=>rfl
 |c::s=>by
  unfold upTo;by_cases h:p c=true
  ·rw[if_pos h];rfl
  ·rw[if_neg h,alI,List.drop_succ_cons,am1,←I4 s]
theorem IZ{p:UInt8→Bool}:∀(s:List UInt8),s.take (upTo p s).length=upTo p s
 | []=>rfl
 |c::s=>by
  unfold upTo;by_cases h:p c=true
  ·rw[if_pos h];rfl
  ·rw[if_neg h,alI,List.take_succ_cons,IZ s]
theorem Xe{p:UInt8→Bool}(s:List UInt8):(upTo p s).length≤s.length:=by
 have:=congrArg List.length (I4 (p:=p) s);rw[alz]at this;omega
abbrev M0:MT:=(ByteArray.empty,0,ByteArray.empty,())
theorem UF(s:ByteArray)(hs:s.size≤4194304)(m:MT):∀(k i:Nat),i+k=s.size→
  aA lT (((i:Int),s,()),((m,()),()))=some ((((i+(upTo jE ((bl s).drop i)).length:Nat):Int),s,()),((m,()),())):=by
 intro k
 induction k with
 |zero=>
  intro i h;rw[al6 (by rw[aY];omega)];refine aB ?_;have:decide ((i:Int)<(s.size:Int))=false:=akY (by omega);simp only[lT,this,au,sS];rfl
 |succ k ih=>
  intro i h;obtain⟨c,hc,hd⟩:=drop_at (l:=bl s) (i:=i) (by rw[aY];omega);have hlt:decide ((i:Int)<(s.size:Int))=true:=akW (by omega);have hbd:decide ((0:Int)≤(i:Int)∧(i:Int)<(s.size:Int))=true:=akW (by omega);have hw:aS ((i:Int)+1)=((i+1:Nat):Int):=aI (by omega);have e1:(u8 c==61)=(c==61):=eqU c 61;have e2:(u8 c==33)=(c==33):=eqU c 33;have e3:(u8 c==126)=(c==126):=eqU c 126
  have hstep:lT (((i:Int),s,()),((m,()),()))=if jE c then some (.inr (((i:Int),s,()),((m,()),())))else some (.inl ((((i+1:Nat):Int),s,()),((m,()),()))):=by
   unfold jE;simp only[lT,hlt,hbd,byte_at hc,bne,e1,e2,e3,au,sS];cases (c==61)<;>cases (c==33)<;>cases (c==126)<;>simp only[au,sS,hw,al5,alr,aln,alk,alo,if_true,if_false]
  rw[hd];unfold upTo;by_cases hop:jE c=true
  ·rw[if_pos hop]at hstep ⊢;exact aB hstep
  ·rw[if_neg hop]at hstep ⊢;rw[aD hstep,ih (i+1) (by omega),alI];rw[show i+1+(upTo jE ((bl s).drop (i+1))).length=i+((upTo jE ((bl s).drop (i+1))).length+1) by omega]
def yh:List ByteArray:=[(bs [61]),(bs [33,61]),(bs [126]),(bs [33,126])]
theorem zR(t:ByteArray)(ht:t.size≤4194304)(m0 m:MT)(i:Nat)(op:ByteArray)(ho:yh[i]?=some op)(hsz:op.size≤2):
  gY ((t,(i:Int),()),((m0,()),((m,()),(yh,()))))=some (if yC (bl op++ [34]) (bl t)then .inr ((bF ((bl t).drop (op.size+1)),()),((m0,()),(((m.1,(i:Int),m.2.2),()),())))
   else .inl ((t,((i+1:Nat):Int),()),((m0,()),((m,()),(yh,()))))):=by
 have hi:i<yh.length:=(akX.1 ho).1;have hi4:i<4:=hi;have hlt:decide ((i:Int)<((yh.length:Nat):Int))=true:=akW (by omega);have hbd:decide ((0:Int)≤(i:Int)∧(i:Int)<((yh.length:Nat):Int))=true:=akW (by omega);have hw:aS ((i:Int)+1)=((i+1:Nat):Int):=aI (by omega);by_cases h1:(t.size:Int)>(op.size:Int)
 ·have d0:decide ((0:Int)≤(op.size:Int))=true:=akW (by omega);have d1:decide (0≤op.size∧op.size≤t.size)=true:=akW (by omega);obtain⟨c,hc⟩:=getD_some (l:=bl t) (i:=op.size) (by rw[aY];omega);have d2:decide ((0:Int)≤(op.size:Int)∧(op.size:Int)<(t.size:Int))=true:=akW (by omega);have e34:(u8 c==34)=(c==34):=eqU c 34
  have hpre:yC (bl op++ [34]) (bl t)=((bl t).take op.size==bl op&&c==34):=by
   unfold yC;rw[alz,aY,List.length_singleton,am9,hc];by_cases ha:(bl t).take op.size=bl op
   ·rw[ha];by_cases hb:c=34
    ·subst hb;simp
    ·simp[hb]
   ·rw[als.2 ha,amh];refine als.2 fun e=>ha ?_
    have:=List.append_inj_left' e (by simp);exact this
  rw[hpre];simp only[gY,hlt,hbd,akZ,ho,akW h1,d0,d1,AL,bA,kN,au,sS];cases ha:((bl t).take op.size==bl op)
  ·simp only[au,sS,hw,amh,alo,if_false]
  ·simp only[au,sS,d2,byte_at hc,oN hc,e34,alL];cases hb:(c==34)
   ·simp only[au,sS,hw,alo,if_false]
   ·have hw2:aS ((op.size:Int)+1)=((op.size+1:Nat):Int):=aI (by omega);have d3:decide ((0:Int)≤((op.size+1:Nat):Int))=true:=akW (by omega);have d4:decide (op.size+1≤t.size∧t.size≤t.size)=true:=akW (by omega);simp only[au,sS,hw2,d3,akZ,d4,BP,if_true]
 ·have:yC (bl op++ [34]) (bl t)=false:=by
   cases hp:yC (bl op++ [34]) (bl t)
   ·rfl
   ·have:=JH hp;rw[alz,aY,aY,List.length_singleton]at this;omega
  rw[this];simp only[gY,hlt,hbd,akZ,ho,akY h1,hw,au,sS,alo,if_false]
def opR(t:List UInt8):Option (Nat×List UInt8):=
 if yC [61,34] t then some (0,t.drop 2)else if yC [33,61,34] t then some (1,t.drop 3)else if yC [126,34] t then some (2,t.drop 2)else if yC [33,126,34] t then some (3,t.drop 3)else none
theorem Xc(t:ByteArray)(ht:t.size≤4194304)(m0 m:MT):
  aA gY ((t,0,()),((m0,()),((m,()),(yh,()))))=some (match opR (bl t)with
   |some (i,r)=>((bF r,()),((m0,()),(((m.1,(i:Int),m.2.2),()),())))
   |none=>((t,()),((m0,()),((m,()),())))):=by
 have s0:=zR t ht m0 m 0 (bs [61]) rfl (by decide);have s1:=zR t ht m0 m 1 (bs [33,61]) rfl (by decide);have s2:=zR t ht m0 m 2 (bs [126]) rfl (by decide);have s3:=zR t ht m0 m 3 (bs [33,126]) rfl (by decide);have s4:gY ((t,((4:Nat):Int),()),((m0,()),((m,()),(yh,()))))=some (.inr ((t,()),((m0,()),((m,()),())))):=rfl;unfold opR;by_cases h0:yC [61,34] (bl t)=true
 ·rw[if_pos h0];rw[show bl (bs [61])++ [34]=[61,34]from rfl,if_pos h0]at s0;exact aB s0
 ·rw[if_neg h0];rw[show bl (bs [61])++ [34]=[61,34]from rfl,if_neg h0]at s0;rw[show aA gY ((t,0,()),((m0,()),((m,()),(yh,()))))=_ from aD s0];by_cases h1:yC [33,61,34] (bl t)=true
  ·rw[if_pos h1];rw[show bl (bs [33,61])++ [34]=[33,61,34]from rfl,if_pos h1]at s1;exact aB s1
  ·rw[if_neg h1];rw[show bl (bs [33,61])++ [34]=[33,61,34]from rfl,if_neg h1]at s1;rw[show aA gY ((t,((0+1:Nat):Int),()),((m0,()),((m,()),(yh,()))))=_ from aD s1];by_cases h2:yC [126,34] (bl t)=true
   ·rw[if_pos h2];rw[show bl (bs [126])++ [34]=[126,34]from rfl,if_pos h2]at s2;exact aB s2
   ·rw[if_neg h2];rw[show bl (bs [126])++ [34]=[126,34]from rfl,if_neg h2]at s2;rw[show aA gY ((t,((1+1:Nat):Int),()),((m0,()),((m,()),(yh,()))))=_ from aD s2];by_cases h3:yC [33,126,34] (bl t)=true
    ·rw[if_pos h3];rw[show bl (bs [33,126])++ [34]=[33,126,34]from rfl,if_pos h3]at s3;exact aB s3
    ·rw[if_neg h3];rw[show bl (bs [33,126])++ [34]=[33,126,34]from rfl,if_neg h3]at s3;rw[show aA gY ((t,((2+1:Nat):Int),()),((m0,()),((m,()),(yh,()))))=_ from aD s3];exact aB s4
theorem Jv{s:ByteArray}{i:Nat}{c:UInt8}(hc:(bl s)[i]?=some c):s.extract i (i+1)=bF [c]:=oO (by
 have hcl:i<(bl s).length:=(akX.1 hc).1;rw[iL,kN,List.drop_eq_getElem_cons hcl,show i+1-i=1 by omega,List.take_succ_cons,amH];rw[(akX.1 hc).2])
theorem Wp(t:ByteArray)(ht:t.size≤4194304)(m0 m:MT):∀(k i:Nat) (v:List UInt8),t.size-i≤k→i≤t.size→v.length≤i→
  aA fI (((i:Int),t,bF v,()),((m0,()),((m,()),())))=some (match Ot ((bl t).drop i)with
   |some (u,r)=>.inl ((bF r,true,()),(((m.1,m.2.1,bF (v++u),()),()),()))
   |none=>.inr ((),((m0,()),((m,()),())))):=by
 intro k
 induction k with
 |zero=>
  intro i v h hi hv;rw[al6 (by rw[aY];omega)];refine aB ?_;have:decide ((i:Int)<(t.size:Int))=false:=akY (by omega);simp only[fI,this,au,sS];rfl
 |succ k ih=>
  intro i v h hi hv;by_cases hil:i=t.size
  ·rw[al6 (by rw[aY];omega)];refine aB ?_;have:decide ((i:Int)<(t.size:Int))=false:=akY (by omega);simp only[fI,this,au,sS];rfl
  ·obtain⟨c,hc,hd⟩:=drop_at (l:=bl t) (i:=i) (by rw[aY];omega);have hlt:decide ((i:Int)<(t.size:Int))=true:=akW (by omega);have hbd:decide ((0:Int)≤(i:Int)∧(i:Int)<(t.size:Int))=true:=akW (by omega);have hw:aS ((i:Int)+1)=((i+1:Nat):Int):=aI (by omega);have hw2:aS (((i+1:Nat):Int)+1)=((i+1+1:Nat):Int):=aI (by omega);have e34:(u8 c==34)=(c==34):=eqU c 34;have e92:(u8 c==92)=(c==92):=eqU c 92;have d0:∀n:Nat,decide ((0:Int)≤(n:Int))=true:=fun n=>akW (by omega)
   have d1:decide (i+1≤t.size∧t.size≤t.size)=true:=akW (by omega);have d2:decide (i≤i+1∧i+1≤t.size)=true:=akW (by omega);have d3:∀x:UInt8,decide ((bF v).size+(bF [x]).size≤4294967296)=true:=fun x=>akW (by rw[size_mk,size_mk];simp;omega)
   rw[hd];by_cases h34:c=34
   ·subst h34;rw[ZG];refine aB ?_;simp only[fI,hlt,hbd,byte_at hc,oN hc,e34,hw,d0,akZ,d1,BP,au,sS,alE]
   ·have b34:(c==34)=false:=als.2 h34;by_cases h92:c=92
    ·subst h92;by_cases hend:i+1<t.size
     ·obtain⟨d,hdc,hdd⟩:=drop_at (l:=bl t) (i:=i+1) (by rw[aY];exact hend);rw[hdd,Oo];have x1:decide (((i+1:Nat):Int)<(t.size:Int))=true:=akW (by omega);have d4:decide (i+1≤i+1+1∧i+1+1≤t.size)=true:=akW (by omega);have q:=ih (i+1+1) (v++ [d]) (by omega) (by omega) (by simp;omega)
      have hst:fI (((i:Int),t,bF v,()),((m0,()),((m,()),())))=some (.inl ((((i+1+1:Nat):Int),t,bF (v++ [d]),()),((m0,()),((m,()),())))):=by
       simp only[fI,hlt,hbd,byte_at hc,oN hc,e34,e92,b34,hw,x1,d0,akZ,hw2,d4,Jv hdc,d3,jL,au,sS]
      rw[aD hst,q]
      cases Ot ((bl t).drop (i+1+1))with
      |none=>rfl
      |some p=>simp
     ·have hd2:(bl t).drop (i+1)=[]:=al6 (by rw[aY];omega);rw[hd2,Xr];have x1:decide (((i+1:Nat):Int)<(t.size:Int))=false:=akY (by omega)
      have hst:fI (((i:Int),t,bF v,()),((m0,()),((m,()),())))=some (.inl ((((i+1:Nat):Int),t,bF (v++ [92]),()),((m0,()),((m,()),())))):=by
       simp only[fI,hlt,hbd,byte_at hc,oN hc,e34,e92,b34,hw,x1,d0,akZ,d2,Jv hc,d3,jL,au,sS]
      have q:=ih (i+1) (v++ [92]) (by omega) (by omega) (by simp;omega);rw[hd2]at q;rw[aD hst,q];rfl
    ·have b92:(c==92)=false:=als.2 h92;rw[LQ h34 h92];have q:=ih (i+1) (v++ [c]) (by omega) (by omega) (by simp;omega)
     have hst:fI (((i:Int),t,bF v,()),((m0,()),((m,()),())))=some (.inl ((((i+1:Nat):Int),t,bF (v++ [c]),()),((m0,()),((m,()),())))):=by
      simp only[fI,hlt,hbd,byte_at hc,oN hc,e34,e92,b34,b92,hw,d0,akZ,d2,Jv hc,d3,jL,au,sS]
     rw[aD hst,q]
     cases Ot ((bl t).drop (i+1))with
     |none=>rfl
     |some p=>simp
def xQ(s:List UInt8):Option (List UInt8×Nat×List UInt8×List UInt8):=
 match opR (s.drop (upTo jE s).length)with
 |none=>none
 |some (i,t)=>match Ot t with
  |none=>none
  |some (v,r)=>some (upTo jE s,i,v,r)
theorem aan(s:ByteArray)(hs:s.size≤4194304):∃m:MT,OX ((s,()),())=some (match xQ (bl s)with
  |some (k,i,v,r)=>((bF r,true,()),(((bF k,(i:Int),bF v,()),()),()))
  |none=>((ByteArray.empty,false,()),((m,()),()))):=by
 have q1:=UF s hs M0 s.size 0 (by omega);rw[alQ,al9]at q1;have hl:=Xe (p:=jE) (bl s);rw[aY]at hl;have d0:decide ((0:Int)≤(((upTo jE (bl s)).length:Nat):Int))=true:=akW (by omega);have d1:decide (0≤(upTo jE (bl s)).length∧(upTo jE (bl s)).length≤s.size)=true:=akW (by omega);have d2:decide ((upTo jE (bl s)).length≤s.size∧s.size≤s.size)=true:=akW (by omega);have htk:(bl s).take (upTo jE (bl s)).length=upTo jE (bl s):=IZ (bl s);have q2:=Xc (bF ((bl s).drop (upTo jE (bl s)).length)) (by rw[size_mk,alH,aY];omega) M0 (bF (upTo jE (bl s)),-1,ByteArray.empty,());rw[kN]at q2
 have go:∀m:MT,OX ((s,()),())=some (match xQ (bl s)with
  |some (k,i,v,r)=>((bF r,true,()),(((bF k,(i:Int),bF v,()),()),()))
  |none=>((ByteArray.empty,false,()),((m,()),())))→∃m:MT,OX ((s,()),())=some (match xQ (bl s)with
  |some (k,i,v,r)=>((bF r,true,()),(((bF k,(i:Int),bF v,()),()),()))
  |none=>((ByteArray.empty,false,()),((m,()),()))):=fun m h=>⟨m,h⟩
 unfold xQ at go ⊢
 cases ho:opR ((bl s).drop (upTo jE (bl s)).length)with
 |none=>
  rw[ho]at q2 go;refine go (bF (upTo jE (bl s)),-1,ByteArray.empty,()) ?_;unfold OX;refine aR _ (show aA lT ((0,s,()),((M0,()),()))=_ from q1) ?_;simp only[d0,akZ,d1,d2,BP,AL,htk,aaS,au,sS];refine aR _ (show aA gY ((bF ((bl s).drop (upTo jE (bl s)).length),0,()),((M0,()),(((bF (upTo jE (bl s)),-1,ByteArray.empty,()),()),(yh,()))))=_ from q2) ?_;rfl
 |some p=>
  obtain⟨i,t⟩:=p;rw[ho]at q2 go
  have htl:t.length≤4194304:=by
   have:t.length≤((bl s).drop (upTo jE (bl s)).length).length:=by
    unfold opR at ho
    repeat' split at ho
    all_goals first|(cases ho;rw[alH];omega)|cases ho
   rw[alH,aY]at this;omega
  have q3:=Wp (bF t) (by rw[size_mk];exact htl) M0 (bF (upTo jE (bl s)),(i:Int),ByteArray.empty,()) t.length 0 [] (by rw[size_mk];omega) (by omega) (by simp);rw[kN,al9,←Xy]at q3;have hneg:decide ((i:Int)<0)=false:=akY (by omega)
  cases hu:Ot t with
  |none=>
   simp only[hu]at q3 go ⊢;refine go (bF (upTo jE (bl s)),(i:Int),ByteArray.empty,()) ?_;unfold OX;refine aR _ (show aA lT ((0,s,()),((M0,()),()))=_ from q1) ?_;simp only[d0,akZ,d1,d2,BP,AL,htk,aaS,au,sS];refine aR _ (show aA gY ((bF ((bl s).drop (upTo jE (bl s)).length),0,()),((M0,()),(((bF (upTo jE (bl s)),-1,ByteArray.empty,()),()),(yh,()))))=_ from q2) ?_;simp only[hneg,au,sS];exact aR _ (show aA fI ((0,bF t,ByteArray.empty,()),((M0,()),(((bF (upTo jE (bl s)),(i:Int),ByteArray.empty,()),()),())))=_ from q3) rfl
  |some p=>
   simp only[hu]at q3 go ⊢;refine go M0 ?_;unfold OX;refine aR _ (show aA lT ((0,s,()),((M0,()),()))=_ from q1) ?_;simp only[d0,akZ,d1,d2,BP,AL,htk,aaS,au,sS];refine aR _ (show aA gY ((bF ((bl s).drop (upTo jE (bl s)).length),0,()),((M0,()),(((bF (upTo jE (bl s)),-1,ByteArray.empty,()),()),(yh,()))))=_ from q2) ?_;simp only[hneg,au,sS];refine aR _ (show aA fI ((0,bF t,ByteArray.empty,()),((M0,()),(((bF (upTo jE (bl s)),(i:Int),ByteArray.empty,()),()),())))=_ from q3) ?_;simp only[au,amD]
theorem QK(s:ByteArray)(out:List MT)(hs:s.size≤4194304)(ho:out.length≤1000):
  wY ((s,()),(out,()))=some (match xQ (bl s)with
   |none=>.inr ((false,()),([],()))
   |some (k,i,v,r)=>if 20<out.length then .inr ((false,()),([],()))else match r with
    | []=>.inr ((true,()),(out++ [(bF k,(i:Int),bF v,())],()))
    |c::r=>if c=44 then .inl ((bF r,()),(out++ [(bF k,(i:Int),bF v,())],()))else .inr ((false,()),([],()))):=by
 obtain⟨m,q⟩:=aan s hs
 cases hr:xQ (bl s)with
 |none=>
  rw[hr]at q;simp only[wY,q,au,sS]
 |some p=>
  obtain⟨k,i,v,r⟩:=p;rw[hr]at q;by_cases h20:20<out.length
  ·have d:decide ((((out.length:Nat):Int):Int)>20)=true:=akW (by omega);simp only[wY,q,d,au,sS];rw[if_pos h20]
  ·have d:decide ((((out.length:Nat):Int):Int)>20)=false:=akY (by omega);have hb:∀z:MT,decide (out.length+([z]:List MT).length≤4294967296)=true:=fun z=>akW (by simp;omega)
   simp only[wY,q,d,hb,bA,au,sS];rw[if_neg h20]
   cases r with
   |nil=>
    have:(bl (bF ([]:List UInt8))==bl ByteArray.empty)=true:=rfl;simp only[this,au,sS]
   |cons c r=>
    have e1:(bl (bF (c::r))==bl ByteArray.empty)=false:=rfl;have e2:decide ((0:Int)≤0∧(0:Int)<((bF (c::r)).size:Int))=true:=akW (by rw[size_mk,alI];omega);have e3:((((bF (c::r))[0]?.getD 0).toNat:Nat):Int)=u8 c:=oN (s:=bF (c::r)) (i:=0) rfl;have e4:(u8 c==44)=(c==44):=eqU c 44;have e5:decide (1≤(bF (c::r)).size∧(bF (c::r)).size≤(bF (c::r)).size)=true:=akW (by rw[size_mk,alI];omega);have e6:(bF (c::r)).extract 1 (bF (c::r)).size=bF r:=by rw[BP,kN];rfl
    simp only[e1,e2,e3,bne,e4,au,sS];by_cases hc:c=44
    ·subst hc;simp only[e5,e6,amg,au,sS,if_true]
    ·rw[als.2 hc,if_neg hc];simp only[au,sS]
theorem QO{k v r:List UInt8}(hk:VL k=true):xQ (item k [61] v++r)=some (k,0,v,r):=by
 have hu:upTo jE (item k [61] v++r)=k:=by
  unfold item;rw[show k++([61]++34::(esc v++ [34]))++r=k++61::(34::(esc v++ [34])++r) by simp];refine Dv (fun c hc=> ?_) rfl;have h:=(R7 hk).2.2 c hc;unfold jE;rw[als.2 (yA h (by decide)),als.2 (yA h (by decide)),als.2 (yA h (by decide))];rfl
 have hd:(item k [61] v++r).drop k.length=61::34::(esc v++34::r):=by
  unfold item;rw[show k++([61]++34::(esc v++ [34]))++r=k++(61::34::(esc v++34::r)) by simp];exact List.drop_left' rfl
 unfold xQ;rw[hu,hd]
 have ho:opR (61::34::(esc v++34::r))=some (0,esc v++34::r):=by
  unfold opR;rw[if_pos (by unfold yC;rfl)];rfl
 rw[ho];simp only[Ke]
theorem Zb:∀(l:List LT) (x:LT) (out:List MT),(∀y∈x::l,kT y.1=true)→(commas ((x::l).map bB)).length≤4194304→out.length+l.length≤20→
  aA wY ((bF (commas ((x::l).map bB)),()),(out,()))=some ((true,()),(out++(x::l).map (fun y=>(y.1,0,y.2.1,())),())):=by
 intro l
 induction l with
 |nil=>
  intro x out hk hlen ho;have k1:=hk x (amq ..);have hcm:commas ([x].map bB)=bB x:=rfl;rw[hcm]at hlen ⊢;have h:=QK (bF (bB x)) out (by rw[size_mk];exact hlen) (by simp at ho;omega);have hr:=QO (k:=bl x.1) (v:=bl x.2.1) (r:=[]) k1;rw[alE]at hr;rw[kN,show xQ (bB x)=_ from hr]at h;simp only[if_neg (show¬ 20<out.length by simp at ho;omega),abu]at h;exact aB h
 |cons y l ih=>
  intro x out hk hlen ho;have k1:=hk x (amq ..);have hcm:commas ((x::y::l).map bB)=bB x++44::commas ((y::l).map bB):=rfl;rw[hcm]at hlen ⊢;have h:=QK (bF (bB x++44::commas ((y::l).map bB))) out (by rw[size_mk];exact hlen) (by simp at ho;omega);have hr:=QO (k:=bl x.1) (v:=bl x.2.1) (r:=44::commas ((y::l).map bB)) k1;rw[kN,show xQ (bB x++44::commas ((y::l).map bB))=_ from hr]at h;simp only[if_neg (show¬ 20<out.length by simp at ho;omega),abu,if_true]at h;rw[aD h,show(((0:Nat):Nat):Int)=0 from rfl];rw[ih y (out++ [(x.1,0,x.2.1,())]) (fun z hz=>hk z (amm _ hz)) (by rw[alz,alI]at hlen;omega) (by simp at ho ⊢;omega)];simp
theorem adk(w:ByteArray)(ms:List MT)(hl:ms.length≤1000):aA zm ((0,w,()),(ms,([],())))=some ((w,()),(ms.map (fun m=>(m.1,m.2.2.1,())),())):=by
 refine VQ (ku (f:=zm) (Q:=fun b=>b=((w,()),(ms.map (fun m:MT=>((m.1,m.2.2.1,()):LT)),()))) (fun i st=>st=(((i:Int),w,()),(ms,((ms.take i).map (fun m:MT=>((m.1,m.2.2.1,()):LT)),())))) ms.length ?_ ?_ _ rfl)
 ·rintro i _ hi rfl;obtain⟨e,he⟩:=getD_some (l:=ms) (i:=i) hi;have hlt:decide ((i:Int)<((ms.length:Nat):Int))=true:=akW (by omega);have hbd:decide ((0:Int)≤(i:Int)∧(i:Int)<((ms.length:Nat):Int))=true:=akW (by omega);have hw:aS ((i:Int)+1)=((i+1:Nat):Int):=aI (by omega);have hb:∀z:LT,decide (((ms.take i).map (fun m:MT=>((m.1,m.2.2.1,()):LT))).length+ [z].length≤4294967296)=true:=fun z=>akW (by simp;omega)
  refine⟨_,?_,rfl⟩;rw[show ms.take (i+1)=ms.take i++ [e] by rw[am9,he];rfl,alB];simp only[zm,hlt,hbd,akZ,he,hb,hw,au,sS];rfl
 ·rintro _ rfl;refine⟨_,?_,rfl⟩;have:decide ((ms.length:Int)<((ms.length:Nat):Int))=false:=akY (by omega);simp only[zm,this,au,sS];rw[alP (alj _)]
theorem Uq{w:ByteArray}{q:List UInt8}{c:UInt8}(h:bl w=q++ [c]):(((w[q.length]?.getD 0).toNat:Nat):Int)=u8 c:=oN (by rw[h,alm (alj _),Nat.sub_self];rfl)
theorem Mt(l:List LT)(h:bD l=true):m22 ((bF (aW l),()),())=some ((0,()),(l,())):=by
 obtain⟨h1,h2⟩:=gQ h;have hp:=qw h l.length;rw[alP (by rw[ald];exact alj _)]at hp
 have hk:F8 l:=⟨by unfold big;omega,fun x hx=>by
  obtain⟨a,b,_⟩:=h2 x hx;have:=zf a;have:=sJ b;unfold big;omega⟩
 have e3:=OU l hk;have e4:zH l=bF (aW l):=by unfold zH;rw[if_pos h]
 rw[e4]at e3;unfold m22
 cases l with
 |nil=>
  have:(bl (bF (aW []))==bl (bs [123,125]))=true:=rfl;simp only[this,au,e3,bA,amg,au,sS]
 |cons x l=>
  have hne:commas ((x::l).map bB)≠ []:=by
   rw[al3];exact Un YJ
  have e0:(bl (bF (aW (x::l)))==bl (bs [123,125]))=false:=by
   rw[kN];refine als.2 fun e=>hne ?_
   have e:123::(commas ((x::l).map bB)++ [125])=[123,125]:=e
   cases hc:commas ((x::l).map bB)with
   |nil=>rfl
   |cons a b=>rw[hc]at e;simp at e
  have hsz:(bF (aW (x::l))).size=(commas ((x::l).map bB)).length+2:=by rw[size_mk];unfold aW;simp
  have f1:decide ((((bF (aW (x::l))).size:Int):Int)<2)=false:=akY (by rw[hsz];omega);have f2:decide ((0:Int)≤0∧(0:Int)<((bF (aW (x::l))).size:Int))=true:=akW (by rw[hsz];omega);have f3:((((bF (aW (x::l)))[0]?.getD 0).toNat:Nat):Int)=u8 123:=oN (i:=0) rfl;have f4:aS (((bF (aW (x::l))).size:Int)-1)=(((commas ((x::l).map bB)).length+1:Nat):Int):=by rw[hsz,bK (by omega) (by omega)];omega
  have f5:decide ((0:Int)≤(((commas ((x::l).map bB)).length+1:Nat):Int)∧(((commas ((x::l).map bB)).length+1:Nat):Int)<((bF (aW (x::l))).size:Int))=true:=akW (by rw[hsz];omega);have f6:((((bF (aW (x::l)))[(commas ((x::l).map bB)).length+1]?.getD 0).toNat:Nat):Int)=u8 125:=Uq (q:=123::commas ((x::l).map bB)) rfl;have f7:decide ((0:Int)≤(((commas ((x::l).map bB)).length+1:Nat):Int))=true:=akW (by omega);have f8:decide (1≤(commas ((x::l).map bB)).length+1∧(commas ((x::l).map bB)).length+1≤(bF (aW (x::l))).size)=true:=akW (by rw[hsz];omega)
  have f9:(bF (aW (x::l))).extract 1 ((commas ((x::l).map bB)).length+1)=bF (commas ((x::l).map bB)):=oO (by
   rw[iL,kN,kN,Nat.add_sub_cancel]
   show((commas ((x::l).map bB)++ [125])).take _=_
   exact List.take_left' rfl)
  have q1:=Zb l x [] (fun y hy=>(h2 y hy).1) (by omega) (by simp at h1 ⊢;omega);rw[amD]at q1;have q2:=adk (bF (aW (x::l))) ((x::l).map (fun y=>((y.1,0,y.2.1,()):MT))) (by rw[ald];omega);rw[amn]at q2
  have e5:(x::l).map ((fun m:MT=>((m.1,m.2.2.1,()):LT)) ∘ fun y:LT=>((y.1,0,y.2.1,()):MT))=x::l:=by
   conv=>rhs;rw[←List.map_id (x::l)]
   exact alO fun y _=>rfl
  rw[e5]at q2
  have q3:m61 ((bF (commas ((x::l).map bB)),()),())=some ((true,()),((x::l).map (fun y=>((y.1,0,y.2.1,()):MT)),())):=by
   unfold m61;exact aR _ q1 rfl
  have g1:((u8 123:Int) !=123)=false:=rfl;have g2:((u8 125:Int) !=125)=false:=rfl;simp only[e0,f1,f2,f3,f4,f5,akZ,f6,f7,f8,f9,g1,g2,q3,q2,au,e3,bA,amg,au,sS]
end Go.Proofs.YtchnmpafhfjimaaGreatDoor
namespace Go.Proofs.YtchnmpafhfjimaaGreatDoor
open Go Go.Abs
theorem aee:tF mJ:=⟨by decide,fun g hg=>(by cases hg),⟨by decide,fun x hx=>(by cases hx)⟩⟩
theorem zF{p:bY}(hp:wF p):∀(r:List kM) (k:Nat) (s:InT) (nt:List gZ),VI p s→tF s→(∀n∈nt,U3 n)→(aO p r k s nt).1=0→
  ∀n∈(aO p r k s nt).2.2.1,U3 n
 | [],k,s,nt,h,hs,hn,_=>hn
 |a::r,k,s,nt,h,hs,hn,e=>by
  obtain⟨u1,u2,u3,u4⟩:=oU hp a.1 k s nt h hs;have us:=uP hp a.1 k s nt h hs hn;unfold aO at e ⊢;split at e
  ·rename_i c;exact absurd e c
  rename_i c;rw[if_neg c];split at e
  ·rename_i c2;exact absurd e c2
  rename_i c2;rw[if_neg c2];obtain⟨v1,v2⟩:=nX hp u1 u2 a (by simpa using c2);exact zF hp r _ _ _ v1 v2 us e
theorem UQ{p:bY}(hp:wF p)(al:List kM)(un:Int):((qO p al un).1=0→VI p (qO p al un).2.1)∧tF (qO p al un).2.1∧(qO p al un).2.2.length≤64000∧∀n∈(qO p al un).2.2,U3 n:=by
 have no:∀e:Int,e≠0→(((e,mJ,[]):RunT).1=0→VI p ((e,mJ,[]):RunT).2.1)∧tF ((e,mJ,[]):RunT).2.1∧((e,mJ,[]):RunT).2.2.length≤64000∧∀n∈((e,mJ,[]):RunT).2.2,U3 n:=
  fun e he=>⟨fun h=>absurd h he,aee,alD _,fun n hn=>(by cases hn)⟩
 unfold qO;split
 ·rename_i c;exact no _ c
 rename_i c1;simp only[ne_eq,Decidable.not_not]at c1;split
 ·exact no _ (by decide)
 split
 ·exact no _ (by decide)
 unfold KI;split
 ·rename_i c;exact no _ c
 rename_i c2;simp only[ne_eq,Decidable.not_not]at c2;obtain⟨a1,a2,a3,a4⟩:=Bo hp al 1000 jA [] (Bu c1) H9 c2;have asm:=zF hp al 1000 jA [] (Bu c1) H9 (fun n hn=>(by cases hn)) c2;split
 ·rename_i c;exact no _ c
 rename_i c3;have c2':(aO p al 1000 jA []).1=0:=c2
 show((0:Int)=0→VI p (aH p (un+1) (aO p al 1000 jA []).2.2.2 (aO p al 1000 jA []).2.1 (aO p al 1000 jA []).2.2.1).2.1)∧tF (aH p (un+1) (aO p al 1000 jA []).2.2.2 (aO p al 1000 jA []).2.1 (aO p al 1000 jA []).2.2.1).2.1∧(aH p (un+1) (aO p al 1000 jA []).2.2.2 (aO p al 1000 jA []).2.1 (aO p al 1000 jA []).2.2.1).2.2.1.length≤64000∧∀n∈(aH p (un+1) (aO p al 1000 jA []).2.2.2 (aO p al 1000 jA []).2.1 (aO p al 1000 jA []).2.2.1).2.2.1,U3 n
 generalize aO p al 1000 jA []=A at a1 a2 a3 a4 asm;obtain⟨u1,u2,u3,u4⟩:=oU hp (un+1) A.2.2.2 A.2.1 A.2.2.1 a1 a2;simp only[List.length_nil,alQ]at a4;exact⟨fun _=>u1,u2,by omega,uP hp _ _ _ _ a1 a2 asm⟩
abbrev fU(y:gZ):Int:=y.1
abbrev KZ(y:gZ):Int:=y.2.1
abbrev akq(y:gZ):Int:=y.2.2.1
abbrev KJ(y:gZ):ByteArray:=y.2.2.2.1
abbrev nF(y:gZ):List ByteArray:=y.2.2.2.2.1
abbrev nR(y:gZ):List ByteArray:=y.2.2.2.2.2.1
def Rk(z:gZ)(rt:Int)(k:ByteArray):Prop:=KZ z=rt∧KJ z=k
structure GI(p:bY)(Q:List LT→Prop)(nt:List gZ)(now:Int)(g:bG):Prop where
 lab:∀m∈aM g,Q (cO m)∧g.1.toNat∈eT p.1 (cO m)
 told:∀m∈aM g,(bV m=false∨d9 m=true)→∃z∈nt,Rk z g.1 g.2.1∧aJ m∈nF z
 sent:cu g≠ -1→∃z∈nt,Rk z g.1 g.2.1∧fU z=cu g
 due:cu g≠ -1→dI g= -1∨cu g+dz (fM p g.1)≤dI g
 past:∀z∈nt,Rk z g.1 g.2.1→fU z≤cu g∨fU z+dz (fM p g.1)≤now
 now:cu g≤now
theorem GI.app{p:bY}{Q:List LT→Prop}{nt:List gZ}{now:Int}{g:bG}(h:GI p Q nt now g){more:List gZ}(hm:∀z∈more,¬ Rk z g.1 g.2.1):GI p Q (nt++more) now g:=
 ⟨h.lab,fun m hm' c=>by
  obtain⟨z,hz,e⟩:=h.told m hm' c;exact⟨z,List.mem_append_left _ hz,e⟩,fun c=>by
  obtain⟨z,hz,e⟩:=h.sent c;exact⟨z,List.mem_append_left _ hz,e⟩,h.due,fun z hz e=>by
  rcases alx.1 hz with hz|hz
  ·exact h.past z hz e
  ·exact absurd e (hm z hz),h.now⟩
theorem GI.later{p:bY}{Q:List LT→Prop}{nt:List gZ}{now now':Int}{g:bG}(h:GI p Q nt now g)(hn:now≤now'):GI p Q nt now' g:=
 ⟨h.lab,h.told,h.sent,h.due,fun z hz e=>by
  rcases h.past z hz e with a|a
  ·exact .inl a
  ·exact .inr (by omega),by have:=h.now;omega⟩
theorem GI.turn{p:bY}{Q:List LT→Prop}{nt:List gZ}{now:Int}{g:bG}(h:GI p Q nt now g)(d:Int)(ms:List bS)
  (hd:cu g≠ -1→dI g= -1∨cu g+dz (fM p g.1)≤dI g→d= -1∨cu g+dz (fM p g.1)≤d)
  (hm:∀m∈ms,(∃x∈aM g,cO x=cO m∧aJ x=aJ m∧((bV m=false∨d9 m=true)→(bV x=false∨d9 x=true)))∨
   ((Q (cO m)∧g.1.toNat∈eT p.1 (cO m))∧bV m=true∧d9 m=false)):GI p Q nt now (rT (uZ g d) ms):=
 by
 refine⟨fun m hm'=> ?_,fun m hm' c=> ?_,h.sent,fun c=>hd c (h.due c),h.past,h.now⟩
 ·rcases hm m hm' with⟨x,hx,e,_⟩|⟨e,_⟩
  ·rw[←e];exact h.lab x hx
  ·exact e
 ·rcases hm m hm' with⟨x,hx,_,e,f⟩|⟨_,e,f⟩
  ·have:=h.told x hx (f c)
   rwa [e]at this
  ·rcases c with c|c
   ·rw[e]at c;cases c
   ·rw[f]at c;cases c
theorem JI{du se wa int t:Int}(h:se≠ -1)(hd:du= -1∨se+int≤du):fF du se wa int t= -1∨se+int≤fF du se wa int t:=by
 unfold fF Hl kR;rw[if_neg h];split<;>(split<;>(try split)<;>(try split))<;>first|omega|(split<;>omega)
theorem Ea(se wa ir t a:Int):∀(rem kept:List bS) (du:Int),
  (se≠ -1→du= -1∨se+ir≤du→(kE se wa ir t a kept du rem).2= -1∨se+ir≤(kE se wa ir t a kept du rem).2)∧
  ∀m∈(kE se wa ir t a kept du rem).1,∃x∈kept++rem,cO x=cO m∧aJ x=aJ m∧((bV m=false∨d9 m=true)→(bV x=false∨d9 x=true))
 | [],kept,du=>⟨fun _ h=>h,fun m hm=>⟨m,by simpa[kE]using hm,rfl,rfl,fun h=>h⟩⟩
 |y::r,kept,du=>by
  unfold kE;split
  ·split
   ·rename_i ht;obtain⟨h1,h2⟩:=Ea se wa ir t a r (kept++ [stepM y false t]) (fF du se wa ir t);refine⟨fun h hd=>h1 h (JI h hd),fun m hm=> ?_⟩;obtain⟨x,hx,e1,e2,e3⟩:=h2 m hm;simp only[alx,alV]at hx;rcases hx with(hx|rfl)|hx
    ·exact⟨x,by simp[hx],e1,e2,e3⟩
    ·exact⟨y,by simp,e1,e2,fun _=>.inr ht⟩
    ·exact⟨x,by simp[hx],e1,e2,e3⟩
   ·obtain⟨h1,h2⟩:=Ea se wa ir t a r kept (if(kept++r).length=0 then -1 else du)
    refine⟨fun h hd=>h1 h (by
     split
     ·exact .inl rfl
     ·exact hd),fun m hm=> ?_⟩
    obtain⟨x,hx,e⟩:=h2 m hm;simp only[alx]at hx;rcases hx with hx|hx
    ·exact⟨x,by simp[hx],e⟩
    ·exact⟨x,by simp[hx],e⟩
  ·obtain⟨h1,h2⟩:=Ea se wa ir t a r (kept++ [y]) du;refine⟨h1,fun m hm=> ?_⟩;obtain⟨x,hx,e⟩:=h2 m hm;simp only[alx,alV]at hx;rcases hx with(hx|rfl)|hx
   ·exact⟨x,by simp[hx],e⟩
   ·exact⟨x,by simp,e⟩
   ·exact⟨x,by simp[hx],e⟩
theorem adi{p:bY}{Q:List LT→Prop}{nt:List gZ}{now:Int}{g:bG}(h:GI p Q nt now g)(t:Int):GI p Q nt now (xw p t g):=by
 unfold xw EA;split
 ·exact h.turn _ _ (fun _ hd=>hd) (fun m hm=>.inl ⟨m,hm,rfl,rfl,fun c=>c⟩)
 ·obtain⟨h1,h2⟩:=Ea (cu g) (dL (fM p g.1)) (dz (fM p g.1)) t p.2.2.1 (aM g) [] (dI g);exact h.turn _ _ h1 (fun m hm=>.inl (by simpa using h2 m hm))
structure Good(p:bY)(Q:List LT→Prop)(pre:List gZ)(y:gZ):Prop where
 rt:0≤KZ y∧KZ y<p.1.length
 pol:akq y=(fM p (KZ y)).2.2.1
 some:0<(nF y).length+(nR y).length
 key:∀k,k∈nF y∨k∈nR y→∃l,Q l∧bD l=true∧k=bF (aW l)∧(KZ y).toNat∈eT p.1 l∧xq (fM p (KZ y)) l=KJ y
 up:(nF y).Pairwise Less
 res:∀k∈nR y,∃z∈pre,Rk z (KZ y) (KJ y)∧k∈nF z
 apart:∀z∈pre,Rk z (KZ y) (KJ y)→fU z+dz (fM p (KZ y))≤fU y
 late:∀z∈pre,fU z≤fU y
theorem Rs{se int Lg t:Int}(h0:0≤int)(h1:int≤Lg)(h2:se≤t)(o:Bool):mV se int Lg t o= -1∨se+int≤mV se int Lg t o:=by
 unfold mV Hl;rw[Int.max_def];split<;>(try split)<;>(try split)<;>omega
theorem Za{ms:List bS}(h:(ms.map aJ).Pairwise Less)(mu:List ByteArray):(fe mu ms).Pairwise Less:=by
 unfold fe;exact h.sublist (List.Sublist.map _ List.filter_sublist)
theorem Sm{se Lg t:Int}{mu:List ByteArray}{ms:List bS}(h:Dx se Lg t mu ms=true):0<(fe mu ms).length+(jk mu ms).length:=by
 unfold Dx at h;simp only[amF,alM]at h;rcases h with(h|h)|h
 ·unfold D7 at h;obtain⟨m,hm,hc⟩:=List.any_eq_true.1 h;simp only[alu]at hc
  have:aJ m∈fe mu ms:=by
   unfold fe;exact amb.2 ⟨m,am3.2 ⟨hm,by rw[hc.1,hc.2.1];rfl⟩,rfl⟩
  have:=List.length_pos_of_mem this;omega
 ·unfold Gu at h;simp only[alu,alM]at h;have:=h.1.1;omega
 ·omega
theorem Zf{p:bY}{Q:List LT→Prop}{nt:List gZ}{now:Int}{g:bG}(h:GI p Q nt now g)(hv:VG g)(hk:oP p g)(hr:∃r,p.1[g.1.toNat]?=some r∧RR r)
  (hat:∀z∈nt,0≤fU z∧fU z≤now) (sl:List lW) (fs:List (List LT)):
  GI p Q (nt++dZ p sl now fs g) now (jF p sl now fs g)∧∀y∈dZ p sl now fs g,Good p Q nt y∧fU y=now∧Rk y g.1 g.2.1:=by
 obtain⟨r,hr,rr⟩:=hr;have hlt:=(akX.1 hr).1;have e0:=kX hr;have hrt:=hv.rt;have i0:0≤dz r:=by have:=rr.wait;have:=rr.int;omega
 have i1:=rr.Lg;unfold dZ jF o7;generalize xL p sl now fs (aM g)=mu;unfold mW;split
 ·simp only[ami,alE];exact⟨h.turn _ _ (fun _ hd=>hd) (fun m hm=>.inl ⟨m,hm,rfl,rfl,fun c=>c⟩),fun y hy=>by cases hy⟩
 rename_i hdue;dsimp only;split
 ·rename_i hn;simp only[cond_true]
  have hy:Good p Q nt (now,g.1,(fM p g.1).2.2.1,g.2.1,fe mu (aM g),jk mu (aM g),()):=by
   refine⟨⟨hrt,by show g.1< _;omega⟩,rfl,Sm hn,fun k hk'=> ?_,Za hv.up mu,fun k hk'=> ?_,fun z hz e=> ?_,fun z hz=>(hat z hz).2⟩
   ·have:∃m∈aM g,aJ m=k:=by
     rcases hk' with hk'|hk'
     ·obtain⟨m,hm,e,_⟩:=K8.1 hk';exact⟨m,hm,e⟩
     ·obtain⟨m,hm,e,_⟩:=Jf.1 hk';exact⟨m,hm,e⟩
    obtain⟨m,hm,rfl⟩:=this;exact⟨cO m,(h.lab m hm).1,(hv.mem m hm).lab,(hv.mem m hm).key,(h.lab m hm).2,hk m hm⟩
   ·obtain⟨m,hm,rfl,_,e⟩:=Jf.1 hk';exact h.told m hm (.inl e)
   ·have hz0:=hat z hz
    show fU z+dz (fM p g.1)≤now
    rcases h.past z hz e with a|a
    ·have hs:cu g≠ -1:=by omega
     rcases h.due hs with d|d
     ·exact absurd (.inl d) hdue
     ·have:¬ dI g>now:=fun c=>hdue (.inr c)
      omega
    ·exact a
  refine⟨⟨fun m hm=> ?_,fun m hm c=> ?_,fun _=> ?_,fun _=> ?_,fun z hz e=> ?_,Int.le_refl _⟩,fun y hy'=>by rw[alV.1 hy'];exact⟨hy,rfl,rfl,rfl⟩⟩
  ·obtain⟨x,hx,_,rfl⟩:=Af.1 hm;exact h.lab x hx
  ·obtain⟨x,hx,_,rfl⟩:=Af.1 hm
   have c':(bV x=false∨d9 x=true)∨aJ x∈fe mu (aM g):=by
    rcases c with c|c
    ·exact .inl (.inl c)
    ·have c:(d9 x||Dz (fe mu (aM g)) (aJ x))=true:=c;rw[amF]at c;rcases c with c|c
     ·exact .inl (.inr c)
     ·exact .inr (qZ.1 c)
   rcases c' with c'|c'
   ·obtain⟨z,hz,e⟩:=h.told x hx c';exact⟨z,List.mem_append_left _ hz,e⟩
   ·exact⟨_,List.mem_append_right _ (alV.2 rfl),⟨rfl,rfl⟩,c'⟩
  ·exact⟨_,List.mem_append_right _ (alV.2 rfl),⟨rfl,rfl⟩,rfl⟩
  ·show(if(qM (fe mu (aM g)) (jk mu (aM g)) (aM g)).length=0 then(-1:Int)else mV now (dz (fM p g.1)) (su (fM p g.1)) now (EG (qM (fe mu (aM g)) (jk mu (aM g)) (aM g))))= -1∨now+dz (fM p g.1)≤(if(qM (fe mu (aM g)) (jk mu (aM g)) (aM g)).length=0 then(-1:Int)else mV now (dz (fM p g.1)) (su (fM p g.1)) now (EG (qM (fe mu (aM g)) (jk mu (aM g)) (aM g))))
   split
   ·exact .inl rfl
   ·rw[e0];exact Rs i0 i1 (Int.le_refl _) _
  ·left
   show fU z≤now
   rcases alx.1 hz with hz|hz
   ·exact(hat z hz).2
   ·rw[alV.1 hz];exact Int.le_refl _
 ·simp only[ami,alE];refine⟨h.turn _ _ (fun _ _=> ?_) (fun m hm=>.inl ⟨m,hm,rfl,rfl,fun c=>c⟩),fun y hy=>by cases hy⟩;split
  ·exact .inl rfl
  ·rw[e0];exact Rs i0 i1 h.now _
def AG(p:bY)(Q:List LT→Prop)(nt:List gZ):Prop:=∀a y b,nt=a++y::b→Good p Q a y
theorem AG.nil(p:bY)(Q:List LT→Prop):AG p Q []:=fun a y b e=>by cases a<;>cases e
theorem AG.snoc{p:bY}{Q:List LT→Prop}{nt:List gZ}(h:AG p Q nt){y:gZ}(hy:Good p Q nt y):AG p Q (nt++ [y]):=by
 intro a z b e;rcases List.eq_nil_or_concat b with rfl|⟨b',x,rfl⟩
 ·obtain⟨rfl,e2⟩:=List.append_inj' e rfl;cases e2;exact hy
 ·have e':nt++ [y]=(a++z::b')++ [x]:=by simpa using e
  obtain⟨e1,_⟩:=List.append_inj' e' rfl;exact h a z b' e1
theorem MN{p:bY}{Q:List LT→Prop}{now:Int}(hn:0≤now)(sl:List lW)(fs:List (List LT)):∀(gs:List bG) (nt:List gZ),La p gs→(∀g∈gs,oP p g)→Ee gs→(∀g∈gs,GI p Q nt now g)→AG p Q nt→
  (∀z∈nt,0≤fU z∧fU z≤now)→
  (∀g∈gs,GI p Q (nt++gs.flatMap (dZ p sl now fs)) now (jF p sl now fs g))∧AG p Q (nt++gs.flatMap (dZ p sl now fs))∧
  (∀z∈nt++gs.flatMap (dZ p sl now fs),0≤fU z∧fU z≤now)∧∀z∈gs.flatMap (dZ p sl now fs),∃g∈gs,Rk z g.1 g.2.1
 | [],nt,_,_,_,_,ha,hat=>by
  simp only[List.flatMap_nil,alE];exact⟨fun g hg=>(by cases hg),ha,hat,fun z hz=>(by cases hz)⟩
 |g::r,nt,iX,hk,hu,hg,ha,hat=>by
  have hu':=amx.1 hu;obtain⟨l1,l2⟩:=Zf (hg g (by simp)) (iX g (by simp)).1 (hk g (by simp)) (iX g (by simp)).2 hat sl fs
  have far:∀x∈r,∀z,Rk z g.1 g.2.1→¬ Rk z x.1 x.2.1:=fun x hx z e e'=>by
   have h1:=hu'.1 x hx;rw[←e'.1,←e'.2,e.1,e.2]at h1;exact Gl h1
  have ha1:AG p Q (nt++dZ p sl now fs g):=by
   have hl:(dZ p sl now fs g).length≤1:=by
    unfold dZ;cases (o7 p sl now fs g).1
    ·exact alD _
    ·exact alj _
   match hc:dZ p sl now fs g with
   | []=>rw[alE];exact ha
   | [y]=>exact ha.snoc (l2 y (by rw[hc];simp)).1
   |_::_::_=>rw[hc]at hl;simp at hl
  have hat1:∀z∈nt++dZ p sl now fs g,0≤fU z∧fU z≤now:=fun z hz=>by
   rcases alx.1 hz with hz|hz
   ·exact hat z hz
   ·have:=(l2 z hz).2.1;omega
  obtain⟨k1,k2,k3,k4⟩:=MN hn sl fs r (nt++dZ p sl now fs g) (fun x hx=>iX x (by simp[hx])) (fun x hx=>hk x (by simp[hx])) hu'.2
   (fun x hx=>(hg x (by simp[hx])).app (fun z hz=>far x hx z (l2 z hz).2.2)) ha1 hat1
  rw[ams,←al7];refine⟨fun x hx=> ?_,k2,k3,fun z hz=> ?_⟩
  ·rcases alN.1 hx with rfl|hx
   ·refine l1.app (fun z hz=> ?_);obtain⟨x',hx',e⟩:=k4 z hz;rw[(jZ p sl now fs x).1,(jZ p sl now fs x).2];exact fun c=>far x' hx' z c e
   ·exact k1 x hx
  ·rcases alx.1 hz with hz|hz
   ·exact⟨g,by simp,(l2 z hz).2.2⟩
   ·obtain⟨x,hx,e⟩:=k4 z hz;exact⟨x,by simp[hx],e⟩
structure NI(p:bY)(Q:List LT→Prop)(s:InT)(nt:List gZ):Prop where
 gi:∀g∈bq s,GI p Q nt (cZ s) g
 gone:∀z∈nt,(∀g∈bq s,¬ Rk z g.1 g.2.1)→fU z+dz (fM p (KZ z))≤cZ s
 good:AG p Q nt
 at_:∀z∈nt,0≤fU z∧fU z≤cZ s
theorem XV(p:bY)(Q:List LT→Prop):NI p Q jA []:=⟨fun g hg=>(by cases hg),fun z hz=>(by cases hz),AG.nil p Q,fun z hz=>(by cases hz)⟩
theorem V3{p:bY}{now:Int}{g:bG}{r:dw}(h:p.1[g.1.toNat]?=some r)(hi:jB p.1 now g=true):cu g= -1∨cu g+dz r≤now:=by
 unfold jB at hi;rw[h]at hi;simp only[alu,amF,alM]at hi;exact hi.2
theorem Oe{p:bY}{Q:List LT→Prop}{s:InT}{now:Int}{gs:List bG}{nt:List gZ}(iX:La p gs)(hg:∀g∈gs,GI p Q nt now g)
  (gone:∀z∈nt,(∀g∈gs,¬ Rk z g.1 g.2.1)→fU z+dz (fM p (KZ z))≤now) (good:AG p Q nt) (hat:∀z∈nt,0≤fU z∧fU z≤now):NI p Q (now,iQ p now gs,dM s,gy s,()) nt:=by
 refine⟨fun g hg'=>hg g (nT hg').1,fun z hz hno=> ?_,good,hat⟩
 show fU z+dz (fM p (KZ z))≤now
 by_cases hc:∀g∈gs,¬ Rk z g.1 g.2.1
 ·exact gone z hz hc
 ·obtain⟨g,hg',hrk⟩:∃g∈gs,Rk z g.1 g.2.1:=by
   refine Classical.byContradiction fun h=>hc fun g hg' hrk=>h ⟨g,hg',hrk⟩
  obtain⟨_,r,hr,rr⟩:=iX g hg'
  have hid:jB p.1 now g=true:=by
   cases hi:jB p.1 now g
   ·exact absurd hrk (hno g (am3.2 ⟨hg',by rw[hi];rfl⟩))
   ·rfl
  have hz0:=hat z hz;rw[hrk.1];rcases(hg g hg').past z hz hrk with a|a
  ·rcases V3 hr hid with b|b
   ·omega
   ·rw[kX hr];omega
  ·exact a
theorem aaj{p:bY}{Q:List LT→Prop}(hp:wF p){s:InT}(hs:tF s)(h:VI p s){nt:List gZ}(hn:NI p Q s nt){now:Int}(h0:cZ s≤now)(h1:now≤8589934592):NI p Q (uh p s now) (nt++kQ p s now):=by
 have hnow:=h.now;have tk:=h.tk hp hs (now:=now) ⟨by omega,h1⟩;have iX:=h.iX hp hs;have hk:=Fj iX h.rT;have g1:=uM tk;have g2:=AQ tk;have hu:=(ql h.rT).1;have hu1:Ee (jH p s now):=hu.map _ (rR p now)
 have mem1:∀g∈jH p s now,∃x∈bq s,g=xw p now x:=fun g hg=>by
  obtain⟨x,hx,rfl⟩:=amb.1 hg;exact⟨x,hx,rfl⟩
 have gi1:∀g∈jH p s now,GI p Q nt now g:=fun g hg=>by
  obtain⟨x,hx,rfl⟩:=mem1 g hg;exact adi ((hn.gi x hx).later h0) now
 have k1:∀g∈jH p s now,oP p g:=fun g hg=>by
  obtain⟨x,hx,rfl⟩:=mem1 g hg;exact(hk x hx).of (rR p now x).1 (rR p now x).2 (R6 p now x)
 have hat:∀z∈nt,0≤fU z∧fU z≤now:=fun z hz=>by have:=hn.at_ z hz;omega
 obtain⟨l1,l2,l3,l4⟩:=MN (by omega) (dM s) (iA p s now) (jH p s now) nt g1 k1 hu1 gi1 hn.good hat;refine Oe g2 (fun g hg=> ?_) (fun z hz hno=> ?_) l2 l3
 ·obtain⟨x,hx,rfl⟩:=amb.1 hg;exact l1 x hx
 ·rcases alx.1 hz with hz|hz
  ·have:=hn.gone z hz (fun g hg hrk=>by
    refine hno (jF p (dM s) now (iA p s now) (xw p now g)) (amb.2 ⟨_,amb.2 ⟨g,hg,rfl⟩,rfl⟩) ?_;rw[(jZ p _ now _ _).1,(jZ p _ now _ _).2,(rR p now g).1,(rR p now g).2];exact hrk)
   omega
  ·obtain⟨g,hg,hrk⟩:=l4 z hz;refine absurd ?_ (hno (jF p (dM s) now (iA p s now) g) (amb.2 ⟨g,hg,rfl⟩));rw[(jZ p _ now _ _).1,(jZ p _ now _ _).2];exact hrk
theorem WA{g:bG}{r:dw}{l:List LT}{on:Bool}{t:Int}(h0:(fq g r l on t).1=0):
  ∃d,(fq g r l on t).2.1=uZ g d∧(cu g≠ -1→dI g= -1∨cu g+dz r≤dI g→d= -1∨cu g+dz r≤d)∧
   ∀m∈(fq g r l on t).2.2,(∃x∈aM g,cO x=cO m∧aJ x=aJ m∧((bV m=false∨d9 m=true)→(bV x=false∨d9 x=true)))∨(cO m=l∧bV m=true∧d9 m=false):=by
 have keep:∀m∈aM g,(∃x∈aM g,cO x=cO m∧aJ x=aJ m∧((bV m=false∨d9 m=true)→(bV x=false∨d9 x=true)))∨(cO m=l∧bV m=true∧d9 m=false):=
  fun m hm=>.inl ⟨m,hm,rfl,rfl,fun c=>c⟩
 have rest:∀ms:List bS,cu g≠ -1→dI g= -1∨cu g+dz r≤dI g→xO g ms= -1∨cu g+dz r≤xO g ms:=fun ms _ hd=>by
  unfold xO;split
  ·exact .inl rfl
  ·exact hd
 unfold fq at h0 ⊢;dsimp only at h0 ⊢;by_cases hh:hit (bF (aW l)) (aM g)=true
 ·rw[if_pos hh]at h0 ⊢;obtain⟨y,hy,_⟩:=oz hh;rw[hy]at h0 ⊢;dsimp only at h0 ⊢;have hym:=alb hy
  have set_case:∀z:bS,cO y=cO z→aJ y=aJ z→((bV z=false∨d9 z=true)→(bV y=false∨d9 y=true))→∀m∈(aM g).set (pos (bF (aW l)) (aM g)) z,
    (∃x∈aM g,cO x=cO m∧aJ x=aJ m∧((bV m=false∨d9 m=true)→(bV x=false∨d9 x=true)))∨(cO m=l∧bV m=true∧d9 m=false):=by
   intro z h1 h2 h3 m hm;rcases mem_set hm with hm|rfl
   ·exact keep m hm
   ·exact .inl ⟨y,hym,h1,h2,h3⟩
  split
  ·exact⟨_,rfl,fun _ hd=>hd,set_case _ rfl rfl (fun c=>c)⟩
  ·rename_i hf;split
   ·rename_i hon
    exact⟨_,rfl,fun _ hd=>hd,set_case _ rfl rfl (fun _=>.inl (by
     cases hc:bV y
     ·rfl
     ·exact absurd (hc.trans hon.symm) hf))⟩
   ·split
    ·rename_i htold;exact⟨_,rfl,fun h hd=>JI h hd,set_case _ rfl rfl (fun _=>.inr htold)⟩
    ·refine⟨_,rfl,rest _,fun m hm=> ?_⟩;rcases alx.1 hm with hm|hm
     ·exact keep m (List.mem_of_mem_take hm)
     ·exact keep m (List.mem_of_mem_drop hm)
 ·rw[if_neg hh]at h0 ⊢;split
  ·rename_i hon;rw[if_pos hon]at h0;split
   ·rename_i hl;rw[if_pos hl]at h0;cases h0
   ·refine⟨_,rfl,fun h hd=>JI h hd,fun m hm=> ?_⟩;simp only[alx,alV]at hm;rcases hm with(hm|rfl)|hm
    ·exact keep m (List.mem_of_mem_take hm)
    ·exact .inr ⟨rfl,rfl,rfl⟩
    ·exact keep m (List.mem_of_mem_drop hm)
  ·exact⟨_,rfl,rest _,keep⟩
theorem acC{p:bY}{Q:List LT→Prop}{nt:List gZ}{now:Int}{g:bG}(h:GI p Q nt now g){l:List LT}{on:Bool}{t:Int}(hl:Q l∧g.1.toNat∈eT p.1 l)
  (h0:(fq g (fM p g.1) l on t).1=0):GI p Q nt now (rT (fq g (fM p g.1) l on t).2.1 (fq g (fM p g.1) l on t).2.2):=by
 obtain⟨d,e,hd,hm⟩:=WA h0;rw[e];refine h.turn d _ hd (fun m hm'=> ?_);rcases hm m hm' with c|⟨rfl,c⟩
 ·exact .inl c
 ·exact .inr ⟨hl,c⟩
theorem Xw{gs:List bG}(hu:Ee gs){rt:Int}{k:ByteArray}(hh:zi rt k gs=false):∀g∈gs,¬(g.1=rt∧g.2.1=k):=by
 rintro g hg ⟨rfl,rfl⟩;have:=UW hu _ _ hh;unfold Ee at this;rw[al7,List.pairwise_append]at this;obtain⟨_,h2,h3⟩:=this;rw[←amu (ic g.1 g.2.1 gs) gs,alx]at hg;rcases hg with hg|hg
 ·exact Gl (h3 g hg (newG g.1 g.2.1) (by simp))
 ·rw[amv]at h2;exact Gl (a:=newG g.1 g.2.1) ((amx.1 h2).1 g hg)
structure NG(p:bY)(Q:List LT→Prop)(nt:List gZ)(now:Int)(gs:List bG):Prop where
 gi:∀g∈gs,GI p Q nt now g
 gone:∀z∈nt,(∀g∈gs,¬ Rk z g.1 g.2.1)→fU z+dz (fM p (KZ z))≤now
theorem V6{p:bY}{a:kM}{gs:List bG}{i:Nat}{g:bG}(h:g∈Sr p a gs i):g∈gs∨(g=newG i (mD p a i)∧zi i (mD p a i) gs=false):=by
 unfold Sr at h;split at h
 ·exact .inl h
 ·rename_i hh;simp only[alx,alV]at h;rcases h with(h|rfl)|h
  ·exact .inl (List.mem_of_mem_take h)
  ·exact .inr ⟨rfl,by simpa using hh⟩
  ·exact .inl (List.mem_of_mem_drop h)
theorem QU{p:bY}{a:kM}{gs:List bG}{i:Nat}{g:bG}(h:g∈gs):g∈Sr p a gs i:=by
 unfold Sr;split
 ·exact h
 ·rw[←amu (ic i (mD p a i) gs) gs,alx]at h;simp only[alx,alV];rcases h with h|h
  ·exact .inl (.inl h)
  ·exact .inr h
theorem N7{p:bY}{Q:List LT→Prop}{nt:List gZ}{now:Int}{a:kM}{gs gs':List bG}{i:Nat}(hu:Ee gs)(h:NG p Q nt now gs)(hn:0≤now)(hq:Q a.2.1)(hi:i∈eT p.1 a.2.1)(e:mO p a gs i=some gs'):NG p Q nt now gs':=by
 have gi1:∀g∈Sr p a gs i,GI p Q nt now g:=fun g hg=>by
  rcases V6 hg with hg|⟨rfl,hh⟩
  ·exact h.gi g hg
  ·refine⟨fun m hm=>(by cases hm),fun m hm=>(by cases hm),fun c=>absurd rfl c,fun c=>absurd rfl c,fun z hz e=>.inr ?_,by show(-1:Int)≤now;omega⟩;have:=h.gone z hz (fun g hg hrk=>Xw hu hh g hg ⟨hrk.1.symm.trans e.1,hrk.2.symm.trans e.2⟩);rw[e.1]at this;exact this
 unfold mO at e;split at e
 ·cases e;exact h
 ·split at e
  ·cases e
  ·rename_i h0;simp only[ne_eq,Decidable.not_not]at h0;cases e;obtain⟨g,hg,g1,g2,hm⟩:=yU p a gs i;have ha:NM p a gs i=fq g (fM p (i:Int)) a.2.1 a.2.2.1 a.1:=by unfold NM;rw[hg];rfl
   rw[ha]at h0 ⊢;rw[←g1]at h0 ⊢;have hgi:=acC (gi1 g (alb hg)) (l:=a.2.1) (on:=a.2.2.1) (t:=a.1) ⟨hq,by rw[g1];exact hi⟩ h0;obtain⟨k1,k2⟩:=zB h0;rw[g1]at hgi k1 k2 ⊢;refine⟨fun x hx=> ?_,fun z hz hno=>h.gone z hz (fun x hx hrk=> ?_)⟩
   ·rcases mem_set hx with hx|rfl
    ·exact gi1 x hx
    ·exact hgi
   ·obtain⟨j,hj⟩:=List.mem_iff_getElem?.1 (QU (a:=a) (i:=i) (p:=p) hx);by_cases ej:ic i (mD p a i) gs=j
    ·subst ej;rw[hg]at hj;cases hj;refine hno (rT (fq g (fM p (i:Int)) a.2.1 a.2.2.1 a.1).2.1 (fq g (fM p (i:Int)) a.2.1 a.2.2.1 a.1).2.2) (alb (i:=ic i (mD p a i) gs) ?_) (show Rk z (fq g (fM p (i:Int)) a.2.1 a.2.2.1 a.1).2.1.1 (fq g (fM p (i:Int)) a.2.1 a.2.2.1 a.1).2.1.2.1 from ?_)
     ·rw[amE (akX.1 hg).1]
     ·rw[k1,k2];exact⟨hrk.1.trans (by rw[g1]),hrk.2⟩
    ·refine hno x (alb (i:=j) ?_) hrk;rw[List.getElem?_set_ne ej,hj]
theorem Q7{p:bY}{Q:List LT→Prop}{nt:List gZ}{now:Int}{a:kM}(hn:0≤now)(hq:Q a.2.1)(hlab:bD a.2.1=true)(ht:0≤a.1∧a.1≤8589934592):∀{l:List Nat} {gs gs':List bG} {n:Nat},(∀i∈l,i∈eT p.1 a.2.1∧∃r,p.1[i]?=some r∧RR r)→rX p gs n→NG p Q nt now gs→y8 p a l gs=some gs'→NG p Q nt now gs'
 | [],gs,gs',n,_,_,h,e=>by cases e;exact h
 |i::r,gs,gs',n,hl,hi,h,e=>by
  obtain⟨g1,e1,e2⟩:=ame.1 e;exact Q7 hn hq hlab ht (fun j hj=>hl j (by simp[hj])) (wP hi (hl i (by simp)).2 hlab ht e1) (N7 hi.up h hn hq (hl i (by simp)).1 e1) e2
theorem A8{p:bY}{s:InT}{a:kM}(h0:(bI p s a).1=0):VI p s∧bD a.2.1=true∧cZ s≤a.1∧a.1≤8589934592∧∃gs,y8 p a (eT p.1 a.2.1) (bq s)=some gs∧bI p s a=(0,(a.1,iQ p a.1 gs,dM s,gy s,())):=by
 unfold bI at h0 ⊢;split at h0
 ·cases h0
 rename_i c1;rw[if_neg c1];simp only[not_or,Bool.not_eq_false]at c1;have h:=Jo.1 c1.1;split at h0
 ·rename_i c2;exact absurd h0 c2
 rename_i c2;rw[if_neg c2];simp only[ne_eq,Decidable.not_not]at c2;obtain⟨n0,n1,n2⟩:=wW c2 h.now.1
 cases hr:y8 p a (eT p.1 a.2.1) (bq s)with
 |none=>rw[hr]at h0;cases h0
 |some gs=>
  rw[hr]at h0;simp only at h0 ⊢;split at h0
  ·cases h0
  ·rename_i hl;rw[if_neg hl];exact⟨h,c1.2,n2,n1,gs,rfl,rfl⟩
theorem VX{p:bY}{Q:List LT→Prop}(hp:wF p){s:InT}(hs:tF s){nt:List gZ}(hn:NI p Q s nt){a:kM}(hq:Q a.2.1)(h0:(bI p s a).1=0):NI p Q (bI p s a).2 nt:=by
 obtain⟨h,hlab,n2,n1,gs,hr,e⟩:=A8 h0;have hnow:=h.now;have iX:=h.iX hp hs;obtain⟨f1,f2⟩:=wC hp (gP h.iN).1 a.2.1;have ht:0≤a.1∧a.1≤8589934592:=⟨by omega,n1⟩
 have ai:rX p (bq s) 64:=⟨iX,(ql h.rT).1,h.len⟩
 have inv:=vF hlab ht f1 ai hr;have ng:NG p Q nt a.1 (bq s):=⟨fun g hg=>(hn.gi g hg).later n2,fun z hz hno=>by have:=hn.gone z hz hno;omega⟩
 have ng2:=Q7 ht.1 hq hlab ht (fun i hi=>⟨hi,f1 i hi⟩) ai ng hr;rw[e];exact Oe inv.iX ng2.gi ng2.gone hn.good (fun z hz=>by have:=hn.at_ z hz;omega)
theorem Ck{p:bY}(hp:wF p)(J:InT→List gZ→Prop)(t:Int)(hJ:∀s nt,VI p s→tF s→J s nt→(gK (bq s)).2=true→(gK (bq s)).1<t→
   J (uh p s (max (gK (bq s)).1 (cZ s))) (nt++kQ p s (max (gK (bq s)).1 (cZ s)))):∀(k:Nat) (s:InT) (nt:List gZ),VI p s→tF s→J s nt→
  J (aH p t k s nt).2.1 (aH p t k s nt).2.2.1∧((aH p t k s nt).1=0→(gK (bq (aH p t k s nt).2.1)).2=false∨(gK (bq (aH p t k s nt).2.1)).1≥t)∧((aH p t k s nt).1=0∨(aH p t k s nt).1=5)
 |0,s,nt,h,hs,hj=>by
  unfold aH;split
  ·rename_i c;exact⟨hj,fun _=>c,.inl rfl⟩
  ·exact⟨hj,fun c=>(by cases c),.inr rfl⟩
 |k+1,s,nt,h,hs,hj=>by
  unfold aH;split
  ·rename_i c;exact⟨hj,fun _=>c,.inl rfl⟩
  ·rename_i c;simp only[not_or,Bool.not_eq_false]at c;have iX:=h.iX hp hs;have hd:=qp (fun g hg=>(iX g hg).1);have hnow:=h.now;obtain⟨v1,z1⟩:=wQ hp hs h (now:=max (gK (bq s)).1 (cZ s)) ⟨by omega,by omega⟩;exact Ck hp J t hJ k _ _ v1 z1 (hJ s nt h hs hj c.1 (by omega))
theorem Ij{p:bY}{Q:List LT→Prop}(hp:wF p)(t B:Int)(htB:t≤B)(k:Nat)(s:InT)(nt:List gZ)(h:VI p s)(hs:tF s)(hn:NI p Q s nt)(ht:cZ s≤B):
  (NI p Q (aH p t k s nt).2.1 (aH p t k s nt).2.2.1∧cZ (aH p t k s nt).2.1≤B)∧((aH p t k s nt).1=0∨(aH p t k s nt).1=5):=by
 have:=Ck hp (fun s nt=>NI p Q s nt∧cZ s≤B) t (fun s nt h hs hj _ hd=>by
  have iX:=h.iX hp hs;have hr:=qp (fun g hg=>(iX g hg).1);have hnow:=h.now;refine⟨aaj hp hs h hj.1 (by omega) (by omega),?_⟩
  show max (gK (bq s)).1 (cZ s)≤B
  have:=hj.2;omega) k s nt h hs ⟨hn,ht⟩
 exact⟨this.1,this.2.2⟩
theorem Nn{p:bY}{Q:List LT→Prop}(hp:wF p)(t:Int)(k:Nat)(s:InT)(nt:List gZ)(h:VI p s)(hs:tF s)(hn:NI p Q s nt)(ht:cZ s≤t):
  (NI p Q (aH p t k s nt).2.1 (aH p t k s nt).2.2.1∧cZ (aH p t k s nt).2.1≤t)∧((aH p t k s nt).1=0∨(aH p t k s nt).1=5):=Ij hp t t (Int.le_refl _) k s nt h hs hn ht
theorem Bw{p:bY}{Q:List LT→Prop}(hp:wF p):∀(r:List kM) (k:Nat) (s:InT) (nt:List gZ),VI p s→tF s→NI p Q s nt→(∀a∈r,Q a.2.1∧bD a.2.1=true∧cZ s≤a.1∧a.1≤8589934592)→r.Pairwise (fun a b=>a.1≤b.1)→
  ((aO p r k s nt).1=0∨(aO p r k s nt).1=5)∧((aO p r k s nt).1=0→NI p Q (aO p r k s nt).2.1 (aO p r k s nt).2.2.1∧VI p (aO p r k s nt).2.1∧tF (aO p r k s nt).2.1∧
    ∀t,cZ s≤t→(∀a∈r,a.1≤t)→cZ (aO p r k s nt).2.1≤t)
 | [],k,s,nt,h,hs,hn,_,_=>⟨.inl rfl,fun _=>⟨hn,h,hs,fun t ht _=>ht⟩⟩
 |a::r,k,s,nt,h,hs,hn,ha,hp2=>by
  obtain⟨a1,a2,a3,a4⟩:=ha a (by simp);obtain⟨hp3,hp4⟩:=amx.1 hp2;obtain⟨u1,u2,_,_⟩:=oU hp a.1 k s nt h hs;obtain⟨⟨n1,n2⟩,n3⟩:=Nn hp a.1 k s nt h hs hn a3;unfold aO;split
  ·rename_i c;exact⟨.inr (by rcases n3 with n3|n3;exact absurd n3 c;exact n3),fun e=>absurd e c⟩
  split
  ·rename_i c c2;refine⟨.inr ?_,fun e=>absurd e c2⟩
   show(bI p (aH p a.1 k s nt).2.1 a).1=5
   unfold bI at c2 ⊢;rw[Jo.2 u1,a2,if_neg (by simp)]at c2 ⊢;have hk:K3 (cZ (aH p a.1 k s nt).2.1) a.1=0:=by unfold K3;rw[if_neg (by omega),if_neg (by omega)]
   rw[hk,if_neg (by simp)]at c2 ⊢;split
   ·rfl
   ·rename_i gs e;simp only[e]at c2;split
    ·rfl
    ·rename_i c3;rw[if_neg c3]at c2;exact absurd rfl c2
  ·rename_i c c2;simp only[ne_eq,Decidable.not_not]at c2;obtain⟨v1,v2⟩:=nX hp u1 u2 a c2;have hv:=VX hp u2 n1 a1 c2
   have hnow:cZ (bI p (aH p a.1 k s nt).2.1 a).2=a.1:=by
    obtain⟨_,_,_,_,gs,_,e⟩:=A8 c2;rw[e]
   obtain⟨k1,k2⟩:=Bw hp r (aH p a.1 k s nt).2.2.2 (bI p (aH p a.1 k s nt).2.1 a).2 (aH p a.1 k s nt).2.2.1 v1 v2 hv (fun b hb=>by
    obtain⟨b1,b2,_,b4⟩:=ha b (by simp[hb]);exact⟨b1,b2,by rw[hnow];exact hp3 b hb,b4⟩) hp4
   refine⟨k1,fun e=> ?_⟩;obtain⟨j1,j2,j3,j4⟩:=k2 e;exact⟨j1,j2,j3,fun t _ hall=>j4 t (by rw[hnow];exact hall a (by simp)) (fun b hb=>hall b (by simp[hb]))⟩
theorem ad5{p:bY}{Q:List LT→Prop}(hp:wF p)(hc:xA p=0)(al:List kM)(hl:al.length≤256)(un B:Int)(hun:0≤un∧un+1≤B∧B≤8589934592)(ha:∀a∈al,Q a.2.1∧bD a.2.1=true∧0≤a.1∧a.1≤B)(hp2:al.Pairwise (fun a b=>a.1≤b.1)):
  ((qO p al un).1=0∨(qO p al un).1=5)∧((qO p al un).1=0→AG p Q (qO p al un).2.2∧∀z∈(qO p al un).2.2,0≤fU z∧fU z≤B):=by
 unfold qO;rw[if_neg (by simpa using hc),if_neg (by omega),if_neg (by omega)]
 obtain⟨k1,k2⟩:=Bw hp al 1000 jA [] (Bu hc) H9 (XV p Q) (fun a h=>by
  obtain⟨h1,h2,h3,h4⟩:=ha a h;exact⟨h1,h2,h3,by omega⟩) hp2
 unfold KI;have e0:aO p al 1000 (0,[],[],1,()) []=aO p al 1000 jA []:=rfl;rw[e0];by_cases h:(aO p al 1000 jA []).1=0
 ·obtain⟨j1,j2,j3,j4⟩:=k2 h;have hnow:=j4 B (by show(0:Int)≤B;omega) (fun a h=>by have:=(ha a h).2.2.2;omega);generalize aO p al 1000 jA []=A at h j1 j2 j3 hnow ⊢;rw[if_neg (by simpa using h)];obtain⟨⟨n1,n2⟩,n3⟩:=Ij hp (un+1) B hun.2.1 A.2.2.2 A.2.1 A.2.2.1 j2 j3 j1 hnow;split
  ·rename_i c;exact⟨.inr (by rcases n3 with n3|n3;exact absurd n3 c;exact n3),fun e=>absurd e c⟩
  ·exact⟨.inl rfl,fun _=>⟨n1.good,fun z hz=>by have:=n1.at_ z hz;omega⟩⟩
 ·rw[if_pos h];exact⟨.inr (by rcases k1 with k1|k1;exact absurd k1 h;exact k1),fun e=>absurd e h⟩
theorem EB{l l':List LT}(h:bD l=true)(h':bD l'=true)(e:bF (aW l)=bF (aW l')):l=l':=by
 have a:=Mt l h;rw[e,Mt l' h']at a;simp only[alg,al1,and_true,true_and]at a;exact a.symm
theorem VF{p:bY}(h:p.2.1=[])(now:Int)(fs:List (List LT))(ms:List bS):xL p [] now fs ms=[]:=by
 unfold xL;rw[h]
 induction ms with
 |nil=>rfl
 |cons m r ih=>rw[ams,ih];rfl
theorem WJ{p:bY}(h:p.2.2.1=0)(now:Int)(g:bG):xw p now g=g:=by
 unfold xw EA;rw[if_pos h];rfl
theorem VD{gs:List bG}{g:bG}(hg:g∈gs)(h:dI g≠ -1):(gK gs).2=true∧(gK gs).1≤dI g:=by
 unfold gK
 have stay:∀(l:List bG) (a:Int×Bool),a.2=true→(l.foldl kr a).2=true∧(l.foldl kr a).1≤a.1:=by
  intro l
  induction l with
  |nil=>intro a ha;exact⟨ha,Int.le_refl _⟩
  |cons x r ih=>
   intro a ha
   have h1:(kr a x).2=true∧(kr a x).1≤a.1:=by
    unfold kr;cases hc:(dI x != -1)&&(!a.2||decide (dI x<a.1))
    ·exact⟨ha,Int.le_refl _⟩
    ·rw[ha]at hc;simp only[al2,alk,alu,alM]at hc;exact⟨rfl,by show dI x≤a.1;omega⟩
   have:=ih (kr a x) h1.1;exact⟨this.1,by have:=this.2;show(r.foldl kr (kr a x)).1≤a.1;omega⟩
 obtain⟨A,B,rfl⟩:=List.append_of_mem hg;rw[List.foldl_append,List.foldl_cons];generalize A.foldl kr (0,false)=a
 have h1:(kr a g).2=true∧(kr a g).1≤dI g:=by
  unfold kr;have hne:(dI g != -1)=true:=alY.2 h;rw[hne];cases ha:a.2
  ·exact⟨rfl,Int.le_refl _⟩
  ·cases hd:decide (dI g<a.1)
   ·have:=am2 hd;exact⟨ha,by show a.1≤dI g;omega⟩
   ·exact⟨rfl,Int.le_refl _⟩
 have:=stay B (kr a g) h1.1;exact⟨this.1,by omega⟩
structure TJ(p:bY)(mk:ByteArray)(i:Nat)(key:ByteArray)(nt0:List gZ)(at_ W:Int)(s:InT)(nt:List gZ):Prop where
 Ou:dM s=[]
 now:at_≤cZ s
 mem:∃more,nt=nt0++more∧(∀z∈more,Rk z i key→mk∈nF z∧at_≤fU z)∧∃g∈bq s,g.1=i∧g.2.1=key∧∃m∈aM g,aJ m=mk∧bV m=true∧
  ((d9 m=false∧(∀z∈more,¬ Rk z i key)∧dI g≠ -1∧dI g≤W∧cZ s≤W)∨∃a z b,more=a++z::b∧(∀y∈a,¬ Rk y i key)∧Rk z i key∧fU z≤W)
theorem WZ{mu:List ByteArray}{ms:List bS}(hup:(ms.map aJ).Pairwise Less){m:bS}(hm:m∈ms)(hf:bV m=true)(hmu:aJ m∉mu):
  kP (fe mu ms) m∈qM (fe mu ms) (jk mu ms) ms∧aJ m∈fe mu ms:=by
 refine⟨Af.2 ⟨m,hm,fun hc=> ?_,rfl⟩,K8.2 ⟨m,hm,rfl,hmu,hf⟩⟩;obtain⟨x,hx,e,_,hxf⟩:=Jf.1 hc;rw[key_inj hup hx hm e,hf]at hxf;cases hxf
theorem PS{p:bY}(hinh:p.2.1=[]){now:Int}{fs:List (List LT)}{g:bG}(hv:VG g){m:bS}(hm:m∈aM g)(hf:bV m=true):
  (∀y∈dZ p [] now fs g,aJ m∈nF y∧fU y=now∧Rk y g.1 g.2.1)∧
  ∃m'∈aM (jF p [] now fs g),aJ m'=aJ m∧bV m'=true∧
   ((dZ p [] now fs g=[]∧d9 m'=d9 m∧(d9 m=false→dI (jF p [] now fs g)=dI g∧(dI g= -1∨dI g>now)))∨∃y,dZ p [] now fs g=[y]):=by
 unfold dZ jF o7;rw[VF hinh];unfold mW;split
 ·rename_i hc;simp only[ami];exact⟨fun y hy=>(by cases hy),m,hm,rfl,hf,.inl ⟨trivial,rfl,fun _=>⟨rfl,hc⟩⟩⟩
 ·dsimp only;obtain⟨k1,k2⟩:=WZ (mu:=[]) hv.up hm hf (by simp);split
  ·simp only[cond_true];refine⟨fun y hy=> ?_,kP (fe [] (aM g)) m,k1,rfl,hf,.inr ⟨_,rfl⟩⟩;rw[alV.1 hy];exact⟨k2,rfl,rfl,rfl⟩
  ·rename_i hn;simp only[ami];refine⟨fun y hy=>(by cases hy),m,hm,rfl,hf,.inl ⟨trivial,rfl,fun ht=> ?_⟩⟩
   exfalso
   apply hn;unfold Dx D7;have:((aM g).any fun m=> !Dz [] (aJ m)&&(bV m&& !d9 m))=true:=List.any_eq_true.2 ⟨m,hm,by rw[hf,ht];rfl⟩;rw[this];rfl
theorem WX{p:bY}{sl:List lW}{now:Int}{fs:List (List LT)}{g:bG}{y:gZ}(h:y∈dZ p sl now fs g):Rk y g.1 g.2.1:=by
 unfold dZ o7 mW at h;split at h
 ·cases h
 ·dsimp only at h;split at h
  ·rw[alV.1 h];exact⟨rfl,rfl⟩
  ·cases h
theorem Zj{p:bY}(hp:wF p)(hinh:p.2.1=[])(hexp:p.2.2.1=0){mk:ByteArray}{i:Nat}{key:ByteArray}{nt0:List gZ}{at_ W:Int}{s:InT}(hs:tF s)(h:VI p s){nt:List gZ}(hj:TJ p mk i key nt0 at_ W s nt)
  (hW:at_≤W) {now:Int} (h0:cZ s≤now) (h1:now≤8589934592) (hnow:∀g∈bq s,dI g≠ -1→now≤max (dI g) (cZ s)):TJ p mk i key nt0 at_ W (uh p s now) (nt++kQ p s now):=by
 have hnow0:=h.now;have iX:=h.iX hp hs;have hu:=(ql h.rT).1
 have e1:jH p s now=bq s:=by
  unfold jH;rw[show xw p now=id from funext fun g=>WJ hexp now g];exact List.map_id _
 obtain⟨more,rfl,hm1,g,hg,g1,g2,m,hm,mk1,mf,hmm⟩:=hj.mem;subst mk1;obtain⟨l1,m',hm',k1,k2,l2⟩:=PS hinh (now:=now) (fs:=iA p s now) (iX g hg).1 hm mf;obtain⟨A,B,hAB⟩:=List.append_of_mem hg
 have hfar:∀x,x∈A∨x∈B→∀y∈dZ p [] now (iA p s now) x,¬ Rk y i key:=by
  intro x hx y hy hrk;have e:=WX hy;have hx2:x.1=g.1∧x.2.1=g.2.1:=⟨by rw[←e.1,hrk.1,g1],by rw[←e.2,hrk.2,g2]⟩
  rw[hAB]at hu;unfold Ee at hu;rw[List.pairwise_append]at hu;rcases hx with hx|hx
  ·have:=hu.2.2 x hx g (by simp);rw[←hx2.1,←hx2.2]at this;exact Gl this
  ·have:=(amx.1 hu.2.1).1 x hx;rw[hx2.1,hx2.2]at this;exact Gl this
 have htn:kQ p s now=A.flatMap (dZ p [] now (iA p s now))++(dZ p [] now (iA p s now) g++B.flatMap (dZ p [] now (iA p s now))):=by
  unfold kQ;rw[e1,hj.Ou,hAB,List.flatMap_append,ams]
 have fA:∀y∈A.flatMap (dZ p [] now (iA p s now)),¬ Rk y i key:=fun y hy=>by
  obtain⟨x,hx,hy⟩:=amC.1 hy;exact hfar x (.inl hx) y hy
 have fB:∀y∈B.flatMap (dZ p [] now (iA p s now)),¬ Rk y i key:=fun y hy=>by
  obtain⟨x,hx,hy⟩:=amC.1 hy;exact hfar x (.inr hx) y hy
 have hg':jF p [] now (iA p s now) g∈bq (uh p s now):=by
  refine am3.2 ⟨?_,?_⟩
  ·unfold xD;rw[e1,hj.Ou];exact amb.2 ⟨g,hg,rfl⟩
  ·have:decide ((aM (jF p [] now (iA p s now) g)).length=0)=false:=akY (by have:=List.length_pos_of_mem hm';omega);unfold jB;rw[this];rfl
 have r1:=jZ p [] now (iA p s now) g;refine⟨hj.Ou,by show at_≤now;have:=hj.now;omega,more++kQ p s now,by rw[al7],fun z hz hrk=> ?_,jF p [] now (iA p s now) g,hg',r1.1.trans g1,r1.2.trans g2,m',hm',k1,k2,?_⟩
 ·rcases alx.1 hz with hz|hz
  ·exact hm1 z hz hrk
  ·rw[htn]at hz;rcases alx.1 hz with hz|hz
   ·exact absurd hrk (fA z hz)
   ·rcases alx.1 hz with hz|hz
    ·obtain⟨a,b,_⟩:=l1 z hz;exact⟨a,by rw[b];have:=hj.now;omega⟩
    ·exact absurd hrk (fB z hz)
 ·rcases hmm with⟨u1,u2,u3,u4,u5⟩|⟨a,z,b,rfl,v1,v2,v3⟩
  ·have hnW:now≤W:=by have:=hnow g hg u3;omega
   rcases l2 with⟨n1,n2,n3⟩|⟨y,hy⟩
   ·left;obtain⟨d1,_⟩:=n3 u1;refine⟨n2.trans u1,fun z hz=> ?_,by rw[d1];exact u3,by rw[d1];exact u4,hnW⟩;rcases alx.1 hz with hz|hz
    ·exact u2 z hz
    ·rw[htn,n1,amD]at hz;rcases alx.1 hz with hz|hz
     ·exact fA z hz
     ·exact fB z hz
   ·right;obtain⟨_,b1,b2⟩:=l1 y (by rw[hy];simp);refine⟨more++A.flatMap (dZ p [] now (iA p s now)),y,B.flatMap (dZ p [] now (iA p s now)),by rw[htn,hy];simp,fun z hz=> ?_,⟨b2.1.trans g1,b2.2.trans g2⟩,by rw[b1];exact hnW⟩;rcases alx.1 hz with hz|hz
    ·exact u2 z hz
    ·exact fA z hz
  ·right;exact⟨a,z,b++kQ p s now,by simp,v1,v2,v3⟩
theorem WH{p:bY}(hp:wF p)(hinh:p.2.1=[])(hexp:p.2.2.1=0){mk:ByteArray}{i:Nat}{key:ByteArray}{nt0:List gZ}{at_ W t:Int}(hW:at_≤W)(hWt:W<t)(ht:t≤8589934592)(k:Nat)(s:InT)(nt:List gZ)(h:VI p s)(hs:tF s)(hj:TJ p mk i key nt0 at_ W s nt)
  (h0:(aH p t k s nt).1=0):∃more,(aH p t k s nt).2.2.1=nt0++more∧(∀z∈more,Rk z i key→mk∈nF z∧at_≤fU z)∧∃a z b,more=a++z::b∧(∀y∈a,¬ Rk y i key)∧Rk z i key∧fU z≤W:=by
 obtain⟨j1,j2,_⟩:=Ck hp (fun s nt=>TJ p mk i key nt0 at_ W s nt) t (fun s nt h hs hj _ hd=>by
  have iX:=h.iX hp hs;have hr:=qp (fun g hg=>(iX g hg).1);have hnow:=h.now;refine Zj hp hinh hexp hs h hj hW (by omega) (by omega) (fun g hg hne=> ?_);have:=(VD hg hne).2;omega) k s nt h hs hj
 obtain⟨more,e,hm1,g,hg,g1,g2,m,hm,mk1,mf,hmm⟩:=j1.mem;refine⟨more,e,hm1,?_⟩;rcases hmm with⟨u1,u2,u3,u4,u5⟩|c
 ·obtain⟨d1,d2⟩:=VD hg u3;rcases j2 h0 with c|c
  ·rw[d1]at c;cases c
  ·omega
 ·exact c
def PZ(mk:ByteArray)(i:Nat)(key:ByteArray)(W:Int)(gs:List bG):Prop:=∃g∈gs,g.1=i∧g.2.1=key∧∃m∈aM g,aJ m=mk∧bV m=true∧d9 m=false∧dI g≠ -1∧dI g≤W
def NoM(mk:ByteArray)(i:Nat)(gs:List bG):Prop:=∀g∈gs,g.1=i→∀m∈aM g,aJ m≠mk
theorem ZA{g:bG}(hv:VG g){r:dw}{l:List LT}{t:Int}{m:bS}(hm:m∈aM g)(hk:aJ m=bF (aW l))(hf:bV m=true):
  (fq g r l true t).2.1=uZ g (dI g)∧qi m t∈(fq g r l true t).2.2:=by
 have hh:hit (bF (aW l)) (aM g)=true:=(Ei hv.up).2 (by rw[←hk];exact List.mem_map_of_mem hm);obtain⟨y,hy,ey⟩:=oz hh;have hym:=alb hy;obtain rfl:=key_inj hv.up hym hm (ey.trans hk.symm);unfold fq;dsimp only;rw[if_pos hh,hy];dsimp only;rw[if_pos hf];exact⟨rfl,alb (by rw[amE (akX.1 hy).1])⟩
theorem aac{g:bG}{r:dw}{l:List LT}{t:Int}(hno:∀m∈aM g,aJ m≠bF (aW l))(h0:(fq g r l true t).1=0):
  (fq g r l true t).2.1=uZ g (Lr g r t)∧((bF (aW l),l,t,t,true,false,()):bS)∈(fq g r l true t).2.2:=by
 have hh:¬ hit (bF (aW l)) (aM g)=true:=fun hh=>by
  obtain⟨y,hy,ey⟩:=oz hh;exact hno y (alb hy) ey
 unfold fq at h0 ⊢;dsimp only at h0 ⊢;rw[if_neg hh,if_pos rfl]at h0 ⊢;split at h0
 ·cases h0
 ·rename_i c;rw[if_neg c];exact⟨rfl,by simp⟩
theorem Uk{p:bY}{a:kM}(hon:a.2.2.1=true){gs gs':List bG}{n:Nat}(hi0:rX p gs n){i j:Nat}{W:Int}(hh:PZ (bF (aW a.2.1)) i (mD p a i) W gs)(e:mO p a gs j=some gs'):PZ (bF (aW a.2.1)) i (mD p a i) W gs':=by
 obtain⟨g,hg,g1,g2,m,hm,m1,m2,m3,m4,m5⟩:=hh;unfold mO at e;split at e
 ·cases e;exact⟨g,hg,g1,g2,m,hm,m1,m2,m3,m4,m5⟩
 ·split at e
  ·cases e
  ·rename_i h0;simp only[ne_eq,Decidable.not_not]at h0;cases e;obtain⟨x,hx,x1,x2,hxm⟩:=yU p a gs j;have ha:NM p a gs j=fq x (fM p (j:Int)) a.2.1 a.2.2.1 a.1:=by unfold NM;rw[hx];rfl
   rw[ha]at h0 ⊢;obtain⟨q,hq⟩:=List.mem_iff_getElem?.1 (QU (a:=a) (i:=j) (p:=p) hg);by_cases ej:ic j (mD p a j) gs=q
   ·subst ej;rw[hx]at hq;cases hq;rw[hon];obtain⟨f1,f2⟩:=ZA (hi0.iX g hg).1 (r:=fM p (j:Int)) (t:=a.1) hm m1 m2;refine⟨rT (fq g (fM p (j:Int)) a.2.1 true a.1).2.1 (fq g (fM p (j:Int)) a.2.1 true a.1).2.2,alb (i:=ic j (mD p a j) gs) ?_,?_,?_,qi m a.1,f2,m1,m2,m3,?_⟩
    ·rw[amE (akX.1 hx).1]
    ·rw[f1];exact g1
    ·rw[f1];exact g2
    ·rw[f1];exact⟨m4,m5⟩
   ·exact⟨g,alb (i:=q) (by rw[List.getElem?_set_ne ej,hq]),g1,g2,m,hm,m1,m2,m3,m4,m5⟩
theorem NK{p:bY}{a:kM}{gs gs':List bG}{i j:Nat}{mk:ByteArray}(hij:j≠i)(hh:NoM mk i gs)(e:mO p a gs j=some gs'):NoM mk i gs':=by
 unfold mO at e;split at e
 ·cases e;exact hh
 ·split at e
  ·cases e
  ·rename_i h0;simp only[ne_eq,Decidable.not_not]at h0;cases e;obtain⟨x,hx,x1,x2,hxm⟩:=yU p a gs j;have ha:NM p a gs j=fq x (fM p (j:Int)) a.2.1 a.2.2.1 a.1:=by unfold NM;rw[hx];rfl
   rw[ha]at h0 ⊢;intro g hg g1 m hm;rcases mem_set hg with hg|rfl
   ·rcases V6 hg with hg|⟨rfl,_⟩
    ·exact hh g hg g1 m hm
    ·cases hm
   ·exfalso
    have:(fq x (fM p (j:Int)) a.2.1 a.2.2.1 a.1).2.1.1=(i:Int):=g1;rw[(zB h0).1,x1]at this;omega
theorem XD{du se wa int t L:Int}(hdu: -1≤du)(hse: -1≤se)(hwa:0≤wa)(hint:0≤int)(ht:0≤t)(hL:se= -1∨se≤L)(hb:t+wa≤8589934592)(hb2:L+int≤8589934592):
  fF du se wa int t≠ -1∧(fF du se wa int t≤t+wa∨(se≠ -1∧fF du se wa int t≤se+int)):=by
 unfold fF Hl kR;by_cases c1:se= -1
 ·simp only[c1,if_true];split<;>(split<;>(try split)<;>omega)
 ·simp only[c1,if_false];split<;>(split<;>(try split)<;>(try split)<;>omega)
theorem Ta{p:bY}{Q:List LT→Prop}{nt:List gZ}{a:kM}(hon:a.2.2.1=true){gs gs':List bG}{n:Nat}(hi0:rX p gs n)(hng:NG p Q nt a.1 gs){i:Nat}{W:Int}(hr:∃r,p.1[i]?=some r∧RR r)
  (ht:0≤a.1) (hb:a.1+dL (fM p i)≤8589934592) (hb2:a.1+dz (fM p i)≤8589934592) (hat:∀z∈nt,fU z≤a.1)
  (hW:a.1+dL (fM p i)≤W) (hW2:∀z∈nt,Rk z i (mD p a i)→fU z+dz (fM p i)≤W)
  (hno:NoM (bF (aW a.2.1)) i gs) (e:mO p a gs i=some gs'):PZ (bF (aW a.2.1)) i (mD p a i) W gs':=by
 obtain⟨r,hr,rr⟩:=hr;have er:fM p (i:Int)=r:=kX (by simpa using hr);unfold mO at e;rw[hon]at e;rw[if_neg (by simp)]at e;split at e
 ·cases e
 ·rename_i h0;simp only[ne_eq,Decidable.not_not]at h0;cases e;obtain⟨x,hx,x1,x2,hxm⟩:=yU p a gs i;have ha:NM p a gs i=fq x (fM p (i:Int)) a.2.1 a.2.2.1 a.1:=by unfold NM;rw[hx];rfl
  rw[ha,hon]at h0 ⊢
  have hx0:VG x∧(cu x= -1∨∃z∈nt,Rk z i (mD p a i)∧fU z=cu x)∧∀m∈aM x,aJ m≠bF (aW a.2.1):=by
   rcases hxm with hxm|rfl
   ·refine⟨(hi0.iX x hxm).1,?_,hno x hxm x1⟩;by_cases c:cu x= -1
    ·exact .inl c
    ·obtain⟨z,hz,hrk,ez⟩:=(hng.gi x hxm).sent c;exact .inr ⟨z,hz,⟨hrk.1.trans x1,hrk.2.trans x2⟩,ez⟩
   ·exact⟨Kk _ (by omega),.inl rfl,fun m hm=>by cases hm⟩
  obtain⟨hv,hsent,hnm⟩:=hx0;obtain⟨f1,f2⟩:=aac (r:=fM p (i:Int)) (t:=a.1) hnm h0;have hd:=hv.due;have hs:=hv.sent;have w0:=rr.wait;have i0:0≤dz r:=by have:=rr.int;omega
  have hwv:=XD (du:=dI x) (se:=cu x) (wa:=dL (fM p (i:Int))) (int:=dz (fM p (i:Int))) (t:=a.1) (L:=a.1) hd.1 hs.1 (by rw[er];exact w0) (by rw[er];exact i0) ht (by
   rcases hsent with c|⟨z,hz,_,ez⟩
   ·exact .inl c
   ·exact .inr (by have:=hat z hz;omega)) hb hb2
  refine⟨rT (fq x (fM p (i:Int)) a.2.1 true a.1).2.1 (fq x (fM p (i:Int)) a.2.1 true a.1).2.2,alb (i:=ic i (mD p a i) gs) ?_,?_,?_,_,f2,rfl,rfl,rfl,?_⟩
  ·rw[amE (akX.1 hx).1]
  ·rw[f1];exact x1
  ·rw[f1];exact x2
  ·rw[f1];refine⟨hwv.1,?_⟩
   show Lr x (fM p (i:Int)) a.1≤W
   rcases hwv.2 with c|⟨c,c2⟩
   ·exact Int.le_trans c hW
   ·rcases hsent with c3|⟨z,hz,hrk,ez⟩
    ·exact absurd c3 c
    ·have:=hW2 z hz hrk;rw[ez]at this;exact Int.le_trans c2 this
theorem Ny{p:bY}{Q:List LT→Prop}{nt:List gZ}{a:kM}(hon:a.2.2.1=true)(hq:Q a.2.1)(hlab:bD a.2.1=true)(ht:0≤a.1∧a.1≤8589934592){i:Nat}{W:Int}
  (hb:a.1+dL (fM p i)≤8589934592) (hb2:a.1+dz (fM p i)≤8589934592) (hat:∀z∈nt,fU z≤a.1) (hW:a.1+dL (fM p i)≤W) (hW2:∀z∈nt,Rk z i (mD p a i)→fU z+dz (fM p i)≤W):
  ∀{l:List Nat} {gs gs':List bG} {n:Nat},(∀j∈l,j∈eT p.1 a.2.1∧∃r,p.1[j]?=some r∧RR r)→rX p gs n→NG p Q nt a.1 gs→((NoM (bF (aW a.2.1)) i gs∧i∈l)∨PZ (bF (aW a.2.1)) i (mD p a i) W gs)→y8 p a l gs=some gs'→
   PZ (bF (aW a.2.1)) i (mD p a i) W gs'
 | [],gs,gs',n,_,_,_,h,e=>by
  cases e;rcases h with h|h
  ·cases h.2
  ·exact h
 |j::r,gs,gs',n,hl,hi,hg,h,e=>by
  obtain⟨g1,e1,e2⟩:=ame.1 e;have i1:=wP hi (hl j (by simp)).2 hlab ht e1;have n1:=N7 hi.up hg ht.1 hq (hl j (by simp)).1 e1;refine Ny hon hq hlab ht hb hb2 hat hW hW2 (fun k hk=>hl k (by simp[hk])) i1 n1 ?_ e2;rcases h with⟨h1,h2⟩|h
  ·by_cases c:j=i
   ·subst c;exact .inr (Ta hon hi hg (hl j (by simp)).2 ht.1 hb hb2 hat hW hW2 h1 e1)
   ·exact .inl ⟨NK c h1 e1,by
     rcases alN.1 h2 with h2|h2
     ·exact absurd h2.symm c
     ·exact h2⟩
  ·exact .inr (Uk hon hi h e1)
theorem GI.mono{p:bY}{Q Q':List LT→Prop}{nt:List gZ}{now:Int}{g:bG}(h:GI p Q nt now g)(f:∀l,Q l→Q' l):GI p Q' nt now g:=
 ⟨fun m hm=>⟨f _ (h.lab m hm).1,(h.lab m hm).2⟩,h.told,h.sent,h.due,h.past,h.now⟩
theorem CS(p:bY)(a:kM):∀(l:List kM) (k:Nat) (s:InT) (nt:List gZ),
  aO p (l++ [a]) k s nt=if(aO p l k s nt).1≠0 then aO p l k s nt else aO p [a] (aO p l k s nt).2.2.2 (aO p l k s nt).2.1 (aO p l k s nt).2.2.1
 | [],k,s,nt=>by
  rw[amD,if_neg (by simp[aO])];rfl
 |b::r,k,s,nt=>by
  have e1:aO p (b::r++ [a]) k s nt=if(aH p b.1 k s nt).1≠0 then aH p b.1 k s nt
   else if(bI p (aH p b.1 k s nt).2.1 b).1≠0 then((bI p (aH p b.1 k s nt).2.1 b).1,s,nt,0)
   else aO p (r++ [a]) (aH p b.1 k s nt).2.2.2 (bI p (aH p b.1 k s nt).2.1 b).2 (aH p b.1 k s nt).2.2.1:=rfl
  have e2:aO p (b::r) k s nt=if(aH p b.1 k s nt).1≠0 then aH p b.1 k s nt
   else if(bI p (aH p b.1 k s nt).2.1 b).1≠0 then((bI p (aH p b.1 k s nt).2.1 b).1,s,nt,0)
   else aO p r (aH p b.1 k s nt).2.2.2 (bI p (aH p b.1 k s nt).2.1 b).2 (aH p b.1 k s nt).2.2.1:=rfl
  rw[e1,e2];by_cases c1:(aH p b.1 k s nt).1≠0
  ·rw[if_pos c1,if_pos c1,if_pos c1]
  ·rw[if_neg c1,if_neg c1];by_cases c2:(bI p (aH p b.1 k s nt).2.1 b).1≠0
   ·rw[if_pos c2,if_pos c2,if_pos c2]
   ·rw[if_neg c2,if_neg c2];exact CS p a r _ _ _
theorem Ca(p:bY)(t:Int):∀(k:Nat) (s:InT) (nt:List gZ),dM s=[]→dM (aH p t k s nt).2.1=[]
 |0,s,nt,h=>by
  unfold aH;split<;>exact h
 |k+1,s,nt,h=>by
  unfold aH;split
  ·exact h
  ·exact Ca p t k _ _ h
theorem FP(p:bY)(t:Int):∀(k:Nat) (s:InT) (nt:List gZ),∃more,(aH p t k s nt).2.2.1=nt++more
 |0,s,nt=>by
  unfold aH;split<;>exact⟨[],by rw[alE]⟩
 |k+1,s,nt=>by
  unfold aH;split
  ·exact⟨[],by rw[alE]⟩
  ·obtain⟨more,e⟩:=FP p t k (uh p s (max (gK (bq s)).1 (cZ s))) (nt++kQ p s (max (gK (bq s)).1 (cZ s)));exact⟨_,e.trans (al7 ..)⟩
theorem Er(p:bY):∀(r:List kM) (k:Nat) (s:InT) (nt:List gZ),dM s=[]→(aO p r k s nt).1=0→dM (aO p r k s nt).2.1=[]
 | [],k,s,nt,h,_=>h
 |a::r,k,s,nt,h,e=>by
  unfold aO at e ⊢;split at e
  ·rename_i c;exact absurd e c
  rename_i c;rw[if_neg c];split at e
  ·rename_i c2;exact absurd e c2
  rename_i c2;rw[if_neg c2];refine Er p r _ _ _ ?_ e;obtain⟨_,_,_,_,gs,_,eV⟩:=A8 (by simpa using c2);rw[eV];exact Ca p a.1 k s nt h
theorem HY{p:bY}{Q:List LT→Prop}{nt:List gZ}(h:AG p Q nt):nt.Pairwise (fun x y=>fU x≤fU y):=by
 rw[List.pairwise_iff_getElem];intro i j hi hj hij;have e:nt=nt.take j++nt[j]::nt.drop (j+1):=by rw[List.getElem_cons_drop,amu]
 exact(h _ _ _ e).late _ (List.mem_take_iff_getElem.2 ⟨i,by omega,rfl⟩)
theorem SK{p:bY}{now:Int}{mk:ByteArray}{i:Nat}{key:ByteArray}{W:Int}{gs:List bG}(h:PZ mk i key W gs):PZ mk i key W (iQ p now gs):=by
 obtain⟨g,hg,g1,g2,m,hm,r⟩:=h;refine⟨g,am3.2 ⟨hg,?_⟩,g1,g2,m,hm,r⟩;have:decide ((aM g).length=0)=false:=akY (by have:=List.length_pos_of_mem hm;omega);unfold jB;rw[this];rfl
theorem TY{p:bY}{Q:List LT→Prop}(hp:wF p)(hc:xA p=0)(hinh:p.2.1=[])(hexp:p.2.2.1=0)(l:List kM)(a:kM)(hl:l.length≤255)(un:Int)(hun:0≤un∧un≤8000000000)
  (ha:∀b∈l,Q b.2.1∧bD b.2.1=true∧0≤b.1∧b.1≤a.1) (hp2:l.Pairwise (fun a b=>a.1≤b.1)) (hon:a.2.2.1=true) (hlab:bD a.2.1=true) (hQ:∀x,Q x→x≠a.2.1) (h0:0≤a.1) (hau:a.1≤un)
  (hw:∀i∈eT p.1 a.2.1,a.1+dL (fM p i)≤un∧a.1+dz (fM p i)≤un) (he:(qO p (l++ [a]) un).1=0):
  ∃nt0 more,(qO p (l++ [a]) un).2.2=nt0++more∧(∀z∈nt0,0≤fU z∧fU z≤a.1∧bF (aW a.2.1)∉nF z)∧nt0.Pairwise (fun x y=>fU x≤fU y)∧
   ∀i∈eT p.1 a.2.1,∀W,a.1+dL (fM p i)≤W→(∀z∈nt0,Rk z i (mD p a i)→fU z+dz (fM p i)≤W)→W≤un→
    (∀z∈more,Rk z i (mD p a i)→bF (aW a.2.1)∈nF z∧a.1≤fU z)∧∃A z B,more=A++z::B∧(∀y∈A,¬ Rk y i (mD p a i))∧Rk z i (mD p a i)∧fU z≤W:=by
 have e0:qO p (l++ [a]) un=KI p un (aO p (l++ [a]) 1000 jA []):=by
  unfold qO;rw[if_neg (by simpa using hc),if_neg (by simp;omega),if_neg (by omega)]
 rw[e0]at he ⊢
 obtain⟨k1,k2⟩:=Bw (Q:=Q) hp l 1000 jA [] (Bu hc) H9 (XV p Q) (fun b hb=>by
  obtain⟨b1,b2,b3,b4⟩:=ha b hb;exact⟨b1,b2,b3,by omega⟩) hp2
 have sl0:(aO p l 1000 jA []).1=0→dM (aO p l 1000 jA []).2.1=[]:=fun h=>Er p l 1000 jA [] rfl h
 rw[CS]at he ⊢;by_cases c0:(aO p l 1000 jA []).1≠0
 ·rw[if_pos c0]at he;unfold KI at he;rw[if_pos c0]at he;exact absurd he c0
 rw[if_neg c0]at he ⊢;simp only[ne_eq,Decidable.not_not]at c0;obtain⟨j1,j2,j3,j4⟩:=k2 c0;have hnow:=j4 a.1 (by exact h0) (fun b hb=>(ha b hb).2.2.2);have hsil:=sl0 c0;generalize aO p l 1000 jA []=A0 at *;obtain⟨⟨n1,n2⟩,_⟩:=Nn hp a.1 A0.2.2.2 A0.2.1 A0.2.2.1 j2 j3 j1 hnow;obtain⟨v1,v2,_,_⟩:=oU hp a.1 A0.2.2.2 A0.2.1 A0.2.2.1 j2 j3;have us:=Ca p a.1 A0.2.2.2 A0.2.1 A0.2.2.1 hsil
 have eA:aO p [a] A0.2.2.2 A0.2.1 A0.2.2.1=if(aH p a.1 A0.2.2.2 A0.2.1 A0.2.2.1).1≠0 then aH p a.1 A0.2.2.2 A0.2.1 A0.2.2.1
   else if(bI p (aH p a.1 A0.2.2.2 A0.2.1 A0.2.2.1).2.1 a).1≠0 then((bI p (aH p a.1 A0.2.2.2 A0.2.1 A0.2.2.1).2.1 a).1,A0.2.1,A0.2.2.1,0)
   else(0,(bI p (aH p a.1 A0.2.2.2 A0.2.1 A0.2.2.1).2.1 a).2,(aH p a.1 A0.2.2.2 A0.2.1 A0.2.2.1).2.2.1,(aH p a.1 A0.2.2.2 A0.2.1 A0.2.2.1).2.2.2):=rfl
 rw[eA]at he ⊢;generalize aH p a.1 A0.2.2.2 A0.2.1 A0.2.2.1=U at *;by_cases c1:U.1≠0
 ·rw[if_pos c1]at he;unfold KI at he;rw[if_pos c1]at he;exact absurd he c1
 rw[if_neg c1]at he ⊢;by_cases c2:(bI p U.2.1 a).1≠0
 ·rw[if_pos c2]at he;unfold KI at he;rw[if_pos c2]at he;exact absurd he c2
 rw[if_neg c2]at he ⊢;simp only[ne_eq,Decidable.not_not]at c2;obtain⟨w1,w2⟩:=nX hp v1 v2 a c2;obtain⟨_,_,_,_,gs,hr,eV⟩:=A8 c2;unfold KI at he ⊢;rw[if_neg (by simp)]at he ⊢;simp only at he ⊢;by_cases c3:(aH p (un+1) U.2.2.2 (bI p U.2.1 a).2 U.2.2.1).1≠0
 ·rw[if_pos c3]at he;exact absurd he c3
 rw[if_neg c3];simp only[ne_eq,Decidable.not_not]at c3;have iX:=v1.iX hp v2;obtain⟨f1,f2⟩:=wC hp (gP hc).1 a.2.1;have ai:rX p (bq U.2.1) 64:=⟨iX,(ql v1.rT).1,v1.len⟩
 have hnt:∀z∈U.2.2.1,0≤fU z∧fU z≤a.1:=fun z hz=>by have:=n1.at_ z hz;omega
 have ng:NG p (fun x=>Q x∨x=a.2.1) U.2.2.1 a.1 (bq U.2.1):=⟨fun g hg=>((n1.gi g hg).later n2).mono (fun _ h=>.inl h),fun z hz hno=>by have:=n1.gone z hz hno;omega⟩
 have hno:∀i:Nat,NoM (bF (aW a.2.1)) i (bq U.2.1):=fun i g hg _ m hm e=>by
  have hm0:=(iX g hg).1.mem m hm;have:=EB hm0.lab hlab (hm0.key.symm.trans e);exact hQ _ ((n1.gi g hg).lab m hm).1 this
 have key:∀i∈eT p.1 a.2.1,∀W,a.1+dL (fM p i)≤W→(∀z∈U.2.2.1,Rk z i (mD p a i)→fU z+dz (fM p i)≤W)→W≤un→
   ∃more,(aH p (un+1) U.2.2.2 (bI p U.2.1 a).2 U.2.2.1).2.2.1=U.2.2.1++more∧(∀z∈more,Rk z i (mD p a i)→bF (aW a.2.1)∈nF z∧a.1≤fU z)∧∃A z B,more=A++z::B∧(∀y∈A,¬ Rk y i (mD p a i))∧Rk z i (mD p a i)∧fU z≤W:=by
  intro i hi W hW hW2 hWu;obtain⟨hb,hb2⟩:=hw i hi;have hm:=Ny hon (Q:=fun x=>Q x∨x=a.2.1) (.inr rfl) hlab ⟨h0,by omega⟩ (by omega) (by omega) (fun z hz=>(hnt z hz).2) hW hW2 (fun j hj=>⟨hj,f1 j hj⟩) ai ng (.inl ⟨hno i,hi⟩) hr;obtain⟨r,hri,rr⟩:=f1 i hi;have er:fM p (i:Int)=r:=kX (by simpa using hri);have w0:0≤dL (fM p i):=by rw[er];exact rr.wait
  have tj:TJ p (bF (aW a.2.1)) i (mD p a i) U.2.2.1 a.1 W (bI p U.2.1 a).2 U.2.2.1:=by
   rw[eV];refine⟨us,Int.le_refl _,[],by rw[alE],fun z hz=>(by cases hz),?_⟩;obtain⟨g,hg,g1,g2,m,hm,m1,m2,m3,m4,m5⟩:=SK (p:=p) (now:=a.1) hm;exact⟨g,hg,g1,g2,m,hm,m1,m2,.inl ⟨m3,fun z hz=>(by cases hz),m4,m5,by show a.1≤W;omega⟩⟩
  exact WH hp hinh hexp (by omega) (by omega) (by omega) _ _ _ w1 w2 tj c3
 by_cases hf:∃i,i∈eT p.1 a.2.1
 ·obtain⟨i,hi⟩:=hf;obtain⟨hb,hb2⟩:=hw i hi;obtain⟨more,hmore,_⟩:=key i hi un hb (fun z hz _=>by have:=(hnt z hz).2;omega) (Int.le_refl _);refine⟨U.2.2.1,more,hmore,fun z hz=>⟨(hnt z hz).1,(hnt z hz).2,fun hk=> ?_⟩,?_,fun i hi W hW hW2 hWu=> ?_⟩
  ·obtain⟨A,B,e⟩:=List.append_of_mem hz;obtain⟨x,hx,hxv,e2,_⟩:=(n1.good A z B e).key _ (.inl hk);exact hQ x hx (EB hxv hlab e2.symm)
  ·exact HY n1.good
  ·obtain⟨more',hmore',r⟩:=key i hi W hW hW2 hWu;rw[hmore]at hmore';rw[List.append_cancel_left hmore'];exact r
 ·obtain⟨more,hmore⟩:=FP p (un+1) U.2.2.2 (bI p U.2.1 a).2 U.2.2.1;refine⟨U.2.2.1,more,hmore,fun z hz=>⟨(hnt z hz).1,(hnt z hz).2,fun hk=> ?_⟩,HY n1.good,fun i hi=>absurd ⟨i,hi⟩ hf⟩;obtain⟨A,B,e⟩:=List.append_of_mem hz;obtain⟨x,hx,hxv,e2,_⟩:=(n1.good A z B e).key _ (.inl hk);exact hQ x hx (EB hxv hlab e2.symm)
theorem uD.t{r:CF}(h:uD r):TSz r:=by
 obtain⟨h1,h2,h3,h4,h5,_⟩:=h;have h6:=h5.length_le;rw[show fQ.length=4 from rfl]at h6;exact⟨⟨by unfold big;omega,fun m hm=>(h3 m hm).z⟩,⟨by unfold big;omega,fun m hm=>(h4 m hm).z⟩,by unfold big;omega,fun k hk=>by have:=(vZ k (h5.subset hk)).2;unfold big;omega⟩
theorem uD.iN{r:CF}(h:uD r):J7 r=0:=by
 obtain⟨h1,h2,h3,h4,h5,h6,h7⟩:=h;have h8:=h5.length_le;rw[show fQ.length=4 from rfl]at h8;have:=List.length_pos_iff.2 h6;have:=List.length_pos_iff.2 h7;unfold J7
 rw[als.2 (show(r.1.length:Int)≠0 by omega),als.2 (show(r.2.1.length:Int)≠0 by omega),akY (show¬(r.1.length:Int)>8 by omega),akY (show¬(r.2.1.length:Int)>8 by omega),akY (show¬(r.2.2.1.length:Int)>12 by omega),
  Ic h3,Ic h4,Ni h5]
 rfl
theorem OM{l:List CF}(hl:l.length≤3)(h:∀r∈l,uD r):Ct l=0:=by
 unfold Ct;rw[akY (by omega),ami];clear hl
 induction l with
 |nil=>rfl
 |cons r l ih=>
  unfold L8;rw[(h r (by simp)).iN];exact ih fun x hx=>h x (by simp[hx])
structure IW(p:bY):Prop where
 rt:sD p.1
 inl:p.2.1.length≤3
 inh:∀r∈p.2.1,uD r
 exp:0≤p.2.2.1∧p.2.2.1≤1000
theorem IW.z{p:bY}(h:IW p):wF p:=⟨h.rt.z,by have:=h.inl;unfold big;omega,fun r hr=>(h.inh r hr).t,by have:=h.inl;unfold big;omega,fun r hr=>(h.inh r hr).z⟩
theorem IW.iN{p:bY}(h:IW p):xA p=0:=by
 have:=h.exp;unfold xA;rw[h.rt.iN,OM h.inl h.inh,if_neg (by simp),if_neg (by simp),if_neg (by omega)]
theorem P7(n:Int)(d:iP)(hd:tC d)(h0:0≤n)(h1:n≤10):∃(p:bY) (d':iP),m12 ((n,()),((d,()),()))=some ((),((d',()),(((p.2.2.1,()),()),(p.1,(p.2.1,())))))∧tC d'∧IW p:=by
 obtain⟨rs,d1,e1,hd1,g1⟩:=MH n d hd h0 h1;obtain⟨is,d2,e2,hd2,g2,g3⟩:=Xi d1 hd1;obtain⟨x,d3,e3,hd3,g4⟩:=qG [0,0,200,1000] d2 hd2 (by simp) (by simp);refine⟨(rs,is,x,()),d3,?_,hd3,g1,g2,g3,?_⟩
 ·unfold m12;simp only[e1,e2,e3,alR]
 ·simp only[alN,List.not_mem_nil,or_false]at g4;dsimp only;omega
structure I8(l:List kM)(t:Int):Prop where
 lab:∀a∈l,ji fQ a.2.1
 at_:∀a∈l,0≤a.1∧a.1≤t
 up:l.Pairwise fun a b=>a.1≤b.1
theorem I8.k{l:List kM}{t:Int}(h:I8 l t):∀a∈l,F8 a.2.1:=fun a ha=>adV (h.lab a ha)
theorem Ns:∀(n:Nat) (i:Int) (t:Int) (d:iP) (l:List kM),tC d→i=n→l.length+n≤1000→0≤t→t+400*n≤1000000→I8 l t→
  ∃(l':List kM) (t':Int) (d':iP),aA Em ((i,t,()),((d,()),(l,())))=some ((),((d',()),(l',())))∧tC d'∧l'.length=l.length+n∧t≤t'∧t'≤t+400*n∧I8 l' t':=by
 intro n
 induction n with
 |zero=>
  intro i t d l hd hi hl h0 h1 hg;refine⟨l,t,d,aB ?_,hd,rfl,Int.le_refl _,by omega,hg⟩;have:decide (i>0)=false:=akY (by omega);simp only[Em,this,au,sS]
 |succ n ih=>
  intro i t d l hd hi hl h0 h1 hg;obtain⟨x,d1,e1,hd1,g1⟩:=qG [0,1,10,30,400] d hd (by simp) (by simp);obtain⟨ls,d2,e2,hd2,g2⟩:=M7 d1 hd1;obtain⟨y,d3,e3,hd3,_⟩:=fJ 3 d2 hd2 (by omega);simp only[alN,List.not_mem_nil,or_false]at g1;have hw:aS (t+x)=t+x:=bK (by omega) (by omega);have hx:0≤x∧x≤400:=by omega
  obtain⟨l',t',d',k1,k2,k3,k4,k5,k6⟩:=ih (i-1) (t+x) d3 (l++ [(t+x,ls,decide (y>0),())]) hd3 (by omega) (by simp;omega) (by omega) (by omega)
   ⟨fun a ha=>by
    rcases alx.1 ha with ha|ha
    ·exact hg.lab a ha
    ·rw[alV.1 ha];exact g2,fun a ha=>by
    rcases alx.1 ha with ha|ha
    ·have:=hg.at_ a ha;omega
    ·rw[alV.1 ha];exact⟨by show 0≤t+x;omega,Int.le_refl _⟩,List.pairwise_append.2 ⟨hg.up,List.pairwise_singleton _ _,fun a ha b hb=>by
     rw[alV.1 hb];have:=hg.at_ a ha
     show a.1≤t+x
     omega⟩⟩
  refine⟨l',t',d',?_,k2,by rw[k3];simp;omega,by omega,by omega,k6⟩;rw[←k1];refine aD ?_;have c0:decide (i>0)=true:=akW (by omega);have c1:decide (l.length+([(t+x,ls,decide (y>0),())]:List kM).length≤4294967296)=true:=akW (by simp;omega);simp only[Em,c0,e1,e2,e3,hw,c1,bK (x:=i-1) (by omega) (by omega),au,sS]
theorem LV(n:Int)(d:iP)(hd:tC d)(h0:0≤n)(h1:n≤100):∃(l:List kM) (t:Int) (d':iP),m13 ((n,()),((d,()),()))=some ((),((d',()),(l,())))∧tC d'∧(l.length:Int)≤n∧0≤t∧t≤400*n∧I8 l t:=by
 obtain⟨k,d1,e1,hd1,b1,_⟩:=fJ (n+1) d hd (by omega);have b1:=b1 (by omega);obtain⟨l',t',d',e2,k2,k3,k4,k5,k6⟩:=Ns k.toNat k 0 d1 [] hd1 (by omega) (by simp;omega) (Int.le_refl _) (by omega) ⟨fun a ha=>(by cases ha),fun a ha=>(by cases ha),List.Pairwise.nil⟩;refine⟨l',t',d',?_,k2,by rw[k3];simp;omega,k4,by omega,k6⟩;unfold m13;simp only[bK (x:=n+1) (by omega) (by omega),e1,alR,e2]
structure akG(p:bY)(s:InT):Prop where
 vi:VI p s
 z:tF s
set_option maxRecDepth 1000000 in
theorem P6:m10 ((),())=some ((true,()),()):=by kernel_rfl
end Go.Proofs.YtchnmpafhfjimaaGreatDoor
namespace Go.Proofs.YtchnmpafhfjimaaGreatDoor
open Go Go.Abs
end Go.Proofs.YtchnmpafhfjimaaGreatDoor
namespace Go.Proofs.YtchnmpafhfjimaaGreatDoor
open Go Go.Abs
instance akH(k:ByteArray)(l:List ByteArray):Decidable (k∈l):=decidable_of_iff (bl k∈l.map bl) ⟨fun h=>by
 obtain⟨x,hx,e⟩:=amb.1 h;rw[←oO e];exact hx,fun h=>List.mem_map_of_mem h⟩
theorem OB(y:gZ)(k:ByteArray)(hF:(nF y).length≤big):∀(d i:Nat),i+d=(nF y).length→
  ∃b,aA w9 (((i:Int),k,()),(y,()),())=some b∧(k∈(nF y).drop i→b= .inl ((true,()),()))∧(k∉(nF y).drop i→b= .inr ((),())):=by
 unfold big at hF;intro d
 induction d with
 |zero=>
  intro i hi;have c:decide ((i:Int)<((nF y).length:Int))=false:=akY (by omega);refine⟨_,aB (by simp only[w9,c,au,sS]),fun h=> ?_,fun _=>rfl⟩;rw[al6 (by omega)]at h;cases h
 |succ d ih=>
  intro i hi;obtain⟨e,he⟩:=getD_some (l:=nF y) (i:=i) (by omega);have c:decide ((i:Int)<((nF y).length:Int))=true:=akW (by omega);have w:aS ((i:Int)+1)=((i+1:Nat):Int):=aI (by omega)
  have hd:(nF y).drop i=e::(nF y).drop (i+1):=by
   obtain⟨h1,h2⟩:=akX.1 he;rw[←h2,List.getElem_cons_drop]
  rw[hd];by_cases h1:e.toList=k.toList
  ·have b1:(e.toList==k.toList)=true:=by rw[h1];exact amg _
   refine⟨_,aB (by simp only[w9,c,au,sS];refine(aK _).trans ?_;rw[aF he];simp only[b1,au,sS]),fun _=>rfl,fun h=>absurd (by rw[DX h1];simp) h⟩
  ·have b1:(e.toList==k.toList)=false:=als.2 h1;obtain⟨b,k1,k2,k3⟩:=ih (i+1) (by omega);refine⟨b,(aD (by simp only[w9,c,au,sS];refine(aK _).trans ?_;rw[aF he];simp only[b1,w,au,sS])).trans k1,fun h=>k2 ?_,fun h=>k3 ?_⟩
   ·rcases alN.1 h with h|h
    ·exact absurd (congrArg ByteArray.toList h.symm) h1
    ·exact h
   ·exact fun h'=>h (amm _ h')
theorem XL(y:gZ)(l:List LT)(hl:F8 l)(hv:bD l=true)(hF:(nF y).length≤big):m21 ((y,l,()),())=some ((decide (bF (aW l)∈nF y),()),()):=by
 have q:=OU l hl;unfold zH at q;rw[if_pos hv]at q;obtain⟨b,k1,k2,k3⟩:=OB y (bF (aW l)) hF (nF y).length 0 (by omega);unfold m21;simp only[q,au,sS];rw[show aA w9 ((0,bF (aW l),()),(y,()),())=_ from k1];rw[al9]at k2 k3;by_cases h:bF (aW l)∈nF y
 ·rw[k2 h,akW h];rfl
 ·rw[k3 h,akY h];rfl
def sc(at_ rt:Int)(key mk:ByteArray)(s:Int×Int)(y:gZ):Int×Int:=
 if KZ y=rt∧KJ y=key then(if s.1<0∧mk∈nF y then fU y else s.1,if fU y<at_∨(fU y=at_∧mk∉nF y)then fU y else s.2)else s
abbrev D4(mine:List LT)(x:List gZ)(is:List Int)(r:dw)(rts:List dw):List LT×List gZ×((Int×Unit)×Unit)×List Int×(dw×Unit)×List dw×Unit:=(mine,x,((0,()),()),is,(r,()),rts,())
theorem SI{mine:List LT}(hm:F8 mine)(hv:bD mine=true){x:List gZ}(hx:∀z∈x,U3 z)(hn:x.length≤64000)(is:List Int)(r:dw)(rts:List dw)(at_ rt nI ii:Int)(key:ByteArray)(i:Nat)(hi:i<x.length)(told last:Int){y:gZ}(hy:x[i]?=some y):
  fw (((i:Int),told,at_,key,rt,nI,ii,last,(x.length:Int),()),D4 mine x is r rts)=
   some (.inl ((((i+1:Nat):Int),(sc at_ rt key (bF (aW mine)) (told,last) y).1,at_,key,rt,nI,ii,(sc at_ rt key (bF (aW mine)) (told,last) y).2,(x.length:Int),()),D4 mine x is r rts)):=by
 have c:decide ((i:Int)<(x.length:Int))=true:=akW (by omega);have c0:decide ((0:Int)≤(i:Int)∧(i:Int)<(x.length:Int))=true:=akW ⟨by omega,by omega⟩;have w:aS ((i:Int)+1)=((i+1:Nat):Int):=aI (by omega);have q:=XL y mine hm hv (by have:=(hx y (alb hy)).1;unfold big;dsimp only[nF];omega);unfold sc;by_cases h1:KZ y=rt
 ·have b1:(y.2.1 !=rt)=false:=by rw[show y.2.1=rt from h1];exact alC _
  by_cases h2:KJ y=key
  ·have b2:(y.2.2.2.1.toList==key.toList)=true:=by rw[show y.2.2.2.1=key from h2];exact amg _
   rw[if_pos ⟨h1,h2⟩];dsimp only;by_cases ht:bF (aW mine)∈nF y
   ·rw[akW ht]at q;by_cases h3:fU y<at_
    ·have b3:decide ((y.1:Int)<at_)=true:=akW h3;rw[if_pos (c:=fU y<at_∨(fU y=at_∧bF (aW mine)∉nF y)) (.inl h3)];by_cases h4:told<0
     ·rw[if_pos (c:=told<0∧bF (aW mine)∈nF y) ⟨h4,ht⟩];simp only[fw,c,c0,akZ,hy,b1,b2,b3,q,akW h4,w,al2,au,sS]
     ·rw[if_neg (c:=told<0∧bF (aW mine)∈nF y) (fun h=>h4 h.1)];simp only[fw,c,c0,akZ,hy,b1,b2,b3,q,akY h4,w,al2,au,sS]
    ·have b3:decide ((y.1:Int)<at_)=false:=akY h3;rw[if_neg (c:=fU y<at_∨(fU y=at_∧bF (aW mine)∉nF y)) (by rintro(h|h);exact h3 h;exact h.2 ht)];by_cases h4:told<0
     ·rw[if_pos (c:=told<0∧bF (aW mine)∈nF y) ⟨h4,ht⟩];by_cases h5:y.1=at_
      ·have b5:(y.1==at_)=true:=by rw[h5];exact amg _
       simp only[fw,c,c0,akZ,hy,b1,b2,b3,b5,q,akW h4,w,al2,au,sS]
      ·have b5:(y.1==at_)=false:=als.2 h5;simp only[fw,c,c0,akZ,hy,b1,b2,b3,b5,q,akW h4,w,al2,au,sS]
     ·rw[if_neg (c:=told<0∧bF (aW mine)∈nF y) (fun h=>h4 h.1)];by_cases h5:y.1=at_
      ·have b5:(y.1==at_)=true:=by rw[h5];exact amg _
       simp only[fw,c,c0,akZ,hy,b1,b2,b3,b5,q,akY h4,w,al2,au,sS]
      ·have b5:(y.1==at_)=false:=als.2 h5;simp only[fw,c,c0,akZ,hy,b1,b2,b3,b5,q,akY h4,w,al2,au,sS]
   ·rw[akY ht]at q;rw[if_neg (c:=told<0∧bF (aW mine)∈nF y) (fun h=>ht h.2)];by_cases h3:fU y<at_
    ·have b3:decide ((y.1:Int)<at_)=true:=akW h3;rw[if_pos (c:=fU y<at_∨(fU y=at_∧bF (aW mine)∉nF y)) (.inl h3)];by_cases h4:told<0
     ·simp only[fw,c,c0,akZ,hy,b1,b2,b3,q,akW h4,w,al2,au,sS]
     ·simp only[fw,c,c0,akZ,hy,b1,b2,b3,q,akY h4,w,al2,au,sS]
    ·have b3:decide ((y.1:Int)<at_)=false:=akY h3;by_cases h5:y.1=at_
     ·have b5:(y.1==at_)=true:=by rw[h5];exact amg _
      rw[if_pos (c:=fU y<at_∨(fU y=at_∧bF (aW mine)∉nF y)) (.inr ⟨h5,ht⟩)];by_cases h4:told<0
      ·simp only[fw,c,c0,akZ,hy,b1,b2,b3,b5,q,akW h4,w,al2,aly,au,sS]
      ·simp only[fw,c,c0,akZ,hy,b1,b2,b3,b5,q,akY h4,w,al2,aly,au,sS]
     ·have b5:(y.1==at_)=false:=als.2 h5;rw[if_neg (c:=fU y<at_∨(fU y=at_∧bF (aW mine)∉nF y)) (by rintro(h|h);exact h3 h;exact h5 h.1)];by_cases h4:told<0
      ·simp only[fw,c,c0,akZ,hy,b1,b2,b3,b5,q,akW h4,w,al2,au,sS]
      ·simp only[fw,c,c0,akZ,hy,b1,b2,b3,b5,q,akY h4,w,al2,au,sS]
  ·have b2:(y.2.2.2.1.toList==key.toList)=false:=als.2 (fun h=>h2 (DX h));rw[if_neg (fun h=>h2 h.2)];simp only[fw,c,c0,akZ,hy,b1,b2,w,aly,au,sS]
 ·have b1:(y.2.1 !=rt)=true:=alY.2 h1;rw[if_neg (fun h=>h1 h.1)];simp only[fw,c,c0,akZ,hy,b1,w,au,sS]
theorem scan{mine:List LT}(hm:F8 mine)(hv:bD mine=true){x:List gZ}(hx:∀z∈x,U3 z)(hn:x.length≤64000)(is:List Int)(r:dw)(rts:List dw)(at_ rt nI ii:Int)(key:ByteArray):∀(d i:Nat) (s:Int×Int),i+d=x.length→
  aA fw (((i:Int),s.1,at_,key,rt,nI,ii,s.2,(x.length:Int),()),D4 mine x is r rts)=
   some ((at_,nI,ii,((x.drop i).foldl (sc at_ rt key (bF (aW mine))) s).1,((x.drop i).foldl (sc at_ rt key (bF (aW mine))) s).2,()),D4 mine x is r rts):=by
 intro d
 induction d with
 |zero=>
  intro i s hi;have c:decide ((i:Int)<(x.length:Int))=false:=akY (by omega);rw[al6 (by omega)];exact aB (by simp only[fw,c,List.foldl_nil,au,sS])
 |succ d ih=>
  intro i s hi;obtain⟨y,hy⟩:=getD_some (l:=x) (i:=i) (by omega)
  have hd:x.drop i=y::x.drop (i+1):=by
   obtain⟨h1,h2⟩:=akX.1 hy;rw[←h2,List.getElem_cons_drop]
  rw[hd,List.foldl_cons];exact(aD (SI hm hv hx hn is r rts at_ rt nI ii key i (by omega) s.1 s.2 hy)).trans (ih (i+1) _ (by omega))
theorem ac1{at_ rt:Int}{key mk:ByteArray}:∀(l:List gZ) (s:Int×Int),(∀z∈l,¬ Rk z rt key)→l.foldl (sc at_ rt key mk) s=s
 | [],_,_=>rfl
 |y::r,s,h=>by
  have e:sc at_ rt key mk s y=s:=if_neg (h y (by simp));rw[List.foldl_cons,e];exact ac1 r s fun z hz=>h z (by simp[hz])
theorem Pe{at_ rt:Int}{key mk:ByteArray}:∀(l:List gZ) (l0:Int),l0≤at_→(∀z∈l,l0≤fU z∧fU z≤at_∧mk∉nF z)→l.Pairwise (fun x y=>fU x≤fU y)→
  ∃L,l.foldl (sc at_ rt key mk) (-1,l0)=(-1,L)∧l0≤L∧L≤at_∧∀z∈l,Rk z rt key→fU z≤L
 | [],l0,h,_,_=>⟨l0,rfl,Int.le_refl _,h,fun z hz=>(by cases hz)⟩
 |y::r,l0,h,ha,hp=>by
  obtain⟨p1,p2⟩:=amx.1 hp;obtain⟨a1,a2,a3⟩:=ha y (by simp);rw[List.foldl_cons];by_cases hr:Rk y rt key
  ·have e:sc at_ rt key mk (-1,l0) y=(-1,fU y):=by
    unfold sc;rw[if_pos (c:=KZ y=rt∧KJ y=key) hr];dsimp only;rw[if_neg (c:=(-1:Int)<0∧mk∈nF y) (fun h=>a3 h.2),if_pos (c:=fU y<at_∨(fU y=at_∧mk∉nF y))];by_cases h:fU y<at_
    ·exact .inl h
    ·exact .inr ⟨by omega,a3⟩
   rw[e];obtain⟨L,k1,k2,k3,k4⟩:=Pe r (fU y) a2 (fun z hz=>⟨p1 z hz,(ha z (by simp[hz])).2⟩) p2;refine⟨L,k1,by omega,k3,fun z hz hk=> ?_⟩;rcases alN.1 hz with rfl|hz
   ·exact k2
   ·exact k4 z hz hk
  ·have e:sc at_ rt key mk (-1,l0) y=(-1,l0):=if_neg hr;rw[e];obtain⟨L,k1,k2,k3,k4⟩:=Pe r l0 h (fun z hz=>ha z (by simp[hz])) p2;refine⟨L,k1,k2,k3,fun z hz hk=> ?_⟩;rcases alN.1 hz with rfl|hz
   ·exact absurd hk hr
   ·exact k4 z hz hk
theorem Og{at_ rt:Int}{key mk:ByteArray}:∀(l:List gZ) (t L:Int),0≤t→(∀z∈l,Rk z rt key→mk∈nF z∧at_≤fU z)→l.foldl (sc at_ rt key mk) (t,L)=(t,L)
 | [],_,_,_,_=>rfl
 |y::r,t,L,ht,h=>by
  rw[List.foldl_cons]
  have e:sc at_ rt key mk (t,L) y=(t,L):=by
   unfold sc;by_cases hr:KZ y=rt∧KJ y=key
   ·obtain⟨h1,h2⟩:=h y (by simp) hr;rw[if_pos hr];dsimp only;rw[if_neg (c:=t<0∧mk∈nF y) (fun h=>by have:=h.1;omega),if_neg (c:=fU y<at_∨(fU y=at_∧mk∉nF y)) (by rintro(h|h);omega;exact h.2 h1)]
   ·rw[if_neg hr]
  rw[e];exact Og r t L ht fun z hz=>h z (by simp[hz])
theorem Yt{at_ rt int wait un:Int}{key mk:ByteArray}{x nt0 more:List gZ}(h0:0≤at_)(hu:at_+wait≤un∧at_+int≤un)(hx:x=nt0++more)(ho:∀z∈nt0,0≤fU z∧fU z≤at_∧mk∉nF z)(hs:nt0.Pairwise (fun x y=>fU x≤fU y))
  (h:∀W,at_+wait≤W→(∀z∈nt0,Rk z rt key→fU z+int≤W)→W≤un→
   (∀z∈more,Rk z rt key→mk∈nF z∧at_≤fU z)∧∃A z B,more=A++z::B∧(∀y∈A,¬ Rk y rt key)∧Rk z rt key∧fU z≤W):
  ∃T L,x.foldl (sc at_ rt key mk) (-1,-1)=(T,L)∧at_≤T∧ -1≤L∧L≤at_∧(if L≥0 then T≤max (L+int) (at_+wait)else T≤at_+wait):=by
 obtain⟨L,k1,k2,k3,k4⟩:=Pe (at_:=at_) (rt:=rt) (key:=key) (mk:=mk) nt0 (-1) (by omega) (fun z hz=>⟨by have:=ho z hz;omega,(ho z hz).2⟩) hs
 obtain⟨m1,A,z,B,e,a1,a2,a3⟩:=h (if L≥0 then max (L+int) (at_+wait)else at_+wait) (by split<;>omega) (fun z hz hk=>by
  have:=k4 z hz hk;have:=(ho z hz).1;rw[if_pos (by omega)];omega) (by split<;>omega)
 have hz:z∈more:=by rw[e];simp
 obtain⟨z1,z2⟩:=m1 z hz a2;refine⟨fU z,L,?_,z2,k2,k3,?_⟩
 ·rw[hx,List.foldl_append,k1,e,List.foldl_append,ac1 A _ a1,List.foldl_cons]
  have es:sc at_ rt key mk (-1,L) z=(fU z,L):=by
   unfold sc;rw[if_pos (c:=KZ z=rt∧KJ z=key) a2];dsimp only;rw[if_pos (c:=(-1:Int)<0∧mk∈nF z) ⟨by omega,z1⟩,if_neg (c:=fU z<at_∨(fU z=at_∧mk∉nF z)) (by rintro(h|h);omega;exact h.2 z1)]
  rw[es];exact Og B _ L (by omega) fun y hy=>m1 y (by rw[e];simp[hy])
 ·split at a3<;>rename_i c<;>first|rw[if_pos c];exact a3|rw[if_neg c];exact a3
theorem Qt{p:bY}(hp:wF p){mine:List LT}(hm:F8 mine)(hv:bD mine=true){x:List gZ}(hx:∀z∈x,U3 z)(hn:x.length≤64000)(is:List Nat)(hil:is.length≤1000)(at_:Int)(h0:0≤at_∧at_≤100000)
  (hr:∀k∈is,k<p.1.length∧0≤dL (fM p k)∧dL (fM p k)≤1000∧0≤dz (fM p k)∧dz (fM p k)≤1000∧∃T L,x.foldl (sc at_ (k:Int) (xq (fM p k) mine) (bF (aW mine))) (-1,-1)=(T,L)∧at_≤T∧ -1≤L∧L≤at_∧(if L≥0 then T≤max (L+dz (fM p k)) (at_+dL (fM p k))else T≤at_+dL (fM p k))) (i:Nat) (hi:i<is.length):
  pI ((at_,(i:Int),(is.length:Int),()),mine,x,((0,()),()),ints is,p.1,())=some (.inl ((at_,((i+1:Nat):Int),(is.length:Int),()),mine,x,((0,()),()),ints is,p.1,())):=by
 obtain⟨k,hk⟩:=getD_some (l:=is) (i:=i) hi;obtain⟨hkl,w0,w1,i0,i1,T,L,hf,hT,hL0,hL,hW⟩:=hr k (alb hk);obtain⟨r,hrr⟩:=getD_some (l:=p.1) (i:=k) hkl;have er:fM p (k:Int)=r:=kX (by rw[akZ];exact hrr);rw[er]at w0 w1 i0 i1 hf hW;have hkk:(ints is)[i]?=some (k:Int):=by unfold ints;rw[ale,hk];rfl
 have hlen:(ints is).length=is.length:=by unfold ints;rw[ald]
 have c:decide ((i:Int)<(is.length:Int))=true:=akW (by omega);have c0:decide ((0:Int)≤(i:Int)∧(i:Int)<((ints is).length:Int))=true:=akW (by rw[hlen];omega);have c1:decide ((0:Int)≤(k:Int)∧(k:Int)<(p.1.length:Int))=true:=akW (by omega);have w:aS ((i:Int)+1)=((i+1:Nat):Int):=aI (by omega);have hrz:=(hp.rt.2 r (alb hrr)).2.1;have q20:=Vw r mine hm hrz;have qs:=scan hm hv hx hn (ints is) r p.1 at_ (k:Int) (is.length:Int) (i:Int) (xq r mine) x.length 0 (-1,-1) (by omega);rw[al9,hf]at qs;have qs:aA fw ((0,-1,at_,xq r mine,(k:Int),(is.length:Int),(i:Int),-1,((x.length:Nat):Int),()),mine,x,((0,()),()),ints is,(r,()),p.1,())=_:=qs;have w2:aS (at_+r.2.2.2.2.1)=at_+r.2.2.2.2.1:=bK (by dsimp only[dL]at *;omega) (by dsimp only[dL]at *;omega);have w3:aS (L+r.2.2.2.2.2.1)=L+r.2.2.2.2.2.1:=bK (by dsimp only[dz]at *;omega) (by dsimp only[dz]at *;omega);have t1:decide (T<at_)=false:=akY (by omega)
 by_cases hl:L≥0
 ·rw[if_pos hl]at hW;dsimp only[dL,dz]at hW;have t2:decide (T>(if L+r.2.2.2.2.2.1>at_+r.2.2.2.2.1 then L+r.2.2.2.2.2.1 else at_+r.2.2.2.2.1))=false:=akY (by split<;>omega);simp only[pI,c,c0,c1,akZ,hkk,hrr,q20,qs,akW hl,w2,w3,t1,t2,w,au,sS]
 ·rw[if_neg hl]at hW;dsimp only[dL]at hW;have t2:decide (T>at_+r.2.2.2.2.1)=false:=akY (by omega);simp only[pI,c,c0,c1,akZ,hkk,hrr,q20,qs,akY hl,w2,t1,t2,w,au,sS]
theorem Mq{p:bY}(hp:wF p){mine:List LT}(hm:F8 mine)(hv:bD mine=true){x:List gZ}(hx:∀z∈x,U3 z)(hn:x.length≤64000)(is:List Nat)(hil:is.length≤1000)(at_:Int)(h0:0≤at_∧at_≤100000)
  (hr:∀k∈is,k<p.1.length∧0≤dL (fM p k)∧dL (fM p k)≤1000∧0≤dz (fM p k)∧dz (fM p k)≤1000∧∃T L,x.foldl (sc at_ (k:Int) (xq (fM p k) mine) (bF (aW mine))) (-1,-1)=(T,L)∧at_≤T∧ -1≤L∧L≤at_∧(if L≥0 then T≤max (L+dz (fM p k)) (at_+dL (fM p k))else T≤at_+dL (fM p k))):∀(d i:Nat),i+d=is.length→
  aA pI ((at_,(i:Int),(is.length:Int),()),mine,x,((0,()),()),ints is,p.1,())=some (.inr ((),())):=by
 intro d
 induction d with
 |zero=>
  intro i hi;have c:decide ((i:Int)<(is.length:Int))=false:=akY (by omega);exact aB (by simp only[pI,c,au,sS])
 |succ d ih=>
  intro i hi;exact(aD (Qt hp hm hv hx hn is hil at_ h0 hr i (by omega))).trans (ih (i+1) (by omega))
def gu(e:ByteArray):List LT:=[(bs [109,105,110,101],bs [120],()),(bs [116,101,97,109],e,())]
def MF:List ByteArray:=[bs [97],bs [98],bs [99,114,105,116]]
theorem Rh:∀e∈MF,bD (gu e)=true∧(gu e).length=2∧∀y∈gu e,y.1.size≤64∧y.2.1.size≤64:=by
 intro e he;simp only[MF,alN,List.not_mem_nil,or_false]at he
 rcases he with rfl|rfl|rfl<;>exact⟨by kernel_rfl,rfl,fun y hy=>by
  simp only[gu,alN,List.not_mem_nil,or_false]at hy;rcases hy with rfl|rfl<;>exact⟨by decide,by decide⟩⟩
theorem PU{e:ByteArray}(he:e∈MF):F8 (gu e):=by
 obtain⟨_,h2,h3⟩:=Rh e he;exact⟨by rw[h2];unfold big;omega,fun y hy=>by have:=h3 y hy;unfold big;omega⟩
theorem Zz(e:ByteArray):∀x,ji fQ x→x≠gu e:=by
 rintro x h rfl;have:=h.1.subset (show bs [109,105,110,101]∈(gu e).map (·.1)from amq ..)
 revert this
 decide+kernel
theorem aiz{p:bY}(hp:wF p)(hc:xA p=0)(hinh:p.2.1=[])(hexp:p.2.2.1=0)(gt:sD p.1){l:List kM}{u:Int}(ga:I8 l u)(hl:l.length≤10){at_:Int}(h0:0≤at_∧at_≤4000)(hat:∀b∈l,b.1≤at_){e:ByteArray}(he:e∈MF){V:RunT}(hV:V=qO p (l++ [(at_,gu e,true,())]) (at_+2000)):
  (V.1=0∨V.1=5)∧(V.1=0→aA pI ((at_,0,(((ints (eT p.1 (gu e))).length:Nat):Int),()),gu e,V.2.2,((0,()),()),ints (eT p.1 (gu e)),p.1,())=some (.inr ((),()))):=by
 have hv:=(Rh e he).1;have hm:=PU he;obtain⟨f1,f2⟩:=wC hp (gP hc).1 (gu e)
 have gr:∀k∈eT p.1 (gu e),k<p.1.length∧0≤dL (fM p k)∧dL (fM p k)≤1000∧0≤dz (fM p k)∧dz (fM p k)≤1000:=by
  intro k hk;obtain⟨r,hr,rr⟩:=f1 k hk;have er:fM p (k:Int)=r:=kX (by rw[akZ];exact hr);rw[er];have g:=(gt.good r (alb hr)).2.2.2;have h1:=rr.wait;have h2:=rr.int;have h3:dz r≤1000:=g.1;exact⟨(akX.1 hr).1,by omega,by omega,by omega,by omega⟩
 have hall:∀a∈l++ [((at_,gu e,true,()):kM)],(ji fQ a.2.1∨a.2.1=gu e)∧bD a.2.1=true∧0≤a.1∧a.1≤at_+2001:=by
  intro a ha;rcases alx.1 ha with ha|ha
  ·exact⟨.inl (ga.lab a ha),Ew (ga.lab a ha),(ga.at_ a ha).1,by have:=hat a ha;omega⟩
  ·rw[alV.1 ha];exact⟨.inr rfl,hv,h0.1,by show at_≤at_+2001;omega⟩
 have hpw:(l++ [((at_,gu e,true,()):kM)]).Pairwise (fun a b=>a.1≤b.1):=
  List.pairwise_append.2 ⟨ga.up,List.pairwise_singleton _ _,fun a ha b hb=>by rw[alV.1 hb];exact hat a ha⟩
 obtain⟨r1,r2⟩:=ad5 (Q:=fun x=>ji fQ x∨x=gu e) hp hc (l++ [((at_,gu e,true,()):kM)]) (by simp;omega) (at_+2000) (at_+2001) ⟨by omega,by omega,by omega⟩ hall hpw;obtain⟨_,_,z1,z2⟩:=UQ hp (l++ [((at_,gu e,true,()):kM)]) (at_+2000);rw[←hV]at r1 z1 z2;refine⟨r1,fun h=> ?_⟩;rw[hV]at h;obtain⟨nt0,more,x1,x2,x3,x4⟩:=TY (Q:=ji fQ) hp hc hinh hexp l (at_,gu e,true,()) (by omega) (at_+2000) ⟨by omega,by omega⟩ (fun b hb=>⟨ga.lab b hb,Ew (ga.lab b hb),(ga.at_ b hb).1,hat b hb⟩) ga.up rfl hv
  (fun x hx=>Zz e x hx) h0.1 (by show at_≤at_+2000;omega) (fun i hi=>by
   have:=gr i hi;exact⟨by show at_+_≤at_+2000;omega,by show at_+_≤at_+2000;omega⟩) h
 rw[←hV]at x1;have hlen:(ints (eT p.1 (gu e))).length=(eT p.1 (gu e)).length:=by unfold ints;rw[ald]
 rw[hlen];refine Mq hp hm hv z2 z1 (eT p.1 (gu e)) (by omega) at_ ⟨h0.1,by omega⟩ (fun k hk=> ?_) (eT p.1 (gu e)).length 0 (by omega);obtain⟨g1,g2,g3,g4,g5⟩:=gr k hk;exact⟨g1,g2,g3,g4,g5,Yt (un:=at_+2000) h0.1 ⟨by omega,by omega⟩ x1 x2 x3 (x4 k hk)⟩
theorem ahN(t:List Int)(n:Int)(hn:0≤n∧n≤255):m4 ((t,n,()),())=some ((true,()),()):=by
 unfold m4;simp only[light,au,sS];by_cases ht:t.length≤500
 ·obtain⟨p,d1,e1,hd1,gp⟩:=P7 3 (t,0,()) (ak3 ht) (by omega) (by omega);obtain⟨l,u,d2,e2,hd2,g1,g2,g3,ga⟩:=LV 10 d1 hd1 (by omega) (by omega);obtain⟨q,hq⟩:∃q:Nat,(n.tmod 3)=(q:Int):=⟨(n.tmod 3).toNat,by rw[Int.tmod_eq_emod_of_nonneg hn.1];omega⟩
  have hq3:q<3:=by rw[Int.tmod_eq_emod_of_nonneg hn.1]at hq;omega
  obtain⟨e,he⟩:=getD_some (l:=[bs [97],bs [98],bs [99,114,105,116]]) (i:=q) hq3;have hem:e∈MF:=alb he;have hcond:∀(P:Prop) [Decidable P] (_:P) (X:Option ((Bool×Unit)×Unit)),(bif decide P then X else none)=X:=fun P _ h X=>by rw[akW h];rfl
  have gp2:IW (p.1,[],0,()):=⟨gp.rt,by simp,fun r hr=>(by cases hr),by simp⟩
  have fin:∀at_:Int,0≤at_→at_≤4000→(∀b∈l,b.1≤at_)→
    (m15 (((p.1,[],0,()),l++ [((at_,gu e,true,()):kM)],aS (at_+2000),()),())).bind (fun d=>bif ((d.1.1:Int) !=0)then(((bif ((d.1.1:Int)==5)then((m10 ((),())).bind fun n=>some n)else(some ((false,()),()))):Option ((Bool×Unit)×Unit)).bind fun o=>some o)
     else((m19 ((p.1,gu e,()),())).bind fun f=>
      (aA pI ((at_,0,((f.2.1.length:Nat):Int),()),gu e,d.2.2.1,((0,()),()),f.2.1,p.1,())).bind fun p=>au p (fun q=>(some q)) (fun s=>((m10 ((),())).bind fun r=>some r))))=some ((true,()),()):=by
   intro at_ a0 a1 a2
   obtain⟨o,m,blk,q,_⟩:=agQ gp2.z (l++ [((at_,gu e,true,()):kM)]) (fun a ha=>by
    rcases alx.1 ha with ha|ha
    ·exact ga.k a ha
    ·rw[alV.1 ha];exact PU hem) (at_+2000)
   obtain⟨V,hV⟩:∃V,V=qO (p.1,[],0,()) (l++ [((at_,gu e,true,()):kM)]) (at_+2000):=⟨_,rfl⟩
   obtain⟨r1,r2⟩:=aiz gp2.z gp2.iN rfl rfl gp.rt ga (by omega) ⟨a0,a1⟩ a2 hem hV;rw[←hV]at q;have w:aS (at_+2000)=at_+2000:=bK (by omega) (by omega);have q19:=ade p.1 gp.rt.z (gu e) (PU hem);rcases r1 with r1|r1
   ·have hb:(V.1 !=0)=false:=by rw[r1];rfl
    have r2:=r2 r1;dsimp only at r2;simp only[w,q,hb,q19,r2,P6,au,sS]
   ·have hb:(V.1 !=0)=true:=by rw[r1];rfl
    have hb2:(V.1==5)=true:=by rw[r1];rfl
    simp only[w,q,hb,hb2,P6,au,sS]
  have k1:decide (l.length+1≤4294967296)=true:=akW (by omega);by_cases hl:l.length=0
  ·have c1:decide (((l.length:Nat):Int)>0)=false:=akY (by omega);have:=fin 0 (Int.le_refl _) (by omega) (fun b hb=>by have:=List.length_pos_of_mem hb;omega);simp only[akW ht,roll,e1,e2,hq,akZ,he,c1,alI,List.length_nil,alQ,k1,au,sS];rw[hcond]
   ·exact this
   ·exact⟨by omega,by omega⟩
  ·have c1:decide (((l.length:Nat):Int)>0)=true:=akW (by omega);obtain⟨k,hk⟩:∃k,l.length=k+1:=⟨l.length-1,by omega⟩
   have w:aS (((l.length:Nat):Int)-1)=(k:Int):=by rw[bK (by omega) (by omega)];omega
   obtain⟨a,hla⟩:=getD_some (l:=l) (i:=k) (by omega);have c2:decide ((0:Int)≤(k:Int)∧(k:Int)<(l.length:Nat))=true:=akW ⟨by omega,by omega⟩;have ha:=ga.at_ a (alb hla)
   have:=fin a.1 ha.1 (by omega) (fun b hb=>by
    obtain⟨j,hj⟩:=List.mem_iff_getElem?.1 hb;obtain⟨h1,h2⟩:=akX.1 hj;obtain⟨h3,h4⟩:=akX.1 hla;by_cases hjk:j=k
    ·subst hjk;rw[←h2,←h4];exact Int.le_refl _
    ·have:=(List.pairwise_iff_getElem.1 ga.up) j k h1 h3 (by omega);rw[h2,h4]at this;exact this)
   simp only[akW ht,roll,e1,e2,hq,akZ,he,c1,w,c2,hla,alI,List.length_nil,alQ,k1,au,sS];rw[hcond]
   ·exact this
   ·exact⟨by omega,by omega⟩
 ·simp only[akY ht,P6,au,sS]
theorem ako:∀x,Abs.Uc [.row (.int .i64),.int .u8] x→m4 (x,())=some ((true,()),()):=by
 intro x h;obtain⟨_,h1,_⟩:=h;exact ahN x.1 x.2.1 ⟨h1.1,h1.2⟩
end Go.Proofs.YtchnmpafhfjimaaGreatDoor
