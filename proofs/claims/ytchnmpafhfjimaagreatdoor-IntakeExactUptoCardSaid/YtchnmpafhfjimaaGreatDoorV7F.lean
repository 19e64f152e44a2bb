/- Lemmas for the statement of the last text of this claim. -/
import Derived.Test.YtchnmpafhfjimaaGreatDoorV7E
set_option linter.unusedSimpArgs false
set_option linter.unusedVariables false
namespace Go.Proofs.YtchnmpafhfjimaaGreatDoor
open Go Go.Abs Go.Lab
abbrev dG:Type:=Int×List MT×Int×List ByteArray×Int×Int×Int×Bool×Unit
def Km(r:dG):Prop:=(r.2.1.length≤big∧∀m∈r.2.1,UU m)∧r.2.2.2.1.length≤big∧∀k∈r.2.2.2.1,k.size≤big
def oF(r:dG):Bool:=decide (r.2.2.1<0)||(decide (r.2.2.2.2.1<0)||(decide (r.2.2.2.2.1>r.2.2.2.2.2.1)||(decide (r.2.2.2.2.2.1>r.2.2.2.2.2.2.1)||(decide (r.2.2.2.2.2.2.1>604800)||(r.2.2.2.2.2.2.1==0)))))
def gU(r:dG):Int:=
 bif decide ((r.2.1.length:Int)>8)||decide ((r.2.2.2.1.length:Int)>12)then 5
 else bif !r.2.1.all bD|| !jK r.2.2.2.1 then 8 else bif oF r then 1 else 0
def mU(i:Nat)(r:dG):Bool:=if i=0 then r.1 != -1 else decide (r.1<0)||decide (r.1≥(i:Int))
def um(i:Nat)(r:dG):Int:=bif mU i r then 3 else gU r
def CZ{E:Type}(iQ:Nat→E→Int):Nat→List E→Int
 |_,[]=>0
 |i,e::r=>bif iQ i e !=0 then iQ i e else CZ iQ (i+1) r
theorem wW{A B E:Type}{f:A→Option (A⊕B)}(l:List E)(st:Nat→A)(iQ:Nat→E→Int)(no:Int→B)(yes:B)
  (h1:∀i e,l[i]?=some e→i<l.length→f (st i)=some (bif iQ i e !=0 then .inr (no (iQ i e))else .inl (st (i+1)))) (h2:f (st l.length)=some (.inr yes)):
  aC f (st 0)=some (bif CZ iQ 0 l !=0 then no (CZ iQ 0 l)else yes):=by
 have key:∀(k i:Nat),i+k=l.length→aC f (st i)=some (bif CZ iQ i (l.drop i) !=0 then no (CZ iQ i (l.drop i))else yes):=by
  intro k
  induction k with
  |zero=>
   intro i h;obtain rfl:i=l.length:=by omega
   rw[asj];exact aF h2
  |succ k ih=>
   intro i h;obtain⟨e,he,hd⟩:=drop_at (l:=l) (i:=i) (by omega);have q:=h1 i e he (by omega);rw[hd];unfold CZ;cases hb:(iQ i e !=0)
   ·rw[hb]at q;rw[asw,←ih (i+1) (by omega)];exact aH q
   ·rw[hb]at q;rw[cond_true,hb];exact aF q
 have:=key l.length 0 (by omega);rw[arL]at this;exact this
theorem wU{E:Type}{iQ:Nat→E→Int}:∀{l:List E} {i:Nat},CZ iQ i l=0→∀(k:Nat) (e:E),l[k]?=some e→iQ (i+k) e=0
 | [],_,_,k,e,h=>by simp at h
 |x::r,i,h,k,e,he=>by
  unfold CZ at h;cases hc:(iQ i x !=0)
  ·rw[hc]at h
   cases k with
   |zero=>simp at he;subst he;simpa using hc
   |succ k=>
    have:=wU (i:=i+1) h k e (by simpa using he)
    rwa [show i+1+k=i+(k+1) by omega]at this
  ·rw[hc]at h;simp only[cond_true]at h;rw[h]at hc;cases hc
def kC(l:List dG):Int:=
 bif (l.length:Int)==0 then 7 else bif decide ((l.length:Int)>24)then 5 else bif CZ um 0 l !=0 then CZ um 0 l
 else match l[0]? with|some e=>bif decide ((e.2.1.length:Int)>0)then 8 else 0|none=>0
theorem abT(m:MT)(hm:UU m):abA ((m,()),())=some ((!bD m,()),()):=by
 unfold abA;exact aN _ (Ub m hm) rfl
theorem ZO(ms:List MT)(hs:ms.length≤big)(hm:∀m∈ms,UU m):∃j:Nat,aC xk ((0,ms,(ms.length:Int),()),())=some (bif ms.all bD then .inr ((),())else .inl (((j:Int),()),())):=by
 have h:=bV (f:=xk) ms (fun i (_:Unit)=>(((i:Int),ms,(ms.length:Int),()),())) (fun i _ e=>bif !bD e then .inr (.inl (((i:Int),()),()))else .inl ()) (fun _=>.inr ((),())) ?_ ?_ ()
 ·obtain⟨j,_,hj⟩:=jQ (fun e=> !bD e) (fun i:Nat=>(Sum.inl (((i:Int),()),()):((Int×Unit)×Unit)⊕(Unit×Unit))) (.inr ((),())) ms 0;refine⟨j,h.trans (congrArg some (hj.trans ?_))⟩;rw[xH];cases ms.all bD<;>rfl
 ·intro i e _ he hi;unfold big at hs;have hw:aO ((i:Int)+1)=((i+1:Nat):Int):=aI (by omega);simp only[xk,aJ,aD he,bO hi,abT e (hm e (arp he)),aA,sS];cases bD e<;>simp only[aA,sS,hw,arE,arB]
 ·intro _;simp only[xk,bX,aA,sS]
theorem Qb(i:Nat)(r:dG):(i=0∧mU i r=(r.1 != -1))∨(0<i∧mU i r=(decide (r.1<0)||decide (r.1≥(i:Int)))):=by
 unfold mU;by_cases h:i=0
 ·exact .inl ⟨h,by rw[if_pos h]⟩
 ·exact .inr ⟨by omega,by rw[if_neg h]⟩
theorem abZ(r:dG)(hr:Km r)(i:Nat):ab3 ((r,(i:Int),()),())=some ((um i r,()),()):=by
 obtain⟨⟨a1,a2⟩,c1,c2⟩:=hr;obtain⟨j,hj⟩:=ZO r.2.1 a1 a2;have q:=TW r.2.2.2.1 c1 c2;have hj0:decide ((j:Int)≥0)=true:=arj (by omega)
 have key:((bif ((i:Int)==0)then(bif ((r.1:Int) !=(-1))then(some ((true,()),((r,()),())))else(bif (decide ((i:Int)>0))then(bif (decide ((r.1:Int)<0))then(some ((true,()),((r,()),())))else(some (((decide ((r.1:Int)≥(i:Int))),()),((r,()),()))))else(some ((false,()),((r,()),())))))
   else(bif (decide ((i:Int)>0))then(bif (decide ((r.1:Int)<0))then(some ((true,()),((r,()),())))else(some (((decide ((r.1:Int)≥(i:Int))),()),((r,()),()))))else(some ((false,()),((r,()),()))))):Option ((Bool×Unit)×((dG×Unit)×Unit)))=some ((mU i r,()),((r,()),())):=by
  rcases Qb i r with⟨rfl,hb⟩|⟨h0,hb⟩
  ·rw[hb,show(((0:Nat):Int)==0)=true from rfl,show decide (((0:Nat):Int)>0)=false from rfl];cases (r.1 != -1)<;>rfl
  ·rw[hb,ar7.2 (show(i:Int)≠0 by omega),arj (show(i:Int)>0 by omega)];cases decide (r.1<0)<;>cases decide (r.1≥(i:Int))<;>rfl
 unfold ab3;refine aN _ key ?_;unfold um;cases mU i r<;>simp only[aA,sS];unfold gU;cases decide ((r.2.1.length:Int)>8)<;>simp only[aA,sS,arH,ar6,ar2,ar0];cases decide ((r.2.2.2.1.length:Int)>12)<;>simp only[aA,sS,arH,ar6,ar2,ar0];rw[hj];cases r.2.1.all bD<;>simp only[aA,sS,hj0,q,arE,arB,arH,ar6,ar2,ar0];cases jK r.2.2.2.1<;>simp only[aA,sS,arE,arB];unfold oF;cases decide (r.2.2.1<0)<;>simp only[aA,sS,arH,ar6,ar2,ar0];cases decide (r.2.2.2.2.1<0)<;>simp only[aA,sS,arH,ar6,ar2,ar0];cases decide (r.2.2.2.2.1>r.2.2.2.2.2.1)<;>simp only[aA,sS,arH,ar6,ar2,ar0];cases decide (r.2.2.2.2.2.1>r.2.2.2.2.2.2.1)<;>simp only[aA,sS,arH,ar6,ar2,ar0];cases decide (r.2.2.2.2.2.2.1>604800)<;>simp only[aA,sS,arH,ar6,ar2,ar0];cases (r.2.2.2.2.2.2.1==0)<;>simp only[aA,sS]
theorem ado(r:dG)(hr:Km r):adW ((r,()),())=some ((gU r,()),()):=by
 obtain⟨⟨a1,a2⟩,c1,c2⟩:=hr;have q:=Uu r.2.2.2.1 c1 c2
 have hj:aC vT ((0,()),((r,()),()))=some (bif r.2.1.all bD then .inr ((),((r,()),()))else .inl ((8,()),())):=by
  have h:=bV (f:=vT) r.2.1 (fun i (_:Unit)=>(((i:Int),()),((r,()),()))) (fun i _ e=>bif !bD e then .inr (.inl ((8,()),()))else .inl ()) (fun _=>.inr ((),((r,()),()))) ?_ ?_ ()
  ·obtain⟨j,_,hj⟩:=jQ (fun e=> !bD e) (fun _:Nat=>(Sum.inl ((8,()),()):((Int×Unit)×Unit)⊕(Unit×(dG×Unit)×Unit))) (.inr ((),((r,()),()))) r.2.1 0;refine h.trans (congrArg some (hj.trans ?_));rw[xH];cases r.2.1.all bD<;>rfl
  ·intro i e _ he hi;unfold big at a1;have hw:aO ((i:Int)+1)=((i+1:Nat):Int):=aI (by omega);simp only[vT,aJ,aD he,bO hi,UK e (a2 e (arp he)),aA,sS];cases bD e<;>simp only[aA,sS,hw,arE,arB]
  ·intro _;simp only[vT,bX,aA,sS]
 unfold adW gU;cases decide ((r.2.1.length:Int)>8)<;>simp only[aA,sS,arH,ar6,ar2,ar0];cases decide ((r.2.2.2.1.length:Int)>12)<;>simp only[aA,sS,arH,ar6,ar2,ar0];rw[hj];cases r.2.1.all bD<;>simp only[aA,sS,q,arE,arB,arH,ar6,ar2,ar0];cases jK r.2.2.2.1<;>simp only[aA,sS,arE,arB];unfold oF;cases decide (r.2.2.1<0)<;>simp only[aA,sS,arH,ar6,ar2,ar0];cases decide (r.2.2.2.2.1<0)<;>simp only[aA,sS,arH,ar6,ar2,ar0];cases decide (r.2.2.2.2.1>r.2.2.2.2.2.1)<;>simp only[aA,sS,arH,ar6,ar2,ar0];cases decide (r.2.2.2.2.2.1>r.2.2.2.2.2.2.1)<;>simp only[aA,sS,arH,ar6,ar2,ar0];cases decide (r.2.2.2.2.2.2.1>604800)<;>simp only[aA,sS,arH,ar6,ar2,ar0];cases (r.2.2.2.2.2.2.1==0)<;>simp only[aA,sS]
def R6(l:List dG):Prop:=l.length≤1048576∧∀r∈l,Km r
theorem MC(l:List dG)(hl:R6 l):m78 ((l,()),())=some ((kC l,()),()):=by
 unfold m78 kC;cases hz:((l.length:Int)==0)
 ·simp only[aA,sS];cases decide ((l.length:Int)>24)
  ·simp only[aA,sS];have h:=wW (f:=Gq) l (fun i=>(((i:Int),l,l,(l.length:Int),()),())) um (fun c=>.inl ((c,()),())) (.inr ((l,()),())) ?_ ?_
   ·refine aN _ h ?_;cases hc:(CZ um 0 l !=0)
    ·obtain⟨e,he⟩:=getD_some (l:=l) (i:=0) (by have:=(ar7.1 hz);omega);rw[he];simp only[asw,aA,aJ];rw[show q8 l 0 _=q8 l ((0:Nat):Int) _ from rfl,aD he];cases decide ((e.2.1.length:Int)>0)<;>rfl
    ·rfl
   ·intro i e he hi;have hl1:=hl.1;have hw:aO ((i:Int)+1)=((i+1:Nat):Int):=aI (by omega);simp only[Gq,aJ,aD he,bO hi,abZ e (hl.2 e (arp he)) i,aA,sS];cases um i e !=0<;>simp only[aA,sS,hw]
   ·simp only[Gq,bX,aA,sS]
  ·simp only[aA,sS]
 ·simp only[aA,sS]
theorem Mc(l:List dG)(hl:R6 l):m56 ((l,()),())=some ((kC l,()),()):=by
 unfold m56 kC;cases hz:((l.length:Int)==0)
 ·simp only[aA,sS];cases decide ((l.length:Int)>24)
  ·simp only[aA,sS];have h:=wW (f:=Bn) l (fun i=>(((i:Int),l,()),())) um (fun c=>.inl ((c,()),())) (.inr ((l,()),())) ?_ ?_
   ·refine aN _ h ?_;cases hc:(CZ um 0 l !=0)
    ·obtain⟨e,he⟩:=getD_some (l:=l) (i:=0) (by have:=(ar7.1 hz);omega);rw[he];simp only[asw,aA,aJ];rw[show q8 l 0 _=q8 l ((0:Nat):Int) _ from rfl,aD he];cases decide ((e.2.1.length:Int)>0)<;>rfl
    ·rfl
   ·intro i e he hi;have hl1:=hl.1;have hw:aO ((i:Int)+1)=((i+1:Nat):Int):=aI (by omega);have q:=ado e (hl.2 e (arp he));unfold um;rcases Qb i e with⟨rfl,hb⟩|⟨h0,hb⟩
    ·rw[hb];simp only[Bn,aJ,aD he,bO hi,show(((0:Nat):Int)==0)=true from rfl,show decide (((0:Nat):Int)>0)=false from rfl,aA,sS];cases (e.1 != -1)
     ·simp only[aA,sS,aJ,aD he,q];cases gU e !=0<;>simp only[aA,sS,hw]
     ·simp only[aA,sS];rfl
    ·rw[hb];simp only[Bn,aJ,aD he,bO hi,ar7.2 (show(i:Int)≠0 by omega),arj (show(i:Int)>0 by omega),aA,sS];cases decide (e.1<0)<;>simp only[aA,sS,ar0,ar6]
     ·cases decide (e.1≥(i:Int))<;>simp only[aA,sS,aJ,aD he,q]
      ·cases gU e !=0<;>simp only[aA,sS,hw]
      ·rfl
     ·rfl
   ·simp only[Bn,bX,aA,sS]
  ·simp only[aA,sS]
 ·simp only[aA,sS]
structure Kz(l:List dG):Prop where
 pos:0<l.length
 len:l.length≤24
 root:∀r,l[0]?=some r→r.1= -1∧r.2.1=[]
 par:∀(k:Nat) (r:dG),l[k]?=some r→0<k→0≤r.1∧r.1<(k:Int)
 one:∀r∈l,r.2.1.length≤8∧(∀m∈r.2.1,bD m=true)∧jK r.2.2.2.1=true∧r.2.2.2.1.length≤12
theorem aij{r:dG}(h:gU r=0):r.2.1.length≤8∧(∀m∈r.2.1,bD m=true)∧jK r.2.2.2.1=true∧r.2.2.2.1.length≤12:=by
 unfold gU at h;cases h1:(decide ((r.2.1.length:Int)>8)||decide ((r.2.2.2.1.length:Int)>12))
 ·rw[h1]at h;simp only[asg]at h1;have a:=asF h1.1;have b:=asF h1.2;cases h2:(!r.2.1.all bD|| !jK r.2.2.2.1)
  ·simp only[asg,Bool.not_eq_false']at h2;exact⟨by omega,arQ.1 h2.1,h2.2,by omega⟩
  ·rw[h2]at h;cases h
 ·rw[h1]at h;cases h
theorem Tt{l:List dG}(h:kC l=0):Kz l:=by
 unfold kC at h;cases h1:((l.length:Int)==0)
 ·rw[h1]at h;cases h2:decide ((l.length:Int)>24)
  ·rw[h2]at h;simp only[asw]at h;cases h3:(CZ um 0 l !=0)
   ·rw[h3]at h;simp only[asw]at h;have hz:CZ um 0 l=0:=by simpa using h3
    have all:=wU hz;simp only[arZ]at all;have hpos:0<l.length:=by have:=ar7.1 h1;omega
    have hone:∀(k:Nat) (e:dG),l[k]?=some e→mU k e=false∧gU e=0:=by
     intro k e he;have:=all k e he;unfold um at this;cases hb:mU k e
     ·rw[hb]at this;exact⟨rfl,this⟩
     ·rw[hb]at this;cases this
    refine⟨hpos,by have:=asF h2;omega,fun r hr=> ?_,fun k r hr h0=> ?_,fun r hr=> ?_⟩
    ·have hb:=(hone 0 r hr).1;unfold mU at hb;rw[if_pos rfl]at hb;rw[hr]at h;simp only at h;refine⟨by simpa using hb,?_⟩;cases hl:decide ((r.2.1.length:Int)>0)
     ·have:=asF hl;exact asK.1 (by omega)
     ·rw[hl]at h;cases h
    ·have hb:=(hone k r hr).1;unfold mU at hb;rw[if_neg (by omega)]at hb;simp only[asg]at hb;have a:=asF hb.1;have b:=asF hb.2;omega
    ·obtain⟨k,hk,rfl⟩:=List.mem_iff_getElem.1 hr;exact aij (hone k _ (arw hk)).2
   ·rw[h3]at h;simp only[cond_true]at h;rw[h]at h3;cases h3
  ·rw[h2]at h;cases h
 ·rw[h1]at h;cases h
theorem Kz.psz{l:List dG}(h:Kz l){r:dG}(hr:r∈l):PSs r.2.1:=by
 obtain⟨h1,h2,_⟩:=h.one r hr;refine⟨by omega,fun m hm=> ?_⟩;have:=h2 m hm;unfold bD at this;simp only[ar8]at this;have:=yj this.2.2.2;unfold PSz;omega
def zA(l:List dG)(i:Int)(k:Nat):Bool:=match l[k]? with|some r=>r.1==i|none=>false
def zC(l:List dG)(i:Int):List Nat:=(List.range l.length).filter (zA l i)
abbrev ints(l:List Nat):List Int:=l.map fun k:Nat=>(k:Int)
theorem Vg{l:List dG}{i:Int}{k:Nat}:k∈zC l i↔∃r,l[k]?=some r∧r.1=i:=by
 unfold zC zA;rw[asG,asW];constructor
 ·rintro⟨h1,h2⟩;obtain⟨r,hr⟩:=getD_some h1;rw[hr]at h2;exact⟨r,hr,by simpa using h2⟩
 ·rintro⟨r,hr,rfl⟩;refine⟨(ark.1 hr).1,?_⟩;rw[hr];simp
theorem sP(l:List dG)(i:Int):(zC l i).Pairwise (· < ·):=List.Pairwise.filter _ (List.pairwise_lt_range)
theorem KR(p:Nat→Bool)(i:Nat):(List.range (i+1)).filter p=(List.range i).filter p++(if p i then [i]else []):=by
 rw[List.range_succ,as2];cases h:p i<;>simp[List.filter_cons,h]
theorem abY(l:List dG)(hl:l.length≤1048576)(i:Int):abw ((l,i,()),())=some ((),(ints (zC l i),())):=by
 have h:=lZ (f:=vU) (Q:=fun b=>b=((),(ints (zC l i),()))) (fun k st=>st=(((k:Int),i,l,(l.length:Int),()),(ints ((List.range k).filter (zA l i)),()))) l.length ?_ ?_ _ rfl
 ·obtain⟨b,h3,rfl⟩:=h;unfold abw;exact aN _ (show aC vU ((0,i,l,(l.length:Int),()),([],()))=_ from h3) rfl
 ·rintro k _ hk rfl;obtain⟨e,he⟩:=getD_some (l:=l) (i:=k) hk;have hw:aO ((k:Int)+1)=((k+1:Nat):Int):=aI (by omega)
  have hlen:(ints ((List.range k).filter (zA l i))).length≤k:=by
   have:=asC (zA l i) (List.range k);rw[List.length_range]at this;rw[arq];exact this
  have b1:decide ((ints ((List.range k).filter (zA l i))).length+ [(k:Int)].length≤4294967296)=true:=arj (by simp only[arS,List.length_nil];omega);have hc:zA l i k=(e.1==i):=by unfold zA;rw[he]
  refine⟨_,?_,rfl⟩;rw[KR,hc];simp only[vU,aJ,aD he,bO hk,aA,sS];cases (e.1==i)
  ·simp only[aA,sS,hw,ar3,if_false,arP]
  ·simp only[aA,sS,b1,hw,if_true,arM,arF,arT]
 ·rintro _ rfl;refine⟨_,?_,rfl⟩;simp only[vU,bX,aA,sS];rfl
theorem acB(l:List dG)(hl:l.length≤1048576)(i:Int):abC ((l,i,()),())=some ((),(ints (zC l i),())):=by
 have h:=lZ (f:=ve) (Q:=fun b=>b=((),(ints (zC l i),()))) (fun k st=>st=(((k:Int),i,l,()),(ints ((List.range k).filter (zA l i)),()))) l.length ?_ ?_ _ rfl
 ·obtain⟨b,h3,rfl⟩:=h;unfold abC;exact aN _ (show aC ve ((0,i,l,()),([],()))=_ from h3) rfl
 ·rintro k _ hk rfl;obtain⟨e,he⟩:=getD_some (l:=l) (i:=k) hk;have hw:aO ((k:Int)+1)=((k+1:Nat):Int):=aI (by omega)
  have hlen:(ints ((List.range k).filter (zA l i))).length≤k:=by
   have:=asC (zA l i) (List.range k);rw[List.length_range]at this;rw[arq];exact this
  have b1:decide ((ints ((List.range k).filter (zA l i))).length+ [(k:Int)].length≤4294967296)=true:=arj (by simp only[arS,List.length_nil];omega);have hc:zA l i k=(e.1==i):=by unfold zA;rw[he]
  refine⟨_,?_,rfl⟩;rw[KR,hc];simp only[ve,aJ,aD he,bO hk,aA,sS];cases (e.1==i)
  ·simp only[aA,sS,hw,ar3,if_false,arP]
  ·simp only[aA,sS,b1,hw,if_true,arM,arF,arT]
 ·rintro _ rfl;refine⟨_,?_,rfl⟩;simp only[ve,bX,aA,sS];rfl
def goC(rec:Nat→List Nat)(l:List dG)(x:List LT):List Nat→List Nat
 | []=> []
 |k::ks=>match l[k]? with
  |none=> []
  |some r=>bif allM r.2.1 x then rec k++(bif r.2.2.2.2.2.2.2.1 then goC rec l x ks else [])else goC rec l x ks
def dK(l:List dG)(x:List LT):Nat→Nat→List Nat
 |0,_=> []
 |n+1,i=>if goC (dK l x n) l x (zC l (i:Int))=[]then [i]else goC (dK l x n) l x (zC l (i:Int))
theorem XP{a:Nat}(h:0<a):2 ^(a-1)+2 ^(a-1)=2 ^ a:=by
 obtain⟨b,rfl⟩:∃b,a=b+1:=⟨a-1,by omega⟩
 rw[Nat.add_sub_cancel,Nat.pow_succ];omega
theorem Vl{rec:Nat→List Nat}{l:List dG}{x:List LT}:∀{ks:List Nat} {j:Nat},ks.Pairwise (· < ·)→(∀k∈ks,j≤k∧k<l.length∧(rec k).length≤2 ^(l.length-k-1))→(goC rec l x ks).length+1≤2 ^(l.length-j)
 | [],j,_,_=>Nat.one_le_two_pow
 |k::ks,j,hp,h=>by
  obtain⟨h1,h2,h3⟩:=h k (as3 ..)
  have ih:=Vl (x:=x) (ks:=ks) (j:=k+1) (asA.1 hp).2 (fun y hy=>by
   obtain⟨_,a,b⟩:=h y (as0 _ hy);exact⟨(asA.1 hp).1 y hy,a,b⟩)
  have e1:l.length-(k+1)=l.length-k-1:=by omega
  rw[e1]at ih;have e2:=XP (a:=l.length-k) (by omega);have e3:2 ^(l.length-k)≤2 ^(l.length-j):=Nat.pow_le_pow_right (by omega) (by omega);unfold goC;obtain⟨r,hr⟩:=getD_some h2;rw[hr];simp only;cases allM r.2.1 x
  ·simp only[asw];omega
  ·simp only[cond_true,arC];cases r.2.2.2.2.2.2.2.1
   ·simp only[asw,List.length_nil];have:1≤2 ^(l.length-k-1):=Nat.one_le_two_pow;omega
   ·simp only[cond_true];omega
theorem yX{l:List dG}(h:Kz l){i k:Nat}(hk:k∈zC l (i:Int)):i<k∧k<l.length:=by
 obtain⟨r,hr,hi⟩:=Vg.1 hk;have hlt:=(ark.1 hr).1;refine⟨?_,hlt⟩;by_cases h0:k=0
 ·subst h0;have:=(h.root r hr).1;omega
 ·have:=(h.par k r hr (by omega)).2;omega
theorem Dr{l:List dG}(h:Kz l)(x:List LT):∀(n i:Nat),i<l.length→(dK l x n i).length≤2 ^(l.length-i-1)
 |0,_,_=>arO _
 |n+1,i,hi=>by
  unfold dK
  have:=Vl (rec:=dK l x n) (x:=x) (j:=i+1) (sP l (i:Int)) (fun k hk=>by
   obtain⟨a,b⟩:=yX h hk;exact⟨a,b,Dr h x n k b⟩)
  rw[show l.length-(i+1)=l.length-i-1 by omega]at this;split
  ·exact Nat.one_le_two_pow
  ·omega
theorem small{l:List dG}(h:Kz l){a:List Nat}(k:Nat)(ha:a.length≤2 ^(l.length-k)):a.length≤16777216:=by
 have:=h.len;have e:2 ^(l.length-k)≤2 ^ 24:=Nat.pow_le_pow_right (by omega) (by omega);have:(2:Nat)^ 24=16777216:=rfl;omega
theorem Nw(l:List dG)(hl:Kz l)(x:List LT)(hx:FT x)(n:Nat)(rc:(((List dG)×Int×List LT×Unit)×Unit)→Option (Unit×(List Int×Unit)))
  (hrc:∀k:Nat,k<l.length→l.length-k≤n→rc ((l,(k:Int),x,()),())=some ((),(ints (dK l x n k),()))) (o:Int) (ch:List Nat) (hs:ch.Pairwise (· < ·)) (hc:∀k∈ch,k<l.length∧l.length-k≤n):
  ∀(k i:Nat) (out:List Int),i+k=ch.length→out.length≤16777216*i→aC (pu rc) (((i:Int),o,l,x,((ch.length:Nat):Int),()),(out,(ints ch,())))=some ((o,()),(out++ints (goC (dK l x n) l x (ch.drop i)),())):=by
 have hcl:ch.length≤24:=by
  have:=hl.len
  have:ch.length≤l.length:=by
   have hsub:ch.Sublist (List.range l.length):=by
    have h1:ch=(List.range l.length).filter (fun k=>decide (k∈ch)):=by
     apply List.Perm.eq_of_pairwise (le:=(· < ·)) (fun a b _ _ h1 h2=>absurd h1 (by omega)) hs (List.Pairwise.filter _ List.pairwise_lt_range);refine(List.perm_ext_iff_of_nodup (hs.imp (fun h=>by omega)) ((List.nodup_range).filter _)).2 fun a=> ?_
     rw[asG,asW,arV];exact⟨fun h=>⟨(hc a h).1,h⟩,fun h=>h.2⟩
    rw[h1];exact List.filter_sublist
   have:=hsub.length_le
   rwa [List.length_range]at this
  omega
 intro k
 induction k with
 |zero=>
  intro i out h ho;obtain rfl:i=ch.length:=by omega
  rw[asj];refine aF ?_;simp only[pu,bX,aA,sS];simp[goC]
 |succ k ih=>
  intro i out h ho;obtain⟨e,he,hd⟩:=drop_at (l:=ch) (i:=i) (by omega);obtain⟨he1,he2⟩:=hc e (arp he);obtain⟨r,hr⟩:=getD_some he1;have hp:=hl.psz (arp hr);have hei:(ints ch)[i]?=some (e:Int):=by rw[ars,he];rfl
  have hb:decide ((0:Int)≤(i:Int)∧(i:Int)<(((ints ch).length:Nat):Int))=true:=arj (by rw[arq];omega);have hlt:decide ((i:Int)<((ch.length:Nat):Int))=true:=arj (by omega);have hw:aO ((i:Int)+1)=((i+1:Nat):Int):=aI (by omega);have hfl:(dK l x n e).length≤16777216:=small hl (e+1) (by have:=Dr hl x n e he1;rwa [show l.length-(e+1)=l.length-e-1 by omega]);have hmul:16777216*i≤16777216*24:=Nat.mul_le_mul_left _ (by omega);have hb2:decide (out.length+(ints (dK l x n e)).length≤4294967296)=true:=arj (by rw[arq];omega);rw[hd];unfold goC;rw[hr];simp only;cases hq:allM r.2.1 x
  ·simp only[asw];rw[←ih (i+1) out (by omega) (by omega)];refine aH ?_;simp only[pu,hlt,hb,arn,hei,aJ,aD hr,sI r.2.1 x hp hx,hq,hw,aA,aA,sS]
  ·simp only[cond_true];cases hcont:r.2.2.2.2.2.2.2.1
   ·simp only[asw,arP];refine aF ?_;simp only[pu,hlt,hb,arn,hei,aJ,aD hr,sI r.2.1 x hp hx,hq,hrc e he1 he2,hb2,hcont,aA,aA,sS]
   ·simp only[cond_true]
    rw[show ints (dK l x n e++goC (dK l x n) l x (ch.drop (i+1)))=ints (dK l x n e)++ints (goC (dK l x n) l x (ch.drop (i+1)))from arM,←arJ,
     ←ih (i+1) (out++ints (dK l x n e)) (by omega) (by rw[arC,arq];omega)]
    refine aH ?_;simp only[pu,hlt,hb,arn,hei,aJ,aD hr,sI r.2.1 x hp hx,hq,hrc e he1 he2,hb2,hcont,hw,aA,aA,sS]
theorem abo(l:List dG)(hl:Kz l)(x:List LT)(hx:FT x):∀(n i:Nat),i<l.length→l.length-i≤n→Lb n ((l,(i:Int),x,()),())=some ((),(ints (dK l x n i),())):=by
 intro n
 induction n with
 |zero=>intro i h1 h2;omega
 |succ n ih=>
  intro i hi hn;have hlen:=hl.len;have q:=abY l (by omega) (i:Int)
  have q2:=Nw l hl x hx n (Lb n) (fun k h1 h2=>ih k h1 h2) (i:Int) (zC l (i:Int)) (sP l _) (fun k hk=>by
   obtain⟨a,b⟩:=yX hl hk;exact⟨b,by omega⟩) (zC l (i:Int)).length 0 [] (by omega) (by simp)
  rw[arL,asR]at q2
  show XC (Lb n) ((l,(i:Int),x,()),())=_
  unfold XC;simp only[q,aA,sS];rw[arq];refine aN _ (show aC (pu (Lb n)) ((0,(i:Int),l,x,(((zC l (i:Int)).length:Nat):Int),()),([],(ints (zC l (i:Int)),())))=_ from q2) ?_;unfold dK;by_cases h:goC (dK l x n) l x (zC l (i:Int))=[]
  ·rw[if_pos h,h];rfl
  ·rw[if_neg h]
   have:(((ints (goC (dK l x n) l x (zC l (i:Int)))).length:Int)==0)=false:=ar7.2 (by
    rw[arq];intro e;exact h (asK.1 (by omega)))
   simp only[this,aA,sS]
theorem ahv{l:List dG}(hl:Kz l)(i:Int):(zC l i).length≤24:=by
 have:=asC (zA l i) (List.range l.length);rw[List.length_range]at this;have:=hl.len;unfold zC;omega
theorem Od(l:List dG)(hl:Kz l)(x:List LT)(hx:FT x)(n:Nat)(rc:(((List dG)×Int×List LT×Unit)×Unit)→Option (Unit×(List Int×Unit)))
  (hrc:∀k:Nat,k<l.length→l.length-k≤n→rc ((l,(k:Int),x,()),())=some ((),(ints (dK l x n k),()))) (o:Int) (ch:List Nat) (hcl:ch.length≤24) (hc:∀k∈ch,k<l.length∧l.length-k≤n):
  ∀(k i:Nat) (out:List Int),i+k=ch.length→out.length≤16777216*i→aC (tK rc) (((i:Int),o,l,x,()),(ints ch,(out,())))=some ((o,()),(out++ints (goC (dK l x n) l x (ch.drop i)),())):=by
 intro k
 induction k with
 |zero=>
  intro i out h ho;obtain rfl:i=ch.length:=by omega
  rw[asj];refine aF ?_;have:decide ((ch.length:Int)<(((ints ch).length:Nat):Int))=false:=arl (by rw[arq];omega);simp only[tK,this,aA,sS];simp[goC]
 |succ k ih=>
  intro i out h ho;obtain⟨e,he,hd⟩:=drop_at (l:=ch) (i:=i) (by omega);obtain⟨he1,he2⟩:=hc e (arp he);obtain⟨r,hr⟩:=getD_some he1;have hp:=hl.psz (arp hr);have hei:(ints ch)[i]?=some (e:Int):=by rw[ars,he];rfl
  have hb:decide ((0:Int)≤(i:Int)∧(i:Int)<(((ints ch).length:Nat):Int))=true:=arj (by rw[arq];omega);have hlt:decide ((i:Int)<(((ints ch).length:Nat):Int))=true:=arj (by rw[arq];omega);have hw:aO ((i:Int)+1)=((i+1:Nat):Int):=aI (by omega);have hfl:(dK l x n e).length≤16777216:=small hl (e+1) (by have:=Dr hl x n e he1;rwa [show l.length-(e+1)=l.length-e-1 by omega]);have hmul:16777216*i≤16777216*24:=Nat.mul_le_mul_left _ (by omega);have hb2:decide (out.length+(ints (dK l x n e)).length≤4294967296)=true:=arj (by rw[arq];omega);rw[hd];unfold goC;rw[hr];simp only;cases hq:allM r.2.1 x
  ·simp only[asw];rw[←ih (i+1) out (by omega) (by omega)];refine aH ?_;simp only[tK,hlt,hb,arn,hei,aJ,aD hr,sF r.2.1 x hp hx,hq,hw,aA,aA,sS]
  ·simp only[cond_true];cases hcont:r.2.2.2.2.2.2.2.1
   ·simp only[asw,arP];refine aF ?_;simp only[tK,hlt,hb,arn,hei,aJ,aD hr,sF r.2.1 x hp hx,hq,hrc e he1 he2,hb2,hcont,aA,aA,sS]
   ·simp only[cond_true]
    rw[show ints (dK l x n e++goC (dK l x n) l x (ch.drop (i+1)))=ints (dK l x n e)++ints (goC (dK l x n) l x (ch.drop (i+1)))from arM,←arJ,
     ←ih (i+1) (out++ints (dK l x n e)) (by omega) (by rw[arC,arq];omega)]
    refine aH ?_;simp only[tK,hlt,hb,arn,hei,aJ,aD hr,sF r.2.1 x hp hx,hq,hrc e he1 he2,hb2,hcont,hw,aA,aA,sS]
theorem ab5(l:List dG)(hl:Kz l)(x:List LT)(hx:FT x):∀(n i:Nat),i<l.length→l.length-i≤n→VZ n ((l,(i:Int),x,()),())=some ((),(ints (dK l x n i),())):=by
 intro n
 induction n with
 |zero=>intro i h1 h2;omega
 |succ n ih=>
  intro i hi hn;have hlen:=hl.len;have q:=acB l (by omega) (i:Int)
  have q2:=Od l hl x hx n (VZ n) (fun k h1 h2=>ih k h1 h2) (i:Int) (zC l (i:Int)) (ahv hl _) (fun k hk=>by
   obtain⟨a,b⟩:=yX hl hk;exact⟨b,by omega⟩) (zC l (i:Int)).length 0 [] (by omega) (by simp)
  rw[arL,asR]at q2
  show agE (VZ n) ((l,(i:Int),x,()),())=_
  unfold agE;simp only[q,aA,sS];refine aN _ (show aC (tK (VZ n)) ((0,(i:Int),l,x,()),(ints (zC l (i:Int)),([],())))=_ from q2) ?_;unfold dK;by_cases h:goC (dK l x n) l x (zC l (i:Int))=[]
  ·rw[if_pos h,h];rfl
  ·rw[if_neg h]
   have:(((ints (goC (dK l x n) l x (zC l (i:Int)))).length:Int)==0)=false:=ar7.2 (by
    rw[arq];intro e;exact h (asK.1 (by omega)))
   simp only[this,aA,sS]
def kY(l:List dG)(x:List LT):List Nat:=if kC l=0∧cO x=true then dK l x 400 0 else []
theorem Cm{x:List LT}(h:cO x=true):FT x:=by
 obtain⟨h1,h2⟩:=fE h;exact⟨by omega,fun y hy=>by have:=yj (h2 y hy).2.1;omega⟩
theorem ahs(l:List dG)(hl:R6 l)(x:List LT)(hx:Fg x):m68 ((l,x,()),())=some ((),(ints (kY l x),())):=by
 unfold m68 kY;by_cases h:kC l=0
 ·have hb:(kC l !=0)=false:=by rw[h];rfl
  have hk:=Tt h;simp only[MC l hl,Dv x hx,hb,aA,sS];cases hv:cO x
  ·simp only[aA,sS];rw[if_neg (by simp)];rfl
  ·have q:=abo l hk x (Cm hv) 400 0 hk.pos (by have:=hk.len;omega);simp only[aA,sS];rw[if_pos ⟨h,trivial⟩];exact aN _ q rfl
 ·have hb:(kC l !=0)=true:=asi.2 h;simp only[MC l hl,hb,aA,sS];rw[if_neg (fun e=>h e.1)];rfl
theorem aio(l:List dG)(hl:R6 l)(x:List LT)(hx:Fg x):m19 ((l,x,()),())=some ((),(ints (kY l x),())):=by
 unfold m19 kY;by_cases h:kC l=0
 ·have hb:(kC l !=0)=false:=by rw[h];rfl
  have hk:=Tt h;simp only[Mc l hl,Dz x hx,hb,aA,sS];cases hv:cO x
  ·simp only[aA,sS];rw[if_neg (by simp)];rfl
  ·have q:=ab5 l hk x (Cm hv) 400 0 hk.pos (by have:=hk.len;omega);simp only[aA,sS];rw[if_pos ⟨h,trivial⟩];exact aN _ q rfl
 ·have hb:(kC l !=0)=true:=asi.2 h;simp only[Mc l hl,hb,aA,sS];rw[if_neg (fun e=>h e.1)];rfl
def jg(l:List dG):Nat→Nat→List Nat
 |0,_=> []
 |n+1,i=>if i=0 then [0]else match l[i]? with|some r=>jg l n r.1.toNat++ [i]|none=> []
def A7(r:dG)(x:List LT):ByteArray:=if cO x then BQ (iA r.2.2.2.1 x)else ByteArray.empty
theorem Ze{ks:List ByteArray}{x:List LT}(h:Fg x):Fg (iA ks x):=⟨asb (Q0 ks x).length_le h.1,fun y hy=>h.2 y ((Q0 ks x).subset hy)⟩
theorem ZA(r:dG)(x:List LT)(hx:Fg x)(hr:r.2.2.2.1.length≤big):m69 ((r,x,()),())=some ((A7 r x,()),()):=by
 unfold m69 A7;simp only[Dv x hx,aA,sS];cases hv:cO x
 ·rfl
 ·have:=(fE hv).1;simp only[ad8 x r.2.2.2.1 (by omega) hr,LD _ (Ze hx),if_true,aA,sS]
theorem aam(r:dG)(x:List LT)(hx:Fg x)(hr:r.2.2.2.1.length≤big):m20 ((r,x,()),())=some ((A7 r x,()),()):=by
 unfold m20 A7;simp only[Dz x hx,aA,sS];cases hv:cO x
 ·rfl
 ·have:=(fE hv).1;simp only[agW x r.2.2.2.1 (by omega) hr,R4 _ (Ze hx),if_true,aA,sS]
theorem OJ:∀{l:List ByteArray} {p:Option ByteArray},(∀k∈l,mX k=true)→l.Pairwise (fun a b=>leB b a=false)→(∀q,p=some q→∀k∈l,leB k q=false)→tJ Hl p l=true
 | [],_,_,_,_=>rfl
 |k::l,p,h1,h2,h3=>by
  unfold tJ;have h2:=asA.1 h2;rw[OJ (p:=some k) (fun y hy=>h1 y (as0 _ hy)) h2.2 (fun q hq y hy=>by cases hq;exact h2.1 y hy),Bool.and_true];unfold Hl;rw[h1 k (as3 ..)]
  cases p with
  |none=>rfl
  |some q=>simp only;rw[h3 q rfl k (as3 ..)];rfl
theorem VH:iU.Pairwise (fun a b=>leB b a=false):=by decide+kernel
theorem Q5{l:List ByteArray}(h:l.Sublist iU):jK l=true:=OJ (fun k hk=>(Cr k (h.subset hk)).1) (VH.sublist h) (fun q hq=>by cases hq)
theorem YZ{l:List LT}(h:qW iU l):Fg l:=by
 have g:=Xl h;exact⟨by have:=g.1;unfold big;omega,fun x hx=>by have:=g.2 x hx;unfold big;omega⟩
def KC(r:dG):Prop:=(r.2.1.length≤8∧∀m∈r.2.1,ny m)∧r.2.2.2.1.Sublist iU∧oF r=false∧r.2.2.2.2.2.1≤1000∧0≤r.2.2.2.2.2.1∧0≤r.2.2.2.2.2.2.1∧r.2.2.2.2.2.2.1≤10000
theorem KC.z{r:dG}(h:KC r):Km r:=by
 obtain⟨⟨h1,h2⟩,h3,_⟩:=h;have h4:=h3.length_le;rw[show iU.length=4 from rfl]at h4;exact⟨⟨by unfold big;omega,fun m hm=>(h2 m hm).z⟩,by unfold big;omega,fun k hk=>by have:=(Cr k (h3.subset hk)).2;unfold big;omega⟩
theorem KC.one{r:dG}(h:KC r):gU r=0:=by
 obtain⟨⟨h1,h2⟩,h3,h4,_⟩:=h;have h5:=h3.length_le;rw[show iU.length=4 from rfl]at h5;unfold gU;rw[arl (show¬(r.2.1.length:Int)>8 by omega),arl (show¬(r.2.2.2.1.length:Int)>12 by omega),arQ.2 (fun m hm=>(h2 m hm).1),Q5 h3,h4];rfl
theorem Z0{E:Type}{iQ:Nat→E→Int}:∀{l:List E} {i:Nat},(∀(k:Nat) (e:E),l[k]?=some e→iQ (i+k) e=0)→CZ iQ i l=0
 | [],_,_=>rfl
 |x::r,i,h=>by
  unfold CZ;have h0:=h 0 x rfl;rw[asQ]at h0;rw[h0]
  exact Z0 (i:=i+1) fun k e he=>by
   have:=h (k+1) e (by simpa using he)
   rwa [show i+(k+1)=i+1+k by omega]at this
structure w9(l:List dG):Prop where
 pos:0<l.length
 len:l.length≤24
 root:∀r,l[0]?=some r→r.1= -1∧r.2.1=[]
 par:∀(k:Nat) (r:dG),l[k]?=some r→0<k→0≤r.1∧r.1<(k:Int)
 good:∀r∈l,KC r
theorem aim{l:List dG}(pos:0<l.length)(len:l.length≤24)(root:∀r,l[0]?=some r→r.1= -1∧r.2.1=[])(par:∀(k:Nat) (r:dG),l[k]?=some r→0<k→0≤r.1∧r.1<(k:Int))(one:∀r∈l,gU r=0):kC l=0:=by
 unfold kC;rw[ar7.2 (show(l.length:Int)≠0 by omega),arl (show¬(l.length:Int)>24 by omega),Z0 (fun k e he=> ?_)]
 ·obtain⟨r,hr⟩:=getD_some pos;rw[hr];simp only[(root r hr).2];rfl
 ·rw[arZ];unfold um mU
  have:(if k=0 then e.1 != -1 else decide (e.1<0)||decide (e.1≥(k:Int)))=false:=by
   by_cases h0:k=0
   ·subst h0;rw[if_pos rfl,(root e he).1];rfl
   ·rw[if_neg h0];obtain⟨a,b⟩:=par k e he (by omega);rw[arl (by omega),arl (by omega)];rfl
  rw[this];exact one e (arp he)
theorem w9.iQ{l:List dG}(h:w9 l):kC l=0:=aim h.pos h.len h.root h.par (fun r hr=>(h.good r hr).one)
theorem w9.z{l:List dG}(h:w9 l):R6 l:=⟨by have:=h.len;omega,fun r hr=>(h.good r hr).z⟩
theorem mem3{x a b c:Int}(h:x∈ [a,b,c]):x=a∨x=b∨x=c:=by simpa using h
theorem anU{x a b c d:Int}(h:x∈ [a,b,c,d]):x=a∨x=b∨x=c∨x=d:=by simpa using h
theorem Iw(d:gI)(hd:nL d):∃(p w i r:Int) (c:Bool) (by_:List ByteArray) (d':gI),m24 ((),((d,()),()))=some ((),((d',()),(((-1),p,w,i,r,c,()),()),by_,()))∧nL d'∧
  ∀(q:Int) (ms:List MT),(ms.length≤8∧∀m∈ms,ny m)→KC (q,ms,p,by_,w,i,r,c,()):=by
 obtain⟨a1,d1,e1,hd1,b1⟩:=ku [0,30,10,60] d hd (by simp) (by simp);obtain⟨a2,d2,e2,hd2,b2⟩:=ku [20,300,40] d1 hd1 (by simp) (by simp);obtain⟨a3,d3,e3,hd3,b3,_⟩:=dP 3 d2 hd2 (by omega);have b3:=b3 (by omega);obtain⟨ks,d4,e4,hd4,hk⟩:=Jr d3 hd3;obtain⟨a5,d5,e5,hd5,b5⟩:=ku [0,3600,100] d4 hd4 (by simp) (by simp);obtain⟨c,d6,e6,hd6⟩:=Dk 2 d5 hd5 (by omega) (by omega);have b1:=anU b1;have b2:=mem3 b2;have b5:=mem3 b5;have w1:aO (a1+a2)=a1+a2:=bI (by omega) (by omega);have w2:aO (a1+a2+a5)=a1+a2+a5:=bI (by omega) (by omega);refine⟨a3,a1,a1+a2,a1+a2+a5,c,ks,d6,?_,hd6,fun q ms hms=>⟨hms,hk,?_,?_,?_,?_,?_⟩⟩
 ·unfold m24;simp only[e1,e2,e3,e4,e5,e6,w1,w2,aA,sS]
 ·unfold oF;simp only[asg];exact⟨arl (by omega),arl (by omega),arl (by omega),arl (by omega),arl (by omega),ar7.2 (by omega)⟩
 all_goals simp only;omega
theorem Ph:∀(n:Nat) (i:Int) (d:gI) (l:List dG),nL d→i=n→l.length+n≤20→w9 l→
  ∃(l':List dG) (d':gI),aC FU ((i,()),((d,()),(l,())))=some ((),((d',()),(l',())))∧nL d'∧w9 l'∧l'.length=l.length+n:=by
 intro n
 induction n with
 |zero=>
  intro i d l hd hi hl hg;refine⟨l,d,aF ?_,hd,hg,rfl⟩;have:decide (i>0)=false:=arl (by omega);simp only[FU,this,aA,sS]
 |succ n ih=>
  intro i d l hd hi hl hg;have hpos:=hg.pos;obtain⟨p,w,t,r,c,ks,d1,e1,hd1,hr⟩:=Iw d hd;obtain⟨a,d2,e2,hd2,b2,_⟩:=dP ((l.length:Nat):Int) d1 hd1 (by omega);have b2:=b2 (by omega);obtain⟨ms,d3,e3,hd3,hn,hm⟩:=lM 2 d2 hd2 (by omega) (by omega);have hgood:=hr a ms ⟨by omega,hm⟩
  obtain⟨l',d',e4,hd',hl',hlen⟩:=ih (i-1) d3 (l++ [(a,ms,p,ks,w,t,r,c,())]) hd3 (by omega) (by simp;omega) ⟨by simp,by simp;omega,fun y hr=>hg.root y (by rwa [ar4 hpos]at hr),fun k y hr h0=>by
    by_cases hk:k<l.length
    ·rw[ar4 hk]at hr;exact hg.par k y hr h0
    ·have:k<(l++ [(a,ms,p,ks,w,t,r,c,())]).length:=(ark.1 hr).1;simp at this;obtain rfl:k=l.length:=by omega
     rw[ar1 (arz _),Nat.sub_self]at hr;simp at hr;subst hr;exact⟨b2.1,b2.2⟩,fun x hx=>by
    rcases arA.1 hx with h|h
    ·exact hg.good x h
    ·simp only[asf]at h;subst h;exact hgood⟩
  refine⟨l',d',?_,hd',hl',by rw[hlen];simp;omega⟩;rw[←e4];refine aH ?_;have h0:decide (i>0)=true:=arj (by omega);have h1:∀z:dG,decide (l.length+([z]:List dG).length≤4294967296)=true:=fun z=>arj (by simp;omega)
  simp only[FU,h0,e1,e2,e3,h1,aA,sS,bI (x:=i-1) (by omega) (by omega)]
theorem Qg(n:Int)(d:gI)(hd:nL d)(h0:0≤n)(h1:n≤10):∃(l:List dG) (d':gI),m50 ((n,()),((d,()),()))=some ((),((d',()),(l,())))∧nL d'∧w9 l:=by
 obtain⟨p,w,t,r,c,ks,d1,e1,hd1,hr⟩:=Iw d hd;obtain⟨a,d2,e2,hd2,b2,_⟩:=dP (n+1) d1 hd1 (by omega);have b2:=b2 (by omega);have hgood:=hr (-1) [] ⟨by simp,fun m hm=>by cases hm⟩
 obtain⟨l',d',e3,hd',hl',hlen⟩:=Ph a.toNat a d2 [((-1),[],p,ks,w,t,r,c,())] hd2 (by omega) (by simp;omega) ⟨by simp,by simp,fun r hr=>by simp at hr;subst hr;exact⟨rfl,rfl⟩,fun k r hr h0=>by
  have:=(ark.1 hr).1;simp at this;omega,fun x hx=>by simp only[asf]at hx;subst hx;exact hgood⟩
 refine⟨l',d',?_,hd',hl'⟩;unfold m50;simp only[e1,bI (x:=n+1) (by omega) (by omega),e2,e3,aA,sS]
def Oq(l:List dG)(x:List LT)(k:Nat):Bool:=match l[k]? with|some r=>allM r.2.1 x|none=>false
def cnt(l:List dG)(k:Nat):Bool:=match l[k]? with|some r=>r.2.2.2.2.2.2.2.1|none=>false
inductive Down(l:List dG)(x:List LT):Nat→Nat→Prop where
 |here (i:Nat) (h:∀c∈zC l (i:Int),Oq l x c=false):Down l x i i
 |step (i k j:Nat) (hk:k∈zC l (i:Int)) (hm:Oq l x k=true) (hs:∀c∈zC l (i:Int),c<k→Oq l x c=true→cnt l c=true) (h:Down l x k j):Down l x i j
theorem ME{rec:Nat→List Nat}{l:List dG}{x:List LT}:∀{ks:List Nat},ks.Pairwise (· < ·)→(∀k∈ks,k<l.length)→∀j∈goC rec l x ks,∃k∈ks,Oq l x k=true∧j∈rec k∧∀c∈ks,c<k→Oq l x c=true→cnt l c=true
 | [],_,_,j,hj=>by cases hj
 |k::ks,hp,hl,j,hj=>by
  obtain⟨r,hr⟩:=getD_some (hl k (as3 ..));unfold goC at hj;rw[hr]at hj;simp only at hj;have hp:=asA.1 hp;have hm:Oq l x k=allM r.2.1 x:=by unfold Oq;rw[hr]
  have hc:cnt l k=r.2.2.2.2.2.2.2.1:=by unfold cnt;rw[hr]
  have tail:j∈goC rec l x ks→(Oq l x k=true→cnt l k=true)→∃k'∈k::ks,Oq l x k'=true∧j∈rec k'∧∀c∈k::ks,c<k'→Oq l x c=true→cnt l c=true:=fun h hk=>by
   obtain⟨k',h1,h2,h3,h4⟩:=ME hp.2 (fun y hy=>hl y (as0 _ hy)) j h;refine⟨k',as0 _ h1,h2,h3,fun c hcm hlt hmc=> ?_⟩;rcases arW.1 hcm with rfl|hcm
   ·exact hk hmc
   ·exact h4 c hcm hlt hmc
  cases hq:allM r.2.1 x
  ·rw[hq]at hj;exact tail hj (fun h=>by rw[hm,hq]at h;cases h)
  ·rw[hq]at hj;simp only[cond_true]at hj;rcases arA.1 hj with h|h
   ·refine⟨k,as3 ..,by rw[hm,hq],h,fun c hcm hlt=> ?_⟩;rcases arW.1 hcm with rfl|hcm
    ·omega
    ·have:=hp.1 c hcm;omega
   ·cases hco:r.2.2.2.2.2.2.2.1
    ·rw[hco]at h;cases h
    ·rw[hco]at h;exact tail h (fun _=>by rw[hc,hco])
theorem Zl(l:List dG)(x:List LT)(n i:Nat):dK l x (n+1) i≠ []:=by
 unfold dK;split
 ·simp
 ·assumption
theorem Ur{rec:Nat→List Nat}{l:List dG}{x:List LT}:∀{ks:List Nat},(∀k∈ks,k<l.length∧rec k≠ [])→goC rec l x ks=[]→∀c∈ks,Oq l x c=false
 | [],_,_,c,hc=>by cases hc
 |k::ks,hl,h,c,hc=>by
  obtain⟨r,hr⟩:=getD_some (hl k (as3 ..)).1;unfold goC at h;rw[hr]at h;simp only at h;have hm:Oq l x k=allM r.2.1 x:=by unfold Oq;rw[hr]
  cases hq:allM r.2.1 x
  ·rw[hq]at h;rcases arW.1 hc with rfl|hc
   ·rw[hm,hq]
   ·exact Ur (fun y hy=>hl y (as0 _ hy)) h c hc
  ·rw[hq]at h;simp only[cond_true]at h;exact absurd (List.append_eq_nil_iff.1 h).1 (hl k (as3 ..)).2
theorem yA{l:List dG}(hl:Kz l)(x:List LT):∀(n i:Nat),l.length-i≤n→i<l.length→∀j∈dK l x n i,Down l x i j
 |0,i,h,hi,j,hj=>by omega
 |n+1,i,h,hi,j,hj=>by
  have hc:∀k∈zC l (i:Int),k<l.length∧dK l x n k≠ []:=fun k hk=>by
   obtain⟨a,b⟩:=yX hl hk;obtain⟨m,rfl⟩:∃m,n=m+1:=⟨n-1,by omega⟩
   exact⟨b,Zl l x m k⟩
  unfold dK at hj;split at hj
  ·rename_i h0;simp only[asf]at hj;subst hj;exact .here j (Ur hc h0)
  ·obtain⟨k,h1,h2,h3,h4⟩:=ME (sP l _) (fun k hk=>(hc k hk).1) j hj;obtain⟨a,b⟩:=yX hl h1;exact .step i k j h1 h2 h4 (yA hl x n k (by omega) b j h3)
theorem Kr{l:List dG}(hl:Kz l):∀(n m i:Nat),i<n→i<m→i<l.length→jg l n i=jg l m i
 |0,_,_,h,_,_=>by omega
 |_+1,0,_,_,h,_=>by omega
 |n+1,m+1,i,hn,hm,hi=>by
  unfold jg;by_cases h0:i=0
  ·rw[if_pos h0,if_pos h0]
  ·rw[if_neg h0,if_neg h0];obtain⟨r,hr⟩:=getD_some hi;obtain⟨p1,p2⟩:=hl.par i r hr (by omega);rw[hr];simp only;rw[Kr hl n m r.1.toNat (by omega) (by omega) (by omega)]
theorem sW{l:List dG}(hl:Kz l){i k:Nat}(hk:k∈zC l (i:Int)):jg l 400 k=jg l 400 i++ [k]:=by
 obtain⟨a,b⟩:=yX hl hk;obtain⟨r,hr,hi⟩:=Vg.1 hk;have hlen:=hl.len;rw[show(400:Nat)=399+1 from rfl]
 conv=>lhs;unfold jg
 rw[if_neg (by omega),hr];simp only;rw[hi,arn,Kr hl 399 (399+1) i (by omega) (by omega) (by omega)]
def Gy(l:List dG)(x:List LT)(p:List Nat):Prop:=
 (∀k∈p,k<l.length∧Oq l x k=true)∧∀(k a b:Nat),p[k]?=some a→p[k+1]?=some b→∀c∈zC l (a:Int),c<b→Oq l x c=true→cnt l c=true
theorem KJ{l:List dG}(hl:Kz l){i:Nat}(hi:i<l.length):∃q,jg l 400 i=q++ [i]:=by
 have hlen:=hl.len;rw[show(400:Nat)=399+1 from rfl];unfold jg;by_cases h0:i=0
 ·rw[if_pos h0,h0];exact⟨[],rfl⟩
 ·rw[if_neg h0];obtain⟨r,hr⟩:=getD_some hi;rw[hr];exact⟨_,rfl⟩
theorem Wh{l:List dG}(hl:Kz l){x:List LT}{i j:Nat}(h:Down l x i j):i<l.length→Gy l x (jg l 400 i)→∃s,jg l 400 j=jg l 400 i++s∧Gy l x (jg l 400 j)∧j<l.length∧∀c∈zC l (j:Int),Oq l x c=false:=by
 induction h with
 |here i h=>intro hi hp;exact⟨[],by simp,hp,hi,h⟩
 |step i k j hk hm hs h ih=>
  intro hi hp;obtain⟨a,b⟩:=yX hl hk;have e:=sW hl hk
  have hp2:Gy l x (jg l 400 k):=by
   rw[e];refine⟨fun y hy=> ?_,fun n a b ha hb=> ?_⟩
   ·rcases arA.1 hy with h|h
    ·exact hp.1 y h
    ·simp only[asf]at h;subst h;exact⟨by assumption,hm⟩
   ·by_cases hn:n+1<(jg l 400 i).length
    ·rw[ar4 (by omega)]at ha hb;exact hp.2 n a b ha hb
    ·have hlt:=(ark.1 hb).1;rw[arC,List.length_singleton]at hlt;obtain⟨q,hq⟩:=KJ hl hi;have hl2:(jg l 400 i).length=q.length+1:=by rw[hq];simp
     obtain rfl:n=q.length:=by omega
     rw[ar4 (by omega),hq,ar1 (arz _),Nat.sub_self]at ha;rw[ar1 (by omega),show q.length+1-(jg l 400 i).length=0 by omega]at hb;simp at ha hb;subst ha;subst hb;exact hs
  obtain⟨s,h1,h2,h3,h4⟩:=ih b hp2;exact⟨[k]++s,by rw[h1,e,arJ],h2,h3,h4⟩
theorem Xu{l:List dG}(hl:Kz l)(x:List LT):Gy l x (jg l 400 0):=by
 have e:jg l 400 0=[0]:=rfl;rw[e];refine⟨fun k hk=> ?_,fun k a b ha hb=> ?_⟩
 ·simp only[asf]at hk;subst hk;obtain⟨r,hr⟩:=getD_some hl.pos;refine⟨hl.pos,?_⟩;unfold Oq;rw[hr];simp only[(hl.root r hr).2];rfl
 ·simp at hb
theorem Lx{rec:Nat→List Nat}{l:List dG}{x:List LT}:∀{ks:List Nat},ks.Pairwise (· < ·)→(∀k∈ks,k<l.length∧(rec k).Nodup)→(∀k∈ks,∀k'∈ks,∀j,j∈rec k→j∈rec k'→k=k')→(goC rec l x ks).Nodup
 | [],_,_,_=>List.nodup_nil
 |k::ks,hp,hl,hd=>by
  obtain⟨h1,h2⟩:=hl k (as3 ..);obtain⟨r,hr⟩:=getD_some h1;have hp:=asA.1 hp;have ih:=Lx (rec:=rec) (l:=l) (x:=x) hp.2 (fun y hy=>hl y (as0 _ hy)) (fun a ha b hb=>hd a (as0 _ ha) b (as0 _ hb));unfold goC;rw[hr];simp only;cases allM r.2.1 x
  ·exact ih
  ·simp only[cond_true];cases r.2.2.2.2.2.2.2.1
   ·simp only[asw,arP];exact h2
   ·simp only[cond_true];refine List.nodup_append.2 ⟨h2,ih,fun a ha b hb e=> ?_⟩;subst e;obtain⟨k',g1,_,g3,_⟩:=ME hp.2 (fun y hy=>(hl y (as0 _ hy)).1) a hb;have:=hd k (as3 ..) k' (as0 _ g1) a ha g3;have:=hp.1 k' g1;omega
theorem Q9{l:List dG}(hl:Kz l){x:List LT}{i j:Nat}(h:Down l x i j):∃s,jg l 400 j=jg l 400 i++s:=by
 induction h with
 |here i h=>exact⟨[],by simp⟩
 |step i k j hk hm hs h ih=>
  obtain⟨s,hs⟩:=ih;exact⟨[k]++s,by rw[hs,sW hl hk,arJ]⟩
theorem EP{l:List dG}(hl:Kz l)(x:List LT):∀(n i:Nat),l.length-i≤n→i<l.length→(dK l x n i).Nodup
 |0,_,h,hi=>by omega
 |n+1,i,h,hi=>by
  unfold dK;split
  ·simp
  ·refine Lx (sP l _) (fun k hk=> ?_) (fun k hk k' hk' j hj hj'=> ?_)
   ·obtain⟨a,b⟩:=yX hl hk;exact⟨b,EP hl x n k (by omega) b⟩
   ·obtain⟨a,b⟩:=yX hl hk;obtain⟨a',b'⟩:=yX hl hk';obtain⟨s,hs⟩:=Q9 hl (yA hl x n k (by omega) b j hj);obtain⟨s',hs'⟩:=Q9 hl (yA hl x n k' (by omega) b' j hj');rw[sW hl hk]at hs;rw[sW hl hk',hs,arJ,arJ]at hs';have:=List.append_cancel_left hs';simp at this;exact this.1
theorem found{l:List dG}(hl:Kz l){x:List LT}{j:Nat}(hj:j∈dK l x 400 0):
  j<l.length∧(∃q,jg l 400 j=0::q)∧(∃q,jg l 400 j=q++ [j])∧Gy l x (jg l 400 j)∧∀c∈zC l (j:Int),Oq l x c=false:=by
 have hlen:=hl.len;obtain⟨s,h1,h2,h3,h4⟩:=Wh hl (yA hl x 400 0 (by omega) hl.pos j hj) hl.pos (Xu hl x);exact⟨h3,⟨s,h1⟩,KJ hl h3,h2,h4⟩
abbrev bH:Type:=ByteArray×List LT×Int×Int×Bool×Bool×Unit
abbrev bC:Type:=Int×ByteArray×List bH×Int×Int×Unit
abbrev aL(m:bH):ByteArray:=m.1
abbrev bq(m:bH):List LT:=m.2.1
abbrev iq(m:bH):Int:=m.2.2.1
abbrev eu(m:bH):Int:=m.2.2.2.1
abbrev bZ(m:bH):Bool:=m.2.2.2.2.1
abbrev dD(m:bH):Bool:=m.2.2.2.2.2.1
abbrev aM(g:bC):List bH:=g.2.2.1
abbrev dU(g:bC):Int:=g.2.2.2.1
abbrev bQ(g:bC):Int:=g.2.2.2.2.1
structure tu(m:bH):Prop where
 lab:cO (bq m)=true
 key:aL m=gM (dX (bq m))
 since:0≤iq m∧iq m≤8589934592
 heard:0≤eu m∧eu m≤8589934592
 told:bZ m=true∨dD m=false
abbrev Less(a b:ByteArray):Prop:=leB b a=false
structure VG(g:bC):Prop where
 len:(aM g).length≤256
 rt:0≤g.1
 due: -1≤dU g∧dU g≤8589934592
 sent: -1≤bQ g∧bQ g≤8589934592
 mem:∀m∈aM g,tu m
 up:((aM g).map aL).Pairwise Less
theorem iT{l:List LT}(h:cO l=true):Fg l:=by
 obtain⟨h1,h2⟩:=fE h;refine⟨by unfold big;omega,fun x hx=> ?_⟩;obtain⟨a,b,_⟩:=h2 x hx;have:=FD a;have:=yj b;unfold big;omega
theorem o6{l:List LT}(h:cO l=true):BQ l=gM (dX l):=if_pos h
theorem Ai(a b c:Int):J5 ((a,b,c,()),())=some ((decide (b≤a∧a≤c),()),()):=by
 unfold J5;by_cases h1:a≥b<;>by_cases h2:a≤c<;>simp[h1,h2]
theorem abH{m:bH}(h:tu m):adT ((m,()),())=some ((true,()),()):=by
 have q1:=Dv (bq m) (iT h.lab);rw[h.lab]at q1;have q2:=LD (bq m) (iT h.lab);rw[o6 h.lab,←h.key]at q2;have d1:decide ((0:Int)≤iq m∧iq m≤8589934592)=true:=arj h.since;have d2:decide ((0:Int)≤eu m∧eu m≤8589934592)=true:=arj h.heard;have ht:=h.told;obtain⟨k,l,s,hh,f,t,⟨⟩⟩:=m;dsimp only[aL,bq,iq,eu,bZ,dD]at q1 q2 d1 d2 ht;unfold adT;simp only[q1,q2,Ai,d1,d2,aA,sS];cases f
 ·have:t=false:=by simpa using ht
  subst this;rfl
 ·rfl
theorem Te{l:List ByteArray}(h:l.Pairwise Less){i:Nat}{a b:ByteArray}(ha:l[i]?=some a)(hb:l[i+1]?=some b):Less a b:=by
 obtain⟨h1,rfl⟩:=ark.1 ha;obtain⟨h2,rfl⟩:=ark.1 hb;exact List.pairwise_iff_getElem.1 h i (i+1) h1 h2 (by omega)
theorem Me{g:bC}(h:VG g):m82 ((g,()),())=some ((true,()),()):=by
 have hlen:=h.len;have d0:decide (((aM g).length:Int)>256)=false:=arl (by omega);have d1:decide (g.1<0)=false:=arl (by have:=h.rt;omega);have d2:decide ((-1:Int)≤dU g∧dU g≤8589934592)=true:=arj h.due;have d3:decide ((-1:Int)≤bQ g∧bQ g≤8589934592)=true:=arj h.sent
 have hl:aC Az (((0:Int),aM g,((aM g).length:Int),()),((g,()),()))=some (.inr ((),())):=dM (aM g) (fun i=>(((i:Int),aM g,((aM g).length:Int),()),((g,()),()))) _ (fun i e he hi=>by
  have q:=abH (h.mem e (arp he));have hw:=aI (i:=i) (by omega);obtain⟨rt,ky,ms,du,se,⟨⟩⟩:=g;rcases jA hi with h0|⟨p,h0,hp,hp1⟩
  ·have:decide ((i:Int)>0)=false:=arl (by omega);simp only[Az,bO hi,aJ,aD he,q,this,hw,aA,sS]
  ·have:decide ((i:Int)>0)=true:=arj (by omega);have hlt:=Te h.up (i:=i-1) (a:=aL p) (b:=aL e) (by rw[ars,hp];rfl) (by rw[show i-1+1=i by omega,ars,he];rfl);have hlt:(Op.bytesLess e.1.toList p.1.toList||e.1.toList==p.1.toList)=false:=hlt;simp only[Az,bO hi,aJ,aD he,q,this,hp1 (by omega),aD hp,hlt,hw,aA,sS]) (by simp only[Az,bX,aA,sS])
 obtain⟨rt,ky,ms,du,se,⟨⟩⟩:=g;dsimp only[aM,dU,bQ]at d0 d1 d2 d3 hl;unfold m82;simp only[d0,d1,Ai,d2,d3,aA,sS];refine aN _ hl ?_;simp only[aA,sS]
theorem isNaN(s:ByteArray):aad ((s,()),())=some ((false,()),()):=by
 unfold aad;simp
def Fp(a b:ByteArray):Int:=if Op.bytesLess a.toList b.toList=true then -1 else if leB a b=false then 1 else 0
theorem Vq(a b:ByteArray):XM ((a,b,()),())=some ((Fp a b,()),()):=by
 unfold XM Fp leB;simp only[isNaN,aA,sS];cases Op.bytesLess a.toList b.toList
 ·cases (a.toList==b.toList)<;>rfl
 ·rfl
theorem MX(m:bH)(k:ByteArray):Yz ((m,k,()),())=some ((Fp (aL m) k,()),()):=by
 unfold Yz;simp only[Vq,aA,sS]
theorem YM:∀x:List UInt8,Op.bytesLess x x=false
 | []=>rfl
 |a::x=>by
  have:=YM x;simp[Op.bytesLess,this]
theorem O6:∀{x y z:List UInt8},Op.bytesLess x y=true→Op.bytesLess y z=true→Op.bytesLess x z=true
 |_,[],_,h,_=>by cases ‹List UInt8›<;>simp[Op.bytesLess]at h
 |_,_::_,[],_,h=>by simp[Op.bytesLess]at h
 | [],_::_,_::_,_,_=>by simp[Op.bytesLess]
 |a::x,b::y,c::z,h1,h2=>by
  simp only[Op.bytesLess,asT,arV,ar8,beq_iff_eq]at h1 h2 ⊢;rcases h1 with h1|⟨rfl,h1⟩
  ·rcases h2 with h2|⟨rfl,h2⟩
   ·exact .inl (UInt8.lt_trans h1 h2)
   ·exact .inl h1
  ·rcases h2 with h2|⟨rfl,h2⟩
   ·exact .inl h2
   ·exact .inr ⟨rfl,O6 h1 h2⟩
theorem ZG:∀(x y:List UInt8),Op.bytesLess x y=true∨x=y∨Op.bytesLess y x=true
 | [],[]=>.inr (.inl rfl)
 | [],_::_=>.inl rfl
 |_::_,[]=>.inr (.inr rfl)
 |a::x,b::y=>by
  simp only[Op.bytesLess,asT,arV,ar8,beq_iff_eq];rcases Nat.lt_trichotomy a.toNat b.toNat with h|h|h
  ·exact .inl (.inl (UInt8.lt_iff_toNat_lt.2 h))
  ·have h:=UInt8.toNat_inj.1 h;subst h;rcases ZG x y with h|h|h
   ·exact .inl (.inr ⟨rfl,h⟩)
   ·exact .inr (.inl (by rw[h]))
   ·exact .inr (.inr (.inr ⟨rfl,h⟩))
  ·exact .inr (.inr (.inl (UInt8.lt_iff_toNat_lt.2 h)))
abbrev Lt(a b:ByteArray):Prop:=Op.bytesLess a.toList b.toList=true
theorem UJ{a b:ByteArray}(h:a.toList=b.toList):a=b:=Hf (by rw[←bg,←bg,h])
theorem oW(a:ByteArray):¬ Lt a a:=fun h=>by rw[Lt,YM]at h;cases h
theorem lt_trans{a b c:ByteArray}(h:Lt a b)(k:Lt b c):Lt a c:=O6 h k
theorem NZ(a b:ByteArray):Lt a b∨a=b∨Lt b a:=by
 rcases ZG a.toList b.toList with h|h|h
 ·exact .inl h
 ·exact .inr (.inl (UJ h))
 ·exact .inr (.inr h)
theorem fO{a b:ByteArray}:Less a b↔Lt a b:=by
 unfold Less leB;rw[asg];constructor
 ·rintro⟨h1,h2⟩;rcases NZ a b with h|h|h
  ·exact h
  ·subst h;simp at h2
  ·rw[h]at h1;cases h1
 ·intro h;refine⟨?_,?_⟩
  ·cases hc:Op.bytesLess b.toList a.toList
   ·rfl
   ·exact absurd (lt_trans h hc) (oW a)
  ·cases hc:(b.toList==a.toList)
   ·rfl
   ·have:b=a:=UJ (by simpa using hc);subst this;exact absurd h (oW b)
theorem PS{a b:ByteArray}:Fp a b<0↔Lt a b:=by
 unfold Fp;by_cases h:Lt a b
 ·rw[if_pos h];exact⟨fun _=>h,fun _=>by omega⟩
 ·rw[if_neg h];constructor
  ·intro h2;split at h2<;>omega
  ·exact fun h2=>absurd h2 h
theorem yB{a b:ByteArray}:Fp a b=0↔a=b:=by
 unfold Fp;by_cases h:Lt a b
 ·rw[if_pos h];exact⟨fun h2=>by omega,fun h2=>by subst h2;exact absurd h (oW a)⟩
 ·rw[if_neg h];by_cases h2:leB a b=false
  ·rw[if_pos h2];have h3:=fO.1 (show Less b a from h2);exact⟨fun h=>by omega,fun h=>by subst h;exact absurd h3 (oW a)⟩
  ·rw[if_neg h2];refine⟨fun _=> ?_,fun _=>rfl⟩;rcases NZ a b with h3|h3|h3
   ·exact absurd h3 h
   ·exact h3
   ·exact absurd (fO.2 h3) h2
theorem half(i j:Nat)(h:i+j≤1000000):aO (Cz .u64 (IntKind.wrap .u64 (aO ((i:Int)+(j:Int)))) 1)=(((i+j)/ 2:Nat):Int):=by
 have h1:aO ((i:Int)+(j:Int))=(i:Int)+(j:Int):=bI (by omega) (by omega);rw[h1]
 have h2:IntKind.wrap .u64 ((i:Int)+(j:Int))=(i:Int)+(j:Int):=by
  have hp:(2:Int)^ IntKind.u64.bits=18446744073709551616:=rfl;simp only[IntKind.wrap,hp,show IntKind.u64.signed=false from rfl,asv,ar3,if_false];omega
 rw[h2]
 have h3:Cz .u64 ((i:Int)+(j:Int)) 1=(((i+j)/ 2:Nat):Int):=by
  unfold Cz;rw[show(2:Int)^(min (1:Int).toNat IntKind.u64.bits)=2 from rfl,Int.fdiv_eq_ediv_of_nonneg _ (by omega)];omega
 rw[h3];exact bI (by omega) (by omega)
theorem ahw{g:bC}(hlen:(aM g).length≤256)(hup0:((aM g).map aL).Pairwise Less)(k:ByteArray):∃(i:Nat) (o:Bool),QK ((g,k,()),())=some (((i:Int),o,()),())∧i≤(aM g).length∧(∀m∈(aM g).take i,Lt (aL m) k)∧
  (∀m∈(aM g).drop i,¬ Lt (aL m) k)∧(o=true→∃m,(aM g)[i]?=some m∧aL m=k)∧(o=false→∀m∈aM g,aL m≠k):=by
 have hup:=List.pairwise_iff_getElem.1 hup0
 have mono:∀(a b:Nat) (x y:bH),(aM g)[a]?=some x→(aM g)[b]?=some y→a≤b→¬ Lt (aL x) k→¬ Lt (aL y) k:=by
  intro a b x y ha hb hab hx hy;by_cases e:a=b
  ·subst e;rw[ha]at hb;injection hb with hb;subst hb;exact hx hy
  ·obtain⟨h1,h1'⟩:=ark.1 ha;obtain⟨h2,h2'⟩:=ark.1 hb;have:=hup a b (by rw[arq];exact h1) (by rw[arq];exact h2) (by omega);rw[List.getElem_map,List.getElem_map,h1',h2']at this;exact hx (lt_trans (fO.1 this) hy)
 have key:∃i:Nat,aC oL ((k,aM g,((aM g).length:Int),0,((aM g).length:Int),()),())=some ((k,(i:Int),aM g,((aM g).length:Int),()),())∧i≤(aM g).length∧
   (∀j m,j<i→(aM g)[j]?=some m→Lt (aL m) k)∧(∀j m,i≤j→(aM g)[j]?=some m→¬ Lt (aL m) k):=by
  have go:∀(d lo hi:Nat),hi-lo≤d→lo≤hi→hi≤(aM g).length→(∀j m,j<lo→(aM g)[j]?=some m→Lt (aL m) k)→(∀j m,hi≤j→(aM g)[j]?=some m→¬ Lt (aL m) k)→
    ∃i:Nat,aC oL ((k,aM g,(hi:Int),(lo:Int),((aM g).length:Int),()),())=some ((k,(i:Int),aM g,((aM g).length:Int),()),())∧i≤(aM g).length∧
     (∀j m,j<i→(aM g)[j]?=some m→Lt (aL m) k)∧(∀j m,i≤j→(aM g)[j]?=some m→¬ Lt (aL m) k):=by
   intro d
   induction d with
   |zero=>
    intro lo hi h0 h1 h2 h3 h4;have:lo=hi:=by omega
    subst this;refine⟨lo,aF ?_,h2,h3,h4⟩;simp only[oL,bX,aA,sS]
   |succ d ih=>
    intro lo hi h0 h1 h2 h3 h4;by_cases hlt:lo<hi
    ·have hm:=half lo hi (by omega);have hmid:(lo+hi)/ 2<(aM g).length:=by omega
     obtain⟨e,he⟩:=getD_some hmid;have dl:decide ((lo:Int)<(hi:Int))=true:=arj (by omega);have d1:decide ((0:Int)≤1)=true:=rfl;have hw:aO ((((lo+hi)/ 2:Nat):Int)+1)=(((lo+hi)/ 2+1:Nat):Int):=aI (by omega);by_cases hc:Lt (aL e) k
     ·have dc:decide (Fp (aL e) k<0)=true:=arj (PS.2 hc)
      obtain⟨i,q,r⟩:=ih ((lo+hi)/ 2+1) hi (by omega) (by omega) h2 (fun j m hj hjm=>by
       by_cases hx:Lt (aL m) k
       ·exact hx
       ·exact absurd hc (mono j _ m e hjm he (by omega) hx)) h4
      refine⟨i,(aH ?_).trans q,r⟩;simp only[oL,dl,d1,hm,aJ,aD he,MX,dc,hw,aA,sS]
     ·have dc:decide (Fp (aL e) k<0)=false:=arl (fun h=>hc (PS.1 h));obtain⟨i,q,r⟩:=ih lo ((lo+hi)/ 2) (by omega) (by omega) (by omega) h3 (fun j m hj hjm=>mono _ j e m he hjm hj hc);refine⟨i,(aH ?_).trans q,r⟩;simp only[oL,dl,d1,hm,aJ,aD he,MX,dc,aA,sS]
    ·have:lo=hi:=by omega
     subst this;refine⟨lo,aF ?_,h2,h3,h4⟩;simp only[oL,bX,aA,sS]
  exact go _ 0 _ (arz _) (arO _) (arz _) (fun j m hj=>by omega) (fun j m hj hjm=>by
   have:=(ark.1 hjm).1;omega)
 obtain⟨i,q,h1,h2,h3⟩:=key
 have ht:∀m∈(aM g).take i,Lt (aL m) k:=fun m hm=>by
  obtain⟨j,hj,rfl⟩:=List.mem_take_iff_getElem.1 hm;exact h2 j _ (by omega) (arw _)
 have hd:∀m∈(aM g).drop i,¬ Lt (aL m) k:=fun m hm=>by
  obtain⟨j,hj,rfl⟩:=List.mem_drop_iff_getElem.1 hm;exact h3 (i+j) _ (by omega) (arw _)
 have hne:(∀m,(aM g)[i]?=some m→aL m≠k)→∀m∈aM g,aL m≠k:=by
  intro hi m hm e;obtain⟨j,hj,rfl⟩:=List.mem_iff_getElem.1 hm;rcases Nat.lt_trichotomy j i with hji|hji|hji
  ·have:=h2 j _ hji (arw hj);rw[e]at this;exact oW _ this
  ·subst hji;exact hi _ (arw hj) e
  ·have hil:i<(aM g).length:=by omega
   have a:=hup i j (by rw[arq];exact hil) (by rw[arq];exact hj) hji;rw[List.getElem_map,List.getElem_map]at a;have b:=h3 i _ (arz _) (arw hil);have c:=fO.1 a;rw[e]at c;exact b c
 by_cases hil:i<(aM g).length
 ·obtain⟨e,he⟩:=getD_some hil;have dl:decide ((i:Int)<((aM g).length:Int))=true:=arj (by omega);refine⟨i,Fp (aL e) k==0,?_,h1,ht,hd,fun ho=>⟨e,he,yB.1 (by simpa using ho)⟩,fun ho=>hne fun m hm hk=> ?_⟩
  ·unfold QK;refine aN _ q ?_;simp only[dl,aJ,aD he,MX,aA,sS]
  ·rw[he]at hm;injection hm with hm;subst hm;have:=yB.2 hk;rw[this]at ho;cases ho
 ·have dl:decide ((i:Int)<((aM g).length:Int))=false:=arl (by omega);refine⟨i,false,?_,h1,ht,hd,fun ho=>(by cases ho),fun _=>hne fun m hm=> ?_⟩
  ·unfold QK;refine aN _ q ?_;simp only[dl,aA,sS]
  ·have:=(ark.1 hm).1;omega
abbrev L8:=Int×ByteArray×Int×Int×Unit
def cor(g:bC):L8:=(g.1,g.2.1,dU g,bQ g,())
theorem Np{g:bC}(h:VG g):Tw ((g,()),())=some ((),((cor g,()),(aM g,()))):=by
 have hlen:=h.len;obtain⟨rt,ky,ms,du,se,⟨⟩⟩:=g;dsimp only[aM]at hlen;have d0:decide (ms.length≤4294967296)=true:=arj (by omega)
 have hl:aC AR (((0:Int),(ms.length:Int),()),(((rt,ky,du,se,()),()),(((0,ByteArray.empty,0,0,()),()),(ms,()))))=some ((),(((((0,ByteArray.empty,0,0,()):L8),()),((((rt,ky,du,se,()):L8),()),(ms,()))))):=by
  refine dM ms (fun i=>(((i:Int),(ms.length:Int),()),(((rt,ky,du,se,()),()),(((0,ByteArray.empty,0,0,()),()),(ms,()))))) _ (fun i e he hi=> ?_) (by simp only[AR,bX,aA,sS]);have hw:=aI (i:=i) (by omega);have d2:decide ((0:Int)≤(i:Int)∧(i:Int)<(ms.length:Int))=true:=arj (by omega);have hm:=h.mem e (arp he);have hv:=(fE hm.lab).1;have d3:decide (e.2.1.length≤4294967296)=true:=arj (by dsimp only[bq]at hv;omega)
  have hset:ms.set i (e.1,e.2.1,e.2.2)=ms:=by
   have:=(ark.1 he).2;rw[←this];exact List.set_getElem_self _
  simp only[AR,bO hi,d2,arn,he,aaC,d3,hset,hw,aA,sS]
 unfold Tw;simp only[ai4,d0,aA,sS];refine aN _ hl ?_;rfl
theorem adI(t:Int):QD ((t,()),())=some (((if t>8589934592 then -1 else t),()),()):=by
 unfold QD;by_cases h:t>8589934592
 ·simp only[h,if_true,aA,sS]
 ·simp only[h,if_false,aA,sS]
abbrev inst(t:Int):Bool:=decide (0≤t∧t≤8589934592)
abbrev K8(t:Int):Bool:=decide (-1≤t∧t≤8589934592)
def okM(m:bH):Bool:=cO (bq m)&&(decide (BQ (bq m)=aL m)&&(inst (iq m)&&(inst (eu m)&&(bZ m|| !dD m))))
def Kl(p:Option bH)(m:bH):Bool:= !okM m||(match p with|none=>false|some q=>leB (aL m) (aL q))
def Ns(g:bC):Bool:= !decide (((aM g).length:Int)>256)&&(!decide (g.1<0)&&(K8 (dU g)&&(K8 (bQ g)&&tJ Kl none (aM g))))
def GSz(g:bC):Prop:=(aM g).length≤big∧∀m∈aM g,Fg (bq m)
theorem acC{m:bH}:okM m=true↔tu m:=by
 unfold okM inst;simp only[ar8,arV,asT,asI];constructor
 ·rintro⟨h1,h2,h3,h4,h5⟩;exact⟨h1,by rw[←h2,o6 h1],h3,h4,h5⟩
 ·intro h;exact⟨h.lab,by rw[o6 h.lab,h.key],h.since,h.heard,h.told⟩
theorem UI{p:Option bH}{m:bH}:Kl p m=false↔tu m∧∀q,p=some q→Less (aL q) (aL m):=by
 unfold Kl;rw[asg,Bool.not_eq_false',acC]
 cases p with
 |none=>exact⟨fun h=>⟨h.1,fun q e=>by cases e⟩,fun h=>⟨h.1,rfl⟩⟩
 |some q=>exact⟨fun h=>⟨h.1,fun q' e=>by cases e;exact h.2⟩,fun h=>⟨h.1,h.2 q rfl⟩⟩
theorem XE:∀{l:List bH} {p:Option bH},tJ Kl p l=true→(∀m∈l,tu m)∧(∀q,p=some q→∀m∈l,Less (aL q) (aL m))∧(l.map aL).Pairwise Less
 | [],_,_=>⟨fun m hm=>(by cases hm),fun _ _ m hm=>(by cases hm),List.Pairwise.nil⟩
 |e::r,p,h=>by
  unfold tJ at h;rw[ar8,asI]at h;obtain⟨h1,h2⟩:=UI.1 h.1;obtain⟨k1,k2,k3⟩:=XE h.2;refine⟨fun m hm=> ?_,fun q hq m hm=> ?_,?_⟩
  ·rcases arW.1 hm with rfl|hm
   ·exact h1
   ·exact k1 m hm
  ·rcases arW.1 hm with rfl|hm
   ·exact h2 q hq
   ·exact fO.2 (lt_trans (fO.1 (h2 q hq)) (fO.1 (k2 e rfl m hm)))
  ·rw[arF];refine asA.2 ⟨fun k hk=> ?_,k3⟩;obtain⟨m,hm,rfl⟩:=asn.1 hk;exact k2 e rfl m hm
theorem ZL:∀{l:List bH} {p:Option bH},(∀m∈l,tu m)→(∀q,p=some q→∀m∈l,Less (aL q) (aL m))→(l.map aL).Pairwise Less→tJ Kl p l=true
 | [],_,_,_,_=>rfl
 |e::r,p,h1,h2,h3=>by
  rw[arF]at h3;have h3:=asA.1 h3;unfold tJ;rw[UI.2 ⟨h1 e (as3 ..),fun q hq=>h2 q hq e (as3 ..)⟩,arB,arU];exact ZL (fun m hm=>h1 m (as0 _ hm)) (fun q hq m hm=>by cases hq;exact h3.1 _ (List.mem_map_of_mem hm)) h3.2
theorem Xh{g:bC}:Ns g=true↔VG g:=by
 unfold Ns;simp only[ar8,asI,asy,arV];constructor
 ·rintro⟨h1,h2,h3,h4,h5⟩;obtain⟨k1,_,k3⟩:=XE h5;exact⟨by omega,by omega,h3,h4,k1,k3⟩
 ·intro h;have h1:=h.len;have h2:=h.rt;exact⟨by omega,by omega,h.due,h.sent,ZL h.mem (fun q hq=>by cases hq) h.up⟩
theorem yg(t:Int):H9 ((t,()),())=some ((inst t,()),()):=by
 unfold H9 inst;by_cases h1:t≥0<;>by_cases h2:t≤8589934592<;>simp[h1,h2]
theorem rP(t:Int):(t≠ -1∧K8 t=inst t)∨(t= -1∧K8 t=true):=by
 by_cases h:t= -1
 ·exact .inr ⟨h,arj (by omega)⟩
 ·exact .inl ⟨h,asz.2 (by omega)⟩
theorem ac2(g:bC)(hg:GSz g):m88 ((g,()),())=some ((Ns g,()),()):=by
 obtain⟨hl,hk⟩:=hg;have h:=jV (f:=xZ) (aM g) (fun i=>(((i:Int),()),((g,()),()))) Kl (.inl ((false,()),())) (.inr ((),())) ?_ ?_
 ·unfold Ns;obtain⟨rt,ky,ms,du,se,⟨⟩⟩:=g;dsimp only[aM,dU,bQ,K8,inst]at h ⊢;unfold m88;simp only[yg,aL,bq,iq,eu,bZ,dD,aM,dU,bQ,inst,K8,aA,sS]
  cases decide ((ms.length:Int)>256)<;>try simp only[aA,sS]
  cases decide (rt<0)<;>try simp only[aA,sS]
  have key:(aC xZ (((0:Int),()),(((rt,ky,ms,du,se,()),()),()))).bind (fun d92=>aA d92 (fun d93=>(some ((d93.1.1,()),()))) (fun d94=>(some ((true,()),()))))=some ((tJ Kl none ms,()),()):=by
   refine aN _ h ?_;cases tJ Kl none ms<;>rfl
  have rP:=rP;dsimp only[K8,inst]at rP;rcases rP du with⟨h1,e1⟩|⟨h1,e1⟩<;>rw[e1]
  ·rw[asi.2 h1];simp only[aA,sS]
   cases decide (0≤du∧du≤8589934592)<;>try simp only[aA,sS]
   rcases rP se with⟨h2,e2⟩|⟨h2,e2⟩<;>rw[e2]
   ·rw[asi.2 h2];simp only[aA,sS]
    cases decide (0≤se∧se≤8589934592)<;>try simp only[aA,sS]
    exact key
   ·subst h2;simp only[arN,aA,sS];exact key
  ·subst h1;simp only[arN,aA,sS];rcases rP se with⟨h2,e2⟩|⟨h2,e2⟩<;>rw[e2]
   ·rw[asi.2 h2];simp only[aA,sS]
    cases decide (0≤se∧se≤8589934592)<;>try simp only[aA,sS]
    exact key
   ·subst h2;simp only[arN,aA,sS];exact key
 ·intro i e he hi;unfold big at hl;have hke:=hk e (arp he);have q1:=Dz (bq e) hke;have q2:=R4 (bq e) hke;have hw:=aI (i:=i) (by omega);obtain⟨rt,ky,ms,du,se,⟨⟩⟩:=g;obtain⟨k,l,s,hh,f,t,⟨⟩⟩:=e;dsimp only[aM,bq]at he hi hl q1 q2 ⊢;rcases jA hi with h0|⟨p,h0,hp,hp1⟩
  ·rw[if_pos h0];have:decide ((i:Int)>0)=false:=arl (by omega);unfold Kl okM;simp only[xZ,bO hi,aJ,aD he,q1,q2,yg,bg,gB,aL,bq,iq,eu,bZ,dD,aM,dU,bQ,inst,K8,this,hw,aA,sS]
   cases cO l<;>try simp only[hw,aL,bq,iq,eu,bZ,dD,aM,dU,bQ,inst,K8,aA,sS,ar2,arH,ar0,ar6]
   cases decide (BQ l=k)<;>try simp only[hw,aL,bq,iq,eu,bZ,dD,aM,dU,bQ,inst,K8,aA,sS,ar2,arH,ar0,ar6]
   cases decide (0≤s∧s≤8589934592)<;>try simp only[hw,aL,bq,iq,eu,bZ,dD,aM,dU,bQ,inst,K8,aA,sS,ar2,arH,ar0,ar6]
   cases decide (0≤hh∧hh≤8589934592)<;>try simp only[hw,aL,bq,iq,eu,bZ,dD,aM,dU,bQ,inst,K8,aA,sS,ar2,arH,ar0,ar6]
   cases f<;>cases t<;>try simp only[hw,aL,bq,iq,eu,bZ,dD,aM,dU,bQ,inst,K8,aA,sS,ar2,arH,ar0,ar6]
  ·rw[if_neg (by omega),hp];have:decide ((i:Int)>0)=true:=arj (by omega);unfold Kl leB okM;simp only[xZ,bO hi,aJ,aD he,q1,q2,yg,bg,gB,aL,bq,iq,eu,bZ,dD,aM,dU,bQ,inst,K8,this,hp1 (by omega),aD hp,hw,aA,sS]
   cases cO l<;>try simp only[hw,aL,bq,iq,eu,bZ,dD,aM,dU,bQ,inst,K8,aA,sS,ar2,arH,ar0,ar6]
   cases decide (BQ l=k)<;>try simp only[hw,aL,bq,iq,eu,bZ,dD,aM,dU,bQ,inst,K8,aA,sS,ar2,arH,ar0,ar6]
   cases decide (0≤s∧s≤8589934592)<;>try simp only[hw,aL,bq,iq,eu,bZ,dD,aM,dU,bQ,inst,K8,aA,sS,ar2,arH,ar0,ar6]
   cases decide (0≤hh∧hh≤8589934592)<;>try simp only[hw,aL,bq,iq,eu,bZ,dD,aM,dU,bQ,inst,K8,aA,sS,ar2,arH,ar0,ar6]
   cases f<;>cases t<;>try simp only[hw,aL,bq,iq,eu,bZ,dD,aM,dU,bQ,inst,K8,aA,sS,ar2,arH,ar0,ar6]<;>
    cases (Op.bytesLess (bl k) (bl p.1)||decide (k=p.1))<;>try simp only[hw,aL,bq,iq,eu,bZ,dD,aM,dU,bQ,inst,K8,aA,sS]
 ·simp only[xZ,bX,aA,sS]
def strip(r:dG):dG:=(-1,[],r.2.2)
def zG(r:dG):Bool:=gU (strip r)==0
theorem TU{r:dG}(h:Km r):Km (strip r):=⟨⟨arO _,fun m hm=>by cases hm⟩,h.2⟩
theorem G5(r:dG):kC [strip r]=gU (strip r):=by
 have h1:um 0 (strip r)=gU (strip r):=rfl;have h2:(([strip r]:List dG)[0]?)=some (strip r):=rfl;have h3:decide (((strip r).2.1.length:Int)>0)=false:=rfl;unfold kC;simp only[CZ,h1,h2,h3,List.length_singleton];by_cases h:gU (strip r)=0
 ·rw[h];rfl
 ·rw[asi.2 h];simp only[cond_true];rw[asi.2 h];rfl
theorem M6(r:dG)(hr:Km r):VO ((r,()),())=some ((zG r,()),()):=by
 unfold VO;refine aN _ (MC [strip r] ⟨by simp,fun x hx=>by simp at hx;subst hx;exact TU hr⟩) ?_;rw[G5];rfl
theorem Ni(r:dG)(hr:Km r):Vz ((r,()),())=some ((zG r,()),()):=by
 unfold Vz;refine aN _ (Mc [strip r] ⟨by simp,fun x hx=>by simp at hx;subst hx;exact TU hr⟩) ?_;rw[G5];rfl
abbrev jb(r:dG):Int:=r.2.2.2.2.1
abbrev iL(r:dG):Int:=r.2.2.2.2.2.1
abbrev p9(r:dG):Int:=r.2.2.2.2.2.2.1
structure RR(r:dG):Prop where
 z:Km r
 ok:zG r=true
 pol:0≤r.2.2.1
 wait:0≤jb r
 int:jb r≤iL r
 Uo:iL r≤p9 r
 max:p9 r≤604800
 pos:p9 r≠0
theorem akZ{r:dG}(z:Km r)(h:zG r=true):RR r:=by
 have h0:gU (strip r)=0:=by unfold zG at h;simpa using h
 unfold gU at h0;cases h1:(decide (((strip r).2.1.length:Int)>8)||decide (((strip r).2.2.2.1.length:Int)>12))
 ·rw[h1]at h0;cases h2:(!(strip r).2.1.all bD|| !jK (strip r).2.2.2.1)
  ·rw[h2]at h0;cases h3:oF (strip r)
   ·unfold oF at h3;simp only[asg,asy,ar7]at h3;obtain⟨a,b,c,d,e,f⟩:=h3;have a:¬ r.2.2.1<0:=a;have b:¬ r.2.2.2.2.1<0:=b;have c:¬ r.2.2.2.2.1>r.2.2.2.2.2.1:=c;have d:¬ r.2.2.2.2.2.1>r.2.2.2.2.2.2.1:=d;have e:¬ r.2.2.2.2.2.2.1>604800:=e;exact⟨z,h,by omega,by unfold jb;omega,by unfold jb iL;omega,by unfold iL p9;omega,by unfold p9;omega,f⟩
   ·rw[h3]at h0;cases h0
  ·rw[h2]at h0;cases h0
 ·rw[h1]at h0;cases h0
def pos(k:ByteArray):List bH→Nat
 | []=>0
 |m::r=>if Op.bytesLess (aL m).toList k.toList=true then pos k r+1 else 0
def hit(k:ByteArray)(l:List bH):Bool:=match l[pos k l]? with|some m=>decide (aL m=k)|none=>false
theorem RU{k:ByteArray}:∀{l:List bH} {i:Nat},i≤l.length→(∀m∈l.take i,Lt (aL m) k)→(∀m∈l.drop i,¬ Lt (aL m) k)→pos k l=i
 | [],i,h,_,_=>by simp at h;subst h;rfl
 |m::r,0,_,_,h=>by
  unfold pos;rw[if_neg (h m (by simp))]
 |m::r,i+1,h0,h1,h2=>by
  unfold pos;rw[if_pos (h1 m (by simp)),RU (by simpa using h0) (fun x hx=>h1 x (by rw[List.take_succ_cons];exact as0 _ hx)) (fun x hx=>h2 x (by simpa using hx))]
theorem Ee(k:ByteArray):∀l:List bH,pos k l≤l.length
 | []=>arz _
 |m::r=>by
  unfold pos;have:=Ee k r;split<;>simp<;>omega
theorem CG{k:ByteArray}:∀{l:List bH},∀m∈l.take (pos k l),Lt (aL m) k
 | [],m,h=>by simp at h
 |x::r,m,h=>by
  unfold pos at h;split at h
  ·rename_i hx;rw[List.take_succ_cons]at h;rcases arW.1 h with rfl|h
   ·exact hx
   ·exact CG m h
  ·simp at h
theorem pos_at{k:ByteArray}:∀{l:List bH} {m:bH},l[pos k l]?=some m→¬ Lt (aL m) k
 | [],m,h=>by simp at h
 |x::r,m,h=>by
  unfold pos at h;split at h
  ·exact pos_at (by simpa using h)
  ·rename_i hx;simp at h;subst h;exact hx
theorem aby{l:List bH}(h:(l.map aL).Pairwise Less){i:Nat}{e m:bH}(he:l[i]?=some e)(hm:m∈l.drop (i+1)):Less (aL e) (aL m):=by
 obtain⟨j,hj,rfl⟩:=List.mem_drop_iff_getElem.1 hm;obtain⟨h1,rfl⟩:=ark.1 he;have:=List.pairwise_iff_getElem.1 h i (i+1+j) (by rw[arq];exact h1) (by rw[arq];omega) (by omega)
 rwa [List.getElem_map,List.getElem_map]at this
theorem Jf{k:ByteArray}{l:List bH}(h:(l.map aL).Pairwise Less)(hh:hit k l=false):∀m∈l.drop (pos k l),Lt k (aL m):=by
 intro m hm;by_cases hl:pos k l<l.length
 ·obtain⟨e,he,hd⟩:=drop_at hl;have h1:=pos_at he
  have h2:aL e≠k:=by
   unfold hit at hh;rw[he]at hh;simpa using hh
  have h3:Lt k (aL e):=by
   rcases NZ (aL e) k with h|h|h
   ·exact absurd h h1
   ·exact absurd h h2
   ·exact h
  rw[hd]at hm;rcases arW.1 hm with rfl|hm
  ·exact h3
  ·exact lt_trans h3 (fO.1 (aby h he hm))
 ·rw[arI (by omega)]at hm;cases hm
theorem Au{k:ByteArray}{l:List bH}(h:hit k l=true):∃m,l[pos k l]?=some m∧aL m=k:=by
 unfold hit at h;split at h
 ·rename_i m hm;exact⟨m,hm,by simpa using h⟩
 ·cases h
theorem Q8{g:bC}(hlen:(aM g).length≤256)(hup:((aM g).map aL).Pairwise Less)(k:ByteArray):QK ((g,k,()),())=some (((pos k (aM g):Int),hit k (aM g),()),()):=by
 obtain⟨i,o,e,h1,h2,h3,h4,h5⟩:=ahw hlen hup k;have hi:=RU h1 h2 h3
 have ho:hit k (aM g)=o:=by
  unfold hit;rw[hi];cases o
  ·split
   ·rename_i m hm;exact arl (h5 rfl m (arp hm))
   ·rfl
  ·obtain⟨m,hm,hk⟩:=h4 rfl;rw[hm];exact arj hk
 rw[e,hi,ho]
theorem find_eq{g:bC}(h:VG g)(k:ByteArray):QK ((g,k,()),())=some (((pos k (aM g):Int),hit k (aM g),()),()):=Q8 h.len h.up k
def Fy(t:Int):Int:=if t>8589934592 then -1 else t
def eT(se wait int t:Int):Int:=if se= -1 then t+wait else if se+int>t then se+int else t
def gG(du se wait int t:Int):Int:=Fy (if du= -1 then eT se wait int t else if du<eT se wait int t then du else eT se wait int t)
theorem oU(t:Int):QD ((t,()),())=some ((Fy t,()),()):=adI t
theorem jP(t:Int):Ro ((t,()),())=some ((Fy t,()),()):=by
 unfold Ro Fy;by_cases h:t>8589934592
 ·simp only[h,if_true,aA,sS]
 ·simp only[h,if_false,aA,sS]
theorem Yp{t:Int}(h:t≤8589934592):Fy t=t:=by unfold Fy;rw[if_neg (by omega)]
theorem YW{du se wait int t:Int}(h:du≤8589934592):gG du se wait int t=if du= -1∨eT se wait int t<du then Fy (eT se wait int t)else du:=by
 unfold gG;generalize eT se wait int t=n;by_cases h1:du= -1
 ·simp[h1]
 ·by_cases h2:n<du
  ·have h3:¬ du<n:=by omega
   simp[h1,h2,h3]
  ·by_cases h3:du<n
   ·simp[h1,h2,h3,Yp h]
   ·have:n=du:=by omega
    subst this;simp[h1,Yp h]
abbrev jR:L8:=(0,ByteArray.empty,0,0,())
abbrev zL(g:bC)(d:Int):L8:=(g.1,g.2.1,d,bQ g,())
def tq(m:bH)(t:Int):bH:=(m.1,m.2.1,m.2.2.1,t,m.2.2.2.2)
def stepM(m:bH)(on:Bool)(t:Int):bH:=(m.1,m.2.1,t,eu m,on,on,())
abbrev Vi(g:bC)(r:dG)(t:Int):Int:=gG (dU g) (bQ g) (jb r) (iL r) t
def BI(g:bC)(ms:List bH):Int:=if ms.length=0 then -1 else dU g
def lG(g:bC)(r:dG)(l:List LT)(on:Bool)(t:Int):Int×L8×List bH:=
 let k:=gM (dX l)
 let ms:=aM g
 let i:=pos k ms
 if hit k ms=true then
  match ms[i]? with
  |none=>(0,jR,[])
  |some m=>
   if bZ m=on then(0,zL g (dU g),ms.set i (tq m t))
   else if on=true then(0,zL g (dU g),ms.set i (stepM (tq m t) true t))
   else if dD m=true then(0,zL g (Vi g r t),ms.set i (stepM (tq m t) false t))
   else(0,zL g (BI g (ms.take i++ms.drop (i+1))),ms.take i++ms.drop (i+1))
 else if on=true then
  if ms.length=256 then(5,jR,[])else(0,zL g (Vi g r t),ms.take i++ [(k,l,t,t,true,false,())]++ms.drop i)
 else(0,zL g (BI g ms),ms)
abbrev ND(x:Int×L8×List bH):Option ((Int×Unit)×((L8×Unit)×(List bH×Unit))):=some ((x.1,()),((x.2.1,()),(x.2.2,())))
theorem Zk{l:List bH}{i:Nat}{e:bH}(h:l[i]?=some e)(x:bH):(l.set i x)[i]?=some x:=by
 rw[asS (ark.1 h).1]
theorem qj(l:List bH)(i:Nat)(x:bH):(l.set i x).take i=l.take i:=by
 rw[List.take_set,List.set_eq_of_length_le (by rw[ar9];omega)]
theorem yO(l:List bH)(i:Nat)(x:bH):(l.set i x).drop (i+1)=l.drop (i+1):=by
 rw[List.drop_set,if_pos (by omega)]
theorem QB(l:List bH):(((l.length:Nat):Int)==0)=decide (l.length=0):=by
 rw[dY];exact asz.2 (by omega)
theorem al7{g:bC}(h:VG g){r:dG}(hr:RR r){l:List LT}(hl:cO l=true)(on:Bool){t:Int}(ht:0≤t∧t≤8589934592):
  m73 ((g,r,l,on,t,()),())=ND (lG g r l on t):=by
 have q1:=Me h;have q2:=M6 r hr.z;rw[hr.ok]at q2;have q3:=Dv l (iT hl);rw[hl]at q3;have q4:=LD l (iT hl);rw[o6 hl]at q4;have q5:=find_eq h (gM (dX l));have q6:=Np h;have dt:decide ((0:Int)≤t∧t≤8589934592)=true:=arj ht;have hlen:=h.len;have hsent:=h.sent;have hdue:=h.due;have hv:=(fE hl).1;have hw:=hr.wait;have hi:=hr.int;have hp:=hr.Uo;have hx:=hr.max;have w1:aO (bQ g+iL r)=bQ g+iL r:=bI (by omega) (by omega);have w2:aO (t+jb r)=t+jb r:=bI (by omega) (by omega);have hple:=Ee (gM (dX l)) (aM g);obtain⟨rt,ky,ms,du,se,⟨⟩⟩:=g;obtain⟨pa,mt,po,gb,wa,ir,rp,co,⟨⟩⟩:=r;dsimp only[aM,dU,bQ,jb,iL,p9,cor]at *;unfold m73;simp only[q1,q2,q3,q4,q5,q6,Ai,dt,arn,ase,aA,sS];unfold lG;dsimp only[aM,dU,bQ,jb,iL,p9,zL,Vi];have hx0:hit (gM (dX l)) ms=match ms[pos (gM (dX l)) ms]? with|some m=>decide (aL m=(gM (dX l)))|none=>false:=rfl
 generalize pos (gM (dX l)) ms=i at *;cases hh:hit (gM (dX l)) ms
 ·simp only[ar3,if_false,aA,sS];cases on
  ·have b0:((ms.length:Int)==0)=decide (ms.length=0):=by
    rw[dY];exact asz.2 (by omega)
   simp only[BI,aM,dU,b0,eq_self,ar3,if_false,aA,sS];by_cases h0:ms.length=0
   ·simp only[h0,eq_self,if_true,aA,sS]
   ·simp only[h0,eq_self,if_false,aA,sS]
  ·by_cases h6:ms.length=256
   ·have b6:((ms.length:Int)==256)=true:=by rw[dY];exact arj (by omega)
    simp only[b6,eq_self,if_true,aA,sS];rw[if_pos h6]
   ·have b6:((ms.length:Int)==256)=false:=by rw[dY];exact arl (by omega)
    have d1:decide (l.length≤4294967296)=true:=arj (by omega);have d2:decide ((0:Int)≤(i:Int)∧(i:Int)≤(ms.length:Int)∧ms.length≤4294967295)=true:=arj (by omega)
    have b0:((((ms.take i++ [(gM (dX l),l,t,t,true,false,())]++ms.drop i).length:Nat):Int)==0)=false:=by
     rw[dY];exact arl (by simp only[arC,List.length_singleton];omega)
    simp only[b6,h6,aaC,d1,d2,List.length_singleton,arn,eq_self,and_true,if_true,if_false,aA,sS];by_cases hs:se= -1<;>by_cases hd:du= -1
    ·subst hs;subst hd;simp only[w1,w2,gG,eT,oU,b0,eq_self,if_true,if_false,aA,sS]
    ·subst hs;have bd:(du != -1)=true:=asi.2 hd;simp only[w1,w2,bd,hd,gG,eT,oU,b0,eq_self,if_true,if_false,aA,sS]
    ·subst hd;have bs:(se != -1)=true:=asi.2 hs;simp only[w1,w2,bs,hs,gG,eT,oU,b0,eq_self,if_true,if_false,aA,sS]
    ·have bd:(du != -1)=true:=asi.2 hd;have bs:(se != -1)=true:=asi.2 hs;simp only[w1,w2,bd,bs,hd,hs,gG,eT,oU,b0,eq_self,if_true,if_false,aA,sS]
 ·have hm:∃m,ms[i]?=some m:=by
   by_cases hil:i<ms.length
   ·exact getD_some hil
   ·rw[asl (by omega)]at hx0;exact absurd hh (by rw[hx0];simp)
  obtain⟨m,hm⟩:=hm;have hlt:i<ms.length:=(ark.1 hm).1;have db:decide ((0:Int)≤(i:Int)∧(i:Int)<(ms.length:Int))=true:=arj (by omega);have wi:aO ((i:Int)+1)=((i+1:Nat):Int):=aI (by omega);have dd:decide ((0:Int)≤(i:Int)∧(i:Int)<((i+1:Nat):Int)∧((i+1:Nat):Int)≤(ms.length:Int)∧ms.length≤4294967296)=true:=arj (by omega);have sa:=Zk hm;have b0:((ms.length:Int)==0)=false:=by rw[dY];exact arl (by omega)
  obtain⟨mk,ml,mn,mh,mf,mt',⟨⟩⟩:=m;simp only[hm,sa,db,List.set_set,ase,arn,tq,stepM,aL,bq,eu,bZ,dD,eq_self,if_true,aA,sS];have ft:(false==true)=false:=rfl;have tf:(true==false)=false:=rfl;cases mf<;>cases on
  ·simp only[b0,ase,eq_self,if_true,aA,sS]
  ·simp only[ft,b0,ase,eq_self,if_true,if_false,ar3,aA,sS]
  ·cases mt'
   ·simp only[tf,wi,dd,qj,yO,BI,aM,dU,QB,ase,arn,eq_self,if_true,if_false,Bool.true_eq_false,ar3,aA,sS];by_cases h0:(ms.take i++ms.drop (i+1)).length=0
    ·simp only[h0,eq_self,if_true,aA,sS]
    ·simp only[h0,eq_self,if_false,aA,sS]
   ·simp only[tf,if_true,if_false,Bool.true_eq_false,ar3,aA,sS];by_cases hs:se= -1<;>by_cases hd:du= -1
    ·subst hs;subst hd;simp only[w1,w2,gG,eT,oU,b0,ase,eq_self,if_true,if_false,aA,sS]
    ·subst hs;have bd:(du != -1)=true:=asi.2 hd;simp only[w1,w2,bd,hd,gG,eT,oU,b0,ase,eq_self,if_true,if_false,aA,sS]
    ·subst hd;have bs:(se != -1)=true:=asi.2 hs;simp only[w1,w2,bs,hs,gG,eT,oU,b0,ase,eq_self,if_true,if_false,aA,sS]
    ·have bd:(du != -1)=true:=asi.2 hd;have bs:(se != -1)=true:=asi.2 hs;simp only[w1,w2,bd,bs,hd,hs,gG,eT,oU,b0,ase,eq_self,if_true,if_false,aA,sS]
  ·simp only[b0,ase,eq_self,if_true,aA,sS]
theorem SY{g:bC}(h:(aM g).length≤4294967296):V6 ((g,()),())=some ((),((cor g,()),(aM g,()))):=by
 unfold V6;have:decide (0+g.2.2.1.length≤4294967296)=true:=arj (by simpa using h);simp only[this,aA,sS];rfl
theorem GN(k:ByteArray)(m:bH)(r:List bH):pos k (m::r)=if Op.bytesLess (aL m).toList k.toList=true then pos k r+1 else 0:=rfl
theorem agO(k:ByteArray)(ms:List bH)(hl:ms.length≤1000):aC y7 (((0:Int),k,()),(ms,()))=some ((k,(pos k ms:Int),()),(ms,())):=by
 have key:∀(d i:Nat),i+d=ms.length→pos k ms=i+pos k (ms.drop i)→aC y7 (((i:Int),k,()),(ms,()))=some ((k,(pos k ms:Int),()),(ms,())):=by
  intro d
  induction d with
  |zero=>
   intro i hi hp;rw[arI (by omega)]at hp;have:pos k ms=i:=hp;rw[this];refine aF ?_;have:decide ((i:Int)<((ms.length:Nat):Int))=false:=arl (by omega);simp only[y7,this,aA,sS]
  |succ d ih=>
   intro i hi hp;obtain⟨e,he,hd⟩:=drop_at (l:=ms) (i:=i) (by omega);rw[hd]at hp;have h1:decide ((i:Int)<((ms.length:Nat):Int))=true:=arj (by omega);have h2:decide ((0:Int)≤(i:Int)∧(i:Int)<(ms.length:Int))=true:=arj (by omega);have hw:aO ((i:Int)+1)=((i+1:Nat):Int):=aI (by omega);rw[GN]at hp;by_cases hlt:Op.bytesLess (aL e).toList k.toList=true
   ·rw[if_pos hlt]at hp;have q:=ih (i+1) (by omega) (by omega);rw[←q];refine aH ?_;simp only[aL]at hlt;simp only[y7,h1,h2,arn,he,hlt,hw,aA,sS]
   ·rw[if_neg hlt]at hp;rw[show pos k ms=i from hp];refine aF ?_;simp only[aL,Bool.not_eq_true]at hlt;simp only[y7,h1,h2,arn,he,hlt,hw,aA,sS]
 exact key ms.length 0 (by omega) (by simp)
theorem NV{g:bC}(h:VG g):m88 ((g,()),())=some ((true,()),()):=by
 have:=ac2 g ⟨by have:=h.len;unfold big;omega,fun m hm=>iT (h.mem m hm).lab⟩
 rwa [Xh.2 h]at this
theorem ZH(ms:List bH)(i:Nat)(z x:bH)(hi:i≤ms.length):
  (bK (ms++ [z]) (i+1) (((((ms++ [z]).drop i).take ((ms++ [z]).length-i))).take ((ms++ [z]).length-(i+1)))).set i x=ms.take i++ [x]++ms.drop i:=by
 have hl:(ms++ [z]).length=ms.length+1:=by simp
 have a1:((ms++ [z]).drop i).take ((ms++ [z]).length-i)=ms.drop i++ [z]:=by
  rw[arY (by rw[arR];exact arz _),List.drop_append_of_le_length hi]
 have e1:(ms.drop i++ [z]).take ((ms++ [z]).length-(i+1))=ms.drop i:=by
  rw[hl,asJ (by rw[arR];omega),arY (by rw[arR];omega)]
 have a3:(ms++ [z]).drop (i+1+(ms.drop i).length)=[]:=arI (by rw[hl,arR];omega)
 have e2:(ms++ [z]).take (i+1)=ms.take i++ [(ms++ [z])[i]'(by rw[hl];omega)]:=by
  rw[List.take_succ_eq_append_getElem (by rw[hl];omega),asJ hi]
 rw[a1,e1];unfold bK;rw[a3,arP,e2,arJ,List.set_append_right _ _ (by rw[ar9];omega)];rw[show i-(ms.take i).length=0 by rw[ar9];omega];simp
theorem ac6(ms:List bH)(i:Nat)(z:bH)(hi:i≤ms.length):
  (bK (ms++ [z]) (i+1) (((((ms++ [z]).drop i).take ((ms++ [z]).length-i))).take ((ms++ [z]).length-(i+1)))).length=ms.length+1:=by
 have:=congrArg List.length (ZH ms i z z hi);rw[ase]at this;rw[this];simp;omega
theorem anf{g:bC}(h:VG g){r:dG}(hr:RR r){l:List LT}(hl:cO l=true)(on:Bool){t:Int}(ht:0≤t∧t≤8589934592):
  m92 ((g,r,l,on,t,()),())=ND (lG g r l on t):=by
 have q1:=NV h;have q2:=Ni r hr.z;rw[hr.ok]at q2;have q3:=Dz l (iT hl);rw[hl]at q3;have q4:=R4 l (iT hl);rw[o6 hl]at q4;have hlen:=h.len;have q5:=agO (gM (dX l)) (aM g) (by omega);have q6:=SY (g:=g) (by omega);have dt:inst t=true:=arj ht;have hsent:=h.sent;have hdue:=h.due;have hv:=(fE hl).1;have hw:=hr.wait;have hi:=hr.int;have hp:=hr.Uo;have hx:=hr.max;have w1:aO (bQ g+iL r)=bQ g+iL r:=bI (by omega) (by omega);have w2:aO (t+jb r)=t+jb r:=bI (by omega) (by omega);have hple:=Ee (gM (dX l)) (aM g);have hwr:=fun wa ir=>YW (du:=dU g) (se:=bQ g) (wait:=wa) (int:=ir) (t:=t) hdue.2
 obtain⟨rt,ky,ms,du,se,⟨⟩⟩:=g;obtain⟨pa,mt,po,gb,wa,ir,rp,co,⟨⟩⟩:=r;dsimp only[aM,dU,bQ,jb,iL,p9,cor]at *;unfold m92;simp only[q1,q2,q3,q4,q6,yg,dt,arn,ase,aA,sS];refine aN _ q5 ?_;unfold lG;dsimp only[aM,dU,bQ,jb,iL,p9,zL,Vi];have hx0:hit (gM (dX l)) ms=match ms[pos (gM (dX l)) ms]? with|some m=>decide (aL m=(gM (dX l)))|none=>false:=rfl
 generalize pos (gM (dX l)) ms=i at *
 have key:∀F:((Int×Bool×Unit)×(List bH×Unit))→Option ((Int×Unit)×((L8×Unit)×(List bH×Unit))),
   ((bif decide ((i:Int)<((ms.length:Nat):Int))then(bif (decide ((0:Int)≤(i:Int)∧(i:Int)<(ms.length:Int)))then
     (ms[i]?).bind fun e219=>some (((i:Int),((e219.1.toList==(gM (dX l)).toList),())),(ms,()))
     else none)else(some (((i:Int),(false,())),(ms,()))):Option ((Int×Bool×Unit)×(List bH×Unit))).bind F)=F (((i:Int),(hit (gM (dX l)) ms,())),(ms,())):=by
  intro F;rw[hx0];by_cases hil:i<ms.length
  ·obtain⟨e,he⟩:=getD_some hil;have h1:decide ((i:Int)<((ms.length:Nat):Int))=true:=arj (by omega);have h2:decide ((0:Int)≤(i:Int)∧(i:Int)<(ms.length:Int))=true:=arj (by omega);simp only[h1,h2,he,bg,gB,aL,aA,sS]
  ·have h1:decide ((i:Int)<((ms.length:Nat):Int))=false:=arl (by omega);simp only[h1,asl (show ms.length≤i by omega),aA,sS]
 refine(key _).trans ?_;dsimp only;cases hh:hit (gM (dX l)) ms
 ·simp only[ar3,if_false,eq_self,aA,sS];cases on
  ·simp only[BI,aM,dU,QB,eq_self,ar3,if_false,aA,sS];by_cases h0:ms.length=0
   ·simp only[h0,eq_self,if_true,aA,sS]
   ·simp only[h0,eq_self,if_false,aA,sS]
  ·by_cases h6:ms.length=256
   ·have b6:decide (((ms.length:Nat):Int)≥256)=true:=arj (by omega);simp only[b6,eq_self,if_true,aA,sS];rw[if_pos h6]
   ·have b6:decide (((ms.length:Nat):Int)≥256)=false:=arl (by omega);have d1:decide (0+l.length≤4294967296)=true:=arj (by omega);have d2:decide (ms.length+([(ByteArray.empty,([],(0,(0,(false,(false,()))))))]:List bH).length≤4294967296)=true:=arj (by simp;omega);have hxl:(ms++([(ByteArray.empty,([],(0,(0,(false,(false,()))))))]:List bH)).length=ms.length+1:=by simp
    have wi:aO ((i:Int)+1)=((i+1:Nat):Int):=aI (by omega);have d3:decide ((0:Int)≤((i+1:Nat):Int))=true:=arj (by omega);have d4:decide ((0:Int)≤(i:Int))=true:=arj (by omega);have d5:decide (i+1≤ms.length+1∧ms.length+1≤ms.length+1)=true:=arj (by omega);have d6:decide (i≤ms.length+1∧ms.length+1≤ms.length+1)=true:=arj (by omega);have d7:decide (i+(ms.length+1-i)≤ms.length+1)=true:=arj (by omega);have d8:decide (i+1+(ms.length+1-(i+1))≤ms.length+1)=true:=arj (by omega);have d9:decide ((0:Int)≤(i:Int)∧(i:Int)<((ms.length+1:Nat):Int))=true:=arj (by omega);have d10:decide (i<ms.length+1)=true:=arj (by omega);have e1:=ac6 ms i (ByteArray.empty,([],(0,(0,(false,(false,())))))) (by omega);have e2:=ZH ms i (ByteArray.empty,([],(0,(0,(false,(false,())))))) (gM (dX l),l,t,t,true,false,()) (by omega);rw[hxl]at e1 e2
    have e3:(ms.take i++ [(gM (dX l),l,t,t,true,false,())]++ms.drop i).length=ms.length+1:=by simp;omega
    simp only[b6,h6,d1,d2,hxl,wi,d3,d4,d5,d6,d7,d8,arn,e1,d9,d10,e2,eq_self,if_true,if_false,aA,sS];rw[hwr];by_cases hs:se= -1<;>by_cases hd:du= -1
    ·subst hs;subst hd;simp only[w1,w2,eT,jP,e3,eq_self,true_or,if_true,if_false,aA,sS]
    ·subst hs;have bd:(du== -1)=false:=ar7.2 hd;by_cases hn:t+wa<du
     ·simp only[w1,w2,bd,hd,hn,arj hn,eT,jP,e3,eq_self,or_true,if_true,if_false,aA,sS]
     ·simp only[w1,w2,bd,hd,hn,arl hn,eT,jP,e3,eq_self,or_self,if_true,if_false,aA,sS]
    ·subst hd;have bs:(se != -1)=true:=asi.2 hs;simp only[w1,w2,bs,hs,eT,jP,e3,eq_self,true_or,if_true,if_false,aA,sS]
    ·have bd:(du== -1)=false:=ar7.2 hd;have bs:(se != -1)=true:=asi.2 hs;by_cases hn:(if se+ir>t then se+ir else t)<du
     ·simp only[w1,w2,bd,bs,hd,hs,hn,arj hn,eT,jP,e3,eq_self,or_true,if_true,if_false,aA,sS]
     ·simp only[w1,w2,bd,bs,hd,hs,hn,arl hn,eT,jP,e3,eq_self,or_self,if_true,if_false,aA,sS]
 ·have hm:∃m,ms[i]?=some m:=by
   by_cases hil:i<ms.length
   ·exact getD_some hil
   ·rw[asl (by omega)]at hx0;exact absurd hh (by rw[hx0];simp)
  obtain⟨m,hm⟩:=hm;have hlt:i<ms.length:=(ark.1 hm).1;have db:decide ((0:Int)≤(i:Int)∧(i:Int)<(ms.length:Int))=true:=arj (by omega);have wi:aO ((i:Int)+1)=((i+1:Nat):Int):=aI (by omega);have d3:decide ((0:Int)≤((i+1:Nat):Int))=true:=arj (by omega);have d4:decide ((0:Int)≤(i:Int))=true:=arj (by omega);have d5:decide (0≤i∧i≤ms.length)=true:=arj (by omega);have d6:decide (i+1≤ms.length∧ms.length≤ms.length)=true:=arj (by omega);have d7:decide (i+1+(ms.length-(i+1))≤ms.length)=true:=arj (by omega);have e0:(ms.drop (i+1)).take (ms.length-(i+1))=ms.drop (i+1):=arY (by rw[arR];omega);have d8:decide (i≤ms.length∧i+(ms.drop (i+1)).length≤4294967296)=true:=arj (by rw[arR];omega);have sa:=Zk hm;obtain⟨mk,ml,mn,mh,mf,mt',⟨⟩⟩:=m;simp only[hm,sa,db,List.set_set,ase,arn,tq,stepM,aL,bq,eu,bZ,dD,eq_self,if_true,aA,sS];cases mf<;>cases on
  ·simp only[sa,eq_self,if_true,aA,sS]
  ·simp only[sa,List.set_set,eq_self,if_true,if_false,ar3,Bool.true_eq_false,aA,sS]
  ·cases mt'
   ·simp only[sa,db,wi,d3,d4,d5,d6,d7,d8,e0,true_and,qj,yO,BI,aM,dU,QB,ase,arn,eq_self,if_true,if_false,Bool.true_eq_false,ar3,aA,sS];by_cases h0:(ms.take i++ms.drop (i+1)).length=0
    ·simp only[h0,eq_self,if_true,aA,sS]
    ·simp only[h0,eq_self,if_false,aA,sS]
   ·simp only[sa,db,List.set_set,ase,arn,if_true,if_false,Bool.true_eq_false,ar3,aA,sS];rw[hwr];by_cases hs:se= -1<;>by_cases hd:du= -1
    ·subst hs;subst hd;simp only[w1,w2,eT,jP,ase,eq_self,true_or,if_true,if_false,aA,sS]
    ·subst hs;have bd:(du== -1)=false:=ar7.2 hd;by_cases hn:t+wa<du
     ·simp only[w1,w2,bd,hd,hn,arj hn,eT,jP,ase,eq_self,or_true,if_true,if_false,aA,sS]
     ·simp only[w1,w2,bd,hd,hn,arl hn,eT,jP,ase,eq_self,or_self,if_true,if_false,aA,sS]
    ·subst hd;have bs:(se != -1)=true:=asi.2 hs;simp only[w1,w2,bs,hs,eT,jP,ase,eq_self,true_or,if_true,if_false,aA,sS]
    ·have bd:(du== -1)=false:=ar7.2 hd;have bs:(se != -1)=true:=asi.2 hs;by_cases hn:(if se+ir>t then se+ir else t)<du
     ·simp only[w1,w2,bd,bs,hd,hs,hn,arj hn,eT,jP,ase,eq_self,or_true,if_true,if_false,aA,sS]
     ·simp only[w1,w2,bd,bs,hd,hs,hn,arl hn,eT,jP,ase,eq_self,or_self,if_true,if_false,aA,sS]
  ·simp only[sa,eq_self,if_true,aA,sS]
def SA(m:bH)(t a:Int):Bool:=bZ m&&decide (eu m≤t-a)
def jF(se wa ir t a:Int):List bH→Int→List bH→List bH×Int
 |kept,du,[]=>(kept,du)
 |kept,du,m::r=>
  if SA m t a=true then
   if dD m=true then jF se wa ir t a (kept++ [stepM m false t]) (gG du se wa ir t) r
   else jF se wa ir t a kept (if(kept++r).length=0 then -1 else du) r
  else jF se wa ir t a (kept++ [m]) du r
def yD(g:bC)(r:dG)(t a:Int):Int×L8×List bH:=
 if a=0 then(0,zL g (dU g),aM g)
 else(0,zL g (jF (bQ g) (jb r) (iL r) t a [] (dU g) (aM g)).2,(jF (bQ g) (jb r) (iL r) t a [] (dU g) (aM g)).1)
theorem ad4{A B:List bH}{m:bH}(h:((A++m::B).map aL).Pairwise Less):pos (aL m) (A++m::B)=A.length∧hit (aL m) (A++m::B)=true:=by
 rw[arM,arF,List.pairwise_append]at h;obtain⟨h1,h2,h3⟩:=h;have h2:=asA.1 h2
 have hp:pos (aL m) (A++m::B)=A.length:=by
  refine RU (by simp) (fun x hx=> ?_) (fun x hx=> ?_)
  ·rw[List.take_left' rfl]at hx;exact fO.1 (h3 (aL x) (List.mem_map_of_mem hx) (aL m) (by simp))
  ·rw[List.drop_left' rfl]at hx;rcases arW.1 hx with rfl|hx
   ·exact oW _
   ·exact fun hc=>oW _ (lt_trans (fO.1 (h2.1 (aL x) (List.mem_map_of_mem hx))) hc)
 refine⟨hp,?_⟩;unfold hit;rw[hp,ar1 (arz _),Nat.sub_self];simp
theorem DL(A:List bH)(m:bH)(B:List bH):(A++m::B)[A.length]?=some m:=by
 rw[ar1 (arz _),Nat.sub_self];rfl
theorem Nf(A:List bH)(m x:bH)(B:List bH):(A++m::B).set A.length x=A++x::B:=by
 rw[List.set_append_right _ _ (arz _),Nat.sub_self];rfl
theorem Qn(A:List bH)(m:bH)(B:List bH):(A++m::B).take A.length=A:=List.take_left' rfl
theorem OE(A:List bH)(m:bH)(B:List bH):(A++m::B).drop (A.length+1)=B:=by
 rw[List.drop_append,arI (by omega),asR];simp
theorem Rn{du se wa ir t:Int}(h1:0≤t∧t≤8589934592)(h2:0≤wa)(h3: -1≤du∧du≤8589934592)(h4: -1≤se)(h5:0≤ir): -1≤gG du se wa ir t∧gG du se wa ir t≤8589934592:=by
 unfold gG eT Fy;split<;>split<;>(repeat' split)<;>omega
theorem Rv(rt:Int)(ky:ByteArray)(se t a:Int){r:dG}(hr:RR r)(gms:List bH)(hse: -1≤se∧se≤8589934592)(ht:0≤t∧t≤8589934592)(ha:0≤a∧a≤604800)(hg:gms.length≤256):∀(rem:List bH) (i:Nat) (kept:List bH) (du:Int),gms.drop i=rem→i≤gms.length→
  ((kept++rem).map aL).Pairwise Less→kept.length≤i→ -1≤du∧du≤8589934592→
  aC rC (((i:Int),t,a,gms,(gms.length:Int),()),(((rt,ky,du,se,()),()),((r,()),((jR,()),(kept++rem,())))))=
   some ((),((jR,()),(((rt,ky,(jF se (jb r) (iL r) t a kept du rem).2,se,()),()),((jF se (jb r) (iL r) t a kept du rem).1,())))):=by
 intro rem
 induction rem with
 |nil=>
  intro i kept du hd hi hup hk hdu
  have:i=gms.length:=by
   have:=congrArg List.length hd;rw[arR]at this;simp at this;omega
  subst this;refine aF ?_;simp only[rC,bX,jF,arP,aA,sS]
 |cons m rem ih=>
  intro i kept du hd hi hup hk hdu
  have hlt:i<gms.length:=by
   have:=congrArg List.length hd;rw[arR]at this;simp at this;omega
  obtain⟨e,he,hd2⟩:=drop_at hlt;rw[hd2]at hd;injection hd with hd0 hd1;subst hd0
  have hrl:rem.length+(i+1)=gms.length:=by
   rw[←hd1,arR];omega
  have hw:=aI (i:=i) (by omega);have hkl:(kept++e::rem).length≤256:=by simp;omega
  obtain⟨hp,hh⟩:=ad4 hup;have q:=Q8 (g:=(rt,ky,kept++e::rem,du,se,())) hkl hup (aL e);dsimp only[aM]at q;rw[hp,hh]at q;have hup1:((kept++ [e]++rem).map aL).Pairwise Less:=by rw[arJ];exact hup
  have next:=fun x (hx:aL x=aL e) du' hdu'=>ih (i+1) (kept++ [x]) du' hd1 (by omega) (by
   rw[arJ];rw[arM,arM,arF,arT,hx];rw[arM,arF]at hup;exact hup) (by simp;omega) hdu'
  have w3:aO (t-a)=t-a:=bI (by omega) (by omega);obtain⟨pa,mt,po,gb,wa,ir,rp,co,⟨⟩⟩:=r;have hwa:=hr.wait;have hir:=hr.int;have hrp:=hr.Uo;have hmx:=hr.max;dsimp only[jb,iL,p9]at *;obtain⟨mk,ml,mn,mh,mf,mt',⟨⟩⟩:=e;dsimp only[aL]at *;unfold jF;by_cases ho:SA (mk,ml,mn,mh,mf,mt',()) t a=true
  ·rw[if_pos ho];unfold SA at ho;dsimp only[bZ,eu]at ho;rw[ar8]at ho;obtain⟨rfl,ho⟩:=ho;have hkl2:kept.length+(rem.length+1)≤256:=by simpa using hkl
   have db:decide ((0:Int)≤(kept.length:Int)∧(kept.length:Int)<((kept.length+(rem.length+1):Nat):Int))=true:=arj (by omega);have wk:aO ((kept.length:Int)+1)=((kept.length+1:Nat):Int):=aI (by omega);have dd:decide ((0:Int)≤(kept.length:Int)∧(kept.length:Int)<((kept.length+1:Nat):Int)∧((kept.length+1:Nat):Int)≤((kept.length+(rem.length+1):Nat):Int)∧kept.length+(rem.length+1)≤4294967296)=true:=arj (by omega);have tf:(true==false)=false:=rfl;have sl:∀x:bH,(kept++x::rem).length=kept.length+(rem.length+1):=fun x=>by simp
   have sz:((((kept.length+(rem.length+1):Nat):Int))==0)=false:=by rw[dY];exact arl (by omega)
   cases mt'
   ·have n0:(if dD ((mk,ml,mn,mh,true,false,()):bH)=true then jF se wa ir t a (kept++ [stepM (mk,ml,mn,mh,true,false,()) false t]) (gG du se wa ir t) rem else jF se wa ir t a kept (if(kept++rem).length=0 then -1 else du) rem)=jF se wa ir t a kept (if(kept++rem).length=0 then -1 else du) rem:=rfl;rw[n0]
    have q2:=ih (i+1) kept (if(kept++rem).length=0 then -1 else du) hd1 (by omega) (by
     rw[arM,arF]at hup;rw[arM];exact hup.sublist (List.Sublist.append (List.Sublist.refl _) (List.sublist_cons_self _ _))) (by omega) (by split<;>omega)
    rw[←q2];refine aH ?_;simp only[rC,bO hlt,aJ,aD he,q,w3,ho,aA,sS];simp only[sl,db,arn,DL,tf,wk,dd,Qn,OE,QB,eq_self,aA,sS];by_cases h0:(kept++rem).length=0
    ·simp only[h0,hw,eq_self,if_true,aA,sS]
    ·simp only[h0,hw,eq_self,if_false,aA,sS]
   ·have n0:(if dD ((mk,ml,mn,mh,true,true,()):bH)=true then jF se wa ir t a (kept++ [stepM (mk,ml,mn,mh,true,true,()) false t]) (gG du se wa ir t) rem else jF se wa ir t a kept (if(kept++rem).length=0 then -1 else du) rem)=jF se wa ir t a (kept++ [stepM (mk,ml,mn,mh,true,true,()) false t]) (gG du se wa ir t) rem:=rfl;rw[n0,←next (stepM (mk,ml,mn,mh,true,true,()) false t) rfl (gG du se wa ir t) (Rn ht hwa hdu hse.1 (by omega)),arJ];refine aH ?_;have w1:aO (se+ir)=se+ir:=bI (by omega) (by omega);have w2:aO (t+wa)=t+wa:=bI (by omega) (by omega);simp only[rC,bO hlt,aJ,aD he,q,w3,ho,aA,sS];simp only[sl,db,arn,DL,Nf,tf,as8,stepM,eu,eq_self,aA,sS];by_cases hs:se= -1<;>by_cases hd:du= -1
    ·subst hs;subst hd;simp only[w1,w2,gG,eT,oU,sl,sz,hw,eq_self,if_true,if_false,aA,sS]
    ·subst hs;have bd:(du != -1)=true:=asi.2 hd;simp only[w1,w2,bd,hd,gG,eT,oU,sl,sz,hw,eq_self,if_true,if_false,aA,sS]
    ·subst hd;have bs:(se != -1)=true:=asi.2 hs;simp only[w1,w2,bs,hs,gG,eT,oU,sl,sz,hw,eq_self,if_true,if_false,aA,sS]
    ·have bd:(du != -1)=true:=asi.2 hd;have bs:(se != -1)=true:=asi.2 hs;simp only[w1,w2,bd,bs,hd,hs,gG,eT,oU,sl,sz,hw,eq_self,if_true,if_false,aA,sS]
  ·rw[if_neg ho];rw[←next _ rfl du hdu,arJ];refine aH ?_;unfold SA at ho;dsimp only[bZ,eu]at ho;simp only[rC,bO hlt,aJ,aD he,q,w3,aA,sS];cases mf
   ·simp only[hw,as8,aA,sS]
   ·have:decide (mh≤t-a)=false:=by simpa using ho
    simp only[this,hw,as8,aA,sS]
theorem amT{g:bC}(h:VG g){r:dG}(hr:RR r){t a:Int}(ht:0≤t∧t≤8589934592)(ha:0≤a∧a≤604800):acs ((g,r,t,a,()),())=ND (yD g r t a):=by
 have q1:=Me h;have q2:=M6 r hr.z;rw[hr.ok]at q2;have q6:=Np h;have dt:decide ((0:Int)≤t∧t≤8589934592)=true:=arj ht;have da:decide ((0:Int)≤a∧a≤604800)=true:=arj ha;have hl:=Rv g.1 g.2.1 (bQ g) t a hr (aM g) h.sent ht ha h.len (aM g) 0 [] (dU g) rfl (arO _) h.up (arO _) h.due;obtain⟨rt,ky,ms,du,se,⟨⟩⟩:=g;dsimp only[aM,dU,bQ,cor]at *;unfold acs yD;simp only[q1,q2,q6,Ai,dt,da,aA,sS];by_cases h0:a=0
 ·subst h0;simp only[eq_self,if_true,asu,aA,sS]
 ·have b0:(a==0)=false:=ar7.2 h0;rw[if_neg h0,b0];simp only[aA,sS];exact aN _ hl rfl
theorem Tp(rt:Int)(ky:ByteArray)(se t a:Int){r:dG}(hr:RR r)(hse: -1≤se∧se≤8589934592)(ht:0≤t∧t≤8589934592)(ha:0<a∧a≤604800):∀(rem:List bH) (kept:List bH) (du:Int),
  kept.length+rem.length≤256→ -1≤du∧du≤8589934592→
  aC lS (((kept.length:Int),t,a,()),(((rt,ky,du,se,()),()),((r,()),((jR,()),(kept++rem,())))))=
   some ((),((jR,()),(((rt,ky,(jF se (jb r) (iL r) t a kept du rem).2,se,()),()),((jF se (jb r) (iL r) t a kept du rem).1,())))):=by
 intro rem
 induction rem with
 |nil=>
  intro kept du hk hdu;rw[arP];refine aF ?_;have:decide ((kept.length:Int)<((kept.length:Nat):Int))=false:=arl (by omega);simp only[lS,this,jF,aA,sS]
 |cons m rem ih=>
  intro kept du hk hdu;have w3:aO (t-a)=t-a:=bI (by omega) (by omega);have da:decide (a>0)=true:=arj ha.1;simp only[arS]at hk;have wk:aO ((kept.length:Int)+1)=((kept.length+1:Nat):Int):=aI (by omega);have next:=fun x du' hdu'=>ih (kept++ [x]) du' (by simp;omega) hdu'
  have sl:∀x:bH,(kept++x::rem).length=kept.length+(rem.length+1):=fun x=>by simp
  have b1:decide ((kept.length:Int)<((kept.length+(rem.length+1):Nat):Int))=true:=arj (by omega);have b2:decide ((0:Int)≤(kept.length:Int)∧(kept.length:Int)<((kept.length+(rem.length+1):Nat):Int))=true:=arj (by omega);have hk1:∀x:bH,(((kept++ [x]).length:Nat):Int)=((kept.length+1:Nat):Int):=fun x=>by simp
  obtain⟨pa,mt,po,gb,wa,ir,rp,co,⟨⟩⟩:=r;have hwa:=hr.wait;have hir:=hr.int;have hrp:=hr.Uo;have hmx:=hr.max;dsimp only[jb,iL,p9]at *;obtain⟨mk,ml,mn,mh,mf,mt',⟨⟩⟩:=m;unfold jF;by_cases ho:SA (mk,ml,mn,mh,mf,mt',()) t a=true
  ·rw[if_pos ho];unfold SA at ho;dsimp only[bZ,eu]at ho;rw[ar8]at ho;obtain⟨rfl,ho⟩:=ho;cases mt'
   ·have n0:(if dD ((mk,ml,mn,mh,true,false,()):bH)=true then jF se wa ir t a (kept++ [stepM (mk,ml,mn,mh,true,false,()) false t]) (gG du se wa ir t) rem else jF se wa ir t a kept (if(kept++rem).length=0 then -1 else du) rem)=jF se wa ir t a kept (if(kept++rem).length=0 then -1 else du) rem:=rfl;rw[n0];have q2:=ih kept (if(kept++rem).length=0 then -1 else du) (by omega) (by split<;>omega);rw[←q2];refine aH ?_;have c1:decide ((0:Int)≤(kept.length:Int))=true:=arj (by omega);have c2:decide (0≤kept.length∧kept.length≤kept.length+(rem.length+1))=true:=arj (by omega);have c3:decide ((0:Int)≤((kept.length+1:Nat):Int))=true:=arj (by omega);have c4:decide (kept.length+1≤kept.length+(rem.length+1)∧kept.length+(rem.length+1)≤kept.length+(rem.length+1))=true:=arj (by omega);have c5:decide (kept.length+1+(kept.length+(rem.length+1)-(kept.length+1))≤kept.length+(rem.length+1))=true:=arj (by omega)
    have e0:rem.take (kept.length+(rem.length+1)-(kept.length+1))=rem:=arY (by omega);have c6:decide (kept.length≤kept.length+(rem.length+1)∧kept.length+rem.length≤4294967296)=true:=arj (by omega);have c7:decide ((((kept++rem).length:Nat):Int)<((kept.length+(rem.length+1):Nat):Int))=true:=arj (by simp;omega);simp only[lS,sl,b1,b2,arn,DL,da,w3,ho,c1,c2,wk,c3,c4,c5,Qn,OE,e0,c6,QB,true_and,eq_self,aA,sS];by_cases h0:(kept++rem).length=0
    ·simp only[h0,eq_self,if_true,aA,sS];rw[h0]at c7;simp only[c7,aA,sS]
    ·simp only[h0,c7,eq_self,if_false,aA,sS]
   ·have n0:(if dD ((mk,ml,mn,mh,true,true,()):bH)=true then jF se wa ir t a (kept++ [stepM (mk,ml,mn,mh,true,true,()) false t]) (gG du se wa ir t) rem else jF se wa ir t a kept (if(kept++rem).length=0 then -1 else du) rem)=jF se wa ir t a (kept++ [stepM (mk,ml,mn,mh,true,true,()) false t]) (gG du se wa ir t) rem:=rfl;rw[n0,←next (stepM (mk,ml,mn,mh,true,true,()) false t) (gG du se wa ir t) (Rn ht hwa hdu hse.1 (by omega)),arJ,hk1];refine aH ?_;have w1:aO (se+ir)=se+ir:=bI (by omega) (by omega);have w2:aO (t+wa)=t+wa:=bI (by omega) (by omega);have c7:decide (((kept.length+(rem.length+1):Nat):Int)<((kept.length+(rem.length+1):Nat):Int))=false:=arl (by omega);rw[YW hdu.2];simp only[lS,sl,b1,b2,arn,DL,Nf,da,w3,ho,as8,stepM,eu,eq_self,aA,sS];by_cases hs:se= -1<;>by_cases hd:du= -1
    ·subst hs;subst hd;simp only[w1,w2,eT,jP,sl,c7,wk,eq_self,true_or,if_true,if_false,aA,sS]
    ·subst hs;have bd:(du== -1)=false:=ar7.2 hd;by_cases hn:t+wa<du
     ·simp only[w1,w2,bd,hd,hn,arj hn,eT,jP,sl,c7,wk,eq_self,or_true,if_true,if_false,aA,sS]
     ·simp only[w1,w2,bd,hd,hn,arl hn,eT,jP,sl,c7,wk,eq_self,or_self,if_true,if_false,aA,sS]
    ·subst hd;have bs:(se != -1)=true:=asi.2 hs;simp only[w1,w2,bs,hs,eT,jP,sl,c7,wk,eq_self,true_or,if_true,if_false,aA,sS]
    ·have bd:(du== -1)=false:=ar7.2 hd;have bs:(se != -1)=true:=asi.2 hs;by_cases hn:(if se+ir>t then se+ir else t)<du
     ·simp only[w1,w2,bd,bs,hd,hs,hn,arj hn,eT,jP,sl,c7,wk,eq_self,or_true,if_true,if_false,aA,sS]
     ·simp only[w1,w2,bd,bs,hd,hs,hn,arl hn,eT,jP,sl,c7,wk,eq_self,or_self,if_true,if_false,aA,sS]
  ·rw[if_neg ho];rw[←next _ du hdu,arJ,hk1];refine aH ?_;unfold SA at ho;dsimp only[bZ,eu]at ho;simp only[lS,sl,b1,b2,arn,DL,da,w3,aA,sS];cases mf
   ·simp only[wk,as8,aA,sS]
   ·have:decide (mh≤t-a)=false:=by simpa using ho
    simp only[this,wk,as8,aA,sS]
theorem Sy(rt:Int)(ky:ByteArray)(se t du:Int){r:dG}(ms:List bH)(hl:ms.length≤256):
  aC lS (((0:Int),t,0,()),(((rt,ky,du,se,()),()),((r,()),((jR,()),(ms,())))))=some ((),((jR,()),(((rt,ky,du,se,()),()),(ms,())))):=by
 refine dM ms (fun i=>(((i:Int),t,0,()),(((rt,ky,du,se,()),()),((r,()),((jR,()),(ms,())))))) _ (fun i e he hi=> ?_) (by
  have:decide ((ms.length:Int)<((ms.length:Nat):Int))=false:=arl (by omega);simp only[lS,this,aA,sS])
 have b1:decide ((i:Int)<((ms.length:Nat):Int))=true:=arj (by omega);have b2:decide ((0:Int)≤(i:Int)∧(i:Int)<(ms.length:Int))=true:=arj (by omega);have da:decide ((0:Int)>0)=false:=rfl;have wk:aO ((i:Int)+1)=((i+1:Nat):Int):=aI (by omega);simp only[lS,b1,b2,arn,he,da,wk,aA,sS]
theorem ajP{g:bC}(h:VG g){r:dG}(hr:RR r){t a:Int}(ht:0≤t∧t≤8589934592)(ha:0≤a∧a≤604800):m94 ((g,r,t,a,()),())=ND (yD g r t a):=by
 have q1:=NV h;have q2:=Ni r hr.z;rw[hr.ok]at q2;have hlen:=h.len;have q6:=SY (g:=g) (by omega);have dt:inst t=true:=arj ht;have d1:decide (a<0)=false:=arl (by omega);have d2:decide (a>604800)=false:=arl (by omega)
 have hl:aC lS (((0:Int),t,a,()),(((g.1,g.2.1,dU g,bQ g,()),()),((r,()),((jR,()),(aM g,())))))=some ((),((jR,()),(((yD g r t a).2.1,()),((yD g r t a).2.2,())))):=by
  unfold yD;by_cases h0:a=0
  ·subst h0;rw[if_pos rfl];exact Sy _ _ _ _ _ _ hlen
  ·rw[if_neg h0];exact Tp g.1 g.2.1 (bQ g) t a hr h.sent ht (by omega) (aM g) [] (dU g) (by simpa using hlen) h.due
 have he:(yD g r t a).1=0:=by unfold yD;split<;>rfl
 obtain⟨rt,ky,ms,du,se,⟨⟩⟩:=g;dsimp only[aM,dU,bQ,cor]at *;unfold m94;simp only[q1,q2,q6,yg,dt,d1,d2,aA,sS];refine aN _ hl ?_
 show _=some (((yD (rt,ky,ms,du,se,()) r t a).1,()),_)
 rw[he]
abbrev Kn:=Int×Int×Int×ByteArray×Unit
abbrev kz:Kn:=(0,0,0,ByteArray.empty,())
def Bf(mu:List ByteArray)(k:ByteArray):Bool:=mu.any fun x=>decide (x=k)
def fJ(mu:List ByteArray)(ms:List bH):List ByteArray:=(ms.filter fun m=> !Bf mu (aL m)&&bZ m).map aL
def gX(mu:List ByteArray)(ms:List bH):List ByteArray:=(ms.filter fun m=> !Bf mu (aL m)&& !bZ m).map aL
def Fv(mu:List ByteArray)(ms:List bH):Bool:=ms.any fun m=> !Bf mu (aL m)&&(bZ m&& !dD m)
def lm(F:List ByteArray)(m:bH):bH:=(m.1,m.2.1,m.2.2.1,m.2.2.2.1,m.2.2.2.2.1,dD m||Bf F (aL m),())
def mG(F R:List ByteArray)(ms:List bH):List bH:=(ms.filter fun m=> !Bf R (aL m)).map (lm F)
def jG(ms:List bH):Bool:=ms.any fun m=> !dD m
def Js(se Uo t:Int)(F:List ByteArray):Bool:=decide (0<F.length)&&(se != -1)&&decide (se+Uo≤t)
def BJ(se Uo t:Int)(mu:List ByteArray)(ms:List bH):Bool:=Fv mu ms||Js se Uo t (fJ mu ms)||decide (0<(gX mu ms).length)
def oZ(se int Uo t:Int)(o:Bool):Int:=Fy (max (if o=true∨se+Uo≤t then t+int else se+Uo) (t+1))
abbrev LkT:=Bool×L8×Kn×List bH×List ByteArray×List ByteArray
def jI(g:bC)(r:dG)(t:Int)(mu:List ByteArray):LkT:=
 if dU g= -1∨dU g>t then(false,zL g (dU g),kz,aM g,[],[])
 else
  let F:=fJ mu (aM g)
  let R:=gX mu (aM g)
  if BJ (bQ g) (p9 r) t mu (aM g)=true then
   (true,(g.1,g.2.1,(if(mG F R (aM g)).length=0 then -1 else oZ t (iL r) (p9 r) t (jG (mG F R (aM g)))),t,()),(t,g.1,r.2.2.1,g.2.1,()),mG F R (aM g),F,R)
  else(false,zL g (if(aM g).length=0 then -1 else oZ (bQ g) (iL r) (p9 r) t (jG (aM g))),kz,aM g,[],[])
theorem fo{A:Type}{l:List A}{i:Nat}{e:A}(he:l[i]?=some e):l.take (i+1)=l.take i++ [e]:=by
 rw[asO,he];rfl
theorem Lv(mu:List ByteArray)(l:List bH)(e:bH):fJ mu (l++ [e])=fJ mu l++(if !Bf mu (aL e)&&bZ e then [aL e]else []):=by
 unfold fJ;rw[as2,arM];cases h:(!Bf mu (aL e)&&bZ e)<;>simp[h]
theorem Ld(mu:List ByteArray)(l:List bH)(e:bH):gX mu (l++ [e])=gX mu l++(if !Bf mu (aL e)&& !bZ e then [aL e]else []):=by
 unfold gX;rw[as2,arM];cases h:(!Bf mu (aL e)&& !bZ e)<;>simp[h]
theorem K6(mu:List ByteArray)(l:List bH)(e:bH):Fv mu (l++ [e])=(Fv mu l||(!Bf mu (aL e)&&(bZ e&& !dD e))):=by
 unfold Fv;rw[List.any_append];simp
theorem xD(mu:List ByteArray)(l:List bH):(fJ mu l).length≤l.length:=by
 unfold fJ;rw[arq];exact asC _ _
theorem wB(mu:List ByteArray)(l:List bH):(gX mu l).length≤l.length:=by
 unfold gX;rw[arq];exact asC _ _
theorem Vm(mu:List ByteArray)(k:ByteArray)(h:mu.length≤big):Mk ((mu,k,()),())=some ((Bf mu k,()),()):=U5 mu k h
theorem Yq(mu:List ByteArray)(k:ByteArray)(h:mu.length≤big):WU ((mu,k,()),())=some ((Bf mu k,()),()):=by
 unfold big at h;have hl:=bV (f:=Bz) mu (fun i (_:Unit)=>(((i:Int),k,mu,()),())) (fun i _ e=>bif decide (e=k)then .inr (.inl ((true,()),()))else .inl ()) (fun _=>.inr ((),())) ?_ ?_ ()
 ·obtain⟨j,_,hj⟩:=jQ (fun e=>decide (e=k)) (fun _:Nat=>(Sum.inl ((true,()),()):((Bool×Unit)×Unit)⊕(Unit×Unit))) (.inr ((),())) mu 0;unfold WU Bf;refine aN _ (hl.trans (congrArg some hj)) ?_;cases mu.any (fun e=>decide (e=k))<;>rfl
 ·intro i e _ he hi;have hw:aO ((i:Int)+1)=((i+1:Nat):Int):=aI (by omega);simp only[Bz,aJ,aD he,bO hi,bg,gB,aA,sS];cases decide (e=k)<;>simp only[aA,sS,hw]
 ·intro _;simp only[Bz,bX,aA,sS]
theorem Ye(ms:List bH)(mu:List ByteArray)(t:Int)(nc:Kn)(r:dG)(c:L8)(hl:ms.length≤256)(hm:mu.length≤big):
  aC vk (((0:Int),false,mu,t,((ms.length:Nat):Int),()),(ms,(nc,()),(kz,()),(r,()),(c,()),[],[],()))=
   some ((Fv mu ms,t,()),(ms,(kz,()),(nc,()),(r,()),(c,()),fJ mu ms,gX mu ms,())):=by
 have:=dM (f:=vk) ms (fun i=>(((i:Int),Fv mu (ms.take i),mu,t,((ms.length:Nat):Int),()),(ms,(nc,()),(kz,()),(r,()),(c,()),fJ mu (ms.take i),gX mu (ms.take i),())))
  ((Fv mu ms,t,()),(ms,(kz,()),(nc,()),(r,()),(c,()),fJ mu ms,gX mu ms,())) ?_ ?_
 ·exact this
 ·intro i e he hi;have hw:aO ((i:Int)+1)=((i+1:Nat):Int):=aI (by omega);have hb:decide ((0:Int)≤(i:Int)∧(i:Int)<(ms.length:Int))=true:=arj (by omega);have f1:=xD mu (ms.take i);have f2:=wB mu (ms.take i);rw[ar9]at f1 f2;have c1:decide ((fJ mu (ms.take i)).length+ [aL e].length≤4294967296)=true:=arj (by simp;omega);have c2:decide ((gX mu (ms.take i)).length+ [aL e].length≤4294967296)=true:=arj (by simp;omega);have q:=Vm mu (aL e) hm;obtain⟨mk,ml,mn,mh,mf,mt',⟨⟩⟩:=e;dsimp only[aL]at q c1 c2;rw[fo he,Lv,Ld,K6];simp only[vk,bO hi,hb,arn,he,q,aL,bZ,dD,aA,sS];cases Bf mu mk
  ·cases mf
   ·simp only[c2,hw,arP,ar2,if_true,if_false,ar3,aA,sS]
   ·simp only[c1,hw,arP,ar2,if_true,if_false,ar3,aA,sS];cases Fv mu (ms.take i)<;>simp only[hw,ar6,ar0,aA,sS]
  ·simp only[hw,arP,ar2,if_true,if_false,ar3,aA,sS]
 ·rw[asq];simp only[vk,bX,aA,sS]
abbrev rD(R:List ByteArray)(m:bH):Bool:= !Bf R (aL m)
theorem adw(ms:List bH)(nc:Kn)(F R:List ByteArray)(hl:ms.length≤256)(hR:R.length≤big):
  (aC kJ (((0:Int),((ms.length:Nat):Int),()),(ms,(nc,()),F,R,()))=some (.inr ((),(ms,(nc,()),F,R,())))∧ms.filter (rD R)=ms)∨
  ∃j,j<ms.length∧aC kJ (((0:Int),((ms.length:Nat):Int),()),(ms,(nc,()),F,R,()))=some (.inl (((j:Int),()),(ms,(nc,()),F,R,())))∧(ms.take (j+1)).filter (rD R)=ms.take j:=by
 have key:∀(d i:Nat),i+d=ms.length→(ms.take i).filter (rD R)=ms.take i→
   (aC kJ (((i:Int),((ms.length:Nat):Int),()),(ms,(nc,()),F,R,()))=some (.inr ((),(ms,(nc,()),F,R,())))∧ms.filter (rD R)=ms)∨
   ∃j,j<ms.length∧aC kJ (((i:Int),((ms.length:Nat):Int),()),(ms,(nc,()),F,R,()))=some (.inl (((j:Int),()),(ms,(nc,()),F,R,())))∧(ms.take (j+1)).filter (rD R)=ms.take j:=by
  intro d
  induction d with
  |zero=>
   intro i h h2;obtain rfl:i=ms.length:=by omega
   rw[asq]at h2;refine .inl ⟨aF ?_,h2⟩;simp only[kJ,bX,aA,sS]
  |succ d ih=>
   intro i h h2;obtain⟨e,he⟩:=getD_some (l:=ms) (i:=i) (by omega);have hi:i<ms.length:=by omega
   have hw:aO ((i:Int)+1)=((i+1:Nat):Int):=aI (by omega);have hb:decide ((0:Int)≤(i:Int)∧(i:Int)<(ms.length:Int))=true:=arj (by omega);have q:=Vm R (aL e) hR;dsimp only[aL]at q;cases hr:Bf R (aL e)
   ·dsimp only[aL]at hr
    have h3:(ms.take (i+1)).filter (rD R)=ms.take (i+1):=by
     rw[fo he,as2,h2];simp[rD,hr]
    have hs:kJ (((i:Int),((ms.length:Nat):Int),()),(ms,(nc,()),F,R,()))=some (.inl ((((i+1:Nat):Int),((ms.length:Nat):Int),()),(ms,(nc,()),F,R,()))):=by
     simp only[kJ,bO hi,hb,arn,he,q,hr,hw,eq_self,aA,sS]
    rw[aH hs];exact ih (i+1) (by omega) h3
   ·dsimp only[aL]at hr;refine .inr ⟨i,hi,aF ?_,?_⟩
    ·simp only[kJ,bO hi,hb,arn,he,q,hr,hw,eq_self,aA,sS]
    ·rw[fo he,as2,h2];simp[rD,hr]
 exact key ms.length 0 (by omega) rfl
theorem Yu(ms:List bH)(nc:Kn)(F R:List ByteArray)(hl:ms.length≤256)(hR:R.length≤big):∀(d src dst:Nat) (blk:List bH),src+d=ms.length→dst<src→blk.length=ms.length→
  blk.take dst=(ms.take src).filter (rD R)→blk.drop src=ms.drop src→
  ∃(dst':Nat) (blk':List bH),aC oK (((src:Int),(dst:Int),()),(blk,(nc,()),F,R,()))=some (((dst':Int),()),(blk',(nc,()),F,R,()))∧dst'≤ms.length∧blk'.length=ms.length∧blk'.take dst'=ms.filter (rD R):=by
 intro d
 induction d with
 |zero=>
  intro src dst blk h1 h2 h3 h4 h5;obtain rfl:src=ms.length:=by omega
  rw[asq]at h4;refine⟨dst,blk,aF ?_,by omega,h3,h4⟩;have:decide ((ms.length:Int)<((blk.length:Nat):Int))=false:=arl (by omega);simp only[oK,this,aA,sS]
 |succ d ih=>
  intro src dst blk h1 h2 h3 h4 h5;obtain⟨e,he⟩:=getD_some (l:=ms) (i:=src) (by omega)
  have he':blk[src]?=some e:=by
   have:=congrArg (fun l=>l[0]?) h5;simp only[as9,asQ]at this;rw[this,he]
  have c1:decide ((src:Int)<((blk.length:Nat):Int))=true:=arj (by omega);have c2:decide ((0:Int)≤(src:Int)∧(src:Int)<(blk.length:Int))=true:=arj (by omega);have c3:decide ((0:Int)≤(dst:Int)∧(dst:Int)<(blk.length:Int))=true:=arj (by omega);have c4:decide (dst<blk.length)=true:=arj (by omega);have w1:aO ((src:Int)+1)=((src+1:Nat):Int):=aI (by omega);have w2:aO ((dst:Int)+1)=((dst+1:Nat):Int):=aI (by omega);have q:=Vm R (aL e) hR;dsimp only[aL]at q;cases hr:Bf R (aL e)
  ·dsimp only[aL]at hr
   have hs:oK (((src:Int),(dst:Int),()),(blk,(nc,()),F,R,()))=some (.inl ((((src+1:Nat):Int),((dst+1:Nat):Int),()),(blk.set dst e,(nc,()),F,R,()))):=by
    simp only[oK,c1,c2,arn,he',q,hr,c3,c4,w1,w2,eq_self,aA,sS]
   rw[aH hs];refine ih (src+1) (dst+1) (blk.set dst e) (by omega) (by omega) (by rw[ase,h3]) ?_ ?_
   ·rw[fo he,as2,←h4];rw[fo (e:=e) (by rw[asS (by omega)]),qj];simp[rD,hr]
   ·rw[List.drop_set,if_pos (by omega)];rw[←asL,←asL,h5]
  ·dsimp only[aL]at hr
   have hs:oK (((src:Int),(dst:Int),()),(blk,(nc,()),F,R,()))=some (.inl ((((src+1:Nat):Int),(dst:Int),()),(blk,(nc,()),F,R,()))):=by
    simp only[oK,c1,c2,arn,he',q,hr,w1,eq_self,aA,sS]
   rw[aH hs];refine ih (src+1) dst blk (by omega) (by omega) h3 ?_ ?_
   ·rw[fo he,as2,←h4];simp[rD,hr]
   ·rw[←asL,←asL,h5]
abbrev PgT:=Int×ByteArray×(Nat×Nat)×Int×Int×Unit
theorem ahF(M T:List bH)(nc:Kn)(g:PgT)(c0:L8)(n0:Kn)(r:dG)(F R:List ByteArray)(ok:Bool)(t:Int)(hl:M.length≤256)(hF:F.length≤big)(hg:g.2.2.1=(0,M.length)):
  aC qX (((0:Int),(0,M.length),ok,t,((M.length:Nat):Int),()),((nc,()),(g,()),M++T,(c0,()),(n0,()),(r,()),F,R,()))=
   some ((ok,t,()),((c0,()),(n0,()),(nc,()),(g,()),(r,()),F,R,M.map (lm F)++T,())):=by
 obtain⟨rt,ky,pt,du,se,⟨⟩⟩:=g;dsimp only at hg;subst hg;have:=dM (f:=qX) M (fun i=>(((i:Int),(0,M.length),ok,t,((M.length:Nat):Int),()),((nc,()),((rt,ky,(0,M.length),du,se,()),()),(M.take i).map (lm F)++(M.drop i++T),(c0,()),(n0,()),(r,()),F,R,())))
  ((ok,t,()),((c0,()),(n0,()),(nc,()),((rt,ky,(0,M.length),du,se,()),()),(r,()),F,R,M.map (lm F)++T,())) ?_ ?_
 ·exact this
 ·intro i e he hi;obtain⟨e',he',hd⟩:=drop_at hi;rw[he]at he';injection he' with he';subst he';have hw:aO ((i:Int)+1)=((i+1:Nat):Int):=aI (by omega);have hb:decide ((0:Int)≤(i:Int)∧(i:Int)<(M.length:Int))=true:=arj (by omega);have hA:((M.take i).map (lm F)).length=i:=by simp;omega
  rw[hd,asE]
  have at1:∀B:List bH,((M.take i).map (lm F)++e::B)[i]?=some e:=fun B=>by
   have:=DL ((M.take i).map (lm F)) e B
   rwa [hA]at this
  have st1:∀(x:bH) (B:List bH),((M.take i).map (lm F)++e::B).set i x=(M.take i).map (lm F)++x::B:=fun x B=>by
   have:=Nf ((M.take i).map (lm F)) e x B
   rwa [hA]at this
  have q:=Vm F (aL e) hF;dsimp only[aL]at q
  have hx:(M.take (i+1)).map (lm F)++(M.drop (i+1)++T)=(M.take i).map (lm F)++lm F e::(M.drop (i+1)++T):=by
   rw[fo he,arM,arJ];rfl
  rw[hx];obtain⟨mk,ml,mn,mh,mf,mt',⟨⟩⟩:=e;dsimp only at q;simp only[qX,bO hi,hb,arn,arZ,at1,st1,q,hw,aA,sS];cases mt'<;>simp only[st1,hw,lm,dD,aL,ar6,ar0,aA,sS]
 ·rw[asq,asj,asR];simp only[qX,bX,aA,sS]
theorem ah3(l:List bH)(hl:l.length≤256):∃j:Nat,aC uJ (((0:Int),l,(l.length:Int),()),())=some (bif jG l then .inl (((j:Int),()),())else .inr ((),())):=by
 have h:=bV (f:=uJ) l (fun i (_:Unit)=>(((i:Int),l,(l.length:Int),()),())) (fun i _ e=>bif !dD e then .inr (.inl (((i:Int),()),()))else .inl ()) (fun _=>.inr ((),())) ?_ ?_ ()
 ·obtain⟨j,_,hj⟩:=jQ (fun e:bH=> !dD e) (fun i:Nat=>(Sum.inl (((i:Int),()),()):((Int×Unit)×Unit)⊕(Unit×Unit))) (.inr ((),())) l 0;exact⟨j,h.trans (congrArg some hj)⟩
 ·intro i e _ he hi;have hw:aO ((i:Int)+1)=((i+1:Nat):Int):=aI (by omega);have q:ahM ((e,()),())=some ((!dD e,()),()):=rfl;simp only[uJ,aJ,aD he,bO hi,q,aA,sS];cases dD e<;>simp only[aA,sS,hw]
 ·intro _;simp only[uJ,bX,aA,sS]
def Jq(x:LkT)(o:Option ((Bool×Int×Unit)×((PgT×Unit)×(Kn×Unit)×List bH×List ByteArray×List ByteArray×Unit))):Prop:=
 ∃(n:Nat) (blk:List bH),o=some ((x.1,0,()),(((x.2.1.1,x.2.1.2.1,(0,n),x.2.1.2.2.1,x.2.1.2.2.2.1,()),()),(x.2.2.1,()),blk,x.2.2.2.2.1,x.2.2.2.2.2,()))∧n≤blk.length∧blk.take n=x.2.2.2.1
theorem Ea{A:Type}{y:LkT}{o:Option A}{f:A→Option ((Bool×Int×Unit)×((PgT×Unit)×(Kn×Unit)×List bH×List ByteArray×List ByteArray×Unit))}(x:A)(h:o=some x)(h2:Jq y (f x)):Jq y (o.bind f):=by
 rw[h];exact h2
theorem ab9{A:Type}{y:LkT}{o:Option A}{f:A→Option ((Bool×Int×Unit)×((PgT×Unit)×(Kn×Unit)×List bH×List ByteArray×List ByteArray×Unit))}(P:A→Prop)(h:∃x,o=some x∧P x)(h2:∀x,P x→Jq y (f x)):Jq y (o.bind f):=by
 obtain⟨x,rfl,hp⟩:=h;exact h2 x hp
theorem exb{A B:Type}{o:Option A}{f:A→Option B}{Q:B→Prop}(x:A)(h:o=some x)(h2:∃b,f x=some b∧Q b):∃b,o.bind f=some b∧Q b:=by
 rw[h];exact h2
theorem exP{A B:Type}{o:Option A}{f:A→Option B}{Q:B→Prop}(P:A→Prop)(h:∃x,o=some x∧P x)(h2:∀x,P x→∃b,f x=some b∧Q b):∃b,o.bind f=some b∧Q b:=by
 obtain⟨x,rfl,hp⟩:=h;exact h2 x hp
theorem aaA(n:Nat):(((n:Nat):Int)==0)=decide (n=0):=by
 rw[dY];exact asz.2 (by omega)
theorem ahl{g:bC}(h:VG g){r:dG}(hr:RR r){t:Int}(ht:0≤t∧t≤8589934592){mu:List ByteArray}(hm:mu.length≤big):Jq (jI g r t mu) (abN ((g,r,t,mu,()),())):=by
 have q1:=Me h;have q2:=M6 r hr.z;rw[hr.ok]at q2;have q6:=Np h;have dt:decide ((0:Int)≤t∧t≤8589934592)=true:=arj ht;have hlen:=h.len;have hsent:=h.sent;have hdue:=h.due;have hir:=hr.int;have hwa:=hr.wait;have hrp:=hr.Uo;have hmx:=hr.max;obtain⟨rt,ky,ms,du,se,⟨⟩⟩:=g;obtain⟨pa,mt,po,gb,wa,ir,rp,co,⟨⟩⟩:=r;dsimp only[aM,dU,bQ,jb,iL,p9,cor]at *;have qn:=fun nc c=>Ye ms mu t nc (pa,mt,po,gb,wa,ir,rp,co,()) c hlen hm
 unfold abN jI;dsimp only[aM,dU,bQ,iL,p9,zL];simp only[q1,q2,q6,Ai,dt,aA,sS];have w1:aO (se+rp)=se+rp:=bI (by omega) (by omega);have w2:aO (t+1)=t+1:=bI (by omega) (by omega);have w3:aO (t+ir)=t+ir:=bI (by omega) (by omega);have w4:aO (t+rp)=t+rp:=bI (by omega) (by omega);by_cases h1:du= -1
 ·subst h1;rw[if_pos (.inl rfl)];simp only[asu,aA,sS];exact⟨ms.length,ms,rfl,arz _,asq⟩
 have b1:(du== -1)=false:=ar7.2 h1;rw[b1];by_cases h2:du>t
 ·rw[if_pos (.inr h2)];simp only[arj h2,aA,sS];exact⟨ms.length,ms,rfl,arz _,asq⟩
 rw[if_neg (by rintro(h|h)<;>contradiction)];simp only[arl h2,qn,aA,sS];have fl:=xD mu ms;have rl:=wB mu ms;refine Ea ((Js se rp t (fJ mu ms),Fv mu ms,()),ms,(kz,()),((t,rt,po,ky,()),()),fJ mu ms,gX mu ms,()) ?_ ?_
 ·unfold Js;rw[show decide (((fJ mu ms).length:Int)>0)=decide (0<(fJ mu ms).length)from asz.2 (by omega),w1];cases decide (0<(fJ mu ms).length)<;>cases (se != -1)<;>simp only[aA,sS]
 dsimp only;refine Ea ((BJ se rp t mu ms,()),ms,((t,rt,po,ky,()),()),fJ mu ms,gX mu ms,()) ?_ ?_
 ·unfold BJ;rw[show decide (((gX mu ms).length:Int)>0)=decide (0<(gX mu ms).length)from asz.2 (by omega)];cases Fv mu ms<;>cases Js se rp t (fJ mu ms)<;>simp only[ar6,ar0,aA,sS]
 dsimp only;rw[show decide (ms.length=ms.length)=true from arj rfl,cond_true]
 refine ab9 (fun x=>∃(ok:Bool) (se':Int) (n:Nat) (blk:List bH) (F' R':List ByteArray) (nc:Kn) (c0:L8) (n0:Kn),x=((ok,t,()),(c0,()),(n0,()),(nc,()),((rt,ky,(0,n),du,se',()),()),((pa,mt,po,gb,wa,ir,rp,co,()),()),F',R',blk,())∧
  n≤blk.length∧blk.length≤256∧(-1≤se'∧se'≤8589934592)∧(if BJ se rp t mu ms=true then
   ((true,(rt,ky,(if(mG (fJ mu ms) (gX mu ms) ms).length=0 then -1 else oZ t ir rp t (jG (mG (fJ mu ms) (gX mu ms) ms))),t,()),(t,rt,po,ky,()),mG (fJ mu ms) (gX mu ms) ms,fJ mu ms,gX mu ms):LkT)
   else(false,(rt,ky,(if ms.length=0 then -1 else oZ se ir rp t (jG ms)),se,()),kz,ms,[],[]))=(ok,(rt,ky,(if(blk.take n).length=0 then -1 else oZ se' ir rp t (jG (blk.take n))),se',()),nc,blk.take n,F',R')) ?_ ?_
 ·cases BJ se rp t mu ms
  ·refine⟨_,rfl,false,se,ms.length,ms,[],[],kz,jR,kz,rfl,arz _,hlen,hsent,?_⟩;rw[asq];rfl
  ·rw[cond_true];refine exP (fun x=>∃(n:Nat) (blk:List bH),x=((true,t,()),((t,rt,po,ky,()),()),((rt,ky,(0,n),du,t,()),()),(jR,()),(kz,()),((pa,mt,po,gb,wa,ir,rp,co,()),()),fJ mu ms,gX mu ms,blk,())∧n≤blk.length∧blk.length=ms.length∧blk.take n=ms.filter (rD (gX mu ms))) ?_ ?_
   ·rcases adw ms (t,rt,po,ky,()) (fJ mu ms) (gX mu ms) hlen (by unfold big;omega)with⟨e,hf⟩|⟨j,hj,e,hf⟩
    ·rw[e];simp only[eq_self,asu,aA,sS];exact⟨_,rfl,ms.length,ms,rfl,arz _,rfl,by rw[asq,hf]⟩
    ·have bj:((j:Int)== -1)=false:=ar7.2 (by omega);have wj:aO ((j:Int)+1)=((j+1:Nat):Int):=aI (by omega);rw[e];simp only[eq_self,bj,wj,aA,sS];obtain⟨dst,blk,e2,h3,h4,h5⟩:=Yu ms (t,rt,po,ky,()) (fJ mu ms) (gX mu ms) hlen (by unfold big;omega) (ms.length-(j+1)) (j+1) j ms (by omega) (by omega) rfl hf.symm rfl;refine exb _ e2 ?_;have d1:decide ((0:Int)≤(dst:Int))=true:=arj (by omega);have d2:decide (dst≤blk.length∧True)=true:=arj ⟨by omega,trivial⟩;have d3:decide (dst+(blk.length-dst)≤blk.length)=true:=arj (by omega);have d0:decide (dst≤blk.length∧blk.length≤blk.length)=true:=arj (by omega)
     have sl:(bK blk dst (List.replicate (blk.length-dst) ((ByteArray.empty,[],0,0,false,false,()):bH))).length=blk.length:=by
      unfold bK;simp;omega
     have st:(bK blk dst (List.replicate (blk.length-dst) ((ByteArray.empty,[],0,0,false,false,()):bH))).take dst=blk.take dst:=by
      unfold bK;rw[arJ,asJ (by rw[ar9];omega),arY (by rw[ar9];omega)]
     have d4:decide (0≤dst∧dst≤blk.length)=true:=arj (by omega);have d5:decide (blk.length=ms.length)=true:=arj h4;simp only[d1,d0,d3,d4,d5,sl,arn,eq_self,aA,sS];exact⟨_,rfl,dst,_,rfl,by rw[sl];omega,by rw[sl,h4],by rw[st,h5]⟩
   ·rintro _ ⟨n,blk,rfl,h1,h2,h3⟩;dsimp only;have hMl:(blk.take n).length=n:=by rw[ar9];omega
    have q:=ahF (blk.take n) (blk.drop n) (t,rt,po,ky,()) (rt,ky,(0,n),du,t,()) jR kz (pa,mt,po,gb,wa,ir,rp,co,()) (fJ mu ms) (gX mu ms) true t (by rw[hMl];omega) (by unfold big;omega) (by rw[hMl]);rw[as7,hMl]at q;refine exb _ q ?_
    have ht2:(List.map (lm (fJ mu ms)) (List.take n blk)++List.drop n blk).take n=mG (fJ mu ms) (gX mu ms) ms:=by
     rw[asJ (by rw[arq,hMl];exact arz _),arY (by rw[arq,hMl];exact arz _),h3];rfl
    refine⟨_,rfl,true,t,n,_,fJ mu ms,gX mu ms,(t,rt,po,ky,()),jR,kz,rfl,by simp;omega,by simp;omega,by omega,?_⟩;rw[ht2];rfl
 ·rintro _ ⟨ok,se',n,blk,F',R',nc,c0,n0,rfl,h3,h4,h5,h6⟩;rw[h6];dsimp only;have w5:aO (se'+rp)=se'+rp:=bI (by omega) (by omega);have d1:decide (0+n≤blk.length)=true:=arj (by omega);obtain⟨j,ho⟩:=ah3 (blk.take n) (by rw[ar9];omega);have hl:(blk.take n).length=n:=by rw[ar9];omega
  rw[hl]at ho;simp only[d1,arL,hl,w2,w3,w5,aA,sS];refine Ea ((jG (blk.take n),()),()) ?_ ?_
  ·refine aN _ ho ?_;have dj:decide ((j:Int)≥0)=true:=arj (by omega);cases jG (blk.take n)<;>simp only[dj,aA,sS]
  dsimp only;have mx:∀d:Int,(if t+1>d then t+1 else d)=max d (t+1):=fun d=>by split<;>omega
  unfold oZ;cases jG (blk.take n)
  ·by_cases hp:se'+rp≤t
   ·simp only[arj hp,w3,w2,mx,oU,aaA,hp,or_true,if_true,eq_self,aA,sS];by_cases hn:n=0
    ·simp only[hn,eq_self,if_true,aA,sS];exact⟨0,blk,rfl,arO _,rfl⟩
    ·simp only[hn,if_false,aA,sS];exact⟨n,blk,rfl,h3,rfl⟩
   ·simp only[arl hp,w3,w2,mx,oU,aaA,hp,or_self,ar3,if_false,eq_self,aA,sS];by_cases hn:n=0
    ·simp only[hn,eq_self,if_true,aA,sS];exact⟨0,blk,rfl,arO _,rfl⟩
    ·simp only[hn,if_false,aA,sS];exact⟨n,blk,rfl,h3,rfl⟩
  ·simp only[w3,w2,mx,oU,aaA,true_or,if_true,eq_self,aA,sS];by_cases hn:n=0
   ·simp only[hn,eq_self,if_true,aA,sS];exact⟨0,blk,rfl,arO _,rfl⟩
   ·simp only[hn,if_false,aA,sS];exact⟨n,blk,rfl,h3,rfl⟩
def aaD(mu:List ByteArray)(l:List bH):Bool:=Fv mu l||decide (0<(gX mu l).length)
theorem YH{g:bC}(mu:List ByteArray)(t:Int)(nc:Kn)(r:dG)(c c0:L8)(n0:Kn)(oms:List bH)(hl:(aM g).length≤256)(hm:mu.length≤big):
  aC wZ (((0:Int),false,mu,t,()),((nc,()),(g,()),(c,()),(c0,()),(n0,()),(r,()),[],[],oms,()))=
   some ((t,aaD mu (aM g),()),((c,()),(nc,()),(g,()),(c0,()),(n0,()),(r,()),oms,fJ mu (aM g),gX mu (aM g),())):=by
 obtain⟨rt,ky,ms,du,se,⟨⟩⟩:=g;dsimp only[aM]at *;have:=dM (f:=wZ) ms (fun i=>(((i:Int),aaD mu (ms.take i),mu,t,()),((nc,()),((rt,ky,ms,du,se,()),()),(c,()),(c0,()),(n0,()),(r,()),fJ mu (ms.take i),gX mu (ms.take i),oms,())))
  ((t,aaD mu ms,()),((c,()),(nc,()),((rt,ky,ms,du,se,()),()),(c0,()),(n0,()),(r,()),oms,fJ mu ms,gX mu ms,())) ?_ ?_
 ·exact this
 ·intro i e he hi;have hw:aO ((i:Int)+1)=((i+1:Nat):Int):=aI (by omega);have f1:=xD mu (ms.take i);have f2:=wB mu (ms.take i);rw[ar9]at f1 f2;have c1:decide ((fJ mu (ms.take i)).length+ [aL e].length≤4294967296)=true:=arj (by simp;omega);have c2:decide ((gX mu (ms.take i)).length+ [aL e].length≤4294967296)=true:=arj (by simp;omega);have q:=Yq mu (aL e) hm;obtain⟨mk,ml,mn,mh,mf,mt',⟨⟩⟩:=e;dsimp only[aL]at q c1 c2;have h1:decide ((i:Int)<(ms.length:Int))=true:=bO hi;unfold aaD;rw[fo he,Lv,Ld,K6];simp only[wZ,h1,aJ,aD he,q,aL,bZ,dD,aA,sS];cases Bf mu mk
  ·cases mf
   ·have:decide (0<(gX mu (ms.take i)++ [mk]).length)=true:=arj (by simp);simp only[c2,hw,this,arP,ar2,arH,if_true,if_false,ar3,aA,sS]
   ·simp only[c1,hw,arP,ar2,if_true,if_false,ar3,aA,sS];cases Fv mu (ms.take i)<;>cases decide (0<(gX mu (ms.take i)).length)<;>simp only[hw,ar6,ar0,arH,ar2,aA,sS]
  ·simp only[hw,arP,ar2,if_true,if_false,ar3,aA,sS]
 ·rw[asq];simp only[wZ,bX,aA,sS]
theorem X0(F R:List ByteArray)(l:List bH)(e:bH):mG F R (l++ [e])=mG F R l++(if Bf R (aL e)=true then []else [lm F e]):=by
 unfold mG;rw[as2,arM];cases h:Bf R (aL e)<;>simp[h]
theorem Hr(F R:List ByteArray)(l:List bH):(mG F R l).length≤l.length:=by
 unfold mG;rw[arq];exact asC _ _
theorem acV{g:bC}(t:Int)(ok:Bool)(nc:Kn)(r:dG)(c c0:L8)(n0:Kn)(F R:List ByteArray)(hl:(aM g).length≤256)(hF:F.length≤big)(hR:R.length≤big):
  aC wH (((0:Int),ok,t,()),((c,()),(nc,()),(g,()),(c0,()),(n0,()),(r,()),[],F,R,()))=
   some ((ok,t,()),((c,()),(c0,()),(n0,()),(nc,()),(r,()),mG F R (aM g),F,R,())):=by
 obtain⟨rt,ky,ms,du,se,⟨⟩⟩:=g;dsimp only[aM]at *;have:=dM (f:=wH) ms (fun i=>(((i:Int),ok,t,()),((c,()),(nc,()),((rt,ky,ms,du,se,()),()),(c0,()),(n0,()),(r,()),mG F R (ms.take i),F,R,())))
  ((ok,t,()),((c,()),(c0,()),(n0,()),(nc,()),(r,()),mG F R ms,F,R,())) ?_ ?_
 ·exact this
 ·intro i e he hi;have hw:aO ((i:Int)+1)=((i+1:Nat):Int):=aI (by omega);have f1:=Hr F R (ms.take i);rw[ar9]at f1;have c1:∀x:bH,decide ((mG F R (ms.take i)).length+ [x].length≤4294967296)=true:=fun x=>arj (by simp;omega)
  have q:=Yq R (aL e) hR;have q2:=Yq F (aL e) hF;obtain⟨mk,ml,mn,mh,mf,mt',⟨⟩⟩:=e;dsimp only[aL]at q q2;have h1:decide ((i:Int)<(ms.length:Int))=true:=bO hi;rw[fo he,X0];simp only[wH,h1,aJ,aD he,q,aL,lm,dD,aA,sS];cases Bf R mk
  ·cases mt'<;>simp only[q2,c1,hw,ar6,ar0,if_true,if_false,ar3,aA,sS]
  ·simp only[hw,arP,if_true,aA,sS]
 ·rw[asq];simp only[wH,bX,aA,sS]
theorem Li(l:List bH)(e:bH):jG (l++ [e])=(jG l|| !dD e):=by
 unfold jG;rw[List.any_append];simp
theorem Yi(t:Int)(ok:Bool)(nc:Kn)(r:dG)(c c0:L8)(n0:Kn)(F R:List ByteArray)(ms:List bH)(hl:ms.length≤256):
  aC wD (((0:Int),false,ok,t,()),((c,()),(c0,()),(n0,()),(nc,()),(r,()),ms,F,R,()))=
   some ((ok,t,jG ms,()),((c0,()),(n0,()),(nc,()),(c,()),(r,()),F,R,ms,())):=by
 have:=dM (f:=wD) ms (fun i=>(((i:Int),jG (ms.take i),ok,t,()),((c,()),(c0,()),(n0,()),(nc,()),(r,()),ms,F,R,())))
  ((ok,t,jG ms,()),((c0,()),(n0,()),(nc,()),(c,()),(r,()),F,R,ms,())) ?_ ?_
 ·exact this
 ·intro i e he hi;have hw:aO ((i:Int)+1)=((i+1:Nat):Int):=aI (by omega);have h1:decide ((i:Int)<((ms.length:Nat):Int))=true:=bO hi;have h2:decide ((0:Int)≤(i:Int)∧(i:Int)<(ms.length:Int))=true:=arj (by omega);rw[fo he,Li];simp only[wD,h1,h2,arn,he,aA,sS];cases jG (ms.take i)<;>simp only[hw,ar6,ar0,aA,sS]
 ·rw[asq];have h1:decide ((ms.length:Int)<((ms.length:Nat):Int))=false:=bX _;simp only[wD,h1,aA,sS]
theorem al3{A B:Type}{o:Option A}{f:A→Option B}{y:Option B}(P:A→Prop)(h:∃x,o=some x∧P x)(h2:∀x,P x→f x=y):o.bind f=y:=by
 obtain⟨x,rfl,hp⟩:=h;exact h2 x hp
theorem ahb{g:bC}(h:VG g){r:dG}(hr:RR r){t:Int}(ht:0≤t∧t≤8589934592){mu:List ByteArray}(hm:mu.length≤big):
  m96 ((g,r,t,mu,()),())=some (((jI g r t mu).1,0,()),(((jI g r t mu).2.1,()),((jI g r t mu).2.2.1,()),(jI g r t mu).2.2.2.1,(jI g r t mu).2.2.2.2.1,(jI g r t mu).2.2.2.2.2,())):=by
 have q1:=NV h;have q2:=Ni r hr.z;rw[hr.ok]at q2;have hlen:=h.len;have q6:=SY (g:=g) (by omega);have dt:inst t=true:=arj ht;have hsent:=h.sent;have hdue:=h.due;have hir:=hr.int;have hwa:=hr.wait;have hrp:=hr.Uo;have hmx:=hr.max;obtain⟨rt,ky,ms,du,se,⟨⟩⟩:=g;obtain⟨pa,mt,po,gb,wa,ir,rp,co,⟨⟩⟩:=r;dsimp only[aM,dU,bQ,jb,iL,p9,cor]at *;have qn:=YH (g:=(rt,ky,ms,du,se,())) mu t (t,rt,po,ky,()) (pa,mt,po,gb,wa,ir,rp,co,()) (rt,ky,du,se,()) jR kz ms hlen hm;dsimp only[aM]at qn;unfold m96 jI;dsimp only[aM,dU,bQ,iL,p9,zL];simp only[q1,q2,q6,yg,dt,aA,sS];have w1:aO (se+rp)=se+rp:=bI (by omega) (by omega);have w2:aO (t+1)=t+1:=bI (by omega) (by omega);have w3:aO (t+ir)=t+ir:=bI (by omega) (by omega);have w4:aO (t+rp)=t+rp:=bI (by omega) (by omega);by_cases h1:du= -1
 ·subst h1;rw[if_pos (.inl rfl)];simp only[asu,aA,sS]
 have b1:(du== -1)=false:=ar7.2 h1;rw[b1];by_cases h2:du>t
 ·rw[if_pos (.inr h2)];simp only[arj h2,aA,sS]
 rw[if_neg (by rintro(h|h)<;>contradiction)];simp only[arl h2,qn,aA,sS];have fl:=xD mu ms;have rl:=wB mu ms;refine aN ((BJ se rp t mu ms,t,()),((rt,ky,du,se,()),()),((t,rt,po,ky,()),()),((rt,ky,ms,du,se,()),()),(jR,()),(kz,()),((pa,mt,po,gb,wa,ir,rp,co,()),()),ms,fJ mu ms,gX mu ms,()) ?_ ?_
 ·unfold BJ aaD Js;rw[show decide (((fJ mu ms).length:Int)>0)=decide (0<(fJ mu ms).length)from asz.2 (by omega),w1];cases decide (0<(fJ mu ms).length)<;>cases (se != -1)<;>cases decide (se+rp≤t)<;>simp only[ar6,ar0,arH,ar2,aA,sS]
 dsimp only;have mx:∀d:Int,(if d>t+1 then d else t+1)=max d (t+1):=fun d=>by split<;>omega
 refine al3 (fun x=>∃(ok:Bool) (se':Int) (MS:List bH) (nc:Kn) (F R:List ByteArray) (c0:L8) (n0:Kn),x=((ok,t,()),((rt,ky,du,se',()),()),(c0,()),(n0,()),(nc,()),((pa,mt,po,gb,wa,ir,rp,co,()),()),MS,F,R,())∧
  MS.length≤256∧(-1≤se'∧se'≤8589934592)∧(if BJ se rp t mu ms=true then
   ((true,(rt,ky,(if(mG (fJ mu ms) (gX mu ms) ms).length=0 then -1 else oZ t ir rp t (jG (mG (fJ mu ms) (gX mu ms) ms))),t,()),(t,rt,po,ky,()),mG (fJ mu ms) (gX mu ms) ms,fJ mu ms,gX mu ms):LkT)
   else(false,(rt,ky,(if ms.length=0 then -1 else oZ se ir rp t (jG ms)),se,()),kz,ms,[],[]))=(ok,(rt,ky,(if MS.length=0 then -1 else oZ se' ir rp t (jG MS)),se',()),nc,MS,F,R)) ?_ ?_
 ·cases BJ se rp t mu ms
  ·refine⟨_,rfl,false,se,ms,kz,[],[],jR,kz,rfl,hlen,hsent,rfl⟩
  ·have qa:=acV (g:=(rt,ky,ms,du,se,())) t true (t,rt,po,ky,()) (pa,mt,po,gb,wa,ir,rp,co,()) (rt,ky,du,t,()) jR kz (fJ mu ms) (gX mu ms) hlen (by unfold big;omega) (by unfold big;omega);rw[cond_true];refine exb _ qa ?_;have:=Hr (fJ mu ms) (gX mu ms) ms;exact⟨_,rfl,true,t,mG (fJ mu ms) (gX mu ms) ms,(t,rt,po,ky,()),fJ mu ms,gX mu ms,jR,kz,rfl,by omega,by omega,rfl⟩
 ·rintro _ ⟨ok,se',MS,nc,F,R,c0,n0,rfl,h4,h5,h6⟩;rw[h6];dsimp only;have w5:aO (se'+rp)=se'+rp:=bI (by omega) (by omega);refine aN _ (Yi t ok nc (pa,mt,po,gb,wa,ir,rp,co,()) (rt,ky,du,se',()) c0 n0 F R MS h4) ?_;simp only[w2,w3,w5,aA,sS];unfold oZ;cases jG MS
  ·by_cases hp:se'+rp≤t
   ·simp only[arj hp,w3,w2,mx,jP,QB,hp,or_true,if_true,eq_self,aA,sS];by_cases hn:MS.length=0
    ·simp only[hn,eq_self,if_true,aA,sS]
    ·simp only[hn,eq_self,if_false,aA,sS]
   ·simp only[arl hp,w3,w2,mx,jP,QB,hp,or_self,ar3,if_false,eq_self,aA,sS];by_cases hn:MS.length=0
    ·simp only[hn,eq_self,if_true,aA,sS]
    ·simp only[hn,eq_self,if_false,aA,sS]
  ·simp only[w3,w2,mx,jP,QB,true_or,if_true,eq_self,aA,sS];by_cases hn:MS.length=0
   ·simp only[hn,eq_self,if_true,aA,sS]
   ·simp only[hn,eq_self,if_false,aA,sS]
def rR(c:L8)(ms:List bH):bC:=(c.1,c.2.1,ms,c.2.2.1,c.2.2.2.1,())
theorem acR:VG (rR jR []):=⟨by decide,by decide,by decide,by decide,fun m hm=>(by cases hm),List.Pairwise.nil⟩
theorem key_inj{ms:List bH}(h:(ms.map aL).Pairwise Less){a b:bH}(ha:a∈ms)(hb:b∈ms)(e:aL a=aL b):a=b:=by
 obtain⟨i,hi,rfl⟩:=List.mem_iff_getElem.1 ha;obtain⟨j,hj,rfl⟩:=List.mem_iff_getElem.1 hb;have hp:=List.pairwise_iff_getElem.1 h;rcases Nat.lt_trichotomy i j with hij|hij|hij
 ·have:=hp i j (by rwa [arq]) (by rwa [arq]) hij;rw[List.getElem_map,List.getElem_map,e]at this;exact absurd (fO.1 this) (oW _)
 ·subst hij;rfl
 ·have:=hp j i (by rwa [arq]) (by rwa [arq]) hij;rw[List.getElem_map,List.getElem_map,e]at this;exact absurd (fO.1 this) (oW _)
theorem Yl{ms:List bH}{i:Nat}{m x:bH}(h:ms[i]?=some m)(e:aL x=aL m):(ms.set i x).map aL=ms.map aL:=by
 rw[List.map_set,e];obtain⟨hi,rfl⟩:=ark.1 h;have:aL ms[i]=(ms.map aL)[i]'(by rwa [arq]):=by rw[List.getElem_map]
 rw[this,List.set_getElem_self]
theorem mem_set{A:Type}{l:List A}{i:Nat}{x y:A}(h:y∈l.set i x):y∈l∨y=x:=List.mem_or_eq_of_mem_set h
theorem GR{du se wa ir t:Int}(h1:0≤t∧t≤8589934592)(h2:0≤wa)(h3: -1≤du∧du≤8589934592)(h4: -1≤se)(h5:0≤ir): -1≤gG du se wa ir t∧gG du se wa ir t≤8589934592:=Rn h1 h2 h3 h4 h5
theorem VL{t:Int}(h: -1≤t): -1≤Fy t∧Fy t≤8589934592:=by unfold Fy;split<;>omega
theorem R3{se ir rp t:Int}{o:Bool}(h:0≤t): -1≤oZ se ir rp t o∧oZ se ir rp t o≤8589934592:=by
 unfold oZ;exact VL (by omega)
theorem HZ{m:bH}(h:tu m){t:Int}(ht:0≤t∧t≤8589934592):tu (tq m t):=⟨h.lab,h.key,h.since,ht,h.told⟩
theorem step_ok{m:bH}(h:tu m){t:Int}(ht:0≤t∧t≤8589934592)(on:Bool):tu (stepM m on t):=
 ⟨h.lab,h.key,ht,h.heard,by show on=true∨on=false;cases on<;>simp⟩
theorem aaF{l:List LT}(hl:cO l=true){t:Int}(ht:0≤t∧t≤8589934592):tu (gM (dX l),l,t,t,true,false,()):=⟨hl,rfl,ht,ht,.inl rfl⟩
theorem aiI{g:bC}(h:VG g){r:dG}(hr:RR r){l:List LT}(hl:cO l=true)(on:Bool){t:Int}(ht:0≤t∧t≤8589934592):VG (rR (lG g r l on t).2.1 (lG g r l on t).2.2):=by
 have hw:=GR ht hr.wait h.due h.sent.1 (by have:=hr.wait;have:=hr.int;omega:(0:Int)≤iL r)
 have hrest:∀ms,-1≤BI g ms∧BI g ms≤8589934592:=fun ms=>by
  have:=h.due;unfold BI;split<;>omega
 have hlen:=h.len;unfold lG;dsimp only;by_cases hh:hit (gM (dX l)) (aM g)=true
 ·rw[if_pos hh];obtain⟨m,hm,hk⟩:=Au hh;have hmo:=h.mem m (arp hm);rw[hm];dsimp only
  have hset:∀(x:bH) (d:Int),aL x=aL m→tu x→(-1≤d∧d≤8589934592)→VG (rR (zL g d) ((aM g).set (pos (gM (dX l)) (aM g)) x)):=fun x d hx ho hd=>
   ⟨by show((aM g).set _ x).length≤256;rw[ase];exact hlen,h.rt,hd,h.sent,fun y hy=>by
    rcases mem_set hy with hy|rfl
    ·exact h.mem y hy
    ·exact ho,by show(((aM g).set _ x).map aL).Pairwise Less;rw[Yl hm hx];exact h.up⟩
  split
  ·exact hset _ _ rfl (HZ hmo ht) h.due
  ·split
   ·exact hset _ _ rfl (step_ok (HZ hmo ht) ht true) h.due
   ·split
    ·exact hset _ _ rfl (step_ok (HZ hmo ht) ht false) hw
    ·have hsub:((aM g).take (pos (gM (dX l)) (aM g))++(aM g).drop (pos (gM (dX l)) (aM g)+1)).Sublist (aM g):=by
      conv=>rhs;rw[←as7 (pos (gM (dX l)) (aM g)) (aM g)]
      exact(List.Sublist.refl _).append (List.drop_sublist_drop_left _ (by omega))
     exact⟨asb hsub.length_le hlen,h.rt,hrest _,h.sent,fun y hy=>h.mem y (hsub.subset hy),h.up.sublist (hsub.map aL)⟩
 ·rw[if_neg hh];split
  ·split
   ·exact acR
   ·have hp:=Ee (gM (dX l)) (aM g);refine⟨?_,h.rt,hw,h.sent,fun y hy=> ?_,?_⟩
    ·show(List.take _ _++_++List.drop _ _).length≤256
     simp;omega
    ·have hy:y∈List.take _ _++ [_]++List.drop _ _:=hy;simp only[arA,asf]at hy;rcases hy with(hy|rfl)|hy
     ·exact h.mem y (List.mem_of_mem_take hy)
     ·exact aaF hl ht
     ·exact h.mem y (List.mem_of_mem_drop hy)
    ·show((List.take (pos (gM (dX l)) (aM g)) (aM g)++ [(gM (dX l),l,t,t,true,false,())]++List.drop (pos (gM (dX l)) (aM g)) (aM g)).map aL).Pairwise Less
     rw[arJ,arM,arM,List.pairwise_append];have hup:=h.up;rw[←as7 (pos (gM (dX l)) (aM g)) (aM g),arM,List.pairwise_append]at hup;have ha:∀m∈(aM g).take (pos (gM (dX l)) (aM g)),Lt (aL m) (gM (dX l)):=CG;have hb:=Jf h.up (by simpa using hh:hit (gM (dX l)) (aM g)=false);refine⟨hup.1,?_,fun a ha' b hb'=> ?_⟩
     ·rw[arF,arT,as8];refine asA.2 ⟨fun k hk=> ?_,hup.2.1⟩;obtain⟨m,hm,rfl⟩:=asn.1 hk;exact fO.2 (hb m hm)
     ·obtain⟨m,hm,rfl⟩:=asn.1 ha';rw[arF,arT,as8]at hb';rcases arW.1 hb' with rfl|hb'
      ·exact fO.2 (ha m hm)
      ·obtain⟨m',hm',rfl⟩:=asn.1 hb';exact fO.2 (lt_trans (ha m hm) (hb m' hm'))
  ·exact⟨hlen,h.rt,hrest _,h.sent,h.mem,h.up⟩
theorem Gp{se wa ir t a:Int}(ht:0≤t∧t≤8589934592)(hwa:0≤wa)(hir:0≤ir)(hse: -1≤se):∀(rem kept:List bH) (du:Int),(∀m∈kept++rem,tu m)→((kept++rem).map aL).Pairwise Less→(-1≤du∧du≤8589934592)→
  (∀m∈(jF se wa ir t a kept du rem).1,tu m)∧(((jF se wa ir t a kept du rem).1).map aL).Pairwise Less∧(-1≤(jF se wa ir t a kept du rem).2∧(jF se wa ir t a kept du rem).2≤8589934592)∧(jF se wa ir t a kept du rem).1.length≤kept.length+rem.length
 | [],kept,du,h1,h2,h3=>by rw[arP]at h1 h2;exact⟨h1,h2,h3,arz _⟩
 |m::rem,kept,du,h1,h2,h3=>by
  have e:∀x:bH,kept++ [x]++rem=kept++x::rem:=fun x=>by rw[arJ];rfl
  have hm:tu m:=h1 m (by simp)
  have put:∀x:bH,aL x=aL m→tu x→(∀y∈kept++ [x]++rem,tu y)∧((kept++ [x]++rem).map aL).Pairwise Less:=fun x hx ho=>by
   rw[e];refine⟨fun y hy=> ?_,?_⟩
   ·rcases arA.1 hy with hy|hy
    ·exact h1 y (List.mem_append_left _ hy)
    ·rcases arW.1 hy with rfl|hy
     ·exact ho
     ·exact h1 y (List.mem_append_right _ (as0 _ hy))
   ·rw[arM,arF,hx];rw[arM,arF]at h2;exact h2
  unfold jF;split
  ·split
   ·obtain⟨p1,p2⟩:=put (stepM m false t) rfl (step_ok hm ht false);obtain⟨a1,a2,a3,a4⟩:=Gp ht hwa hir hse rem (kept++ [stepM m false t]) (gG du se wa ir t) p1 p2 (GR ht hwa h3 hse hir);exact⟨a1,a2,a3,by simp at a4 ⊢;omega⟩
   ·have hs:(kept++rem).Sublist (kept++m::rem):=(List.Sublist.refl _).append (List.sublist_cons_self _ _);obtain⟨a1,a2,a3,a4⟩:=Gp (a:=a) ht hwa hir hse rem kept (if(kept++rem).length=0 then -1 else du) (fun y hy=>h1 y (hs.subset hy)) (h2.sublist (hs.map aL)) (by split<;>omega);exact⟨a1,a2,a3,by have:(m::rem).length=rem.length+1:=rfl;omega⟩
  ·obtain⟨p1,p2⟩:=put m rfl hm;obtain⟨a1,a2,a3,a4⟩:=Gp (a:=a) ht hwa hir hse rem (kept++ [m]) du p1 p2 h3;exact⟨a1,a2,a3,by simp at a4 ⊢;omega⟩
theorem ah1{g:bC}(h:VG g){r:dG}(hr:RR r){t:Int}(a:Int)(ht:0≤t∧t≤8589934592):VG (rR (yD g r t a).2.1 (yD g r t a).2.2):=by
 have hlen:=h.len;unfold yD;split
 ·exact⟨hlen,h.rt,h.due,h.sent,h.mem,h.up⟩
 ·obtain⟨a1,a2,a3,a4⟩:=Gp (a:=a) ht hr.wait (by have:=hr.wait;have:=hr.int;omega:(0:Int)≤iL r) h.sent.1 (aM g) [] (dU g) h.mem h.up h.due;exact⟨by simp only[List.length_nil,arZ]at a4;exact asb a4 hlen,h.rt,a3,h.sent,a1,a2⟩
theorem Ck{mu:List ByteArray}{k:ByteArray}:Bf mu k=true↔k∈mu:=by
 unfold Bf;rw[List.any_eq_true];constructor
 ·rintro⟨x,hx,e⟩;have:x=k:=by simpa using e
  exact this ▸ hx
 ·exact fun h=>⟨k,h,by simp⟩
theorem adD{mu:List ByteArray}{k:ByteArray}(h:k∉mu):Bf mu k=false:=by
 cases hc:Bf mu k
 ·rfl
 ·exact absurd (Ck.1 hc) h
theorem adl{mu:List ByteArray}{ms:List bH}{k:ByteArray}:k∈fJ mu ms↔∃m∈ms,aL m=k∧k∉mu∧bZ m=true:=by
 unfold fJ;rw[asn];constructor
 ·rintro⟨m,hm,rfl⟩;rw[asG,ar8,asI]at hm;exact⟨m,hm.1,rfl,fun hc=>by rw[Ck.2 hc]at hm;exact absurd hm.2.1 (by simp),hm.2.2⟩
 ·rintro⟨m,hm,rfl,h1,h2⟩;refine⟨m,asG.2 ⟨hm,?_⟩,rfl⟩;rw[ar8,asI];exact⟨adD h1,h2⟩
theorem aas(F R:List ByteArray)(ms:List bH):(mG F R ms).map aL=(ms.filter fun m=> !Bf R (aL m)).map aL:=by
 unfold mG;rw[as1];rfl
theorem UM{F R:List ByteArray}{ms:List bH}{x:bH}:x∈mG F R ms↔∃m∈ms,aL m∉R∧x=lm F m:=by
 unfold mG;rw[asn];constructor
 ·rintro⟨m,hm,rfl⟩;rw[asG,asI]at hm;exact⟨m,hm.1,fun hc=>by rw[Ck.2 hc]at hm;exact absurd hm.2 (by simp),rfl⟩
 ·rintro⟨m,hm,h1,rfl⟩;refine⟨m,asG.2 ⟨hm,?_⟩,rfl⟩;cases hc:Bf R (aL m)
  ·rfl
  ·exact absurd (Ck.1 hc) h1
theorem ahV{g:bC}(h:VG g)(mu:List ByteArray)(R:List ByteArray)(du se:Int)(hd: -1≤du∧du≤8589934592)(hs: -1≤se∧se≤8589934592):VG (rR (g.1,g.2.1,du,se,()) (mG (fJ mu (aM g)) R (aM g))):=by
 refine⟨asb (Hr _ _ _) h.len,h.rt,hd,hs,fun x hx=> ?_,?_⟩
 ·obtain⟨m,hm,_,rfl⟩:=UM.1 hx;have ho:=h.mem m hm;refine⟨ho.lab,ho.key,ho.since,ho.heard,?_⟩
  show bZ m=true∨(dD m||Bf (fJ mu (aM g)) (aL m))=false
  rcases ho.told with hf|hf
  ·exact .inl hf
  ·cases hc:Bf (fJ mu (aM g)) (aL m)
   ·exact .inr (by rw[hf];rfl)
   ·obtain⟨m',hm',e,_,hf'⟩:=adl.1 (Ck.1 hc);rw[key_inj h.up hm' hm e]at hf';exact .inl hf'
 ·show((mG _ _ _).map aL).Pairwise Less
  rw[aas];exact h.up.sublist ((List.filter_sublist).map aL)
theorem abR{g:bC}(h:VG g)(r:dG){t:Int}(mu:List ByteArray)(ht:0≤t∧t≤8589934592):VG (rR (jI g r t mu).2.1 (jI g r t mu).2.2.2.1):=by
 have hn:∀(ms:List bH) se o,-1≤(if ms.length=0 then -1 else oZ se (iL r) (p9 r) t o)∧(if ms.length=0 then -1 else oZ se (iL r) (p9 r) t o)≤8589934592:=fun ms se o=>by
  have:=R3 (se:=se) (ir:=iL r) (rp:=p9 r) (o:=o) ht.1;split<;>omega
 unfold jI;split
 ·exact⟨h.len,h.rt,h.due,h.sent,h.mem,h.up⟩
 ·dsimp only;split
  ·exact ahV h mu _ _ _ (hn _ _ _) (by omega)
  ·exact⟨h.len,h.rt,hn _ _ _,h.sent,h.mem,h.up⟩
theorem aa1(l:List LT)(h:l.length≤big):m49 ((l,l,()),())=some ((true,()),()):=by
 unfold big at h;have hl:=dM (f:=Ga) l (fun i=>(((i:Int),l,l,()),())) (.inr ((),())) ?_ ?_
 ·unfold m49;have:(((l.length:Int):Int) !=(l.length:Int))=false:=arN _;simp only[this,aA,sS];exact aN _ hl rfl
 ·intro i e he hi;have hw:aO ((i:Int)+1)=((i+1:Nat):Int):=aI (by omega)
  have h1:∀b:ByteArray,(b==b)=true:=fun b=>by
   show(b.data==b.data)=true
   exact asu _
  simp only[Ga,bO hi,aJ,aD he,h1,Bool.and_self,arE,hw,aA,sS]
 ·simp only[Ga,bX,aA,sS]
theorem ais(g:bC)(h1:(aM g).length≤big)(h2:∀m∈aM g,(bq m).length≤big):m54 ((g,g,()),())=some ((true,()),()):=by
 unfold big at h1;obtain⟨rt,ky,ms,du,se,⟨⟩⟩:=g;dsimp only[aM]at h1 h2;have hl:=dM (f:=FJ) ms (fun i=>(((i:Int),()),(((rt,ky,ms,du,se,()),()),((rt,ky,ms,du,se,()),()),()))) (.inr ((),())) ?_ ?_
 ·unfold m54;have bb:(!(ky.toList==ky.toList))=false:=by simp
  simp only[bb,aA,sS];exact aN _ hl rfl
 ·intro i e he hi;have hw:aO ((i:Int)+1)=((i+1:Nat):Int):=aI (by omega);have q:=aa1 e.2.1 (h2 e (arp he));have bb:(!(e.1.toList==e.1.toList))=false:=by simp
  have b2:(!(e.2.2.2.2.1==e.2.2.2.2.1))=false:=by simp
  have b3:(!(e.2.2.2.2.2.1==e.2.2.2.2.2.1))=false:=by simp
  simp only[FJ,bO hi,aJ,aD he,q,bb,b2,b3,hw,aA,sS]
 ·simp only[FJ,bX,aA,sS]
theorem agZ(n:Kn)(F R:List ByteArray)(h1:F.length≤big)(h2:R.length≤big):m55 (((n.1,n.2.1,n.2.2.1,n.2.2.2.1,F,R,()),(n.1,n.2.1,n.2.2.1,n.2.2.2.1,F,R,()),()),())=some ((true,()),()):=by
 unfold big at h1 h2;obtain⟨a,b,c,d,⟨⟩⟩:=n;dsimp only;have hl:=dM (f:=FC) F (fun i=>(((i:Int),()),(((a,b,c,d,F,R,()),()),((a,b,c,d,F,R,()),()),()))) (.inr ((),(((a,b,c,d,F,R,()),()),((a,b,c,d,F,R,()),()),()))) ?_ ?_
 ·have hl2:=dM (f:=FE) R (fun i=>(((i:Int),()),(((a,b,c,d,F,R,()),()),((a,b,c,d,F,R,()),()),()))) (.inr ((),())) ?_ ?_
  ·unfold m55;have bb:(!(d.toList==d.toList))=false:=by simp
   simp only[bb,aA,sS];refine aN _ hl ?_;simp only[aA,sS];exact aN _ hl2 rfl
  ·intro i e he hi;have hw:aO ((i:Int)+1)=((i+1:Nat):Int):=aI (by omega);have bb:(!(e.toList==e.toList))=false:=by simp
   simp only[FE,bO hi,aJ,aD he,bb,hw,aA,sS]
  ·simp only[FE,bX,aA,sS]
 ·intro i e he hi;have hw:aO ((i:Int)+1)=((i+1:Nat):Int):=aI (by omega);have bb:(!(e.toList==e.toList))=false:=by simp
  simp only[FC,bO hi,aJ,aD he,bb,hw,aA,sS]
 ·simp only[FC,bX,aA,sS]
end Go.Proofs.YtchnmpafhfjimaaGreatDoor
namespace Go.Proofs.YtchnmpafhfjimaaGreatDoor
open Go Go.Abs Go.Lab
end Go.Proofs.YtchnmpafhfjimaaGreatDoor
namespace Go.Proofs.YtchnmpafhfjimaaGreatDoor
open Go Go.Abs
abbrev dw:Type:=List dG×List yN×Int×Unit
abbrev InT:Type:=Int×List bC×List dm×Int×Unit
abbrev Ag:Type:=Int×List LT×Bool×Unit
abbrev dx(s:InT):Int:=s.1
abbrev bA(s:InT):List bC:=s.2.1
abbrev bL(s:InT):List dm:=s.2.2.1
abbrev bN(s:InT):Int:=s.2.2.2.1
structure mR(p:dw):Prop where
 rt:R6 p.1
 inl:p.2.1.length≤big
 inh:∀r∈p.2.1,TSz r
 rs:X4 p.2.1
def Ad(p:dw):Int:=if kC p.1≠0 then kC p.1 else if vP p.2.1≠0 then vP p.2.1 else if p.2.2.1<0∨p.2.2.1>604800 then 1 else 0
theorem RP(p:dw)(hp:mR p):m34 ((p,()),())=some ((Ad p,()),()):=by
 unfold m34 Ad;refine aN _ (MC p.1 hp.rt) ?_;by_cases h1:kC p.1=0
 ·simp only[h1,arN,asw,ne_eq,not_true_eq_false,if_false];refine aN _ (ai0 p.2.1 hp.inl hp.inh) ?_;by_cases h2:vP p.2.1=0
  ·simp only[h2,arN,asw,not_true_eq_false,if_false];by_cases h3:p.2.2.1<0
   ·simp[h3]
   ·by_cases h4:p.2.2.1>604800<;>simp[h3,h4]
  ·simp only[asi.2 h2,cond_true,h2,asU,if_true]
 ·simp only[asi.2 h1,cond_true,ne_eq,h1,asU,if_true]
theorem TL(p:dw)(hp:mR p):m35 ((p,()),())=some ((Ad p,()),()):=by
 unfold m35 Ad;refine aN _ (Mc p.1 hp.rt) ?_;by_cases h1:kC p.1=0
 ·simp only[h1,arN,asw,ne_eq,not_true_eq_false,if_false];refine aN _ (ag4 p.2.1 hp.inl hp.inh) ?_;by_cases h2:vP p.2.1=0
  ·simp only[h2,arN,asw,not_true_eq_false,if_false];by_cases h3:p.2.2.1<0
   ·simp[h3]
   ·by_cases h4:p.2.2.1>604800<;>simp[h3,h4]
  ·simp only[asi.2 h2,cond_true,h2,asU,if_true]
 ·simp only[asi.2 h1,cond_true,ne_eq,h1,asU,if_true]
theorem iY{p:dw}(h:Ad p=0):kC p.1=0∧vP p.2.1=0∧0≤p.2.2.1∧p.2.2.1≤604800:=by
 unfold Ad at h;split at h
 ·rename_i h1;exact absurd h h1
 ·rename_i h1;split at h
  ·rename_i h2;exact absurd h h2
  ·rename_i h2;split at h
   ·cases h
   ·rename_i h3;exact⟨by simpa using h1,by simpa using h2,by omega,by omega⟩
theorem Xa{r:dG}(h:gU r=0):zG r=true:=by
 unfold zG
 have e:gU (strip r)=0:=by
  unfold gU strip at *;cases h1:(decide ((r.2.1.length:Int)>8)||decide ((r.2.2.2.1.length:Int)>12))
  ·rw[h1]at h;cases h2:(!r.2.1.all bD|| !jK r.2.2.2.1)
   ·rw[h2]at h;simp only[asg]at h1 h2;simp only[h1.2,h2.2,List.length_nil,List.all_nil];exact h
   ·rw[h2]at h;cases h
  ·rw[h1]at h;cases h
 rw[e];rfl
theorem Bb{l:List dG}(hl:R6 l)(h:kC l=0):∀r∈l,RR r:=by
 intro r hr;refine akZ (hl.2 r hr) (Xa ?_);unfold kC at h;cases h0:((l.length:Int)==0)
 ·rw[h0]at h;cases h1:decide ((l.length:Int)>24)
  ·rw[h1]at h
   have h2:CZ um 0 l=0:=by
    cases h2:(CZ um 0 l !=0)
    ·simpa using h2
    ·rw[h2]at h;simp only[asw,cond_true]at h;rw[h]at h2;cases h2
   obtain⟨k,hk,rfl⟩:=List.mem_iff_getElem.1 hr;have:=wU h2 k _ (arw hk);unfold um at this;cases hb:mU (0+k) l[k]
   ·rw[hb]at this;exact this
   ·rw[hb]at this;cases this
  ·rw[h1]at h;cases h
 ·rw[h0]at h;cases h
theorem og{l:List dG}(h:kC l=0):l.length≤24:=by
 unfold kC at h;cases h0:((l.length:Int)==0)
 ·rw[h0]at h;cases h1:decide ((l.length:Int)>24)
  ·have:=asF h1;omega
  ·rw[h1]at h;cases h
 ·rw[h0]at h;cases h
def iD(rs:List dG)(now:Int)(g:bC):Bool:=
 decide ((aM g).length=0)&&(decide (bQ g= -1)||match rs[g.1.toNat]? with|some r=>decide (bQ g+iL r≤now)|none=>false)
theorem Sr(p:dw)(g:bC)(now:Int)(hg:VG g){r:dG}(h:p.1[g.1.toNat]?=some r)(hr:RR r):m83 ((p,g,now,()),())=some ((iD p.1 now g,()),()):=by
 have h1:=hg.sent;have h2:=hg.rt;have h3:=hr.int;have h4:=hr.Uo;have h5:=hr.max;have h6:=hr.wait;obtain⟨rt,ky,ms,du,se,⟨⟩⟩:=g;dsimp only[bQ,iL,jb,p9]at h h1 h2 h3 h4 h5 h6;have hw:aO (se+r.2.2.2.2.2.1)=se+r.2.2.2.2.2.1:=bI (by omega) (by omega);unfold m83 ahS iD;dsimp only[aM,bQ];simp only[aJ,ic h2 h,hw];rw[h]
 have e0:((ms.length:Int)==0)=decide (ms.length=0):=by
  by_cases h:ms.length=0
  ·simp[h]
  ·rw[ar7.2 (by omega),arl h]
 simp only[e0,asa,dY];cases decide (ms.length=0)<;>cases decide (se= -1)<;>rfl
theorem YR(p:dw)(g:bC)(now:Int)(hg:VG g){r:dG}(h:p.1[g.1.toNat]?=some r)(hr:RR r):m89 ((p,g,now,()),())=some ((iD p.1 now g,()),()):=Sr p g now hg h hr
def jf(a:bC)(rt:Int)(k:ByteArray):Bool:=decide (a.1<rt)||(decide (a.1=rt)&&Op.bytesLess a.2.1.toList k.toList)
def sJ(a:bC)(rt:Int)(k:ByteArray):Int:=if a.1=rt then Fp a.2.1 k else a.1-rt
theorem RD(a:bC)(rt:Int)(k:ByteArray)(h1:0≤a.1∧a.1≤1048576)(h2:0≤rt∧rt≤1048576):m84 ((a,rt,k,()),())=some ((sJ a rt k,()),()):=by
 unfold m84 sJ;by_cases h:a.1=rt
 ·simp only[h,arN,asw,if_true];refine aN _ (Vq a.2.1 k) rfl
 ·simp only[asi.2 h,cond_true,if_neg h,bI (x:=a.1-rt) (by omega) (by omega)]
theorem Di(a:bC)(rt:Int)(k:ByteArray):decide (sJ a rt k<0)=jf a rt k:=by
 unfold sJ jf Fp;by_cases h:a.1=rt
 ·simp only[h,if_true,Int.lt_irrefl,asB,as4,arU,ar0];cases Op.bytesLess a.2.1.toList k.toList
  ·simp only[ar3,if_false];split<;>rfl
  ·rfl
 ·rw[if_neg h];simp only[h,asB,asv,ar2];exact asz.2 (by omega)
theorem YQ(a:bC)(rt:Int)(k:ByteArray):m90 ((a,rt,k,()),())=some ((jf a rt k,()),()):=by
 unfold m90 jf;by_cases h1:a.1<rt
 ·simp[h1]
 ·by_cases h2:a.1=rt
  ·simp[h1,h2]
  ·simp[h1,h2,ar7.2 h2]
def Dc(now t:Int):Int:=if t<now then 6 else if t>8589934592 then 1 else 0
theorem sD{A B E:Type}{f:A→Option (A⊕B)}(l:List E)(st:Nat→A)(p:E→Bool)(no:Nat→B)(yes:B)
  (h1:∀i e,l[i]?=some e→i<l.length→f (st i)=some (bif p e then .inl (st (i+1))else .inr (no i))) (h2:f (st l.length)=some (.inr yes)):
  ∃j:Nat,aC f (st 0)=some (bif l.all p then yes else no j):=by
 have key:∀(k i:Nat),i+k=l.length→∃j:Nat,aC f (st i)=some (bif (l.drop i).all p then yes else no j):=by
  intro k
  induction k with
  |zero=>
   intro i h;obtain rfl:i=l.length:=by omega
   rw[asj];exact⟨0,aF h2⟩
  |succ k ih=>
   intro i h;obtain⟨e,he,hd⟩:=drop_at (l:=l) (i:=i) (by omega);have q:=h1 i e he (by omega);rw[hd,List.all_cons];cases hb:p e
   ·rw[hb]at q;exact⟨i,aF q⟩
   ·rw[hb]at q;rw[arU];obtain⟨j,hj⟩:=ih (i+1) (by omega);exact⟨j,(aH q).trans hj⟩
 have:=key l.length 0 (by omega);rw[arL]at this;exact this
def zH(rs:List dG)(g:bC)(m:bH):ByteArray:=match rs[g.1.toNat]? with|some r=>A7 r (bq m)|none=>ByteArray.empty
def r9(p:dw)(now:Int)(q:Option bC)(g:bC):Bool:=
 decide (g.1≥(p.1.length:Int))||(iD p.1 now g||((match q with|none=>false|some a=> !jf a g.1 g.2.1)|| !(aM g).all fun m=>decide (zH p.1 g m=g.2.1)))
def j3(p:dw)(s:InT):Bool:=
 decide (Ad p=0)&&(inst (dx s)&&(decide ((bA s).length≤64)&&(decide (iW (bL s)=0)&&(decide (1≤bN s)&&((bL s).all (fun x=>decide (x.1<bN s))&&tJ (r9 p (dx s)) none (bA s))))))
structure mE(s:InT):Prop where
 len:(bA s).length≤1048576
 rR:∀g∈bA s,VG g∧g.1≤1048576
 CY:uw (bL s)
theorem I9{l:List dG}{g:bC}(hg:VG g)(h:¬ g.1≥(l.length:Int)):∃r,l[g.1.toNat]?=some r:=by
 have:=hg.rt;exact⟨_,arw (by omega)⟩
theorem ahy(p:dw){g:bC}(hg:VG g){r:dG}(h:p.1[g.1.toNat]?=some r)(hz:r.2.2.2.1.length≤big)(p0:Int):
  ∃j:Nat,aC BK (((0:Int),aM g,((aM g).length:Int),()),((p,()),((g,()),())))=
   some (bif (aM g).all (fun m=>decide (zH p.1 g m=g.2.1))then .inr ((),((p,()),((g,()),())))else .inl (((j:Int),()),((p,()),((g,()),())))):=by
 have hl:=hg.len;have h2:=hg.rt;refine sD (f:=BK) (aM g) (fun i=>(((i:Int),aM g,((aM g).length:Int),()),((p,()),((g,()),())))) (fun m=>decide (zH p.1 g m=g.2.1)) (fun i=>.inl (((i:Int),()),((p,()),((g,()),())))) _ ?_ ?_
 ·intro i e he hi;have hw:=aI (i:=i) (by omega);have q:=ZA r (bq e) (iT (hg.mem e (arp he)).lab) hz;have q2:zH p.1 g e=A7 r (bq e):=by unfold zH;rw[h]
  dsimp only[bq]at q;rw[q2];simp only[BK,bO hi,aJ,aD he,ic h2 h,q,bg,gB,hw,aA,sS];cases decide (A7 r e.2.1=g.2.1)<;>simp only[hw,aA,sS]
 ·simp only[BK,bX,aA,sS]
theorem aaE(p:dw)(hp:mR p)(h0:kC p.1=0)(s:InT)(hs:mE s):
  aC rX (((0:Int),bA s,((bA s).length:Int),()),((p,()),((s,()),())))=some (bif tJ (r9 p (dx s)) none (bA s)then .inr ((),())else .inl ((false,()),())):=by
 have hlen:=hs.len;have hrl:=og h0;refine jV (f:=rX) (bA s) (fun i=>(((i:Int),bA s,((bA s).length:Int),()),((p,()),((s,()),())))) (r9 p (dx s)) (.inl ((false,()),())) (.inr ((),())) ?_ ?_
 ·intro i e he hi;obtain⟨hv,hv2⟩:=hs.rR e (arp he);have hw:=aI (i:=i) (by omega);have q1:=Me hv;have h2:=hv.rt;unfold r9;by_cases hr:e.1≥(p.1.length:Int)
  ·simp only[rX,bO hi,aJ,aD he,q1,arj hr,ar6,ar0,ar2,arE,arB,aA,sS]
  ·obtain⟨r,hr2⟩:=I9 hv hr;have hrr:=Bb hp.rt h0 r (arp hr2);have q2:=Sr p e (dx s) hv hr2 hrr;obtain⟨j,q3⟩:=ahy p hv hr2 hrr.z.2.1 0;dsimp only[dx,aM]at q2 q3;have hj:decide ((j:Int)≥0)=true:=arj (by omega);rcases jA hi with h0|⟨a,h0,ha,ha1⟩
   ·rw[if_pos h0];have hd:decide ((i:Int)>0)=false:=arl (by omega);simp only[rX,bO hi,aJ,aD he,q1,arl hr,q2,hd,dx,aM,ar6,ar0,ar2,arE,arB,aA,sS];cases iD p.1 s.1 e<;>simp only[ar6,ar0,ar2,arE,arB,aA,sS];rw[q3];cases List.all e.2.2.1 (fun m=>decide (zH p.1 e m=e.2.1))<;>simp only[hj,hw,ar6,ar0,ar2,arE,arB,aA,sS]
   ·rw[if_neg (by omega),ha];obtain⟨av,av2⟩:=hs.rR a (arp ha);have hd:decide ((i:Int)>0)=true:=arj (by omega);have q4:=RD a e.1 e.2.1 ⟨av.rt,av2⟩ ⟨h2,by omega⟩
    have q5:decide (sJ a e.1 e.2.1≥0)= !jf a e.1 e.2.1:=by
     rw[←Di,←decide_not];exact asz.2 (by omega)
    simp only[rX,bO hi,aJ,aD he,q1,arl hr,q2,hd,ha1 (by omega),aD ha,q4,q5,dx,aM,ar6,ar0,ar2,arE,arB,aA,sS];cases iD p.1 s.1 e<;>simp only[ar6,ar0,ar2,arE,arB,aA,sS];cases jf a e.1 e.2.1<;>simp only[ar6,ar0,ar2,arE,arB,aA,sS];rw[q3];cases List.all e.2.2.1 (fun m=>decide (zH p.1 e m=e.2.1))<;>simp only[hj,hw,ar6,ar0,ar2,arE,arB,aA,sS]
 ·simp only[rX,bX,ar6,ar0,ar2,arE,arB,aA,sS]
theorem aaM:∀{l:List dm},tQ 0 l=0→∀(n:Int),l≠ []→∃x,l[l.length-1]?=some x∧(l.all fun y=>decide (y.1<n))= !decide (x.1≥n):=by
 intro l h n hne;obtain⟨a,x,rfl⟩:∃a x,l=a++ [x]:=⟨l.dropLast,l.getLast hne,(List.dropLast_concat_getLast hne).symm⟩
 refine⟨x,by simp,?_⟩
 have hs:∀y∈a,y.1<x.1:=by
  intro y hy;obtain⟨b,c,rfl⟩:=List.mem_iff_append.1 hy;have:=KI b 0 y (c++ [x]) (by simpa using h);exact this x (by simp)
 rw[List.all_append];by_cases hx:x.1≥n
 ·simp[hx,Int.not_lt.2 hx]
 ·have ha:(a.all fun y=>decide (y.1<n))=true:=arQ.2 fun y hy=>arj (by have:=hs y hy;omega)
  simp[ha,hx,Int.not_le.1 hx]
theorem Ht(p:dw)(hp:mR p)(s:InT)(hs:mE s):m36 ((p,s,()),())=some ((j3 p s,()),()):=by
 unfold m36;have hl:=hs.len;have q2:=Gv (bL s) hs.CY;have hsl:=hs.CY.1;by_cases hc:Ad p=0
 ·obtain⟨c1,c2,c3,c4⟩:=iY hc;have q3:=aaE p hp c1 s hs;obtain⟨now,gs,sl,nx,⟨⟩⟩:=s;dsimp only[bA,bL,dx,bN]at q2 q3 hl hsl;have q1:=RP p hp;unfold j3;rw[hc]at q1;simp only[q1,q2,hc,dx,bA,bL,bN,inst,arN,as4,arU,aA,sS];by_cases h1:now<0
  ·have e:decide (0≤now∧now≤8589934592)=false:=arl (by omega);simp only[h1,e,as4,asv,aA,sS]
  by_cases h2:now>8589934592
  ·have e:decide (0≤now∧now≤8589934592)=false:=arl (by omega);simp only[h1,h2,e,as4,asB,asv,aA,sS]
  have e:decide (0≤now∧now≤8589934592)=true:=arj (by omega);by_cases h3:(gs.length:Int)>64
  ·have e3:decide (gs.length≤64)=false:=arl (by omega);simp only[h1,h2,h3,e,e3,as4,asB,arU,asv,aA,sS]
  have e3:decide (gs.length≤64)=true:=arj (by omega);by_cases h4:iW sl=0
  ·by_cases h5:nx<1
   ·have e5:decide (1≤nx)=false:=arl (by omega);simp only[h1,h2,h3,h4,h5,e,e3,e5,arN,as4,asB,arU,asv,aA,sS]
   have e5:decide (1≤nx)=true:=arj (by omega);simp only[h1,h2,h3,h4,h5,e,e3,e5,arN,as4,asB,arU,asv,aA,sS];by_cases hn:sl=[]
   ·subst hn;simp only[List.length_nil,List.all_nil,arU];have e6:decide ((((0:Nat):Nat):Int)>0)=false:=by decide
    simp only[e6,q3,aA,sS];cases tJ (r9 p now) none gs<;>rfl
   ·obtain⟨x,hx,hx2⟩:=aaM (Dw h4).1 nx hn;have hpos:0<sl.length:=List.length_pos_iff.2 hn;have e6:decide (((sl.length:Nat):Int)>0)=true:=arj (by omega);have e7:aO (((sl.length:Nat):Int)-1)=((sl.length-1:Nat):Int):=by rw[bI (by omega) (by omega)];omega
    rw[hx2];simp only[e6,e7,aJ,aD hx,aA,sS];cases decide (x.1≥nx)<;>simp only[q3,arE,arB,arU,asv,aA,sS];cases tJ (r9 p now) none gs<;>rfl
  ·simp only[h1,h2,h3,h4,asi.2 h4,e,e3,as4,asB,arU,asv,aA,sS]
 ·have q1:=RP p hp;unfold j3;simp only[q1,asi.2 hc,arl hc,asv,aA,sS]
theorem agI(p:dw){g:bC}(hg:VG g){r:dG}(h:p.1[g.1.toNat]?=some r)(hz:r.2.2.2.1.length≤big)(i0:Int)(s:InT):
  ∃j:Nat,aC vQ (((0:Int),i0,()),((g,()),((p,()),((s,()),()))))=
   some (bif (aM g).all (fun m=>decide (zH p.1 g m=g.2.1))then .inr ((i0,()),((p,()),((s,()),())))else .inl ((false,()),())):=by
 have hl:=hg.len;have h2:=hg.rt;refine sD (f:=vQ) (aM g) (fun i=>(((i:Int),i0,()),((g,()),((p,()),((s,()),()))))) (fun m=>decide (zH p.1 g m=g.2.1)) (fun _=>.inl ((false,()),())) _ ?_ ?_
 ·intro i e he hi;have hw:=aI (i:=i) (by omega);have q:=aam r (bq e) (iT (hg.mem e (arp he)).lab) hz;have q2:zH p.1 g e=A7 r (bq e):=by unfold zH;rw[h]
  dsimp only[bq]at q;dsimp only[aM]at he hi;rw[q2];simp only[vQ,bO hi,aJ,aD he,ic h2 h,q,bg,gB,hw,aA,sS];cases decide (A7 r e.2.1=g.2.1)<;>simp only[hw,aA,sS]
 ·dsimp only[aM];simp only[vQ,bX,aA,sS]
theorem Ym(p:dw)(hp:mR p)(h0:kC p.1=0)(s:InT)(hs:mE s):
  aC sM (((0:Int),()),((p,()),((s,()),())))=some (bif tJ (r9 p (dx s)) none (bA s)then .inr ((),((s,()),()))else .inl ((false,()),())):=by
 have hlen:=hs.len;have hrl:=og h0;refine jV (f:=sM) (bA s) (fun i=>(((i:Int),()),((p,()),((s,()),())))) (r9 p (dx s)) (.inl ((false,()),())) (.inr ((),((s,()),()))) ?_ ?_
 ·intro i e he hi;obtain⟨hv,hv2⟩:=hs.rR e (arp he);have hw:=aI (i:=i) (by omega);have q1:=NV hv;have h2:=hv.rt;unfold r9;dsimp only[bA]at he hi hlen;by_cases hr:e.1≥(p.1.length:Int)
  ·simp only[sM,bO hi,aJ,aD he,q1,arj hr,ar6,ar0,ar2,arE,arB,aA,sS]
  ·obtain⟨r,hr2⟩:=I9 hv hr;have hrr:=Bb hp.rt h0 r (arp hr2);have q2:=YR p e (dx s) hv hr2 hrr;obtain⟨j,q3⟩:=agI p hv hr2 hrr.z.2.1 (i:Int) s;dsimp only[dx,aM]at q2 q3;rcases jA hi with h0|⟨a,h0,ha,ha1⟩
   ·rw[if_pos h0];have hd:decide ((i:Int)>0)=false:=arl (by omega);simp only[sM,bO hi,aJ,aD he,q1,arl hr,q2,hd,dx,aM,ar6,ar0,ar2,arE,arB,aA,sS];cases iD p.1 s.1 e<;>simp only[ar6,ar0,ar2,arE,arB,aA,sS];rw[q3];cases List.all e.2.2.1 (fun m=>decide (zH p.1 e m=e.2.1))<;>simp only[hw,ar6,ar0,ar2,arE,arB,aA,sS]
   ·rw[if_neg (by omega),ha];have hd:decide ((i:Int)>0)=true:=arj (by omega);have q4:=YQ a e.1 e.2.1;simp only[sM,bO hi,aJ,aD he,q1,arl hr,q2,hd,ha1 (by omega),aD ha,q4,dx,aM,ar6,ar0,ar2,arE,arB,aA,sS];cases iD p.1 s.1 e<;>simp only[ar6,ar0,ar2,arE,arB,aA,sS];cases jf a e.1 e.2.1<;>simp only[ar6,ar0,ar2,arE,arB,aA,sS];rw[q3];cases List.all e.2.2.1 (fun m=>decide (zH p.1 e m=e.2.1))<;>simp only[hw,ar6,ar0,ar2,arE,arB,aA,sS]
 ·dsimp only[bA];simp only[sM,bX,aA,sS]
theorem amx(s:InT)(hs:mE s):∃j:Nat,aC uW (((0:Int),()),((s,()),()))=some (bif (bL s).all (fun x=>decide (x.1<bN s))then .inr ((),())else .inl ((false,()),())):=by
 have hl:=hs.CY.1;refine sD (f:=uW) (bL s) (fun i=>(((i:Int),()),((s,()),()))) (fun x=>decide (x.1<bN s)) (fun _=>.inl ((false,()),())) _ ?_ ?_
 ·intro i e he hi;have hw:=aI (i:=i) (by omega);have hd:decide (e.1≥s.2.2.2.1)= !decide (e.1<s.2.2.2.1):=by rw[←decide_not];exact asz.2 (by omega)
  dsimp only[bL,bN]at he hi ⊢;simp only[uW,bO hi,aJ,aD he,hd,aA,sS];cases decide (e.1<s.2.2.2.1)<;>simp only[hw,arE,arB,aA,sS]
 ·dsimp only[bL];simp only[uW,bX,aA,sS]
theorem J3(p:dw)(hp:mR p)(s:InT)(hs:mE s):m37 ((p,s,()),())=some ((j3 p s,()),()):=by
 unfold m37;have hl:=hs.len;have q2:=Hu (bL s) hs.CY;have hsl:=hs.CY.1;by_cases hc:Ad p=0
 ·obtain⟨c1,c2,c3,c4⟩:=iY hc;have q3:=Ym p hp c1 s hs;obtain⟨j,q4⟩:=amx s hs;obtain⟨now,gs,sl,nx,⟨⟩⟩:=s;dsimp only[bA,bL,dx,bN]at q2 q3 q4 hl hsl;have q1:=TL p hp;unfold j3;rw[hc]at q1;simp only[q1,q2,hc,dx,bA,bL,bN,inst,arN,as4,arU,aA,sS];by_cases h1:now<0
  ·have e:decide (0≤now∧now≤8589934592)=false:=arl (by omega);simp only[h1,e,as4,asv,aA,sS]
  by_cases h2:now>8589934592
  ·have e:decide (0≤now∧now≤8589934592)=false:=arl (by omega);simp only[h1,h2,e,as4,asB,asv,aA,sS]
  have e:decide (0≤now∧now≤8589934592)=true:=arj (by omega);by_cases h3:(gs.length:Int)>64
  ·have e3:decide (gs.length≤64)=false:=arl (by omega);simp only[h1,h2,h3,e,e3,as4,asB,arU,asv,aA,sS]
  have e3:decide (gs.length≤64)=true:=arj (by omega);by_cases h4:iW sl=0
  ·by_cases h5:nx<1
   ·have e5:decide (1≤nx)=false:=arl (by omega);simp only[h1,h2,h3,h4,h5,e,e3,e5,arN,as4,asB,arU,asv,aA,sS]
   have e5:decide (1≤nx)=true:=arj (by omega);simp only[h1,h2,h3,h4,h5,e,e3,e5,q3,arN,as4,asB,arU,asv,aA,sS];cases tJ (r9 p now) none gs<;>simp only[q4,Bool.and_false,Bool.and_true,aA,sS];cases List.all sl (fun x=>decide (x.1<nx))<;>simp only[aA,sS]
  ·simp only[h1,h2,h3,h4,asi.2 h4,e,e3,as4,asB,arU,asv,aA,sS]
 ·have q1:=TL p hp;unfold j3;simp only[q1,asi.2 hc,arl hc,asv,aA,sS]
end Go.Proofs.YtchnmpafhfjimaaGreatDoor
namespace Go.Proofs.YtchnmpafhfjimaaGreatDoor
open Go Go.Abs Go.Lab
theorem V5{m:bH}(h:tu m):(aL m).size+1≤4294967296:=by
 have h1:=xK h.lab ((bq m).map eP).length;rw[asq]at h1;rw[h.key,size_mk];unfold dX;simp;omega
theorem ajb:Fg []:=⟨arO _,fun x hx=>by cases hx⟩
end Go.Proofs.YtchnmpafhfjimaaGreatDoor
namespace Go.Proofs.YtchnmpafhfjimaaGreatDoor
open Go Go.Abs
def OB(a:Int×Bool)(g:bC):Int×Bool:=bif (dU g != -1)&&(!a.2||decide (dU g<a.1))then(dU g,true)else a
def ad7(l:List bC):Int×Bool:=l.foldl OB (0,false)
theorem ahX(s:InT)(hl:(bA s).length≤1048576):m30 ((s,()),())=some (((ad7 (bA s)).1,(ad7 (bA s)).2,()),()):=by
 have h:=bV (f:=F9) (bA s) (fun i (a:Int×Bool)=>(((i:Int),a.1,a.2,bA s,((bA s).length:Int),()),())) (fun _ a e=>.inl (OB a e)) (fun a=>((a.2,a.1,()),())) ?_ ?_ (0,false)
 ·rw[lu]at h;unfold m30;exact aN _ h rfl
 ·intro i e ⟨a1,a2⟩ he hi;have hw:aO ((i:Int)+1)=((i+1:Nat):Int):=aI (by omega);unfold OB;dsimp only[dU];simp only[F9,aJ,aD he,bO hi,aA,sS];cases (e.2.2.2.1 != -1)<;>cases a2<;>cases decide (e.2.2.2.1<a1)<;>simp only[aA,sS,hw,arE,arB,arH,ar6,ar2,ar0,arU,asv]
 ·intro a;simp only[F9,bX,aA,sS]
theorem aiK(s:InT)(hl:(bA s).length≤1048576):m46 ((s,()),())=some (((ad7 (bA s)).1,(ad7 (bA s)).2,()),()):=by
 have h:=bV (f:=Gm) (bA s) (fun i (a:Int×Bool)=>(((i:Int),a.1,a.2,()),((s,()),()))) (fun _ a e=>.inl (OB a e)) (fun a=>((a.2,a.1,()),())) ?_ ?_ (0,false)
 ·rw[lu]at h;unfold m46;exact aN _ h rfl
 ·intro i e ⟨a1,a2⟩ he hi;have hw:aO ((i:Int)+1)=((i+1:Nat):Int):=aI (by omega);unfold OB;dsimp only[dU,bA]at he hi ⊢;simp only[Gm,aJ,aD he,bO hi,aA,sS];cases (e.2.2.2.1 != -1)<;>cases a2<;>cases decide (e.2.2.2.1<a1)<;>simp only[aA,sS,hw,arE,arB,arH,ar6,ar2,ar0,arU,asv]
 ·intro a;dsimp only[bA];simp only[Gm,bX,aA,sS]
def KT(p:dw)(l:List bC):Prop:=∀g∈l,VG g∧∃r,p.1[g.1.toNat]?=some r∧RR r
def iP(p:dw)(now:Int)(l:List bC):List bC:=l.filter fun g=> !iD p.1 now g
theorem KT.idle{p:dw}{l:List bC}(h:KT p l){g:bC}(hg:g∈l)(now:Int):m83 ((p,g,now,()),())=some ((iD p.1 now g,()),())∧m89 ((p,g,now,()),())=some ((iD p.1 now g,()),()):=by
 obtain⟨hv,r,hr,rr⟩:=h g hg;exact⟨Sr p g now hv hr rr,YR p g now hv hr rr⟩
theorem xQ{A:Type}{a:List A}{n:Nat}(h:a.length+1≤n)(x:A):decide (a.length+ [x].length≤n)=true:=arj (by simpa using h)
theorem xX{A B E F:Type}{f:A→Option (A⊕B)}(l:List E)(st:Nat→List F→A)(g:E→List F)(fin:List F→B)(hlen:l.length≤1048576)
  (hg:∀e,(g e).length≤1)
  (h1:∀i e a,l[i]?=some e→i<l.length→a.length≤i→f (st i a)=some (.inl (st (i+1) (a++g e)))) (h2:∀a,f (st l.length a)=some (.inr (fin a))):
  aC f (st 0 [])=some (fin (l.flatMap g)):=by
 have key:∀(k i:Nat) (a:List F),i+k=l.length→a.length≤i→aC f (st i a)=some (fin (a++(l.drop i).flatMap g)):=by
  intro k
  induction k with
  |zero=>
   intro i a h ha;obtain rfl:i=l.length:=by omega
   rw[asj,List.flatMap_nil,arP];exact aF (h2 a)
  |succ k ih=>
   intro i a h ha;obtain⟨e,he,hd⟩:=drop_at (l:=l) (i:=i) (by omega);rw[hd,as5,←arJ,←ih (i+1) (a++g e) (by omega) (by have:=hg e;rw[arC];omega)];exact aH (h1 i e a he (by omega) ha)
 have:=key l.length 0 [] (by omega) (arz _)
 rwa [arL,asR]at this
theorem Qx{E:Type}(p:E→Bool)(l:List E):l.flatMap (fun e=>bif p e then [e]else [])=l.filter p:=by
 induction l with
 |nil=>rfl
 |cons e r ih=>
  rw[as5,ih,List.filter_cons];cases p e<;>rfl
theorem Xe{A B E:Type}{f:A→Option (A⊕B)}(ms:List E)(keep:E→Bool)(st:Nat→A)(no:B)(yes:Nat→B)
  (h1:∀i e,ms[i]?=some e→i<ms.length→f (st i)=some (bif keep e then .inl (st (i+1))else .inr (yes i))) (h2:f (st ms.length)=some (.inr no)):
  (aC f (st 0)=some no∧ms.filter keep=ms)∨∃j,j<ms.length∧aC f (st 0)=some (yes j)∧(ms.take (j+1)).filter keep=ms.take j:=by
 have key:∀(d i:Nat),i+d=ms.length→(ms.take i).filter keep=ms.take i→
   (aC f (st i)=some no∧ms.filter keep=ms)∨∃j,j<ms.length∧aC f (st i)=some (yes j)∧(ms.take (j+1)).filter keep=ms.take j:=by
  intro d
  induction d with
  |zero=>
   intro i h h3;obtain rfl:i=ms.length:=by omega
   rw[asq]at h3;exact .inl ⟨aF h2,h3⟩
  |succ d ih=>
   intro i h h3;obtain⟨e,he⟩:=getD_some (l:=ms) (i:=i) (by omega);have q:=h1 i e he (by omega);cases hr:keep e
   ·rw[hr]at q;refine .inr ⟨i,by omega,aF q,?_⟩;rw[fo he,as2,h3];simp[hr]
   ·rw[hr]at q;rw[aH q];refine ih (i+1) (by omega) ?_;rw[fo he,as2,h3];simp[hr]
 exact key ms.length 0 (by omega) rfl
theorem Sn{A B E:Type}{f:A→Option (A⊕B)}(ms:List E)(keep:E→Bool)(st:Nat→Nat→List E→A)(fin:Nat→List E→B)
  (h1:∀src dst blk e,src<ms.length→dst<src→blk.length=ms.length→blk[src]?=some e→e∈ms→f (st src dst blk)=some (.inl (bif keep e then st (src+1) (dst+1) (blk.set dst e)else st (src+1) dst blk)))
  (h2:∀dst blk,blk.length=ms.length→f (st ms.length dst blk)=some (.inr (fin dst blk))):∀(d src dst:Nat) (blk:List E),src+d=ms.length→dst<src→blk.length=ms.length→
  blk.take dst=(ms.take src).filter keep→blk.drop src=ms.drop src→
  ∃(dst':Nat) (blk':List E),aC f (st src dst blk)=some (fin dst' blk')∧dst'≤ms.length∧blk'.length=ms.length∧blk'.take dst'=ms.filter keep:=by
 intro d
 induction d with
 |zero=>
  intro src dst blk a1 a2 a3 a4 a5;obtain rfl:src=ms.length:=by omega
  rw[asq]at a4;exact⟨dst,blk,aF (h2 dst blk a3),by omega,a3,a4⟩
 |succ d ih=>
  intro src dst blk a1 a2 a3 a4 a5;obtain⟨e,he⟩:=getD_some (l:=ms) (i:=src) (by omega)
  have he':blk[src]?=some e:=by
   have:=congrArg (fun l=>l[0]?) a5;simp only[as9,asQ]at this;rw[this,he]
  have q:=h1 src dst blk e (by omega) a2 a3 he' (arp he);cases hr:keep e
  ·rw[hr]at q;rw[aH q];refine ih (src+1) dst blk (by omega) (by omega) a3 ?_ ?_
   ·rw[fo he,as2,←a4];simp[hr]
   ·rw[←asL,←asL,a5]
  ·rw[hr]at q;rw[aH q];refine ih (src+1) (dst+1) (blk.set dst e) (by omega) (by omega) (by rw[ase,a3]) ?_ ?_
   ·rw[fo he,as2,←a4];rw[fo (e:=e) (by rw[asS (by omega)])];rw[show(blk.set dst e).take dst=blk.take dst from by rw[List.take_set,List.set_eq_of_length_le (by rw[ar9];omega)]];simp[hr]
   ·rw[List.drop_set,if_pos (by omega)];rw[←asL,←asL,a5]
theorem VE{A:Type}(ms:List A)(i:Nat)(z x:A)(hi:i≤ms.length):
  (bK (ms++ [z]) (i+1) (((((ms++ [z]).drop i).take ((ms++ [z]).length-i))).take ((ms++ [z]).length-(i+1)))).set i x=ms.take i++ [x]++ms.drop i:=by
 have hl:(ms++ [z]).length=ms.length+1:=by simp
 have a1:((ms++ [z]).drop i).take ((ms++ [z]).length-i)=ms.drop i++ [z]:=by
  rw[arY (by rw[arR];exact arz _),List.drop_append_of_le_length hi]
 have e1:(ms.drop i++ [z]).take ((ms++ [z]).length-(i+1))=ms.drop i:=by
  rw[hl,asJ (by rw[arR];omega),arY (by rw[arR];omega)]
 have a3:(ms++ [z]).drop (i+1+(ms.drop i).length)=[]:=arI (by rw[hl,arR];omega)
 have e2:(ms++ [z]).take (i+1)=ms.take i++ [(ms++ [z])[i]'(by rw[hl];omega)]:=by
  rw[List.take_succ_eq_append_getElem (by rw[hl];omega),asJ hi]
 rw[a1,e1];unfold bK;rw[a3,arP,e2,arJ,List.set_append_right _ _ (by rw[ar9];omega)];rw[show i-(ms.take i).length=0 by rw[ar9];omega];simp
theorem uE{A:Type}(ms:List A)(i:Nat)(z:A)(hi:i≤ms.length):
  (bK (ms++ [z]) (i+1) (((((ms++ [z]).drop i).take ((ms++ [z]).length-i))).take ((ms++ [z]).length-(i+1)))).length=ms.length+1:=by
 have:=congrArg List.length (VE ms i z z hi);rw[ase]at this;rw[this];simp;omega
def jh(acc:List bH)(m:bH):List bH:=if bZ m=true∧hit (aL m) acc=false then acc.take (pos (aL m) acc)++ [m]++acc.drop (pos (aL m) acc)else acc
def tX(gs:List bC)(acc:List bH):List bH:=gs.foldl (fun a g=>(aM g).foldl jh a) acc
def uX(gs:List bC):List bH:=tX gs []
theorem Jw(acc:List bH)(m:bH):(jh acc m).length≤acc.length+1:=by
 unfold jh;split
 ·simp;omega
 ·omega
theorem DC:∀(ms:List bH) (acc:List bH),(ms.foldl jh acc).length≤acc.length+ms.length:=by
 intro ms
 induction ms with
 |nil=>intro acc;exact arz _
 |cons m r ih=>intro acc;have:=ih (jh acc m);have:=Jw acc m;simp only[List.foldl_cons,arS];omega
theorem ajT(s:InT)(m:bH)(i j:Int)(acc:List bH)(hl:acc.length≤1000000):
  aC qV (((0:Int),i,j,()),(acc.map bq,acc.map aL,(s,()),(m,()),()))=some ((i,j,(pos (aL m) acc:Int),()),(acc.map bq,acc.map aL,(s,()),(m,()),())):=by
 have key:∀(d k:Nat),k+d=acc.length→pos (aL m) acc=k+pos (aL m) (acc.drop k)→aC qV (((k:Int),i,j,()),(acc.map bq,acc.map aL,(s,()),(m,()),()))=some ((i,j,(pos (aL m) acc:Int),()),(acc.map bq,acc.map aL,(s,()),(m,()),())):=by
  intro d
  induction d with
  |zero=>
   intro k hk hp;rw[arI (by omega)]at hp;have:pos (aL m) acc=k:=hp;rw[this];refine aF ?_;have:decide ((k:Int)<(((acc.map aL).length:Nat):Int))=false:=arl (by rw[arq];omega);simp only[qV,this,aA,sS]
  |succ d ih=>
   intro k hk hp;obtain⟨e,he,hd⟩:=drop_at (l:=acc) (i:=k) (by omega);rw[hd]at hp;have he':(acc.map aL)[k]?=some (aL e):=by rw[ars,he];rfl
   have h1:decide ((k:Int)<(((acc.map aL).length:Nat):Int))=true:=arj (by rw[arq];omega);have h2:decide ((0:Int)≤(k:Int)∧(k:Int)<((acc.map aL).length:Int))=true:=arj (by rw[arq];omega);have hw:aO ((k:Int)+1)=((k+1:Nat):Int):=aI (by omega);rw[GN]at hp;by_cases hlt:Op.bytesLess (aL e).toList (aL m).toList=true
   ·rw[if_pos hlt]at hp;have q:=ih (k+1) (by omega) (by omega);rw[←q];refine aH ?_;simp only[aL]at hlt he' h1 h2;simp only[qV,aL,h1,h2,arn,he',hlt,hw,aA,sS]
   ·rw[if_neg hlt]at hp;rw[show pos (aL m) acc=k from hp];refine aF ?_;simp only[aL,Bool.not_eq_true]at hlt he' h1 h2;simp only[qV,aL,h1,h2,arn,he',hlt,aA,sS]
 exact key acc.length 0 (by omega) (by rw[arL];omega)
theorem ahE(s:InT){g:bC}(hv:VG g)(i:Nat)(hg:(bA s)[i]?=some g)(j:Nat){m:bH}(hm:(aM g)[j]?=some m)(acc:List bH)(hl:acc.length+1≤1000000):
  Bt (((j:Int),(i:Int),()),(acc.map bq,acc.map aL,(s,()),()))=some (.inl ((((j+1:Nat):Int),(i:Int),()),((jh acc m).map bq,(jh acc m).map aL,(s,()),()))):=by
 have hj:=(ark.1 hm).1;have hglen:=hv.len;have hw:aO ((j:Int)+1)=((j+1:Nat):Int):=aI (by omega);have hp:=ajT s m (i:Int) (j:Int) acc (by omega);have hx0:hit (aL m) acc=match acc[pos (aL m) acc]? with|some e=>decide (aL e=aL m)|none=>false:=rfl
 have hple:=Ee (aL m) acc;have hlab:decide (0+(bq m).length≤4294967296)=true:=arj (by have:=(fE (hv.mem m (arp hm)).lab).1;omega);dsimp only[aM]at hm hj;unfold Bt;simp only[aJ,aD hg,bO hj,aJ,aD hm,aA,sS];rw[aN _ hp rfl];unfold jh;generalize hq:pos (aL m) acc=q at *;cases hf:m.2.2.2.2.1
 ·rw[if_neg (by dsimp only[bZ];rw[hf];simp)];simp only[hf,hw,aA,sS]
 ·have hkl:(acc.map aL).length=acc.length:=arq ..;have hol:(acc.map bq).length=acc.length:=arq ..;dsimp only[aL,bq]at hkl hol hlab;have c1:decide ((acc.map (fun m=>m.1)).length+ [ByteArray.empty].length≤4294967296)=true:=arj (by rw[hkl];simp;omega);have c1':decide ((acc.map (fun m=>m.2.1)).length+([[]]:List (List LT)).length≤4294967296)=true:=arj (by rw[hol];simp;omega);have w1:aO ((q:Int)+1)=((q+1:Nat):Int):=aI (by omega);have c2:decide ((0:Int)≤((q+1:Nat):Int))=true:=arj (by omega);have c3:∀{A:Type} (l:List A),l.length=acc.length+1→decide (q+1≤l.length∧l.length≤l.length)=true:=fun l h=>arj ⟨by omega,arz _⟩
  have c4:decide ((0:Int)≤(q:Int))=true:=arj (by omega);have c5:∀{A:Type} (l:List A),l.length=acc.length+1→decide (q≤l.length∧l.length≤l.length)=true:=fun l h=>arj ⟨by omega,arz _⟩
  have c6:∀{A:Type} (l:List A),l.length=acc.length+1→decide (q+(l.length-q)≤l.length)=true:=fun l h=>arj (by omega)
  have c7:∀{A:Type} (l:List A),l.length=acc.length+1→decide (q+1+(l.length-(q+1))≤l.length)=true:=fun l h=>arj (by omega)
  have c8:∀{A:Type} (l:List A),l.length=acc.length+1→decide ((0:Int)≤(q:Int)∧(q:Int)<(l.length:Int))=true:=fun l h=>arj (by omega)
  have c9:∀{A:Type} (l:List A),l.length=acc.length+1→decide (q<l.length)=true:=fun l h=>arj (by omega)
  have la:(acc.map (fun m=>m.1)++ [ByteArray.empty]).length=acc.length+1:=by simp
  have lb:(acc.map (fun m=>m.2.1)++([[]]:List (List LT))).length=acc.length+1:=by simp
  have lc:=uE (acc.map (fun m=>m.1)) q ByteArray.empty (by rw[hkl];exact hple);have ld:=uE (acc.map (fun m=>m.2.1)) q ([]:List LT) (by rw[hol];exact hple);rw[hkl]at lc;rw[hol]at ld;have e1:=VE (acc.map (fun m=>m.1)) q ByteArray.empty m.1 (by rw[hkl];exact hple);have e2:=VE (acc.map (fun m=>m.2.1)) q ([]:List LT) m.2.1 (by rw[hol];exact hple)
  have fin:some (Sum.inl ((((j+1:Nat):Int),(i:Int),()),((acc.take q++ [m]++acc.drop q).map bq,(acc.take q++ [m]++acc.drop q).map aL,(s,()),())))=
    (some (Sum.inl ((((j+1:Nat):Int),(i:Int),()),((acc.map (fun m=>m.2.1)).take q++ [m.2.1]++(acc.map (fun m=>m.2.1)).drop q,(acc.map (fun m=>m.1)).take q++ [m.1]++(acc.map (fun m=>m.1)).drop q,(s,()),()))):Option (((Int×Int×Unit)×(List (List LT)×List ByteArray×(InT×Unit)×Unit))⊕((Int×Unit)×(List (List LT)×List ByteArray×(InT×Unit)×Unit)))):=by
   simp only[arM,asN,List.map_drop,arF,arT]
  by_cases hil:q<acc.length
  ·obtain⟨e,he⟩:=getD_some hil;have he':(acc.map (fun m=>m.1))[q]?=some e.1:=by rw[ars,he];rfl
   have h1:decide ((q:Int)<(((acc.map (fun m=>m.1)).length:Nat):Int))=true:=arj (by rw[hkl];omega);have h2:decide ((0:Int)≤(q:Int)∧(q:Int)<((acc.map (fun m=>m.1)).length:Int))=true:=arj (by rw[hkl];omega);rw[he]at hx0;simp only[aL]at hx0;dsimp only[aL,bq,bZ]at *;rw[hx0];simp only[hf,h1,h2,arn,he',bg,gB,aA,sS];cases decide (e.1=m.1)
   ·rw[if_pos (by simp)];simp only[c1,c1',w1,c2,c3 _ la,c4,c5 _ la,c6 _ la,c7 _ la,c8 _ lc,c9 _ lc,c3 _ lb,c5 _ lb,c6 _ lb,c7 _ lb,c8 _ ld,c9 _ ld,hlab,hw,e1,e2,arn,aA,sS];exact fin.symm
   ·rw[if_neg (by simp)];simp only[hw,aA,sS]
  ·have h1:decide ((q:Int)<(((acc.map (fun m=>m.1)).length:Nat):Int))=false:=arl (by rw[hkl];omega);rw[asl (by omega)]at hx0;simp only at hx0;dsimp only[aL,bq,bZ]at *;rw[hx0];simp only[hf,h1,aA,sS];rw[if_pos (by simp)];simp only[c1,c1',w1,c2,c3 _ la,c4,c5 _ la,c6 _ la,c7 _ la,c8 _ lc,c9 _ lc,c3 _ lb,c5 _ lb,c6 _ lb,c7 _ lb,c8 _ ld,c9 _ ld,hlab,hw,e1,e2,arn,aA,sS];exact fin.symm
theorem agR(s:InT){g:bC}(hv:VG g)(i:Nat)(hg:(bA s)[i]?=some g):∀(d j:Nat) (acc:List bH),j+d=(aM g).length→acc.length+d≤1000000→
  aC Bt (((j:Int),(i:Int),()),(acc.map bq,acc.map aL,(s,()),()))=some (((i:Int),()),((((aM g).drop j).foldl jh acc).map bq,(((aM g).drop j).foldl jh acc).map aL,(s,()),())):=by
 intro d
 induction d with
 |zero=>
  intro j acc hj hl;obtain rfl:j=(aM g).length:=by omega
  rw[asj];refine aF ?_;dsimp only[aM];simp only[Bt,aJ,aD hg,aJ,bX,List.foldl_nil,aA,sS]
 |succ d ih=>
  intro j acc hj hl;obtain⟨m,hm,hd⟩:=drop_at (l:=aM g) (i:=j) (by omega);rw[hd,List.foldl_cons,←ih (j+1) (jh acc m) (by omega) (by have:=Jw acc m;omega)];exact aH (ahE s hv i hg j hm acc (by omega))
theorem aaU(s:InT)(hs:∀g∈(bA s),VG g)(hl:(bA s).length≤1000):∀(d i:Nat) (acc:List bH),i+d=(bA s).length→acc.length+d*256≤1000000→
  aC FP (((i:Int),()),(acc.map bq,acc.map aL,(s,()),()))=some ((),((tX ((bA s).drop i) acc).map bq,())):=by
 intro d
 induction d with
 |zero=>
  intro i acc hi ha;obtain rfl:i=(bA s).length:=by omega
  rw[asj];refine aF ?_;dsimp only[bA];simp only[FP,bX,tX,List.foldl_nil,aA,sS]
 |succ d ih=>
  intro i acc hi ha;obtain⟨g,hg,hd⟩:=drop_at (l:=(bA s)) (i:=i) (by omega);have hw:aO ((i:Int)+1)=((i+1:Nat):Int):=aI (by omega);have hi':i<(bA s).length:=by omega
  have hv:=hs g (arp hg);have hgl:=hv.len;have hfl:=DC (aM g) acc;have q:=agR s hv i hg (aM g).length 0 acc (by omega) (by omega);rw[arL]at q;rw[hd]
  show _=some ((),((tX ((bA s).drop (i+1)) ((aM g).foldl jh acc)).map bq,()))
  rw[←ih (i+1) ((aM g).foldl jh acc) (by omega) (by omega)];refine aH ?_;dsimp only[bA]at hi';unfold FP;simp only[bO hi',aA,sS];refine aN _ q ?_;simp only[hw,aA,sS]
theorem ag3(s:InT)(hs:∀g∈bA s,VG g)(hl:(bA s).length≤1000):m48 ((s,()),())=some ((),((uX (bA s)).map bq,())):=by
 have q:=aaU s hs hl (bA s).length 0 [] (by omega) (by simp;omega);rw[arL]at q;unfold m48;exact aN _ q rfl
theorem akH(gs:List bC)(ca:Int)(cb:List dm)(cc:Int)(m:bH)(i j:Int)(acc:List bH)(hl:acc.length≤1000000):
  aC rA (((0:Int),i,j,()),(gs,acc.map bq,acc.map aL,((ca,cb,cc,()),()),(m,()),()))=some ((i,j,(pos (aL m) acc:Int),()),(gs,acc.map bq,acc.map aL,((ca,cb,cc,()),()),(m,()),())):=by
 have key:∀(d k:Nat),k+d=acc.length→pos (aL m) acc=k+pos (aL m) (acc.drop k)→aC rA (((k:Int),i,j,()),(gs,acc.map bq,acc.map aL,((ca,cb,cc,()),()),(m,()),()))=some ((i,j,(pos (aL m) acc:Int),()),(gs,acc.map bq,acc.map aL,((ca,cb,cc,()),()),(m,()),())):=by
  intro d
  induction d with
  |zero=>
   intro k hk hp;rw[arI (by omega)]at hp;have:pos (aL m) acc=k:=hp;rw[this];refine aF ?_;have:decide ((k:Int)<(((acc.map aL).length:Nat):Int))=false:=arl (by rw[arq];omega);simp only[rA,this,aA,sS]
  |succ d ih=>
   intro k hk hp;obtain⟨e,he,hd⟩:=drop_at (l:=acc) (i:=k) (by omega);rw[hd]at hp;have he':(acc.map aL)[k]?=some (aL e):=by rw[ars,he];rfl
   have h1:decide ((k:Int)<(((acc.map aL).length:Nat):Int))=true:=arj (by rw[arq];omega);have h2:decide ((0:Int)≤(k:Int)∧(k:Int)<((acc.map aL).length:Int))=true:=arj (by rw[arq];omega);have hw:aO ((k:Int)+1)=((k+1:Nat):Int):=aI (by omega);rw[GN]at hp;by_cases hlt:Op.bytesLess (aL e).toList (aL m).toList=true
   ·rw[if_pos hlt]at hp;have q:=ih (k+1) (by omega) (by omega);rw[←q];refine aH ?_;simp only[aL]at hlt he' h1 h2;simp only[rA,aL,h1,h2,arn,he',hlt,hw,aA,sS]
   ·rw[if_neg hlt]at hp;rw[show pos (aL m) acc=k from hp];refine aF ?_;simp only[aL,Bool.not_eq_true]at hlt he' h1 h2;simp only[rA,aL,h1,h2,arn,he',hlt,aA,sS]
 exact key acc.length 0 (by omega) (by rw[arL];omega)
theorem ag1(gs:List bC)(ca:Int)(cb:List dm)(cc:Int){g:bC}(hv:VG g)(i:Nat)(hg:gs[i]?=some g)(j:Nat){m:bH}(hm:(aM g)[j]?=some m)(acc:List bH)(hl:acc.length+1≤1000000):
  AA (((j:Int),(i:Int),()),(gs,acc.map bq,acc.map aL,((ca,cb,cc,()),()),()))=some (.inl ((((j+1:Nat):Int),(i:Int),()),(gs,(jh acc m).map bq,(jh acc m).map aL,((ca,cb,cc,()),()),()))):=by
 have hj:=(ark.1 hm).1;have hglen:=hv.len;have hw:aO ((j:Int)+1)=((j+1:Nat):Int):=aI (by omega);have hp:=akH gs ca cb cc m (i:Int) (j:Int) acc (by omega);have hx0:hit (aL m) acc=match acc[pos (aL m) acc]? with|some e=>decide (aL e=aL m)|none=>false:=rfl
 have hple:=Ee (aL m) acc;have hlab:decide (0+(bq m).length≤4294967296)=true:=arj (by have:=(fE (hv.mem m (arp hm)).lab).1;omega);have hil':=(ark.1 hg).1;have hb:decide ((0:Int)≤(i:Int)∧(i:Int)<(gs.length:Int))=true:=arj (by omega);have hgi:gs[((i:Int)).toNat]?=some g:=by rw[arn];exact hg
 dsimp only[aM]at hm hj;unfold AA;simp only[hb,hgi,bO hj,aJ,aD hm,aA,sS];rw[aN _ hp rfl];unfold jh;generalize hq:pos (aL m) acc=q at *;cases hf:m.2.2.2.2.1
 ·rw[if_neg (by dsimp only[bZ];rw[hf];simp)];simp only[hf,hw,aA,sS]
 ·have hkl:(acc.map aL).length=acc.length:=arq ..;have hol:(acc.map bq).length=acc.length:=arq ..;dsimp only[aL,bq]at hkl hol hlab;have c1:decide ((acc.map (fun m=>m.1)).length+ [ByteArray.empty].length≤4294967296)=true:=arj (by rw[hkl];simp;omega);have c1':decide ((acc.map (fun m=>m.2.1)).length+([[]]:List (List LT)).length≤4294967296)=true:=arj (by rw[hol];simp;omega);have w1:aO ((q:Int)+1)=((q+1:Nat):Int):=aI (by omega);have c2:decide ((0:Int)≤((q+1:Nat):Int))=true:=arj (by omega);have c3:∀{A:Type} (l:List A),l.length=acc.length+1→decide (q+1≤l.length∧l.length≤l.length)=true:=fun l h=>arj ⟨by omega,arz _⟩
  have c4:decide ((0:Int)≤(q:Int))=true:=arj (by omega);have c5:∀{A:Type} (l:List A),l.length=acc.length+1→decide (q≤l.length∧l.length≤l.length)=true:=fun l h=>arj ⟨by omega,arz _⟩
  have c6:∀{A:Type} (l:List A),l.length=acc.length+1→decide (q+(l.length-q)≤l.length)=true:=fun l h=>arj (by omega)
  have c7:∀{A:Type} (l:List A),l.length=acc.length+1→decide (q+1+(l.length-(q+1))≤l.length)=true:=fun l h=>arj (by omega)
  have c8:∀{A:Type} (l:List A),l.length=acc.length+1→decide ((0:Int)≤(q:Int)∧(q:Int)<(l.length:Int))=true:=fun l h=>arj (by omega)
  have c9:∀{A:Type} (l:List A),l.length=acc.length+1→decide (q<l.length)=true:=fun l h=>arj (by omega)
  have la:(acc.map (fun m=>m.1)++ [ByteArray.empty]).length=acc.length+1:=by simp
  have lb:(acc.map (fun m=>m.2.1)++([[]]:List (List LT))).length=acc.length+1:=by simp
  have lc:=uE (acc.map (fun m=>m.1)) q ByteArray.empty (by rw[hkl];exact hple);have ld:=uE (acc.map (fun m=>m.2.1)) q ([]:List LT) (by rw[hol];exact hple);rw[hkl]at lc;rw[hol]at ld;have e1:=VE (acc.map (fun m=>m.1)) q ByteArray.empty m.1 (by rw[hkl];exact hple);have e2:=VE (acc.map (fun m=>m.2.1)) q ([]:List LT) m.2.1 (by rw[hol];exact hple)
  have fin:some (Sum.inl ((((j+1:Nat):Int),(i:Int),()),(gs,(acc.take q++ [m]++acc.drop q).map bq,(acc.take q++ [m]++acc.drop q).map aL,((ca,cb,cc,()),()),())))=
    (some (Sum.inl ((((j+1:Nat):Int),(i:Int),()),(gs,(acc.map (fun m=>m.2.1)).take q++ [m.2.1]++(acc.map (fun m=>m.2.1)).drop q,(acc.map (fun m=>m.1)).take q++ [m.1]++(acc.map (fun m=>m.1)).drop q,((ca,cb,cc,()),()),()))):Option (((Int×Int×Unit)×(List bC×List (List LT)×List ByteArray×((Int×List dm×Int×Unit)×Unit)×Unit))⊕((Int×Unit)×(List bC×List (List LT)×List ByteArray×((Int×List dm×Int×Unit)×Unit)×Unit)))):=by
   simp only[arM,asN,List.map_drop,arF,arT]
  by_cases hil:q<acc.length
  ·obtain⟨e,he⟩:=getD_some hil;have he':(acc.map (fun m=>m.1))[q]?=some e.1:=by rw[ars,he];rfl
   have h1:decide ((q:Int)<(((acc.map (fun m=>m.1)).length:Nat):Int))=true:=arj (by rw[hkl];omega);have h2:decide ((0:Int)≤(q:Int)∧(q:Int)<((acc.map (fun m=>m.1)).length:Int))=true:=arj (by rw[hkl];omega);rw[he]at hx0;simp only[aL]at hx0;dsimp only[aL,bq,bZ]at *;rw[hx0];simp only[hf,h1,h2,arn,he',bg,gB,aA,sS];cases decide (e.1=m.1)
   ·rw[if_pos (by simp)];simp only[c1,c1',w1,c2,c3 _ la,c4,c5 _ la,c6 _ la,c7 _ la,c8 _ lc,c9 _ lc,c3 _ lb,c5 _ lb,c6 _ lb,c7 _ lb,c8 _ ld,c9 _ ld,hlab,hw,e1,e2,arn,aA,sS];exact fin.symm
   ·rw[if_neg (by simp)];simp only[hw,aA,sS]
  ·have h1:decide ((q:Int)<(((acc.map (fun m=>m.1)).length:Nat):Int))=false:=arl (by rw[hkl];omega);rw[asl (by omega)]at hx0;simp only at hx0;dsimp only[aL,bq,bZ]at *;rw[hx0];simp only[hf,h1,aA,sS];rw[if_pos (by simp)];simp only[c1,c1',w1,c2,c3 _ la,c4,c5 _ la,c6 _ la,c7 _ la,c8 _ lc,c9 _ lc,c3 _ lb,c5 _ lb,c6 _ lb,c7 _ lb,c8 _ ld,c9 _ ld,hlab,hw,e1,e2,arn,aA,sS];exact fin.symm
theorem agS(gs:List bC)(ca:Int)(cb:List dm)(cc:Int){g:bC}(hv:VG g)(i:Nat)(hg:gs[i]?=some g):∀(d j:Nat) (acc:List bH),j+d=(aM g).length→acc.length+d≤1000000→
  aC AA (((j:Int),(i:Int),()),(gs,acc.map bq,acc.map aL,((ca,cb,cc,()),()),()))=some (((i:Int),()),(gs,(((aM g).drop j).foldl jh acc).map bq,(((aM g).drop j).foldl jh acc).map aL,((ca,cb,cc,()),()),())):=by
 have hil':=(ark.1 hg).1;have hb:decide ((0:Int)≤(i:Int)∧(i:Int)<(gs.length:Int))=true:=arj (by omega);have hgi:gs[((i:Int)).toNat]?=some g:=by rw[arn];exact hg
 intro d
 induction d with
 |zero=>
  intro j acc hj hl;obtain rfl:j=(aM g).length:=by omega
  rw[asj];refine aF ?_;dsimp only[aM];simp only[AA,hb,hgi,aJ,bX,List.foldl_nil,aA,sS]
 |succ d ih=>
  intro j acc hj hl;obtain⟨m,hm,hd⟩:=drop_at (l:=aM g) (i:=j) (by omega);rw[hd,List.foldl_cons,←ih (j+1) (jh acc m) (by omega) (by have:=Jw acc m;omega)];exact aH (ag1 gs ca cb cc hv i hg j hm acc (by omega))
theorem ZF(gs:List bC)(ca:Int)(cb:List dm)(cc:Int)(hs:∀g∈gs,VG g)(hl:gs.length≤1000):∀(d i:Nat) (acc:List bH),i+d=gs.length→acc.length+d*256≤1000000→
  aC FN (((i:Int),()),(gs,acc.map bq,acc.map aL,((ca,cb,cc,()),()),()))=some ((),(gs,(tX (gs.drop i) acc).map bq,())):=by
 intro d
 induction d with
 |zero=>
  intro i acc hi ha;obtain rfl:i=gs.length:=by omega
  rw[asj];refine aF ?_;simp only[FN,bX,tX,List.foldl_nil,aA,sS]
 |succ d ih=>
  intro i acc hi ha;obtain⟨g,hg,hd⟩:=drop_at (l:=gs) (i:=i) (by omega);have hw:aO ((i:Int)+1)=((i+1:Nat):Int):=aI (by omega);have hi':i<gs.length:=by omega
  have hv:=hs g (arp hg);have hgl:=hv.len;have hfl:=DC (aM g) acc;have q:=agS gs ca cb cc hv i hg (aM g).length 0 acc (by omega) (by omega);rw[arL]at q;rw[hd]
  show _=some ((),(gs,(tX (gs.drop (i+1)) ((aM g).foldl jh acc)).map bq,()))
  rw[←ih (i+1) ((aM g).foldl jh acc) (by omega) (by omega)];refine aH ?_;unfold FN;simp only[bO hi',aA,sS];refine aN _ q ?_;simp only[hw,aA,sS]
theorem ac8{a b:ByteArray}(h:Lt a b):bl a<bl b:=by
 unfold Lt at h;rw[bg,bg,Go.Proofs.bytesLess_eq]at h;exact arx h
theorem Nz{k:ByteArray}{l:List bH}(h:(l.map aL).Pairwise Less):hit k l=true↔k∈l.map aL:=by
 constructor
 ·intro hh;obtain⟨m,hm,rfl⟩:=Au hh;exact asn.2 ⟨m,arp hm,rfl⟩
 ·intro hk;obtain⟨m,hm,rfl⟩:=asn.1 hk;cases hh:hit (aL m) l
  ·exfalso
   rw[←as7 (pos (aL m) l) l,arA]at hm;rcases hm with hm|hm
   ·exact oW _ (CG m hm)
   ·exact oW _ (Jf h hh m hm)
  ·rfl
theorem aie{m:bH}{l:List bH}(h:(l.map aL).Pairwise Less)(hh:hit (aL m) l=false):((l.take (pos (aL m) l)++ [m]++l.drop (pos (aL m) l)).map aL).Pairwise Less:=by
 rw[arJ,arM,arM,List.pairwise_append];have hup:=h;rw[←as7 (pos (aL m) l) l,arM,List.pairwise_append]at hup;have ha:∀x∈l.take (pos (aL m) l),Lt (aL x) (aL m):=CG;have hb:=Jf h hh;refine⟨hup.1,?_,fun a ha' b hb'=> ?_⟩
 ·rw[arF,arT,as8];refine asA.2 ⟨fun k hk=> ?_,hup.2.1⟩;obtain⟨x,hx,rfl⟩:=asn.1 hk;exact fO.2 (hb x hx)
 ·obtain⟨x,hx,rfl⟩:=asn.1 ha';rw[arF,arT,as8]at hb';rcases arW.1 hb' with rfl|hb'
  ·exact fO.2 (ha x hx)
  ·obtain⟨x',hx',rfl⟩:=asn.1 hb';exact fO.2 (lt_trans (ha x hx) (hb x' hx'))
structure QC(pre acc:List bH)(ks:List ByteArray):Prop where
 up:(acc.map aL).Pairwise Less
 perm:ks.Perm (acc.map aL)
 lab:∀a∈acc,pre.find? (fun m=>decide (m.1=aL a))=some a
 all:∀m∈pre,aL m∈acc.map aL
theorem QC.step{pre acc:List bH}{ks:List ByteArray}(h:QC pre acc ks){m:bH}(hm:bZ m=true):
  QC (pre++ [m]) (jh acc m) (if ks.any (fun x=>decide (x=aL m))then ks else ks++ [aL m]):=by
 have hc:ks.any (fun x=>decide (x=aL m))=hit (aL m) acc:=by
  rw[Bool.eq_iff_iff,Nz h.up,List.any_eq_true,←h.perm.mem_iff];constructor
  ·rintro⟨x,hx,e⟩;rw[←arx e];exact hx
  ·intro hx;exact⟨_,hx,arj rfl⟩
 rw[hc]
 have old:∀a∈acc,(pre++ [m]).find? (fun x=>decide (x.1=aL a))=some a:=fun a ha=>by
  rw[List.find?_append,h.lab a ha];rfl
 cases hh:hit (aL m) acc
 ·have e:jh acc m=acc.take (pos (aL m) acc)++ [m]++acc.drop (pos (aL m) acc):=by unfold jh;rw[if_pos ⟨hm,hh⟩]
  have hnot:aL m∉acc.map aL:=fun hk=>by rw[(Nz h.up).2 hk]at hh;cases hh
  rw[e];refine⟨aie h.up hh,?_,fun a ha=> ?_,fun x hx=> ?_⟩
  ·simp only[ar3,if_false,arM,asN,List.map_drop,arF,arT];have p1:(ks++ [aL m]).Perm (acc.map aL++ [aL m]):=h.perm.append_right _;refine p1.trans ?_
   conv=>lhs;rw[←as7 (pos (aL m) acc) (acc.map aL)]
   rw[arJ,arJ];exact(List.perm_append_comm).append_left _
  ·simp only[arA,asf]at ha;rcases ha with(ha|rfl)|ha
   ·exact old a (List.mem_of_mem_take ha)
   ·rw[List.find?_append]
    have:pre.find? (fun x=>decide (x.1=aL a))=none:=List.find?_eq_none.2 fun x hx=>by
     have:=h.all x hx;intro e;exact hnot (by rwa [show aL x=aL a from arx e]at this)
    rw[this];simp
   ·exact old a (List.mem_of_mem_drop ha)
  ·have hx':aL x∈acc.map aL∨x=m:=by
    rcases arA.1 hx with hx|hx
    ·exact .inl (h.all x hx)
    ·exact .inr (asf.1 hx)
   rcases hx' with hx'|rfl
   ·obtain⟨y,hy,e⟩:=asn.1 hx';rw[←as7 (pos (aL m) acc) acc,arA]at hy;refine asn.2 ⟨y,?_,e⟩;simp only[arA,asf];rcases hy with hy|hy
    ·exact .inl (.inl hy)
    ·exact .inr hy
   ·exact asn.2 ⟨x,by simp,rfl⟩
 ·have e:jh acc m=acc:=by unfold jh;rw[if_neg (by rw[hh];simp)]
  rw[e];refine⟨h.up,by simpa using h.perm,old,fun x hx=> ?_⟩;rcases arA.1 hx with hx|hx
  ·exact h.all x hx
  ·rw[asf.1 hx];exact(Nz h.up).1 hh
theorem QC.run:∀(ms pre acc:List bH) (ks:List ByteArray),QC pre acc ks→(∀m∈ms,bZ m=true)→QC (pre++ms) (ms.foldl jh acc) (bY ms ks):=by
 intro ms
 induction ms with
 |nil=>intro pre acc ks h _;rw[arP];exact h
 |cons m r ih=>
  intro pre acc ks h hf;have:=ih (pre++ [m]) _ _ (h.step (hf m (by simp))) (fun x hx=>hf x (by simp[hx]));rw[arJ]at this;exact this
theorem WQ:∀(ms acc:List bH),(ms.filter fun m=>bZ m).foldl jh acc=ms.foldl jh acc:=by
 intro ms
 induction ms with
 |nil=>intro acc;rfl
 |cons m r ih=>
  intro acc;rw[List.filter_cons];by_cases h:bZ m=true
  ·rw[if_pos h];exact ih _
  ·rw[if_neg h,ih];have e:jh acc m=acc:=by unfold jh;rw[if_neg (fun c=>h c.1)]
   show _=r.foldl jh (jh acc m)
   rw[e]
theorem YC:∀(gs:List bC) (acc:List bH),(cu gs).foldl jh acc=tX gs acc:=by
 intro gs
 induction gs with
 |nil=>intro acc;rfl
 |cons g r ih=>
  intro acc;unfold cu tX;rw[as5,List.foldl_append,List.foldl_cons];have:=WQ (aM g) acc;dsimp only[bZ,aM]at this ⊢;rw[this];exact ih _
theorem Ou(gs:List bC):QC (cu gs) (uX gs) (bY (cu gs) []):=by
 have:=QC.run (cu gs) [] [] [] ⟨List.Pairwise.nil,List.Perm.nil,fun a ha=>(by cases ha),fun m hm=>(by cases hm)⟩ (fun m hm=>by
  unfold cu at hm;obtain⟨g,_,hm⟩:=List.mem_flatMap.1 hm;exact(asG.1 hm).2)
 rw[asR,YC]at this;exact this
theorem KA(gs:List bC):jD gs=(uX gs).map bq:=by
 have h:=Ou gs;unfold jD
 have p:((bY (cu gs) []).map (·.data.toList)).mergeSort (fun x y=>decide (x≤y))=((uX gs).map aL).map (·.data.toList):=by
  have e:=mergeSort_of_perm (h.perm.map (·.data.toList));refine e.trans (List.mergeSort_of_pairwise ?_)
  have:((uX gs).map aL).Pairwise (fun a b=>(Go.leB a.data.toList b.data.toList)=true):=h.up.imp fun {a b} hab=>by
   have:=ac8 (fO.1 hab);simp only[Go.leB,arV];exact List.le_of_lt this
  exact List.pairwise_map.2 this
 rw[p,as1,as1];refine arX fun a ha=> ?_
 show jM (cu gs) ⟨(aL a).data.toList.toArray⟩=bq a
 have e:(⟨(aL a).data.toList.toArray⟩:ByteArray)=aL a:=rfl;rw[e];unfold jM;rw[h.lab a ha];rfl
abbrev Ah:=Int×Int×Int×ByteArray×List ByteArray×List ByteArray×Unit
def Gi(p:dw)(n:Int):dG:=(p.1[n.toNat]?).getD (0,[],0,[],0,0,0,false,())
theorem qB{p:dw}{n:Int}{r:dG}(h:p.1[n.toNat]?=some r):Gi p n=r:=by unfold Gi;rw[h];rfl
def GL(p:dw)(now:Int)(g:bC):bC:=rR (yD g (Gi p g.1) now p.2.2.1).2.1 (yD g (Gi p g.1) now p.2.2.1).2.2
def uU(p:dw)(sl:List dm)(now:Int)(fs:List (List LT))(ms:List bH):List ByteArray:=ms.flatMap fun m=>bif (xA (bq m) now sl).2||oH p.2.1 (bq m) fs then [aL m]else []
def pI(p:dw)(sl:List dm)(now:Int)(fs:List (List LT))(g:bC):LkT:=jI g (Gi p g.1) now (uU p sl now fs (aM g))
def qd(p:dw)(sl:List dm)(now:Int)(fs:List (List LT))(g:bC):bC:=rR (pI p sl now fs g).2.1 (pI p sl now fs g).2.2.2.1
def YA(x:LkT):Ah:=(x.2.2.1.1,x.2.2.1.2.1,x.2.2.1.2.2.1,x.2.2.1.2.2.2.1,x.2.2.2.2.1,x.2.2.2.2.2,())
def qg(p:dw)(sl:List dm)(now:Int)(fs:List (List LT))(g:bC):List Ah:=bif (pI p sl now fs g).1 then [YA (pI p sl now fs g)]else []
def jN(p:dw)(s:InT)(now:Int):List bC:=(bA s).map (GL p now)
def uh(p:dw)(s:InT)(now:Int):List (List LT):=(uX (jN p s now)).map bq
def tY(p:dw)(s:InT)(now:Int):List bC:=(jN p s now).map (qd p (bL s) now (uh p s now))
def Gw(p:dw)(s:InT)(now:Int):List Ah:=(jN p s now).flatMap (qg p (bL s) now (uh p s now))
def Vj(p:dw)(s:InT)(now:Int):InT:=(now,iP p now (tY p s now),bL s,bN s,())
theorem Ob(p:dw)(now:Int)(g:bC):(GL p now g).1=g.1∧(GL p now g).2.1=g.2.1:=by
 unfold GL yD;split<;>exact⟨rfl,rfl⟩
theorem F7(p:dw)(sl:List dm)(now:Int)(fs:List (List LT))(g:bC):(qd p sl now fs g).1=g.1∧(qd p sl now fs g).2.1=g.2.1:=by
 unfold qd pI jI;split
 ·exact⟨rfl,rfl⟩
 ·dsimp only;split<;>exact⟨rfl,rfl⟩
theorem qZ{A B E F:Type}{f:A→Option (A⊕B)}(l:List E)(st:Nat→List E→List F→A)(h:E→E)(g:E→List F)(fin:List E→List F→B)(hg:∀e,(g e).length≤1)
  (h1:∀(i:Nat) (a:List E) (n:List F) (e:E),i<l.length→a.length=l.length→n.length≤i→e∈l→l[i]?=some e→a[i]?=some e→f (st i a n)=some (.inl (st (i+1) (a.set i (h e)) (n++g e))))
  (h2:∀(a:List E) (n:List F),a.length=l.length→f (st l.length a n)=some (.inr (fin a n))):aC f (st 0 l [])=some (fin (l.map h) (l.flatMap g)):=by
 have key:∀(d i:Nat) (a:List E) (n:List F),i+d=l.length→a=(l.take i).map h++l.drop i→n.length≤i→aC f (st i a n)=some (fin (l.map h) (n++(l.drop i).flatMap g)):=by
  intro d
  induction d with
  |zero=>
   intro i a n hi ha hn;obtain rfl:i=l.length:=by omega
   rw[asq,asj,arP]at ha;rw[asj,List.flatMap_nil,arP];subst ha;exact aF (h2 _ n (by simp))
  |succ d ih=>
   intro i a n hi ha hn;obtain⟨e,he,hd⟩:=drop_at (l:=l) (i:=i) (by omega);have hal:a.length=l.length:=by rw[ha];simp;omega
   have hml:((l.take i).map h).length=i:=by rw[arq,ar9];omega
   have hae:a[i]?=some e:=by
    rw[ha,ar1 (by omega),hml,Nat.sub_self,hd];rfl
   rw[hd,as5,←arJ,←ih (i+1) (a.set i (h e)) (n++g e) (by omega) ?_ (by have:=hg e;rw[arC];omega)]
   ·exact aH (h1 i a n e (by omega) hal hn (arp he) he hae)
   ·rw[ha,hd,List.set_append_right _ _ (by omega),hml,Nat.sub_self,fo he,arM,arJ];rfl
 have:=key l.length 0 l [] (by omega) (by simp) (arz _);rw[arL,asR]at this;exact this
structure Sb(p:dw)(s:InT)(now:Int):Prop where
 len:(bA s).length≤65
 lg:KT p (bA s)
 CY:uw (bL s)
 rs:X4 p.2.1
 exp:0≤p.2.2.1∧p.2.2.1≤604800
 now:0≤now∧now≤8589934592
theorem xU(s:InT)(hl:(bA s).length≤1048576)(hs:∀g∈bA s,VG g)(hz:uw (bL s)):m64 ((s,()),())=some ((),(((dx s,bN s,()),()),bA s,bL s,())):=by
 have hc:acy ((bA s,()),())=some ((),(bA s,())):=by
  unfold acy;rw[show decide ((bA s).length≤4294967296)=true from arj (by omega)];rfl
 have q:=FK (bL s) hz;have h:=qZ (F:=Unit) (f:=Gf) (bA s) (fun i a _=>(((i:Int),((bA s).length:Int),()),((dx s,bN s,()),()),a,((0,0,()),()),bL s,())) id (fun _=> [])
  (fun a _=>((),((0,0,()),()),((dx s,bN s,()),()),a,bL s,())) (fun _=>arO _) ?_ ?_
 ·rw[List.map_id]at h;unfold m64;refine aN _ hc ?_;refine aN _ q ?_;refine aN _ h rfl
 ·intro i a n e hi ha _ hm he hae;have hw:=aI (i:=i) (by omega);have c:=Np (hs e hm);have hb:decide ((0:Int)≤(i:Int)∧(i:Int)<(a.length:Int))=true:=arj (by omega);have hb2:decide (i<a.length)=true:=arj (by omega);simp only[Gf,bO hi,hb,hb2,arn,hae,c,hw,cor,aA,sS];rfl
 ·intro a n ha;simp only[Gf,bX,aA,sS]
theorem Pj(p:dw)(s:InT)(now:Int)(h:Sb p s now)(x1 x2 z1 z2:Int):
  aC BX (((0:Int),now,((bA s).length:Int),()),(p,()),((x1,x2,()),()),bA s,((z1,z2,()),()),bL s,())=
   some ((now,()),((x1,x2,()),()),(p,()),((z1,z2,()),()),jN p s now,bL s,()):=by
 have hl:=h.len;refine qZ (F:=Unit) (f:=BX) (bA s) (fun i a _=>(((i:Int),now,((bA s).length:Int),()),(p,()),((x1,x2,()),()),a,((z1,z2,()),()),bL s,())) (GL p now) (fun _=> [])
  (fun a _=>((now,()),((x1,x2,()),()),(p,()),((z1,z2,()),()),a,bL s,())) (fun _=>arO _) ?_ ?_
 ·intro i a n e hi ha _ hm he hae;have hw:=aI (i:=i) (by omega);obtain⟨hv,r,hr,rr⟩:=h.lg e hm;have q:=amT hv rr h.now h.exp;have hb:decide ((0:Int)≤(i:Int)∧(i:Int)<(a.length:Int))=true:=arj (by omega);have hb2:decide (i<a.length)=true:=arj (by omega);have hai:a[((i:Int)).toNat]?=some e:=by rw[arn];exact hae
  unfold GL;rw[qB hr];simp only[BX,bO hi,hb,hai,aJ,ic hv.rt hr,q,hw,aA,sS];simp only[arn,hb2,rR,aA,sS]
 ·intro a n ha;simp only[BX,bX,aA,sS]
theorem TS(p:dw)(sl:List dm)(hsl:uw sl)(hrs:X4 p.2.1)(now:Int)(fs:List (List LT))(hf:VA fs)(ms:List bH)(hl:ms.length≤256)(hm:∀m∈ms,tu m)(blk:List bC)(x2:Int):
  aC Cn (((0:Int),fs,ms,(ms.length:Int),()),blk,sl,[],((now,x2,()),()),(p,()),())=some ((),blk,sl,uU p sl now fs ms,()):=by
 refine xX (f:=Cn) ms (fun i a=>(((i:Int),fs,ms,(ms.length:Int),()),blk,sl,a,((now,x2,()),()),(p,()),())) (fun m=>bif (xA (bq m) now sl).2||oH p.2.1 (bq m) fs then [aL m]else []) (fun a=>((),blk,sl,a,())) (by omega) (fun e=>by cases ((xA (bq e) now sl).2||oH p.2.1 (bq e) fs)<;>simp) ?_ ?_
 ·intro i e a he hi ha;have hw:=aI (i:=i) (by omega);have q:=ad2 p.2.1 hrs sl hsl (bq e) (Cm (hm e (arp he)).lab) fs hf now;have hs:∀x:ByteArray,decide (a.length+ [x].length≤4294967296)=true:=fun x=>xQ (by omega) x
  dsimp only[bq,aL]at q ⊢;simp only[Cn,aJ,aD he,bO hi,q,aA,sS];cases ((xA e.2.1 now sl).2||oH p.2.1 e.2.1 fs)<;>simp only[hs,hw,arP,aA,sS]
 ·intro a;simp only[Cn,bX,aA,sS]
theorem X8{p:dw}{l:List bC}(h:KT p l)(f:bC→bC)(h1:∀g,(f g).1=g.1)(h2:∀g∈l,VG (f g)):KT p (l.map f):=by
 intro g hg;obtain⟨x,hx,rfl⟩:=asn.1 hg;obtain⟨_,r,hr,rr⟩:=h x hx;exact⟨h2 x hx,r,by rw[h1];exact hr,rr⟩
theorem vL{p:dw}{s:InT}{now:Int}(h:Sb p s now):KT p (jN p s now):=
 X8 h.lg _ (fun g=>(Ob p now g).1) (fun g hg=>by
  obtain⟨hv,r,hr,rr⟩:=h.lg g hg;unfold GL;rw[qB hr];exact ah1 hv rr _ h.now)
theorem BM{p:dw}{s:InT}{now:Int}(h:Sb p s now):KT p (tY p s now):=
 X8 (vL h) _ (fun g=>(F7 p _ now _ g).1) (fun g hg=>abR (vL h g hg).1 _ _ h.now)
theorem PZ{gs:List bC}{m:bH}(h:m∈uX gs):∃g∈gs,m∈aM g∧bZ m=true:=by
 have:=(Ou gs).lab m h;have hm:=List.mem_of_find?_eq_some this;unfold cu at hm;obtain⟨g,hg,hm⟩:=List.mem_flatMap.1 hm;exact⟨g,hg,(asG.1 hm).1,(asG.1 hm).2⟩
theorem Kw(gs:List bC)(h:∀g∈gs,VG g):(uX gs).length≤gs.length*256:=by
 have key:∀(gs:List bC) (acc:List bH),(∀g∈gs,VG g)→(tX gs acc).length≤acc.length+gs.length*256:=by
  intro gs
  induction gs with
  |nil=>intro acc _;simp[tX]
  |cons g r ih=>
   intro acc h;have h1:=DC (aM g) acc;have h2:=ih ((aM g).foldl jh acc) (fun x hx=>h x (by simp[hx]));have h3:=(h g (by simp)).len
   show(tX r ((aM g).foldl jh acc)).length≤_
   rw[arS];omega
 have:=key gs [] h;simpa[uX]using this
theorem NJ{gs:List bC}(h:∀g∈gs,VG g)(hl:gs.length≤1000):VA ((uX gs).map bq):=by
 refine⟨?_,fun l hl=> ?_⟩
 ·have:=Kw gs h;rw[arq];unfold big;omega
 ·obtain⟨m,hm,rfl⟩:=asn.1 hl;obtain⟨g,hg,hm,_⟩:=PZ hm;exact Cm ((h g hg).mem m hm).lab
theorem QH{gs:List bC}(h:∀g∈gs,VG g)(hl:gs.length≤1000):wE gs=true:=by
 unfold wE
 have h1:(gs.flatMap fun g=>g.2.2.1).length≤gs.length*256:=by
  clear hl
  induction gs with
  |nil=>simp
  |cons g r ih=>
   have:=ih (fun x hx=>h x (by simp[hx]));have h3:=(h g (by simp)).len;dsimp only[aM]at h3;rw[as5,arC,arS];omega
 simp only[ar8,arV,arQ];refine⟨by omega,asb h1 (by omega),fun g hg=>⟨?_,fun m hm=>⟨?_,?_⟩⟩⟩
 ·have:=(h g hg).len;dsimp only[aM]at this;omega
 ·have:=V5 ((h g hg).mem m hm);dsimp only[aL]at this;omega
 ·have:=(fE ((h g hg).mem m hm).lab).1;dsimp only[bq]at this;omega
theorem Ls(p:dw)(sl:List dm)(now:Int)(fs:List (List LT))(ms:List bH):(uU p sl now fs ms).length≤ms.length:=by
 unfold uU
 induction ms with
 |nil=>simp
 |cons m r ih=>
  rw[as5,arC,arS]
  have:(bif (xA (bq m) now sl).2||oH p.2.1 (bq m) fs then [aL m]else []).length≤1:=by
   cases ((xA (bq m) now sl).2||oH p.2.1 (bq m) fs)<;>simp
  omega
theorem Wn(p:dw)(sl:List dm)(hsl:uw sl)(hrs:X4 p.2.1)(now:Int)(hn:0≤now∧now≤8589934592)(fs:List (List LT))(hf:VA fs)(gs:List bC)(hl:gs.length≤1000)(h:KT p gs)(x2 z1 z2:Int):
  aC vB (((0:Int),fs,now,(gs.length:Int),()),[],((now,x2,()),()),(p,()),gs,((z1,z2,()),()),sl,())=
   some ((),((z1,z2,()),()),gs.flatMap (qg p sl now fs),((now,x2,()),()),(p,()),gs.map (qd p sl now fs),sl,()):=by
 refine qZ (f:=vB) gs (fun i a n=>(((i:Int),fs,now,(gs.length:Int),()),n,((now,x2,()),()),(p,()),a,((z1,z2,()),()),sl,())) (qd p sl now fs) (qg p sl now fs)
  (fun a n=>((),((z1,z2,()),()),n,((now,x2,()),()),(p,()),a,sl,())) (fun e=>by unfold qg;cases (pI p sl now fs e).1<;>simp) ?_ ?_
 ·intro i a n e hi ha hni hm he hae;have hw:=aI (i:=i) (by omega);obtain⟨hv,r,hr,rr⟩:=h e hm;have q:=TS p sl hsl hrs now fs hf (aM e) hv.len hv.mem a x2;obtain⟨k,blk,q2,q3,q4⟩:=ahl hv rr hn (mu:=uU p sl now fs (aM e)) (by have:=Ls p sl now fs (aM e);have:=hv.len;unfold big;omega);have hb:decide ((0:Int)≤(i:Int)∧(i:Int)<(a.length:Int))=true:=arj (by omega);have hb2:decide (i<a.length)=true:=arj (by omega);have hb3:decide (0+k≤blk.length)=true:=arj (by omega);have hai:a[((i:Int)).toNat]?=some e:=by rw[arn];exact hae
  have hs:∀x:Ah,decide (n.length+ [x].length≤4294967296)=true:=fun x=>xQ (by omega) x
  have e1:pI p sl now fs e=jI e r now (uU p sl now fs (aM e)):=by unfold pI;rw[qB hr]
  unfold qd qg YA;rw[e1];generalize jI e r now (uU p sl now fs (aM e))=L at q2 q4 ⊢;dsimp only[aM]at q q2;have hrow:∀{B:Type} (F:dG→Option B),q8 p.1 e.1 F=F r:=fun F=>ic hv.rt hr F
  simp only[vB,bO hi,hb,hai,aJ,aA,sS];rw[hrow,q];simp only[eq_self,q2,hb,hb3,aA,sS];cases hk:L.1<;>simp only[hs,hb2,hw,arn,arL,q4,rR,arP,aA,sS]
 ·intro a n ha;simp only[vB,bX,aA,sS]
theorem Ih(p:dw)(sl:List dm)(now x2:Int)(gs:List bC)(hl:gs.length≤1000)(h:KT p gs):
  (aC sO (((0:Int),(gs.length:Int),()),gs,(p,()),((now,x2,()),()),sl,())=some (.inr ((),gs,(p,()),((now,x2,()),()),sl,()))∧iP p now gs=gs)∨
  ∃j,j<gs.length∧aC sO (((0:Int),(gs.length:Int),()),gs,(p,()),((now,x2,()),()),sl,())=some (.inl (((j:Int),()),gs,(p,()),((now,x2,()),()),sl,()))∧(gs.take (j+1)).filter (fun g=> !iD p.1 now g)=gs.take j:=by
 refine Xe (f:=sO) gs (fun g=> !iD p.1 now g) (fun i=>(((i:Int),(gs.length:Int),()),gs,(p,()),((now,x2,()),()),sl,())) (.inr ((),gs,(p,()),((now,x2,()),()),sl,())) (fun i=>.inl (((i:Int),()),gs,(p,()),((now,x2,()),()),sl,())) ?_ ?_
 ·intro i e he hi;have hw:=aI (i:=i) (by omega);have hb:decide ((0:Int)≤(i:Int)∧(i:Int)<(gs.length:Int))=true:=arj (by omega);have q:=(h.idle (arp he) now).1;simp only[sO,bO hi,hb,arn,he,q,eq_self,aA,sS];cases iD p.1 now e<;>simp only[hw,arE,arB,aA,sS]
 ·simp only[sO,bX,aA,sS]
theorem ER(p:dw)(sl:List dm)(now x2:Int)(gs:List bC)(hl:gs.length≤1000)(h:KT p gs):∀(d src dst:Nat) (blk:List bC),src+d=gs.length→dst<src→blk.length=gs.length→
  blk.take dst=(gs.take src).filter (fun g=> !iD p.1 now g)→blk.drop src=gs.drop src→
  ∃(dst':Nat) (blk':List bC),aC yx (((src:Int),(dst:Int),()),blk,(p,()),((now,x2,()),()),sl,())=some (((dst':Int),()),blk',(p,()),((now,x2,()),()),sl,())∧dst'≤gs.length∧blk'.length=gs.length∧blk'.take dst'=iP p now gs:=by
 refine Sn (f:=yx) gs (fun g=> !iD p.1 now g) (fun src dst blk=>(((src:Int),(dst:Int),()),blk,(p,()),((now,x2,()),()),sl,())) (fun dst blk=>(((dst:Int),()),blk,(p,()),((now,x2,()),()),sl,())) ?_ ?_
 ·intro src dst blk e h1 h2 h3 he hm;have c1:decide ((src:Int)<((blk.length:Nat):Int))=true:=arj (by omega);have c2:decide ((0:Int)≤(src:Int)∧(src:Int)<(blk.length:Int))=true:=arj (by omega);have c3:decide ((0:Int)≤(dst:Int)∧(dst:Int)<(blk.length:Int))=true:=arj (by omega);have c4:decide (dst<blk.length)=true:=arj (by omega);have w1:aO ((src:Int)+1)=((src+1:Nat):Int):=aI (by omega);have w2:aO ((dst:Int)+1)=((dst+1:Nat):Int):=aI (by omega);have q:=(h.idle hm now).1;simp only[yx,c1,c2,arn,he,q,eq_self,aA,sS];cases iD p.1 now e<;>simp only[c3,c4,w1,w2,arE,arB,aA,sS]
 ·intro dst blk h3;have:decide ((gs.length:Int)<((blk.length:Nat):Int))=false:=arl (by omega);simp only[yx,this,aA,sS]
theorem ET{A:Type}(l x:List A)(k:Nat)(h:k≤l.length):(bK l k x).take k=l.take k:=by
 unfold bK;rw[arJ,asJ (by rw[ar9];omega),List.take_take,Nat.min_self]
theorem Jz{A:Type}(l:List A)(z:A)(k:Nat)(h:k≤l.length):(bK l k (List.replicate (l.length-k) z)).length=l.length:=by
 unfold bK;simp;omega
def NK(p:dw)(s:InT)(now:Int)(o:Option (Unit×((Int×(Nat×Nat)×Int×Unit)×Unit)×List Ah×List bC×List dm×Unit)):Prop:=
 ∃(n:Nat) (blk:List bC),o=some ((),((now,(0,n),bN s,()),()),Gw p s now,blk,bL s,())∧n≤blk.length∧blk.take n=iP p now (tY p s now)
theorem Mw{p:dw}{s:InT}{now:Int}{A:Type}{o:Option A}{f:A→Option (Unit×((Int×(Nat×Nat)×Int×Unit)×Unit)×List Ah×List bC×List dm×Unit)}(x:A)(h:o=some x)(h2:NK p s now (f x)):NK p s now (o.bind f):=by
 rw[h];exact h2
theorem ahf{p:dw}{s:InT}{now:Int}(h:Sb p s now):NK p s now (m75 ((p,s,now,()),())):=by
 have hl:=h.len;have hv:∀g∈bA s,VG g:=fun g hg=>(h.lg g hg).1
 have g1:=vL h;have g2:=BM h;have l1:(jN p s now).length=(bA s).length:=arq ..;have l2:(tY p s now).length=(bA s).length:=(arq ..).trans l1;have hv1:∀g∈jN p s now,VG g:=fun g hg=>(g1 g hg).1
 have q1:=xU s (by omega) hv h.CY;have q2:=Pj p s now h now (bN s) 0 0;have q3:=Wn p (bL s) h.CY h.rs now h.now (uh p s now) (NJ hv1 (by omega)) (jN p s now) (by omega) g1 (bN s) 0 0;have hfe:jD (jN p s now)=uh p s now:=KA _;have hfb:=QH hv1 (by omega);unfold m75;refine Mw _ q1 ?_;refine Mw _ q2 ?_;simp only[hfb,hfe,eq_self,aA,sS];refine Mw _ q3 ?_;have t2:(jN p s now).map (qd p (bL s) now (uh p s now))=tY p s now:=rfl;have tn:(jN p s now).flatMap (qg p (bL s) now (uh p s now))=Gw p s now:=rfl;rw[t2,tn];unfold NK;generalize tY p s now=G at g2 l2 ⊢;rcases Ih p (bL s) now (bN s) G (by omega) g2 with⟨e,hf⟩|⟨j,hj,e,hf⟩
 ·rw[e];simp only[eq_self,asu,aA,sS];exact⟨G.length,G,rfl,arz _,by rw[asq,hf]⟩
 ·have bj:((j:Int)== -1)=false:=ar7.2 (by omega);have wj:aO ((j:Int)+1)=((j+1:Nat):Int):=aI (by omega);rw[e];simp only[eq_self,bj,wj,aA,sS];obtain⟨dst,blk,e2,h3,h4,h5⟩:=ER p (bL s) now (bN s) G (by omega) g2 (G.length-(j+1)) (j+1) j G (by omega) (by omega) rfl hf.symm rfl;rw[e2];have c1:decide ((0:Int)≤(dst:Int))=true:=arj (by omega);have c2:decide (dst≤blk.length∧blk.length≤blk.length)=true:=arj ⟨by omega,arz _⟩;have c3:decide (dst+(blk.length-dst)≤blk.length)=true:=arj (by omega);have hz:∀z:bC,(bK blk dst (List.replicate (blk.length-dst) z)).length=blk.length:=fun z=>Jz blk z dst (by omega)
  have c4:∀z:bC,decide (0≤dst∧dst≤(bK blk dst (List.replicate (blk.length-dst) z)).length)=true:=fun z=>arj ⟨arO _,by rw[hz];omega⟩
  have c5:∀z:bC,decide ((bK blk dst (List.replicate (blk.length-dst) z)).length=G.length)=true:=fun z=>arj (by rw[hz];omega)
  simp only[c1,c2,c3,c4,c5,arn,eq_self,aA,sS];exact⟨dst,_,rfl,by rw[hz];omega,(ET blk _ dst (by omega)).trans h5⟩
theorem aaq{A B:Type}(f:A→B)(l:List A):l.flatMap (fun e=> [f e])=l.map f:=by
 induction l with
 |nil=>rfl
 |cons e r ih=>rw[as5,ih];rfl
theorem Zo(p:dw)(s:InT)(now:Int)(h:Sb p s now)(ca:Int)(cb:List dm)(cc z1 z2:Int):
  aC vV (((0:Int),now,()),((ca,cb,cc,()),()),(p,()),(s,()),((z1,z2,()),()),[],())=some ((now,()),(s,()),(p,()),((ca,cb,cc,()),()),((z1,z2,()),()),jN p s now,()):=by
 have hl:=h.len;have q:=xX (f:=vV) (bA s) (fun i a=>(((i:Int),now,()),((ca,cb,cc,()),()),(p,()),(s,()),((z1,z2,()),()),a,())) (fun g=> [GL p now g]) (fun a=>((now,()),(s,()),(p,()),((ca,cb,cc,()),()),((z1,z2,()),()),a,())) (by omega) (fun e=>arz _) ?_ ?_
 ·rw[aaq]at q;exact q
 ·intro i e a he hi ha;have hw:=aI (i:=i) (by omega);obtain⟨hv,r,hr,rr⟩:=h.lg e (arp he);have q:=ajP hv rr h.now h.exp;have hs:∀x:bC,decide (a.length+ [x].length≤4294967296)=true:=fun x=>xQ (by omega) x
  dsimp only[bA]at he hi ⊢;unfold GL;rw[qB hr];simp only[vV,bO hi,aJ,aD he,ic hv.rt hr,q,hs,hw,rR,aA,sS]
 ·intro a;dsimp only[bA];simp only[vV,bX,aA,sS]
theorem abV(p:dw)(s:InT)(hsl:uw (bL s))(hrs:X4 p.2.1)(now:Int)(fs:List (List LT))(hf:VA fs)(g:bC)(hv:VG g)(i:Int)(ca:Int)(cb:List dm)(cc z1 z2:Int)(nt:List Ah)(blk:List bC):
  aC uz (((0:Int),now,i,()),(g,()),[],fs,(s,()),(p,()),((ca,cb,cc,()),()),((z1,z2,()),()),nt,blk,())=
   some ((now,i,()),fs,(s,()),(p,()),((ca,cb,cc,()),()),((z1,z2,()),()),nt,uU p (bL s) now fs (aM g),(g,()),blk,()):=by
 have hl:=hv.len;refine xX (f:=uz) (aM g) (fun k a=>(((k:Int),now,i,()),(g,()),a,fs,(s,()),(p,()),((ca,cb,cc,()),()),((z1,z2,()),()),nt,blk,())) (fun m=>bif (xA (bq m) now (bL s)).2||oH p.2.1 (bq m) fs then [aL m]else [])
  (fun a=>((now,i,()),fs,(s,()),(p,()),((ca,cb,cc,()),()),((z1,z2,()),()),nt,a,(g,()),blk,())) (by omega) (fun e=>by cases ((xA (bq e) now (bL s)).2||oH p.2.1 (bq e) fs)<;>simp) ?_ ?_
 ·intro k e a he hi ha;have hw:=aI (i:=k) (by omega);have q:=ai9 p.2.1 hrs (bL s) hsl (bq e) (Cm (hv.mem e (arp he)).lab) fs hf now;have hs:∀x:ByteArray,decide (a.length+ [x].length≤4294967296)=true:=fun x=>xQ (by omega) x
  dsimp only[bq,aL,aM,bL]at q he hi ⊢;simp only[uz,aJ,aD he,bO hi,q,aA,sS];cases ((xA e.2.1 now s.2.2.1).2||oH p.2.1 e.2.1 fs)<;>simp only[aD he,hs,hw,arP,aA,sS]
 ·intro a;dsimp only[aM];simp only[uz,bX,aA,sS]
theorem Qd(p:dw)(s:InT)(hsl:uw (bL s))(hrs:X4 p.2.1)(now:Int)(hn:0≤now∧now≤8589934592)(fs:List (List LT))(hf:VA fs)(gs:List bC)(hl:gs.length≤1000)(h:KT p gs)(ca:Int)(cb:List dm)(cc z1 z2:Int):
  aC xw ((now,(0:Int),()),fs,(s,()),(p,()),[],((ca,cb,cc,()),()),((z1,z2,()),()),gs,())=
   some ((now,()),((z1,z2,()),()),gs.flatMap (qg p (bL s) now fs),((ca,cb,cc,()),()),(p,()),gs.map (qd p (bL s) now fs),()):=by
 refine qZ (f:=xw) gs (fun i a n=>((now,(i:Int),()),fs,(s,()),(p,()),n,((ca,cb,cc,()),()),((z1,z2,()),()),a,())) (qd p (bL s) now fs) (qg p (bL s) now fs)
  (fun a n=>((now,()),((z1,z2,()),()),n,((ca,cb,cc,()),()),(p,()),a,())) (fun e=>by unfold qg;cases (pI p (bL s) now fs e).1<;>simp) ?_ ?_
 ·intro i a n e hi ha hni hm he hae;have hw:=aI (i:=i) (by omega);obtain⟨hv,r,hr,rr⟩:=h e hm;have q:=abV p s hsl hrs now fs hf e hv (i:Int) ca cb cc z1 z2 n a;have q2:=ahb hv rr hn (mu:=uU p (bL s) now fs (aM e)) (by have:=Ls p (bL s) now fs (aM e);have:=hv.len;unfold big;omega);have hlt:decide ((i:Int)<((a.length:Nat):Int))=true:=arj (by omega);have hb:decide ((0:Int)≤(i:Int)∧(i:Int)<(a.length:Int))=true:=arj (by omega);have hb2:decide (i<a.length)=true:=arj (by omega);have hai:a[((i:Int)).toNat]?=some e:=by rw[arn];exact hae
  have hs:∀x:Ah,decide (n.length+ [x].length≤4294967296)=true:=fun x=>xQ (by omega) x
  have e1:pI p (bL s) now fs e=jI e r now (uU p (bL s) now fs (aM e)):=by unfold pI;rw[qB hr]
  unfold qd qg YA;rw[e1];generalize jI e r now (uU p (bL s) now fs (aM e))=L at q2 ⊢;dsimp only[aM]at q q2;have hrow:∀{B:Type} (F:dG→Option B),q8 p.1 e.1 F=F r:=fun F=>ic hv.rt hr F
  simp only[xw,hlt,hb,hai,aJ,aA,sS];rw[q];simp only[hrow,q2,hb,aA,sS];cases hk:L.1<;>simp only[hs,hb2,hw,arn,rR,arP,aA,sS]
 ·intro a n ha;have:decide ((gs.length:Int)<((a.length:Nat):Int))=false:=arl (by omega);simp only[xw,this,aA,sS]
theorem Va(p:dw)(l:List bC)(hl:l.length≤1048576)(h:KT p l)(now:Int):aC yo (((0:Int),now,()),l,[],(p,()),())=some ((),l,iP p now l,()):=by
 have q:=xX (f:=yo) l (fun i a=>(((i:Int),now,()),l,a,(p,()),())) (fun g=>bif !iD p.1 now g then [g]else []) (fun a=>((),l,a,())) hl (fun e=>by cases (!iD p.1 now e)<;>simp) ?_ ?_
 ·rw[Qx]at q;exact q
 ·intro i e a he hi ha;have hw:aO ((i:Int)+1)=((i+1:Nat):Int):=aI (by omega);have q:=(h.idle (arp he) now).2;have hs:∀x:bC,decide (a.length+ [x].length≤4294967296)=true:=fun x=>xQ (by omega) x
  have hb:decide ((0:Int)≤(i:Int)∧(i:Int)<(l.length:Int))=true:=arj (by omega);simp only[yo,bO hi,hb,arn,he,q,aA,sS];cases iD p.1 now e<;>simp only[hs,hw,hb,arn,he,arP,arE,arB,aA,sS]
 ·intro a;simp only[yo,bX,aA,sS]
def iR(p:dw)(s:InT)(now:Int):Int×InT×List Ah:=
 if j3 p s=false then(8,(0,[],[],0,()),[])else if Dc (dx s) now≠0 then(Dc (dx s) now,(0,[],[],0,()),[])else(0,Vj p s now,Gw p s now)
structure VI(p:dw)(s:InT):Prop where
 iQ:Ad p=0
 now:0≤dx s∧dx s≤8589934592
 len:(bA s).length≤64
 CY:iW (bL s)=0
 next:1≤bN s
 ids:∀x∈bL s,x.1<bN s
 rR:tJ (r9 p (dx s)) none (bA s)=true
theorem kE{p:dw}{s:InT}:j3 p s=true↔VI p s:=by
 unfold j3 inst;simp only[ar8,arV,arQ];exact⟨fun⟨a,b,c,d,e,f,g⟩=>⟨a,b,c,d,e,f,g⟩,fun h=>⟨h.iQ,h.now,h.len,h.CY,h.next,h.ids,h.rR⟩⟩
theorem VI.lg{p:dw}{s:InT}(h:VI p s)(hp:mR p)(hs:mE s):KT p (bA s):=by
 intro g hg;obtain⟨hv,_⟩:=hs.rR g hg;obtain⟨q,hb⟩:=Am h.rR g hg;unfold r9 at hb;simp only[asg,asy]at hb;obtain⟨r,hr⟩:=I9 hv hb.1;exact⟨hv,r,hr,Bb hp.rt (iY h.iQ).1 r (arp hr)⟩
theorem VI.tk{p:dw}{s:InT}(h:VI p s)(hp:mR p)(hs:mE s){now:Int}(hn:0≤now∧now≤8589934592):Sb p s now:=
 ⟨by have:=h.len;omega,h.lg hp hs,hs.CY,hp.rs,⟨(iY h.iQ).2.2.1,(iY h.iQ).2.2.2⟩,hn⟩
theorem Zh(s:InT)(t:Int):m67 ((s,t,()),())=some ((Dc (dx s) t,()),()):=by
 unfold m67 Dc;by_cases h1:t<s.1
 ·simp[h1]
 ·by_cases h2:t>8589934592<;>simp[h1,h2]
theorem kr{now t:Int}(h:Dc now t=0)(h0:0≤now):0≤t∧t≤8589934592∧now≤t:=by
 unfold Dc at h;split at h
 ·cases h
 ·split at h
  ·cases h
  ·omega
theorem Kt{p:dw}(hp:mR p){s:InT}(hs:mE s)(now:Int):
  (∃(n:Nat) (blk:List bC),m28 ((p,s,now,()),())=some (((iR p s now).1,()),(((iR p s now).2.1.1,(0,n),(iR p s now).2.1.2.2.2.1,()),()),(iR p s now).2.2,blk,(iR p s now).2.1.2.2.1,())∧n≤blk.length∧blk.take n=(iR p s now).2.1.2.1)∧
  m42 ((p,s,now,()),())=some (((iR p s now).1,()),(((iR p s now).2.1.1,(iR p s now).2.1.2.2.1,(iR p s now).2.1.2.2.2.1,()),()),(iR p s now).2.2,(iR p s now).2.1.2.1,()):=by
 have q1:=Ht p hp s hs;have q2:=J3 p hp s hs;have q3:=Zh s now;unfold iR;cases hv:j3 p s
 ·rw[if_pos rfl];rw[hv]at q1 q2;constructor
  ·unfold m28;simp only[q1,aA,sS];exact⟨0,[],rfl,arz _,rfl⟩
  ·unfold m42;simp only[q2,aA,sS]
 ·rw[if_neg (by simp)];rw[hv]at q1 q2;have h:=kE.1 hv;by_cases hc:Dc (dx s) now=0
  ·rw[if_neg (by simpa using hc)];rw[hc]at q3;obtain⟨n0,n1,n2⟩:=kr hc h.now.1;have tk:=h.tk hp hs ⟨n0,n1⟩;constructor
   ·obtain⟨n,blk,e,e1,e2⟩:=ahf tk;refine⟨n,blk,?_,e1,e2⟩;unfold m28;simp only[q1,q3,e,arN,aA,sS];rfl
   ·have g1:=vL tk;have g2:=BM tk;have l1:(jN p s now).length=(bA s).length:=arq ..;have l2:(tY p s now).length=(bA s).length:=(arq ..).trans l1;have hl:=h.len;have hv1:∀g∈jN p s now,VG g:=fun g hg=>(g1 g hg).1
    have e1:=Zo p s now tk now (bL s) (bN s) 0 0;have e2:=ZF (jN p s now) now (bL s) (bN s) hv1 (by omega) (jN p s now).length 0 [] (by omega) (by simp;omega);rw[arL]at e2;have e3:=Qd p s hs.CY hp.rs now ⟨n0,n1⟩ (uh p s now) (NJ hv1 (by omega)) (jN p s now) (by omega) g1 now (bL s) (bN s) 0 0;have e4:=Va p (tY p s now) (by omega) g2 now;have c1:decide (now<s.1)=false:=arl (by have:=n2;dsimp only[dx]at this;omega);have c2:decide (now>8589934592)=false:=arl (by omega);unfold m42;simp only[q2,c1,c2,aA,sS];refine aN _ e1 ?_;refine aN _ e2 ?_;simp only[eq_self,aA,sS];refine aN _ e3 ?_;refine aN _ e4 ?_;simp only[aA,sS];have t2:(jN p s now).map (qd p (bL s) now (uh p s now))=tY p s now:=rfl;rw[t2];simp only[eq_self,aA,sS];rfl
  ·rw[if_pos hc];constructor
   ·unfold m28;simp only[q1,q3,asi.2 hc,aA,sS];exact⟨0,[],rfl,arz _,rfl⟩
   ·have hc':=hc;unfold Dc at hc' ⊢;dsimp only[dx]at hc' ⊢;unfold m42;by_cases h1:now<s.1
    ·simp only[q2,h1,as4,if_true,aA,sS]
    ·by_cases h2:now>8589934592
     ·simp only[q2,h1,h2,as4,asB,if_true,if_false,aA,sS]
     ·rw[if_neg h1,if_neg h2]at hc';exact absurd rfl hc'
abbrev LG(a:bC)(rt:Int)(k:ByteArray):Prop:=a.1<rt∨(a.1=rt∧Lt a.2.1 k)
theorem zh{a:bC}{rt:Int}{k:ByteArray}:jf a rt k=true↔LG a rt k:=by
 unfold jf LG Lt;simp
theorem J6{a b:bC}{rt:Int}{k:ByteArray}(h:LG a b.1 b.2.1)(h2:LG b rt k):LG a rt k:=by
 rcases h with h|⟨h,h'⟩<;>rcases h2 with h2|⟨h2,h2'⟩
 ·exact .inl (by omega)
 ·exact .inl (by omega)
 ·exact .inl (by omega)
 ·exact .inr ⟨by omega,lt_trans h' h2'⟩
def Ot(gs:List bC):Prop:=gs.Pairwise fun a b=>LG a b.1 b.2.1
theorem sU{p:dw}{now:Int}:∀{gs:List bC} {q:Option bC},tJ (r9 p now) q gs=true→Ot gs∧∀a,q=some a→∀b∈gs,LG a b.1 b.2.1
 | [],_,_=>⟨List.Pairwise.nil,fun _ _ b hb=>by cases hb⟩
 |g::r,q,h=>by
  unfold tJ at h;rw[ar8]at h;obtain⟨h1,h2⟩:=h;obtain⟨u1,u2⟩:=sU h2;have h1:r9 p now q g=false:=by simpa using h1
  refine⟨asA.2 ⟨u2 g rfl,u1⟩,fun a ha b hb=> ?_⟩;subst ha;unfold r9 at h1;simp only[asg,Bool.not_eq_false']at h1;have hag:=zh.1 h1.2.2.1;rcases arW.1 hb with rfl|hb
  ·exact hag
  ·exact J6 hag (u2 g rfl b hb)
def gT(rt:Int)(k:ByteArray):List bC→Nat
 | []=>0
 |g::r=>if jf g rt k=true then gT rt k r+1 else 0
def zD(rt:Int)(k:ByteArray)(gs:List bC):Bool:=match gs[gT rt k gs]? with|some g=>decide (g.1=rt)&&decide (g.2.1=k)|none=>false
theorem Gg(rt:Int)(k:ByteArray):∀gs:List bC,gT rt k gs≤gs.length
 | []=>arz _
 |g::r=>by
  unfold gT;split
  ·have:=Gg rt k r;simp;omega
  ·exact arO _
theorem MU{rt:Int}{k:ByteArray}:∀{gs:List bC} {i:Nat},i≤gs.length→(∀(j:Nat) g,j<i→gs[j]?=some g→jf g rt k=true)→(∀(j:Nat) g,i≤j→gs[j]?=some g→jf g rt k=false)→gT rt k gs=i
 | [],i,h,_,_=>by simp at h;subst h;rfl
 |g::r,0,_,_,h2=>by
  unfold gT;rw[if_neg (by rw[h2 0 g (arz _) rfl];simp)]
 |g::r,i+1,h,h1,h2=>by
  unfold gT;rw[if_pos (h1 0 g (by omega) rfl),MU (i:=i) (by simpa using h) (fun j x hj hx=>h1 (j+1) x (by omega) (by simpa using hx)) (fun j x hj hx=>h2 (j+1) x (by omega) (by simpa using hx))]
theorem Lp{rt:Int}{k:ByteArray}:∀{gs:List bC} {j:Nat} {g:bC},j<gT rt k gs→gs[j]?=some g→jf g rt k=true
 | [],j,g,h,_=>by simp[gT]at h
 |x::r,j,g,h,hg=>by
  unfold gT at h;split at h
  ·rename_i hx
   cases j with
   |zero=>simp at hg;subst hg;exact hx
   |succ j=>exact Lp (gs:=r) (j:=j) (by omega) (by simpa using hg)
  ·omega
theorem UD{rt:Int}{k:ByteArray}:∀{gs:List bC} {g:bC},gs[gT rt k gs]?=some g→jf g rt k=false
 | [],g,h=>by simp at h
 |x::r,g,h=>by
  unfold gT at h;split at h
  ·exact UD (gs:=r) (by simpa using h)
  ·rename_i hx;simp at h;subst h;simpa using hx
theorem TB(a:bC)(rt:Int)(k:ByteArray):(sJ a rt k==0)=(decide (a.1=rt)&&decide (a.2.1=k)):=by
 unfold sJ;by_cases h:a.1=rt
 ·rw[if_pos h,arj h,arU];by_cases hk:a.2.1=k
  ·rw[yB.2 hk,arj hk];rfl
  ·rw[arl hk];exact ar7.2 (fun e=>hk (yB.1 e))
 ·rw[if_neg h,arl h,asv];exact ar7.2 (by omega)
def GSm(gs:List bC):Prop:=∀g∈gs,0≤g.1∧g.1≤1048576
theorem bsearch(gs:List bC)(hl:gs.length≤1000)(hs:GSm gs)(hu:Ot gs)(rt:Int)(hr:0≤rt∧rt≤1048576)(k:ByteArray):
  aC sQ ((k,(gs.length:Int),0,(gs.length:Int),()),gs,(rt,()),())=some ((k,(gT rt k gs:Int),(gs.length:Int),()),gs,(rt,()),()):=by
 have hup:=List.pairwise_iff_getElem.1 hu
 have mono:∀(a b:Nat) (x y:bC),gs[a]?=some x→gs[b]?=some y→a≤b→jf x rt k=false→jf y rt k=false:=by
  intro a b x y ha hb hab hx;by_cases e:a=b
  ·subst e;rw[ha]at hb;injection hb with hb;subst hb;exact hx
  ·obtain⟨h1,h1'⟩:=ark.1 ha;obtain⟨h2,h2'⟩:=ark.1 hb;have:=hup a b h1 h2 (by omega);rw[h1',h2']at this;cases hy:jf y rt k
   ·rfl
   ·rw[zh.2 (J6 this (zh.1 hy))]at hx;cases hx
 have go:∀(d lo hi:Nat),hi-lo≤d→lo≤hi→hi≤gs.length→(∀(j:Nat) g,j<lo→gs[j]?=some g→jf g rt k=true)→(∀(j:Nat) g,hi≤j→gs[j]?=some g→jf g rt k=false)→
   aC sQ ((k,(hi:Int),(lo:Int),(gs.length:Int),()),gs,(rt,()),())=some ((k,(gT rt k gs:Int),(gs.length:Int),()),gs,(rt,()),()):=by
  intro d
  induction d with
  |zero=>
   intro lo hi h0 h1 h2 h3 h4;have:lo=hi:=by omega
   subst this;rw[MU h2 h3 h4];refine aF ?_;simp only[sQ,bX,aA,sS]
  |succ d ih=>
   intro lo hi h0 h1 h2 h3 h4;by_cases hlt:lo<hi
   ·have hm:=half lo hi (by omega);have hmid:(lo+hi)/ 2<gs.length:=by omega
    obtain⟨e,he⟩:=getD_some hmid;have dl:decide ((lo:Int)<(hi:Int))=true:=arj (by omega);have d1:decide ((0:Int)≤1)=true:=rfl;have d2:decide ((0:Int)≤(((lo+hi)/ 2:Nat):Int)∧(((lo+hi)/ 2:Nat):Int)<(gs.length:Int))=true:=arj (by omega);have hw:aO ((((lo+hi)/ 2:Nat):Int)+1)=(((lo+hi)/ 2+1:Nat):Int):=aI (by omega);have q:=RD e rt k (hs e (arp he)) hr;cases hc:jf e rt k
    ·have dc:decide (sJ e rt k<0)=false:=by rw[Di,hc]
     rw[←ih lo ((lo+hi)/ 2) (by omega) (by omega) (by omega) h3 (fun j m hj hjm=>mono _ j e m he hjm hj hc)];refine aH ?_;simp only[sQ,dl,d1,hm,d2,arn,he,q,dc,aA,sS]
    ·have dc:decide (sJ e rt k<0)=true:=by rw[Di,hc]
     rw[←ih ((lo+hi)/ 2+1) hi (by omega) (by omega) h2 (fun j m hj hjm=>by
      cases hx:jf m rt k
      ·exact absurd (mono j _ m e hjm he (by omega) hx) (by rw[hc];simp)
      ·rfl) h4]
     refine aH ?_;simp only[sQ,dl,d1,hm,d2,arn,he,q,dc,hw,aA,sS]
   ·have:lo=hi:=by omega
    subst this;rw[MU h2 h3 h4];refine aF ?_;simp only[sQ,bX,aA,sS]
 exact go _ 0 gs.length (arz _) (arO _) (arz _) (fun j m hj=>by omega) (fun j m hj hjm=>by
  have:=(ark.1 hjm).1;omega)
def newG(rt:Int)(k:ByteArray):bC:=(rt,k,[],-1,-1,())
def yZ(p:dw)(a:Ag)(i:Nat):ByteArray:=A7 (Gi p i) a.2.1
def alG(p:dw)(a:Ag)(gs:List bC)(i:Nat):List bC:=
 if zD i (yZ p a i) gs=true then gs else gs.take (gT i (yZ p a i) gs)++ [newG i (yZ p a i)]++gs.drop (gT i (yZ p a i) gs)
def Zi(p:dw)(a:Ag)(gs:List bC)(i:Nat):Int×L8×List bH:=
 lG (((alG p a gs i)[gT i (yZ p a i) gs]?).getD (newG 0 ByteArray.empty)) (Gi p i) a.2.1 a.2.2.1 a.1
def xq(p:dw)(a:Ag)(gs:List bC)(i:Nat):Option (List bC):=
 if zD i (yZ p a i) gs=false∧a.2.2.1=false then some gs
 else if(Zi p a gs i).1≠0 then none else some ((alG p a gs i).set (gT i (yZ p a i) gs) (rR (Zi p a gs i).2.1 (Zi p a gs i).2.2))
theorem LX{rt:Int}(k:ByteArray)(h:0≤rt):VG (newG rt k):=⟨arO _,h,⟨by show(-1:Int)≤ -1;omega,by show(-1:Int)≤8589934592;omega⟩,⟨by show(-1:Int)≤ -1;omega,by show(-1:Int)≤8589934592;omega⟩,fun m hm=>(by cases hm),List.Pairwise.nil⟩
structure yL(p:dw)(gs:List bC)(n:Nat):Prop where
 lg:KT p gs
 up:Ot gs
 len:gs.length≤n
theorem yL.small{p:dw}{gs:List bC}{n:Nat}(h:yL p gs n)(hp:p.1.length≤24):GSm gs:=by
 intro g hg;obtain⟨hv,r,hr,_⟩:=h.lg g hg;have h1:=hv.rt;have:=(ark.1 hr).1;exact⟨h1,by omega⟩
theorem Ma(p:dw)(a:Ag)(gs:List bC)(i:Nat):∃g,(alG p a gs i)[gT i (yZ p a i) gs]?=some g∧g.1=i∧g.2.1=yZ p a i∧(g∈gs∨g=newG i (yZ p a i)):=by
 unfold alG;cases hh:zD i (yZ p a i) gs
 ·rw[if_neg (by simp)];refine⟨newG i (yZ p a i),?_,rfl,rfl,.inr rfl⟩;have hle:=Gg i (yZ p a i) gs;rw[arJ,ar1 (by rw[ar9];omega),ar9,show gT i (yZ p a i) gs-min (gT i (yZ p a i) gs) gs.length=0 by omega];rfl
 ·rw[if_pos rfl];unfold zD at hh
  cases hg:gs[gT i (yZ p a i) gs]? with
  |none=>rw[hg]at hh;cases hh
  |some g=>
   rw[hg]at hh;simp only[ar8,arV]at hh;exact⟨g,rfl,hh.1,hh.2,.inl (arp hg)⟩
theorem O3{g:bC}{r:dG}{l:List LT}{on:Bool}{t:Int}(h:(lG g r l on t).1=0):(lG g r l on t).2.1.1=g.1∧(lG g r l on t).2.1.2.1=g.2.1:=by
 unfold lG at h ⊢;dsimp only at h ⊢;by_cases hh:hit (gM (dX l)) (aM g)=true
 ·rw[if_pos hh]at h ⊢;obtain⟨m,hm,_⟩:=Au hh;rw[hm]at h ⊢;dsimp only at h ⊢;split
  ·exact⟨rfl,rfl⟩
  ·split
   ·exact⟨rfl,rfl⟩
   ·split<;>exact⟨rfl,rfl⟩
 ·rw[if_neg hh]at h ⊢;split
  ·rename_i hon;rw[if_pos hon]at h;split
   ·rename_i hl;rw[if_pos hl]at h;cases h
   ·exact⟨rfl,rfl⟩
  ·exact⟨rfl,rfl⟩
theorem ahW{gs:List bC}(hu:Ot gs)(rt:Int)(k:ByteArray)(hh:zD rt k gs=false):Ot (gs.take (gT rt k gs)++ [newG rt k]++gs.drop (gT rt k gs)):=by
 have hu':=hu;unfold Ot at hu' ⊢;rw[arJ,List.pairwise_append];rw[←as7 (gT rt k gs) gs,List.pairwise_append]at hu'
 have ha:∀x∈gs.take (gT rt k gs),LG x rt k:=fun x hx=>by
  obtain⟨j,hj,rfl⟩:=List.mem_take_iff_getElem.1 hx;exact zh.1 (Lp (j:=j) (by omega) (arw _))
 have hb:∀x∈gs.drop (gT rt k gs),LG (newG rt k) x.1 x.2.1:=fun x hx=>by
  have hnot:∀y,gs[gT rt k gs]?=some y→LG (newG rt k) y.1 y.2.1:=fun y hy=>by
   have h1:=UD hy;unfold zD at hh;rw[hy]at hh;simp only[Bool.and_eq_false_iff,asy]at hh;have h2:¬ LG y rt k:=fun h=>by rw[zh.2 h]at h1;cases h1
   unfold LG at h2 ⊢
   show rt<y.1∨(rt=y.1∧Lt k y.2.1)
   by_cases e:y.1=rt
   ·rcases hh with hh|hh
    ·exact absurd e hh
    ·rcases NZ k y.2.1 with h|h|h
     ·exact .inr ⟨e.symm,h⟩
     ·exact absurd h.symm hh
     ·exact absurd (.inr ⟨e,h⟩) h2
   ·exact .inl (by
     have:¬ y.1<rt:=fun h=>h2 (.inl h)
     omega)
  obtain⟨j,hj,rfl⟩:=List.mem_drop_iff_getElem.1 hx;have hil:gT rt k gs<gs.length:=by omega
  have h0:=hnot _ (arw hil);by_cases e:j=0
  ·subst e;exact h0
  ·have:=(List.pairwise_iff_getElem.1 hu) (gT rt k gs) (gT rt k gs+j) hil (by omega) (by omega);exact J6 h0 this
 refine⟨hu'.1,?_,fun x hx y hy=> ?_⟩
 ·rw[as8];exact asA.2 ⟨hb,hu'.2.1⟩
 ·rw[as8]at hy;rcases arW.1 hy with rfl|hy
  ·exact ha x hx
  ·exact hu'.2.2 x hx y hy
theorem ag6{gs:List bC}(hu:Ot gs){i:Nat}{g x:bC}(hg:gs[i]?=some g)(h1:x.1=g.1)(h2:x.2.1=g.2.1):Ot (gs.set i x):=by
 unfold Ot at hu ⊢;rw[List.pairwise_iff_getElem]at hu ⊢;obtain⟨hil,hig⟩:=ark.1 hg
 have rd:∀(j:Nat) (hj:j<(gs.set i x).length),(gs.set i x)[j].1=(gs[j]'(by simpa using hj)).1∧(gs.set i x)[j].2.1=(gs[j]'(by simpa using hj)).2.1:=by
  intro j hj;rw[List.getElem_set];split
  ·rename_i e;subst e;rw[hig];exact⟨h1,h2⟩
  ·exact⟨rfl,rfl⟩
 intro a b ha hb hab;have:=hu a b (by simpa using ha) (by simpa using hb) hab;unfold LG at this ⊢;rw[(rd a ha).1,(rd a ha).2,(rd b hb).1,(rd b hb).2];exact this
theorem DV{p:dw}{a:Ag}{gs gs':List bC}{n i:Nat}(h:yL p gs n)(hi:∃r,p.1[i]?=some r∧RR r)(hl:cO a.2.1=true)(ht:0≤a.1∧a.1≤8589934592)(e:xq p a gs i=some gs'):yL p gs' (n+1):=by
 obtain⟨r,hr,rr⟩:=hi;unfold xq at e;split at e
 ·cases e;exact⟨h.lg,h.up,asb h.len (Nat.le_succ n)⟩
 ·split at e
  ·cases e
  ·rename_i h0;simp only[ne_eq,Decidable.not_not]at h0;cases e;obtain⟨g,hg,g1,g2,hm⟩:=Ma p a gs i;have hre:Gi p ((i:Nat):Int)=r:=qB (by rw[arn];exact hr)
   have hv:VG g:=by
    rcases hm with hm|rfl
    ·exact(h.lg g hm).1
    ·exact LX _ (by omega)
   have ha:Zi p a gs i=lG g r a.2.1 a.2.2.1 a.1:=by unfold Zi;rw[hg,hre];rfl
   rw[ha]at h0 ⊢;obtain⟨k1,k2⟩:=O3 h0;have hx:VG (rR (lG g r a.2.1 a.2.2.1 a.1).2.1 (lG g r a.2.1 a.2.2.1 a.1).2.2):=aiI hv rr hl _ ht
   have inv:yL p (alG p a gs i) (n+1):=by
    unfold alG;cases hh:zD i (yZ p a i) gs
    ·rw[if_neg (by simp)];refine⟨fun x hx=> ?_,ahW h.up _ _ hh,?_⟩
     ·simp only[arA,asf]at hx;rcases hx with(hx|rfl)|hx
      ·exact h.lg x (List.mem_of_mem_take hx)
      ·exact⟨LX _ (by omega),r,by show p.1[((i:Nat):Int).toNat]?=some r;rw[arn];exact hr,rr⟩
      ·exact h.lg x (List.mem_of_mem_drop hx)
     ·have:=h.len;simp only[arC,ar9,arR,List.length_singleton];omega
    ·rw[if_pos rfl];exact⟨h.lg,h.up,asb h.len (Nat.le_succ n)⟩
   refine⟨fun x hx'=> ?_,ag6 inv.up hg k1 k2,by rw[ase];exact inv.len⟩;rcases mem_set hx' with hx'|rfl
   ·exact inv.lg x hx'
   ·exact⟨hx,r,by
     show p.1[((lG g r a.2.1 a.2.2.1 a.1).2.1.1).toNat]?=some r
     rw[k1,g1,arn];exact hr,rr⟩
structure MV(p:dw)(a:Ag)(gs:List bC)(i:Nat):Prop where
 inv:yL p gs 1000
 rl:p.1.length≤24
 rt:∃r,p.1[i]?=some r∧RR r
 lab:cO a.2.1=true
 at':0≤a.1∧a.1≤8589934592
theorem MV.key{p:dw}{a:Ag}{gs:List bC}{i:Nat}(h:MV p a gs i){r:dG}(hr:p.1[i]?=some r)(rr:RR r):
  m69 ((r,a.2.1,()),())=some ((yZ p a i,()),())∧m20 ((r,a.2.1,()),())=some ((yZ p a i,()),()):=by
 have hre:Gi p ((i:Nat):Int)=r:=qB (by rw[arn];exact hr);unfold yZ;rw[hre];exact⟨ZA r a.2.1 (iT h.lab) rr.z.2.1,aam r a.2.1 (iT h.lab) rr.z.2.1⟩
theorem SX{p:dw}{a:Ag}{gs:List bC}{i:Nat}(h:MV p a gs i)(hl:gs.length≤900)(l:List Nat)(q:Nat)(hq:l[q]?=some i)(hll:l.length≤1000)(now next:Int)(sl:List dm):
  y5 (((q:Int),(l.length:Int),()),((0,0,()),()),((now,next,()),()),(a,()),(p,()),ints l,gs,sl,())=
   some (match xq p a gs i with
    |some gs'=>.inl ((((q+1:Nat):Int),(l.length:Int),()),((0,0,()),()),((now,next,()),()),(a,()),(p,()),ints l,gs',sl,())
    |none=>.inr (.inl ((5,()),((0,0,()),()),()))):=by
 obtain⟨r,hr,rr⟩:=h.rt;have hql:=(ark.1 hq).1;have hil:=(ark.1 hr).1;have hrl:=h.rl;have il:(ints l).length=l.length:=by simp[ints]
 have hqi:(ints l)[((q:Int)).toNat]?=some (i:Int):=by rw[arn];simp[ints,hq]
 have b1:decide ((0:Int)≤(q:Int)∧(q:Int)<((ints l).length:Int))=true:=arj (by rw[il];omega);have hw:=aI (i:=q) (by omega);have hk:=(h.key hr rr).1;have hbs:=bsearch gs (by omega) (h.inv.small h.rl) h.inv.up (i:Int) ⟨by omega,by omega⟩ (yZ p a i);obtain⟨g,hg,g1,g2,hm⟩:=Ma p a gs i;have hre:Gi p ((i:Nat):Int)=r:=qB (by rw[arn];exact hr)
 have hv:VG g:=by
  rcases hm with hm|rfl
  ·exact(h.inv.lg g hm).1
  ·exact LX _ (by omega)
 have hadd:=al7 hv rr h.lab a.2.2.1 h.at';have ha:Zi p a gs i=lG g r a.2.1 a.2.2.1 a.1:=by unfold Zi;rw[hg,hre];rfl
 have hri:p.1[((i:Int)).toNat]?=some r:=by rw[arn];exact hr
 have hrow:∀{B:Type} (F:dG→Option B),q8 p.1 (i:Int) F=F r:=fun F=>ic (by omega) hri F
 have hple:=Gg (i:Int) (yZ p a i) gs;have hx0:zD i (yZ p a i) gs=match gs[gT i (yZ p a i) gs]? with|some g=>decide (g.1=(i:Int))&&decide (g.2.1=yZ p a i)|none=>false:=rfl
 have hsm:=h.inv.small h.rl;unfold xq;rw[ha];unfold alG at hg ⊢;generalize yZ p a i=k at *;generalize hP:gT (i:Int) k gs=P at *;unfold y5;simp only[bO hql,b1,hqi,aJ,hrow,aA,sS];simp only[hk,hbs,aA,sS]
 have key:∀{B:Type} (F:((Int×Bool×Unit)×(List bC×(Int×Unit)×Unit))→Option B),
   ((bif decide ((P:Int)<(gs.length:Int))then(bif decide ((0:Int)≤(P:Int)∧(P:Int)<(gs.length:Int))then
     (gs[((P:Int)).toNat]?).bind fun e285=>(m84 ((e285,(i:Int),k,()),())).bind fun u286=>some (((P:Int),(u286.1.1==0),()),(gs,((i:Int),()),()))
     else none)else some (((P:Int),false,()),(gs,((i:Int),()),())):Option ((Int×Bool×Unit)×(List bC×(Int×Unit)×Unit))).bind F)=F (((P:Int),zD i k gs,()),(gs,((i:Int),()),())):=by
  intro B F;rw[hx0];by_cases hpl:P<gs.length
  ·obtain⟨e,he⟩:=getD_some hpl;have d1:decide ((P:Int)<(gs.length:Int))=true:=arj (by omega);have d2:decide ((0:Int)≤(P:Int)∧(P:Int)<(gs.length:Int))=true:=arj (by omega);have q84:=RD e (i:Int) k (hsm e (arp he)) ⟨by omega,by omega⟩;simp only[d1,d2,arn,he,q84,TB,aA,sS]
  ·have d1:decide ((P:Int)<(gs.length:Int))=false:=arl (by omega);rw[show gs[P]?=none from asl (by omega)];simp only[d1,aA,sS]
 rw[key];simp only[eq_self,aA,sS];have hgP:(if zD (i:Int) k gs=true then gs else List.take P gs++ [newG (i:Int) k]++List.drop P gs)[((P:Int)).toNat]?=some g:=by rw[arn];exact hg
 have hlenG:P<(if zD (i:Int) k gs=true then gs else List.take P gs++ [newG (i:Int) k]++List.drop P gs).length:=(ark.1 hg).1;have c1:∀z:bC,decide ((0:Int)≤(P:Int)∧(P:Int)≤(gs.length:Int)∧gs.length≤4294967295∧ [z].length=1)=true:=fun z=>arj ⟨by omega,by omega,by omega,rfl⟩
 cases hh:zD (i:Int) k gs
 ·cases hf:a.2.2.1
  ·simp only[hw,if_true,and_self,arB,aA,sS]
  ·rw[hh]at hgP hlenG;simp only[ar3,if_false]at hgP hlenG;have c2:decide ((0:Int)≤(P:Int)∧(P:Int)<((List.take P gs++ [newG (i:Int) k]++List.drop P gs).length:Int))=true:=arj (by omega);have c3:decide (P<(List.take P gs++ [newG (i:Int) k]++List.drop P gs).length)=true:=arj hlenG;rw[hf]at hadd;unfold newG at hgP c2 c3;rw[arn]at hgP;simp only[m72,c1,eq_self,arB,arE,Bool.true_eq_false,ar3,and_false,if_false,ND,aA,sS];simp only[arn,c2,c3,hgP,hrow,hf,hadd,ND,aA,sS];generalize lG g r a.2.1 true a.1=X;by_cases hX:X.1=0
   ·simp only[hX,arN,ne_eq,not_true_eq_false,if_false,hw,rR,newG,aA,sS]
   ·simp only[asi.2 hX,ne_eq,hX,asU,if_true,aA,sS]
 ·rw[hh]at hgP hlenG;simp only[if_true]at hgP hlenG;have c2:decide ((0:Int)≤(P:Int)∧(P:Int)<(gs.length:Int))=true:=arj (by omega);have c3:decide (P<gs.length)=true:=arj hlenG;simp only[eq_self,c2,hgP,hrow,hadd,arB,arE,Bool.true_eq_false,ar3,false_and,if_false,if_true,ND,aA,sS];generalize lG g r a.2.1 a.2.2.1 a.1=X;by_cases hX:X.1=0
  ·simp only[hX,arN,ne_eq,not_true_eq_false,if_false,hw,c3,arn,rR,aA,sS]
  ·simp only[asi.2 hX,ne_eq,hX,asU,if_true,aA,sS]
def yK(p:dw)(a:Ag):List Nat→List bC→Option (List bC)
 | [],gs=>some gs
 |i::r,gs=>(xq p a gs i).bind (yK p a r)
theorem wX{p:dw}{a:Ag}(hlab:cO a.2.1=true)(ht:0≤a.1∧a.1≤8589934592):∀{l:List Nat} {gs gs':List bC} {n:Nat},(∀i∈l,∃r,p.1[i]?=some r∧RR r)→yL p gs n→yK p a l gs=some gs'→yL p gs' (n+l.length)
 | [],gs,gs',n,_,h,e=>by cases e;exact h
 |i::r,gs,gs',n,hl,h,e=>by
  obtain⟨g1,e1,e2⟩:=asr.1 e;have:=wX hlab ht (fun j hj=>hl j (by simp[hj])) (DV h (hl i (by simp)) hlab ht e1) e2;rw[arS]
  rwa [show n+1+r.length=n+(r.length+1) by omega]at this
theorem TT{p:dw}{a:Ag}(hlab:cO a.2.1=true)(ht:0≤a.1∧a.1≤8589934592)(hrl:p.1.length≤24)(l:List Nat)(hl:∀i∈l,∃r,p.1[i]?=some r∧RR r)(hll:l.length≤100)(now next:Int)(sl:List dm)(gs:List bC)(hgs:yL p gs 100):
  aC y5 (((0:Int),(l.length:Int),()),((0,0,()),()),((now,next,()),()),(a,()),(p,()),ints l,gs,sl,())=
   some (match yK p a l gs with
    |some gs'=>.inr ((),((0,0,()),()),((now,next,()),()),(p,()),gs',sl,())
    |none=>.inl ((5,()),((0,0,()),()),())):=by
 have key:∀(d q:Nat) (gs:List bC),q+d=l.length→yL p gs (100+q)→
   aC y5 (((q:Int),(l.length:Int),()),((0,0,()),()),((now,next,()),()),(a,()),(p,()),ints l,gs,sl,())=
    some (match yK p a (l.drop q) gs with
     |some gs'=>.inr ((),((0,0,()),()),((now,next,()),()),(p,()),gs',sl,())
     |none=>.inl ((5,()),((0,0,()),()),())):=by
  intro d
  induction d with
  |zero=>
   intro q gs hq h;obtain rfl:q=l.length:=by omega
   rw[asj];refine aF ?_;simp only[y5,bX,yK,aA,sS]
  |succ d ih=>
   intro q gs hq h;obtain⟨i,hi,hd⟩:=drop_at (l:=l) (i:=q) (by omega);have hir:=hl i (arp hi);have hlen:=h.len;have st:=SX (p:=p) (a:=a) (gs:=gs) (i:=i) ⟨⟨h.lg,h.up,by omega⟩,hrl,hir,hlab,ht⟩ (by omega) l q hi (by omega) now next sl;rw[hd];unfold yK
   cases hs:xq p a gs i with
   |none=>
    rw[hs]at st;exact aF st
   |some gs'=>
    rw[hs]at st;rw[aH st];exact ih (q+1) gs' (by omega) (by have:=DV h hir hlab ht hs;rwa [show 100+q+1=100+(q+1) by omega]at this)
 have:=key l.length 0 gs (by omega) hgs;rw[arL]at this;exact this
theorem Td:UW=sO:=rfl
theorem OQ:UB=yx:=rfl
abbrev yP:InT:=(0,[],[],0,())
def eU(p:dw)(s:InT)(a:Ag):Int×InT:=
 if j3 p s=false∨cO a.2.1=false then(8,yP)else if Dc (dx s) a.1≠0 then(Dc (dx s) a.1,yP)
 else match yK p a (kY p.1 a.2.1) (bA s)with
  |none=>(5,yP)
  |some gs=>if(iP p a.1 gs).length>64 then(5,yP)else(0,(a.1,iP p a.1 gs,bL s,bN s,()))
theorem FO{p:dw}(hp:mR p)(h:kC p.1=0)(x:List LT):(∀i∈kY p.1 x,∃r,p.1[i]?=some r∧RR r)∧(kY p.1 x).length≤24:=by
 have hl:=og h;have tok:=Tt h;unfold kY;split
 ·have hf:=fun j (hj:j∈dK p.1 x 400 0)=>(found tok hj).1
  refine⟨fun i hi=> ?_,?_⟩
  ·have:=hf i hi;exact⟨p.1[i],arw this,Bb hp.rt h _ (List.getElem_mem this)⟩
  ·have hnd:=EP tok x 400 0 (by omega) tok.pos
   have hp2:(dK p.1 x 400 0).Perm ((List.range p.1.length).filter fun j=>decide (j∈dK p.1 x 400 0)):=
    (List.perm_ext_iff_of_nodup hnd (List.nodup_range.filter _)).2 fun j=>by
     simp only[asG,asW,arV];exact⟨fun hj=>⟨hf j hj,hj⟩,fun hj=>hj.2⟩
   have h1:=hp2.length_eq;have h2:=asC (fun j=>decide (j∈dK p.1 x 400 0)) (List.range p.1.length);rw[List.length_range]at h2;omega
 ·exact⟨fun i hi=>(by cases hi),arO _⟩
def apD(V:Int×InT)(o:Option ((Int×Unit)×((Int×(Nat×Nat)×Int×Unit)×Unit)×List bC×List dm×Unit)):Prop:=
 ∃(n:Nat) (blk:List bC),o=some ((V.1,()),((V.2.1,(0,n),V.2.2.2.2.1,()),()),blk,V.2.2.2.1,())∧n≤blk.length∧blk.take n=V.2.2.1
theorem aeu{p:dw}(hp:mR p){s:InT}(hs:mE s)(a:Ag)(ha:Fg a.2.1):apD (eU p s a) (m27 ((p,s,a,()),())):=by
 have q1:=Ht p hp s hs;have q2:=Dv a.2.1 ha;have q3:=Zh s a.1;unfold eU;cases hv:j3 p s
 ·rw[if_pos (.inl rfl)];rw[hv]at q1;unfold m27;simp only[q1,aA,sS];exact⟨0,[],rfl,arz _,rfl⟩
 cases hlab:cO a.2.1
 ·rw[if_pos (.inr rfl)];rw[hv]at q1;rw[hlab]at q2;unfold m27;simp only[q1,q2,aA,sS];exact⟨0,[],rfl,arz _,rfl⟩
 rw[if_neg (by simp)];rw[hv]at q1;rw[hlab]at q2;have h:=kE.1 hv;by_cases hc:Dc (dx s) a.1=0
 ·rw[if_neg (by simpa using hc)];rw[hc]at q3;obtain⟨n0,n1,n2⟩:=kr hc h.now.1;have hck:=(iY h.iQ).1;have lg:=h.lg hp hs;obtain⟨f1,f2⟩:=FO hp hck a.2.1;have hl:=h.len;have q4:=xU s (by omega) (fun g hg=>(lg g hg).1) hs.CY;have q5:=ahs p.1 hp.rt a.2.1 ha;have inv0:yL p (bA s) 64:=⟨lg,(sU h.rR).1,hl⟩
  have q6:=TT hlab ⟨n0,n1⟩ (og hck) (kY p.1 a.2.1) f1 (by omega) a.1 (bN s) (bL s) (bA s) ⟨lg,(sU h.rR).1,by omega⟩;have il:((ints (kY p.1 a.2.1)).length:Int)=((kY p.1 a.2.1).length:Int):=by simp[ints]
  unfold m27;simp only[q1,q2,q3,q4,q5,arN,il,aA,sS];rw[q6]
  cases hr:yK p a (kY p.1 a.2.1) (bA s)with
  |none=>exact⟨0,[],rfl,arz _,rfl⟩
  |some gs=>
   have inv:=wX hlab ⟨n0,n1⟩ f1 inv0 hr;have g2:=inv.lg;have l2:=inv.len;simp only[Td,OQ,aA,sS];have big64:∀n:Nat,n=(iP p a.1 gs).length→decide (((n:Nat):Int)>64)=decide ((iP p a.1 gs).length>64):=fun n hn=>asz.2 (by omega)
   rcases Ih p (bL s) a.1 (bN s) gs (by omega) g2 with⟨e,hf⟩|⟨j,hj,e,hf⟩
   ·rw[e];simp only[eq_self,asu,big64 gs.length (by rw[hf]),aA,sS];by_cases hb:(iP p a.1 gs).length>64
    ·rw[if_pos hb];simp only[hb,as4,aA,sS];exact⟨0,[],rfl,arz _,rfl⟩
    ·rw[if_neg hb];simp only[hb,asB,aA,sS];exact⟨gs.length,gs,rfl,arz _,by rw[asq];exact hf.symm⟩
   ·have bj:((j:Int)== -1)=false:=ar7.2 (by omega);have wj:aO ((j:Int)+1)=((j+1:Nat):Int):=aI (by omega);rw[e];simp only[eq_self,bj,wj,aA,sS];obtain⟨dst,blk,e2,h3,h4,h5⟩:=ER p (bL s) a.1 (bN s) gs (by omega) g2 (gs.length-(j+1)) (j+1) j gs (by omega) (by omega) rfl hf.symm rfl;rw[e2];have c1:decide ((0:Int)≤(dst:Int))=true:=arj (by omega);have c2:decide (dst≤blk.length∧blk.length≤blk.length)=true:=arj ⟨by omega,arz _⟩;have c3:decide (dst+(blk.length-dst)≤blk.length)=true:=arj (by omega);have hz:∀z:bC,(bK blk dst (List.replicate (blk.length-dst) z)).length=blk.length:=fun z=>Jz blk z dst (by omega)
    have c4:∀z:bC,decide (0≤dst∧dst≤(bK blk dst (List.replicate (blk.length-dst) z)).length)=true:=fun z=>arj ⟨arO _,by rw[hz];omega⟩
    have c5:∀z:bC,decide ((bK blk dst (List.replicate (blk.length-dst) z)).length=gs.length)=true:=fun z=>arj (by rw[hz];omega)
    have hd:dst=(iP p a.1 gs).length:=by
     have:=congrArg List.length h5;rw[ar9]at this;omega
    simp only[c1,c2,c3,c4,c5,arn,eq_self,big64 dst hd,aA,sS];by_cases hb:(iP p a.1 gs).length>64
    ·rw[if_pos hb];simp only[hb,as4,aA,sS];exact⟨0,[],rfl,arz _,rfl⟩
    ·rw[if_neg hb];simp only[hb,asB,aA,sS];exact⟨dst,_,rfl,by rw[hz];omega,(ET blk _ dst (by omega)).trans h5⟩
 ·rw[if_pos hc];unfold m27;simp only[q1,q2,q3,asi.2 hc,aA,sS];exact⟨0,[],rfl,arz _,rfl⟩
end Go.Proofs.YtchnmpafhfjimaaGreatDoor
