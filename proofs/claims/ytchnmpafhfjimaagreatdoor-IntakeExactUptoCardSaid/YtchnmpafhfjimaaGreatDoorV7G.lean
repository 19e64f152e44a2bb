/- Lemmas for the statement of the last text of this claim. -/
import Derived.Test.YtchnmpafhfjimaaGreatDoorV7F
set_option linter.unusedSimpArgs false
set_option linter.unusedVariables false
namespace Go.Proofs.YtchnmpafhfjimaaGreatDoor
open Go Go.Abs
theorem V8(rt:Int)(k:ByteArray)(g:bC)(r:List bC):gT rt k (g::r)=if jf g rt k=true then gT rt k r+1 else 0:=rfl
theorem aj4(p:dw)(a:Ag)(l:List Nat)(q i:Nat)(hq:l[q]?=some i)(k:ByteArray)(r:dG)(ca:Int)(cb:List dm)(cc:Int)(gs:List bC)(hl:gs.length≤1000):
  aC rH (((0:Int),(q:Int),k,()),((0,0,()),()),((ca,cb,cc,()),()),(a,()),ints l,(p,()),(r,()),gs,())=
   some (((q:Int),(gT (i:Int) k gs:Int),k,()),((0,0,()),()),((ca,cb,cc,()),()),(a,()),ints l,(p,()),(r,()),gs,()):=by
 have hql:=(ark.1 hq).1;have il:(ints l).length=l.length:=by simp[ints]
 have hqi:(ints l)[((q:Int)).toNat]?=some (i:Int):=by rw[arn];simp[ints,hq]
 have b1:decide ((0:Int)≤(q:Int)∧(q:Int)<((ints l).length:Int))=true:=arj (by rw[il];omega)
 have key:∀(d j:Nat),j+d=gs.length→gT (i:Int) k gs=j+gT (i:Int) k (gs.drop j)→
   aC rH (((j:Int),(q:Int),k,()),((0,0,()),()),((ca,cb,cc,()),()),(a,()),ints l,(p,()),(r,()),gs,())=
    some (((q:Int),(gT (i:Int) k gs:Int),k,()),((0,0,()),()),((ca,cb,cc,()),()),(a,()),ints l,(p,()),(r,()),gs,()):=by
  intro d
  induction d with
  |zero=>
   intro j hj hp;rw[arI (by omega)]at hp;have:gT (i:Int) k gs=j:=hp;rw[this];refine aF ?_;have:decide ((j:Int)<((gs.length:Nat):Int))=false:=arl (by omega);simp only[rH,this,aA,sS]
  |succ d ih=>
   intro j hj hp;obtain⟨e,he,hd⟩:=drop_at (l:=gs) (i:=j) (by omega);rw[hd,V8]at hp;have h1:decide ((j:Int)<((gs.length:Nat):Int))=true:=arj (by omega);have h2:decide ((0:Int)≤(j:Int)∧(j:Int)<(gs.length:Int))=true:=arj (by omega);have he':gs[((j:Int)).toNat]?=some e:=by rw[arn];exact he
   have hw:aO ((j:Int)+1)=((j+1:Nat):Int):=aI (by omega);have q90:=YQ e (i:Int) k;cases hlt:jf e (i:Int) k
   ·rw[if_neg (by rw[hlt];simp)]at hp;rw[show gT (i:Int) k gs=j from hp];refine aF ?_;rw[hlt]at q90;simp only[rH,h1,h2,he',b1,hqi,q90,aA,sS]
   ·rw[if_pos hlt]at hp;rw[←ih (j+1) (by omega) (by omega)];refine aH ?_;rw[hlt]at q90;simp only[rH,h1,h2,he',b1,hqi,q90,hw,aA,sS]
 exact key gs.length 0 (by omega) (by rw[arL];omega)
theorem LH{p:dw}{a:Ag}{gs:List bC}{i:Nat}(h:MV p a gs i)(hl:gs.length≤900)(l:List Nat)(q:Nat)(hq:l[q]?=some i)(hll:l.length≤1000)(now next:Int)(sl:List dm):
  ru (((q:Int),()),((0,0,()),()),((now,sl,next,()),()),(a,()),ints l,(p,()),gs,())=
   some (match xq p a gs i with
    |some gs'=>.inl ((((q+1:Nat):Int),()),((0,0,()),()),((now,sl,next,()),()),(a,()),ints l,(p,()),gs',())
    |none=>.inr (.inl ((5,()),((0,0,()),()),()))):=by
 obtain⟨r,hr,rr⟩:=h.rt;have hql:=(ark.1 hq).1;have hil:=(ark.1 hr).1;have hrl:=h.rl;have il:(ints l).length=l.length:=by simp[ints]
 have hqi:(ints l)[((q:Int)).toNat]?=some (i:Int):=by rw[arn];simp[ints,hq]
 have b0:decide ((q:Int)<(((ints l).length:Nat):Int))=true:=arj (by rw[il];omega);have b1:decide ((0:Int)≤(q:Int)∧(q:Int)<((ints l).length:Int))=true:=arj (by rw[il];omega);have hw:=aI (i:=q) (by omega);have hk:=(h.key hr rr).2;have hbs:=fun k=>aj4 p a l q i hq k r now sl next gs (by omega)
 obtain⟨g,hg,g1,g2,hm⟩:=Ma p a gs i;have hre:Gi p ((i:Nat):Int)=r:=qB (by rw[arn];exact hr)
 have hv:VG g:=by
  rcases hm with hm|rfl
  ·exact(h.inv.lg g hm).1
  ·exact LX _ (by omega)
 have hadd:=anf hv rr h.lab a.2.2.1 h.at';have ha:Zi p a gs i=lG g r a.2.1 a.2.2.1 a.1:=by unfold Zi;rw[hg,hre];rfl
 have hri:p.1[((i:Int)).toNat]?=some r:=by rw[arn];exact hr
 have hrow:∀{B:Type} (F:dG→Option B),q8 p.1 (i:Int) F=F r:=fun F=>ic (by omega) hri F
 have hple:=Gg (i:Int) (yZ p a i) gs;have hx0:zD i (yZ p a i) gs=match gs[gT i (yZ p a i) gs]? with|some g=>decide (g.1=(i:Int))&&decide (g.2.1=yZ p a i)|none=>false:=rfl
 have hbs:=hbs (yZ p a i);unfold xq;rw[ha];unfold alG at hg ⊢;generalize yZ p a i=k at *;generalize hP:gT (i:Int) k gs=P at *;unfold ru;simp only[b0,b1,hqi,aJ,hrow,hk,hbs,aA,sS];have hw1:aO ((P:Int)+1)=((P+1:Nat):Int):=aI (by omega)
 have key:∀{B:Type} (F:((Bool×Int×Int×ByteArray×Unit)×((Int×Int×Unit)×Unit)×((Int×List dm×Int×Unit)×Unit)×(Ag×Unit)×List Int×(dw×Unit)×(dG×Unit)×List bC×Unit)→Option B),
   ((bif ((P:Int)==((gs.length:Nat):Int))then some ((true,(q:Int),(P:Int),k,()),((0,0,()),()),((now,sl,next,()),()),(a,()),ints l,(p,()),(r,()),gs,())
     else (bif decide ((0:Int)≤(P:Int)∧(P:Int)<(gs.length:Int))then
      (gs[((P:Int)).toNat]?).bind fun e253=>bif e253.1 !=(i:Int)then some ((true,(q:Int),(P:Int),k,()),((0,0,()),()),((now,sl,next,()),()),(a,()),ints l,(p,()),(r,()),gs,())
       else(bif decide ((0:Int)≤(P:Int)∧(P:Int)<(gs.length:Int))then
        (gs[((P:Int)).toNat]?).bind fun e255=>some ((!(e255.2.1.toList==k.toList),(q:Int),(P:Int),k,()),((0,0,()),()),((now,sl,next,()),()),(a,()),ints l,(p,()),(r,()),gs,())else none)
      else none):Option ((Bool×Int×Int×ByteArray×Unit)×((Int×Int×Unit)×Unit)×((Int×List dm×Int×Unit)×Unit)×(Ag×Unit)×List Int×(dw×Unit)×(dG×Unit)×List bC×Unit)).bind F)=F ((!zD i k gs,(q:Int),(P:Int),k,()),((0,0,()),()),((now,sl,next,()),()),(a,()),ints l,(p,()),(r,()),gs,()):=by
  intro B F;rw[hx0];by_cases hpl:P<gs.length
  ·obtain⟨e,he⟩:=getD_some hpl;have d1:((P:Int)==((gs.length:Nat):Int))=false:=ar7.2 (by omega);have d2:decide ((0:Int)≤(P:Int)∧(P:Int)<(gs.length:Int))=true:=arj (by omega);simp only[d1,d2,arn,he,bg,gB,aA,sS];by_cases h1:e.1=(i:Int)
   ·simp only[h1,arN,as4,arU,aA,sS]
   ·simp only[asi.2 h1,arl h1,asv,arB,aA,sS]
  ·have d1:((P:Int)==((gs.length:Nat):Int))=true:=beq_iff_eq.2 (by omega);rw[show gs[P]?=none from asl (by omega)];simp only[d1,arB,aA,sS]
 rw[key];simp only[eq_self,aA,sS];cases hh:zD (i:Int) k gs
 ·rw[hh]at hg;simp only[ar3,if_false]at hg;have hlenG:P<(List.take P gs++ [newG (i:Int) k]++List.drop P gs).length:=(ark.1 hg).1;cases hf:a.2.2.1
  ·simp only[hf,hw,if_true,and_self,arB,aA,sS]
  ·rw[hf]at hadd;have lg1:(gs++ [((0,ByteArray.empty,[],0,0,()):bC)]).length=gs.length+1:=by simp
   have e1:=VE gs P ((0,ByteArray.empty,[],0,0,()):bC) (newG (i:Int) k) hple;have e2:=uE gs P ((0,ByteArray.empty,[],0,0,()):bC) hple;have a0:decide (gs.length+ [((0,ByteArray.empty,[],0,0,()):bC)].length≤4294967296)=true:=arj (by simp;omega);have a1:decide ((0:Int)≤((P+1:Nat):Int))=true:=arj (by omega);have a2:decide (P+1≤(gs++ [((0,ByteArray.empty,[],0,0,()):bC)]).length∧(gs++ [((0,ByteArray.empty,[],0,0,()):bC)]).length≤(gs++ [((0,ByteArray.empty,[],0,0,()):bC)]).length)=true:=arj ⟨by omega,arz _⟩;have a3:decide ((0:Int)≤(P:Int))=true:=arj (by omega);have a4:decide (P≤(gs++ [((0,ByteArray.empty,[],0,0,()):bC)]).length∧(gs++ [((0,ByteArray.empty,[],0,0,()):bC)]).length≤(gs++ [((0,ByteArray.empty,[],0,0,()):bC)]).length)=true:=arj ⟨by omega,arz _⟩
   have a5:decide (P+((gs++ [((0,ByteArray.empty,[],0,0,()):bC)]).length-P)≤(gs++ [((0,ByteArray.empty,[],0,0,()):bC)]).length)=true:=arj (by omega);have a6:decide (P+1+((gs++ [((0,ByteArray.empty,[],0,0,()):bC)]).length-(P+1))≤(gs++ [((0,ByteArray.empty,[],0,0,()):bC)]).length)=true:=arj (by omega);have a7:∀L:List bC,L.length=gs.length+1→decide ((0:Int)≤(P:Int)∧(P:Int)<(L.length:Int))=true∧decide (P<L.length)=true:=fun L hL=>⟨arj (by omega),arj (by omega)⟩
   obtain⟨a8,a9⟩:=a7 _ e2;have c2:decide ((0:Int)≤(P:Int)∧(P:Int)<((List.take P gs++ [newG (i:Int) k]++List.drop P gs).length:Int))=true:=arj (by omega);have c3:decide (P<(List.take P gs++ [newG (i:Int) k]++List.drop P gs).length)=true:=arj hlenG;unfold newG at e1 c2 c3 hg;rw[arn]at hqi;simp only[hf,a0,hw1,a1,a2,a3,a4,a5,a6,a8,a9,b1,hqi,m91,arn,e1,c2,c3,hg,hadd,arB,arE,Bool.true_eq_false,and_false,if_false,ND,aA,sS];generalize lG g r a.2.1 true a.1=X;by_cases hX:X.1=0
   ·simp only[hX,arN,ne_eq,not_true_eq_false,if_false,hw,rR,newG,ar3,aA,sS]
   ·simp only[asi.2 hX,ne_eq,hX,asU,if_true,ar3,if_false,aA,sS]
 ·rw[hh]at hg;simp only[if_true]at hg;have hlenG:P<gs.length:=(ark.1 hg).1;have c2:decide ((0:Int)≤(P:Int)∧(P:Int)<(gs.length:Int))=true:=arj (by omega);have c3:decide (P<gs.length)=true:=arj hlenG;simp only[c2,c3,arn,hg,hadd,arE,Bool.true_eq_false,false_and,if_false,if_true,ND,aA,sS];generalize lG g r a.2.1 a.2.2.1 a.1=X;by_cases hX:X.1=0
  ·simp only[hX,arN,ne_eq,not_true_eq_false,if_false,hw,rR,aA,sS]
  ·simp only[asi.2 hX,ne_eq,hX,asU,if_true,aA,sS]
theorem M9{p:dw}{a:Ag}(hlab:cO a.2.1=true)(ht:0≤a.1∧a.1≤8589934592)(hrl:p.1.length≤24)(l:List Nat)(hl:∀i∈l,∃r,p.1[i]?=some r∧RR r)(hll:l.length≤100)(now next:Int)(sl:List dm)(gs:List bC)(hgs:yL p gs 100):
  aC ru (((0:Int),()),((0,0,()),()),((now,sl,next,()),()),(a,()),ints l,(p,()),gs,())=
   some (match yK p a l gs with
    |some gs'=>.inr ((),((0,0,()),()),((now,sl,next,()),()),(p,()),gs',())
    |none=>.inl ((5,()),((0,0,()),()),())):=by
 have key:∀(d q:Nat) (gs:List bC),q+d=l.length→yL p gs (100+q)→
   aC ru (((q:Int),()),((0,0,()),()),((now,sl,next,()),()),(a,()),ints l,(p,()),gs,())=
    some (match yK p a (l.drop q) gs with
     |some gs'=>.inr ((),((0,0,()),()),((now,sl,next,()),()),(p,()),gs',())
     |none=>.inl ((5,()),((0,0,()),()),())):=by
  intro d
  induction d with
  |zero=>
   intro q gs hq h;obtain rfl:q=l.length:=by omega
   rw[asj];refine aF ?_;have:decide ((l.length:Int)<(((ints l).length:Nat):Int))=false:=arl (by simp[ints]);simp only[ru,this,yK,aA,sS]
  |succ d ih=>
   intro q gs hq h;obtain⟨i,hi,hd⟩:=drop_at (l:=l) (i:=q) (by omega);have hir:=hl i (arp hi);have hlen:=h.len;have st:=LH (p:=p) (a:=a) (gs:=gs) (i:=i) ⟨⟨h.lg,h.up,by omega⟩,hrl,hir,hlab,ht⟩ (by omega) l q hi (by omega) now next sl;rw[hd];unfold yK
   cases hs:xq p a gs i with
   |none=>
    rw[hs]at st;exact aF st
   |some gs'=>
    rw[hs]at st;rw[aH st];exact ih (q+1) gs' (by omega) (by have:=DV h hir hlab ht hs;rwa [show 100+q+1=100+(q+1) by omega]at this)
 have:=key l.length 0 gs (by omega) hgs;rw[arL]at this;exact this
theorem Tv:UL=yo:=rfl
theorem Un{p:dw}(hp:mR p){s:InT}(hs:mE s)(a:Ag)(ha:Fg a.2.1):
  m41 ((p,s,a,()),())=some (((eU p s a).1,()),(((eU p s a).2.1,(eU p s a).2.2.2.1,(eU p s a).2.2.2.2.1,()),()),(eU p s a).2.2.1,()):=by
 have q1:=J3 p hp s hs;have q2:=Dz a.2.1 ha;unfold eU;cases hv:j3 p s
 ·rw[if_pos (.inl rfl)];rw[hv]at q1;unfold m41;simp only[q1,aA,sS]
 cases hlab:cO a.2.1
 ·rw[if_pos (.inr rfl)];rw[hv]at q1;rw[hlab]at q2;unfold m41;simp only[q1,q2,aA,sS]
 rw[if_neg (by simp)];rw[hv]at q1;rw[hlab]at q2;have h:=kE.1 hv;by_cases hc:Dc (dx s) a.1=0
 ·rw[if_neg (by simpa using hc)];obtain⟨n0,n1,n2⟩:=kr hc h.now.1;have hck:=(iY h.iQ).1;have lg:=h.lg hp hs;obtain⟨f1,f2⟩:=FO hp hck a.2.1;have hl:=h.len;have q5:=aio p.1 hp.rt a.2.1 ha;have inv0:yL p (bA s) 64:=⟨lg,(sU h.rR).1,hl⟩
  have q6:=M9 hlab ⟨n0,n1⟩ (og hck) (kY p.1 a.2.1) f1 (by omega) a.1 (bN s) (bL s) (bA s) ⟨lg,(sU h.rR).1,by omega⟩;have c1:decide (a.1<s.1)=false:=arl (by have:=n2;dsimp only[dx]at this;omega);have c2:decide (a.1>8589934592)=false:=arl (by omega);have c3:decide (0+s.2.1.length≤4294967296)=true:=arj (by dsimp only[bA]at hl;omega);unfold m41;simp only[q1,q2,q5,c1,c2,c3,aA,sS];rw[q6]
  cases hr:yK p a (kY p.1 a.2.1) (bA s)with
  |none=>rfl
  |some gs=>
   have inv:=wX hlab ⟨n0,n1⟩ f1 inv0 hr;have l2:=inv.len;have q7:=Va p gs (by omega) inv.lg a.1;rw[←Tv]at q7;simp only[aA,sS];refine aN _ q7 ?_;simp only[eq_self,aA,sS];by_cases hb:(iP p a.1 gs).length>64
   ·have:decide ((((iP p a.1 gs).length:Nat):Int)>64)=true:=arj (by omega);rw[if_pos hb];simp only[this,aA,sS]
   ·have:decide ((((iP p a.1 gs).length:Nat):Int)>64)=false:=arl (by omega);rw[if_neg hb];simp only[this,aA,sS]
 ·rw[if_pos hc];have hc':=hc;unfold Dc at hc' ⊢;dsimp only[dx]at hc' ⊢;unfold m41;by_cases h1:a.1<s.1
  ·simp only[q1,q2,h1,as4,if_true,aA,sS]
  ·by_cases h2:a.1>8589934592
   ·simp only[q1,q2,h1,h2,as4,asB,if_true,if_false,aA,sS]
   ·rw[if_neg h1,if_neg h2]at hc';exact absurd rfl hc'
def Kb(t:Int)(g:bC):bC:=(g.1,g.2.1,g.2.2.1,t,g.2.2.2.2)
def uM(t:Int)(g:bC):Bool:=(dU g== -1)||decide (dU g>t)
def ng(t:Int)(g:bC):bC:=bif jG (aM g)&&uM t g then Kb t g else g
theorem Rt:Vh=yw:=rfl
theorem adE(ms:List bH)(hl:ms.length≤256):∃j:Nat,aC Ap (((0:Int),ms,(ms.length:Int),()),())=some (bif jG ms then .inl (((j:Int),()),())else .inr ((),())):=by
 obtain⟨j,h⟩:=sD (f:=Ap) ms (fun i=>(((i:Int),ms,(ms.length:Int),()),())) (fun m=>dD m) (fun i=>.inl (((i:Int),()),())) (.inr ((),())) (fun i e he hi=>by
  have hw:=aI (i:=i) (by omega);simp only[Ap,aeh,bO hi,aJ,aD he,aA,sS]
  cases hm:e.2.2.2.2.2.1<;>simp only[hw,hm,arE,arB,aA,sS]) (by simp only[Ap,bX,aA,sS])
 refine⟨j,h.trans ?_⟩
 have:jG ms= !ms.all (fun m=>dD m):=by
  unfold jG;rw[List.not_all_eq_any_not]
 rw[this];cases ms.all (fun m=>dD m)<;>rfl
theorem UG(t:Int)(gs:List bC)(hl:gs.length≤1000)(hv:∀g∈gs,VG g)(x1 x2:Int)(sl:List dm):
  aC yw (((0:Int),t,(gs.length:Int),()),((x1,x2,()),()),gs,sl,())=some ((),((x1,x2,()),()),gs.map (ng t),sl,()):=by
 refine qZ (F:=Unit) (f:=yw) gs (fun i a _=>(((i:Int),t,(gs.length:Int),()),((x1,x2,()),()),a,sl,())) (ng t) (fun _=> []) (fun a _=>((),((x1,x2,()),()),a,sl,())) (fun _=>arO _) ?_ ?_
 ·intro i a n e hi ha _ hm he hae;have hw:=aI (i:=i) (by omega);have hb:decide ((0:Int)≤(i:Int)∧(i:Int)<(a.length:Int))=true:=arj (by omega);have hai:a[((i:Int)).toNat]?=some e:=by rw[arn];exact hae
  obtain⟨j,hj⟩:=adE (aM e) (hv e hm).len;have hj0:decide ((j:Int)≥0)=true:=arj (by omega);dsimp only[aM]at hj;unfold ng uM Kb;dsimp only[aM,dU];simp only[yw,bO hi,hb,hai,hj,aA,sS]
  have hset:a.set i e=a:=by
   obtain⟨h1,h2⟩:=ark.1 hae;rw[←h2];exact List.set_getElem_self h1
  cases jG e.2.2.1<;>simp only[hj0,hw,hset,arU,asv,aA,sS];cases (e.2.2.2.1== -1)<;>simp only[hb,hai,hae,hw,arn,ar6,ar0,aA,sS];cases decide (e.2.2.2.1>t)<;>simp only[hb,hai,hae,hw,hset,arn,aA,sS]
 ·intro a n ha;simp only[yw,bX,aA,sS]
def G8(t:Int)(g:bC)(b:Bool):bC:=bif b&&uM t g then Kb t g else g
theorem PO(t:Int)(g:bC)(b:Bool):aM (G8 t g b)=aM g:=by
 unfold G8 Kb;cases (b&&uM t g)<;>rfl
theorem Wd(t:Int)(g:bC)(b:Bool)(u:Bool):(bif u&&uM t (G8 t g b)then Kb t (G8 t g b)else G8 t g b)=G8 t g (b||u):=by
 unfold G8;cases hc:uM t g<;>cases b<;>cases u<;>simp[hc];cases uM t (Kb t g)<;>rfl
theorem VT(ms:List bH)(k:Nat)(m:bH)(h:ms[k]?=some m):jG (ms.take (k+1))=(jG (ms.take k)|| !dD m):=by
 rw[fo h,Li]
theorem aah(t:Int)(gs:List bC)(i:Nat)(g:bC)(hv:VG g)(hi:i<gs.length)(hil:gs.length≤1000):∀(d k:Nat),k+d=(aM g).length→
  aC BD (((k:Int),t,(i:Int),()),gs.set i (G8 t g (jG ((aM g).take k))),())=some ((t,(i:Int),()),gs.set i (ng t g),()):=by
 have hlen:=hv.len;have at':∀x:bC,(gs.set i x)[((i:Int)).toNat]?=some x:=fun x=>by rw[arn,asS hi]
 have hb:∀x:bC,decide ((0:Int)≤(i:Int)∧(i:Int)<((gs.set i x).length:Int))=true:=fun x=>arj (by rw[ase];omega)
 intro d
 induction d with
 |zero=>
  intro k hk;obtain rfl:k=(aM g).length:=by omega
  rw[asq];have e:G8 t g (jG (aM g))=ng t g:=rfl;rw[e];refine aF ?_;have hm:(ng t g).2.2.1=aM g:=PO t g _;simp only[BD,hb,at',hm,bX,aA,sS]
 |succ d ih=>
  intro k hk;obtain⟨m,hm,_⟩:=drop_at (l:=aM g) (i:=k) (by omega);have hw:=aI (i:=k) (by omega);have hkl:k<(aM g).length:=by omega
  rw[←ih (k+1) (by omega),VT _ _ _ hm,←Wd];generalize hG:G8 t g (jG ((aM g).take k))=G;have hGm:G.2.2.1=aM g:=by rw[←hG];exact PO t g _
  refine aH ?_;have ss:∀x y:bC,(gs.set i x).set i y=gs.set i y:=fun x y=>List.set_set ..
  unfold uM Kb;dsimp only[dU,dD];simp only[BD,hb,at',hGm,bO hkl,aJ,aD hm,aA,sS];cases m.2.2.2.2.2.1<;>simp only[hw,arE,arB,arU,asv,aA,sS];cases (G.2.2.2.1== -1)<;>simp only[hb,at',hw,ss,arn,ar6,ar0,aA,sS]
  ·cases decide (G.2.2.2.1>t)<;>simp only[hb,at',hw,ss,arn,aA,sS];rw[asS hi];simp only[hw,ss,hGm,aA,sS]
  ·rw[asS hi];simp only[hw,ss,hGm,aA,sS]
theorem Vs(gs:List bC)(hl:gs.length≤1000)(hv:∀g∈gs,VG g)(t:Int):Yd ((gs,t,()),())=some ((),(gs.map (ng t),())):=by
 have q:=qZ (F:=Unit) (f:=CK) gs (fun i a _=>((t,(i:Int),()),a,())) (ng t) (fun _=> []) (fun a _=>((),a,())) (fun _=>arO _) ?_ ?_
 ·unfold Yd;rw[show decide (0+gs.length≤4294967296)=true from arj (by omega)];exact aN _ q rfl
 ·intro i a n e hi ha _ hm he hae;have hw:=aI (i:=i) (by omega);have hlt:decide ((i:Int)<((a.length:Nat):Int))=true:=arj (by omega);have q:=aah t a i e (hv e hm) (by omega) (by omega) (aM e).length 0 (by omega)
  have e0:a.set i (G8 t e (jG ((aM e).take 0)))=a:=by
   obtain⟨h1,h2⟩:=ark.1 hae;rw[asV]
   show a.set i e=a
   rw[←h2];exact List.set_getElem_self h1
  rw[e0]at q;simp only[CK,hlt,aA,sS];refine aN _ q ?_;simp only[hw,aA,sS]
 ·intro a n ha;have hlt:decide ((gs.length:Int)<((a.length:Nat):Int))=false:=arl (by omega);simp only[CK,hlt,aA,sS]
def yH(id t:Int)(l:List dm):Int×List dm:=
 if iW l≠0 then(iW l,[])else match l.drop (l.takeWhile fun y=>decide (y.1≠id)).length with
  | []=>(3,[])
  |s::b=>Mj t (l.takeWhile fun y=>decide (y.1≠id)) s b
theorem take_split{id:Int}{a b:List dm}{s:dm}(ha:∀y∈a,y.1≠id)(hs:s.1=id):((a++s::b).takeWhile fun y=>decide (y.1≠id))=a:=by
 induction a with
 |nil=>rw[asR,List.takeWhile_cons,if_neg (by simp[hs])]
 |cons y r ih=>
  rw[asE,List.takeWhile_cons,if_pos (arj (ha y (by simp))),ih (fun z hz=>ha z (by simp[hz]))]
theorem BO{A:Type}{p:A→Bool}:∀{l:List A},(∀y∈l,p y=true)→l.takeWhile p=l
 | [],_=>rfl
 |y::r,h=>by rw[List.takeWhile_cons,if_pos (h y (by simp)),BO fun z hz=>h z (by simp[hz])]
theorem Za(l:List dm)(hl:uw l)(id t:Int):m76 ((l,id,t,()),())=some (((yH id t l).1,()),((yH id t l).2,()))∧Mv ((l,id,t,()),())=some (((yH id t l).1,()),((yH id t l).2,())):=by
 unfold yH;by_cases h:iW l=0
 ·rw[if_neg (by simpa using h)];rcases zU id l with hn|⟨a,s,b,rfl,ha,hs⟩
  ·have e:(l.takeWhile fun y=>decide (y.1≠id))=l:=by
    exact BO fun y hy=>arj (hn y hy)
   rw[e,asj];exact⟨ZX l hl id t h hn,WT l hl id t h hn⟩
  ·rw[take_split ha hs,List.drop_left];subst hs;exact⟨ab0 a s b hl t h ha,aaO a s b hl t h ha⟩
 ·rw[if_pos h];exact⟨adb l hl id t h,Zy l hl id t h⟩
def Ay(p:dw)(s:InT)(x:dm):Int×Int×InT:=
 if j3 p s=false then(0,8,yP)else if bN s≥8589934592 then(0,5,yP)
 else if(yI (bL s) (bN s,x.2)).1≠0 then(0,(yI (bL s) (bN s,x.2)).1,yP)
 else(bN s,0,(dx s,(bA s).map (ng x.2.2.1),(yI (bL s) (bN s,x.2)).2,bN s+1,()))
abbrev Ei(V:Int×Int×InT):Option ((Int×Int×Unit)×((Int×Int×Unit)×Unit)×List bC×List dm×Unit):=some ((V.1,V.2.1,()),((V.2.2.1,V.2.2.2.2.2.1,()),()),V.2.2.2.1,V.2.2.2.2.1,())
theorem VI.short{p:dw}{s:InT}(h:VI p s):(bL s).length≤24:=(Dw h.CY).2
theorem QX{p:dw}(hp:mR p){s:InT}(hs:mE s)(x:dm)(hx:FZ x):m25 ((p,s,x,()),())=Ei (Ay p s x)∧m44 ((p,s,x,()),())=Ei (Ay p s x):=by
 have q1:=Ht p hp s hs;have q2:=J3 p hp s hs;unfold Ay;cases hv:j3 p s
 ·rw[if_pos rfl];rw[hv]at q1 q2;constructor
  ·unfold m25;simp only[q1,Ei,aA,sS]
  ·unfold m44;simp only[q2,Ei,aA,sS]
 rw[if_neg (by simp)];rw[hv]at q1 q2;have h:=kE.1 hv;have lg:=h.lg hp hs;have hl:=h.len;have hvg:∀g∈bA s,VG g:=fun g hg=>(lg g hg).1
 have hx':FZ (bN s,x.2):=hx;have q3:=ah0 (bL s) hs.CY (by have:=h.short;omega) (bN s,x.2) hx';have q4:=aic (bL s) hs.CY (by have:=h.short;omega) (bN s,x.2) hx';have q5:=xU s (by omega) hvg hs.CY;have q7:=Vs (bA s) (by omega) hvg x.2.2.1;have hnx:=h.next;by_cases h1:bN s≥8589934592
 ·rw[if_pos h1];dsimp only[bN]at h1;constructor
  ·unfold m25;simp only[q1,h1,as4,Ei,aA,sS]
  ·unfold m44;simp only[q2,h1,as4,Ei,aA,sS]
 rw[if_neg h1];have q6:=UG x.2.2.1 (bA s) (by omega) hvg (dx s) (bN s+1) (yI (bL s) (bN s,x.2)).2;have w1:aO (bN s+1)=bN s+1:=bI (by omega) (by omega);dsimp only[bN,bL,dx,bA]at h1 q3 q4 q5 q6 q7 w1 ⊢;generalize yI s.2.2.1 (s.2.2.2.1,x.2)=A at q3 q4 q6 ⊢;by_cases h2:A.1=0
 ·rw[if_neg (by simpa using h2)];constructor
  ·unfold m25;simp only[q1,h1,asB,q3,h2,arN,q5,w1,q6,eq_self,arq,Ei,aA,sS]
  ·unfold m44;simp only[q2,h1,asB,q4,h2,arN,q7,w1,Ei,aA,sS]
 ·rw[if_pos h2];constructor
  ·unfold m25;simp only[q1,h1,asB,q3,asi.2 h2,Ei,aA,sS]
  ·unfold m44;simp only[q2,h1,asB,q4,asi.2 h2,Ei,aA,sS]
def Im(now:Int):Int:=if 8589934592<now+1 then 8589934592 else now+1
def BV(p:dw)(s:InT)(id:Int):Int×InT:=
 if j3 p s=false then(8,yP)else if(yH id (dx s) (bL s)).1≠0 then((yH id (dx s) (bL s)).1,yP)
 else(0,(dx s,(bA s).map (ng (Im (dx s))),(yH id (dx s) (bL s)).2,bN s,()))
abbrev Jl(V:Int×InT):Option ((Int×Unit)×((Int×Int×Unit)×Unit)×List bC×List dm×Unit):=some ((V.1,()),((V.2.1,V.2.2.2.2.1,()),()),V.2.2.1,V.2.2.2.1,())
theorem Qm{p:dw}(hp:mR p){s:InT}(hs:mE s)(id:Int):m29 ((p,s,id,()),())=Jl (BV p s id)∧m45 ((p,s,id,()),())=Jl (BV p s id):=by
 have q1:=Ht p hp s hs;have q2:=J3 p hp s hs;unfold BV;cases hv:j3 p s
 ·rw[if_pos rfl];rw[hv]at q1 q2;constructor
  ·unfold m29;simp only[q1,Jl,aA,sS]
  ·unfold m45;simp only[q2,Jl,aA,sS]
 rw[if_neg (by simp)];rw[hv]at q1 q2;have h:=kE.1 hv;have lg:=h.lg hp hs;have hl:=h.len;have hnow:=h.now;have hvg:∀g∈bA s,VG g:=fun g hg=>(lg g hg).1
 obtain⟨q3,q4⟩:=Za (bL s) hs.CY id (dx s);have q5:=xU s (by omega) hvg hs.CY;have w1:aO (dx s+1)=dx s+1:=bI (by omega) (by omega);have q7:=Vs (bA s) (by omega) hvg (Im (dx s));have q6:=UG (Im (dx s)) (bA s) (by omega) hvg (dx s) (bN s) (yH id (dx s) (bL s)).2;unfold Im at q6 q7 ⊢;dsimp only[bN,bL,dx,bA]at q3 q4 q5 q6 q7 w1 ⊢;generalize yH id s.1 s.2.2.1=A at q3 q4 q6 ⊢;by_cases h2:A.1=0
 ·rw[if_neg (by simpa using h2)];constructor
  ·unfold m29;simp only[q1,q3,h2,arN,q5,w1,Rt,q6,eq_self,arq,Jl,aA,sS]
  ·unfold m45;simp only[q2,q4,h2,arN,w1,q7,Jl,aA,sS]
 ·rw[if_pos h2];constructor
  ·unfold m29;simp only[q1,q3,asi.2 h2,Jl,aA,sS]
  ·unfold m45;simp only[q2,q4,asi.2 h2,Jl,aA,sS]
def tV(p:dw)(g:bC):Prop:=∀m∈aM g,A7 (Gi p g.1) (bq m)=g.2.1
theorem U8{p:dw}{g:bC}{r:dG}(h:p.1[g.1.toNat]?=some r)(m:bH):zH p.1 g m=A7 (Gi p g.1) (bq m):=by
 unfold zH;rw[h,qB h]
theorem Na{p:dw}{now:Int}{q:Option bC}{g:bC}{r:dG}(h:p.1[g.1.toNat]?=some r):r9 p now q g=false↔g.1<(p.1.length:Int)∧iD p.1 now g=false∧(∀a,q=some a→LG a g.1 g.2.1)∧tV p g:=by
 unfold r9
 cases q with
 |none=>
  simp only[asg,asy,Bool.not_eq_false',arQ,arV,U8 h];exact⟨fun⟨a,b,_,d⟩=>⟨by omega,b,fun _ e=>(by cases e),d⟩,fun⟨a,b,_,d⟩=>⟨by omega,b,trivial,d⟩⟩
 |some x=>
  simp only[asg,asy,Bool.not_eq_false',arQ,arV,U8 h];exact⟨fun⟨a,b,c,d⟩=>⟨by omega,b,fun _ e=>(by cases e;exact zh.1 c),d⟩,fun⟨a,b,c,d⟩=>⟨by omega,b,zh.2 (c x rfl),d⟩⟩
theorem RO{p:dw}{now:Int}:∀{gs:List bC} {q:Option bC},KT p gs→Ot gs→(∀a,q=some a→∀b∈gs,LG a b.1 b.2.1)→(∀g∈gs,iD p.1 now g=false∧tV p g)→tJ (r9 p now) q gs=true
 | [],_,_,_,_,_=>rfl
 |g::r,q,h,hu,hq,hk=>by
  obtain⟨u1,u2⟩:=asA.1 hu;obtain⟨hv,rt,hr,rr⟩:=h g (by simp);have hlt:=(ark.1 hr).1;have h1:=hv.rt;unfold tJ;rw[ar8];refine⟨?_,RO (fun x hx=>h x (by simp[hx])) u2 (fun a ha b hb=>by cases ha;exact u1 b hb) (fun x hx=>hk x (by simp[hx]))⟩;rw[asI,Na hr];exact⟨by omega,(hk g (by simp)).1,fun a ha=>hq a ha g (by simp),(hk g (by simp)).2⟩
theorem OU{p:dw}{now:Int}{gs:List bC}(hg:KT p gs)(h:tJ (r9 p now) none gs=true):∀g∈gs,tV p g:=by
 intro g hg';obtain⟨q,hb⟩:=Am h g hg';obtain⟨_,r,hr,_⟩:=hg g hg';exact((Na hr).1 hb).2.2.2
theorem Ot.map{gs:List bC}(h:Ot gs)(f:bC→bC)(hf:∀g,(f g).1=g.1∧(f g).2.1=g.2.1):Ot (gs.map f):=by
 unfold Ot at h ⊢;refine List.pairwise_map.2 (h.imp fun {a b} hab=> ?_);unfold LG at hab ⊢;rw[(hf a).1,(hf a).2,(hf b).1,(hf b).2];exact hab
theorem Ot.sub{gs l:List bC}(h:Ot gs)(hs:l.Sublist gs):Ot l:=List.Pairwise.sublist hs h
theorem K5(p:dw)(now:Int)(gs:List bC):(iP p now gs).Sublist gs:=List.filter_sublist
theorem rM{p:dw}{now:Int}{gs:List bC}{g:bC}(h:g∈iP p now gs):g∈gs∧iD p.1 now g=false:=by
 obtain⟨a,b⟩:=asG.1 h;exact⟨a,by simpa using b⟩
theorem QT{p:dw}{s:InT}(h:VI p s){now:Int}(hn:0≤now∧now≤8589934592){gs:List bC}(hg:KT p gs)(hu:Ot gs)(hk:∀g∈gs,tV p g)(hl:(iP p now gs).length≤64):
  VI p (now,iP p now gs,bL s,bN s,()):=
 ⟨h.iQ,hn,hl,h.CY,h.next,h.ids,RO (fun g hg'=>hg g (rM hg').1) (hu.sub (K5 p now gs)) (fun _ ha=>by cases ha) (fun g hg'=>⟨(rM hg').2,hk g (rM hg').1⟩)⟩
theorem Bl(se wa ir t a:Int):∀(rem kept:List bH) (du:Int),∀m∈(jF se wa ir t a kept du rem).1,∃x∈kept++rem,bq x=bq m
 | [],kept,du,m,hm=>⟨m,by simpa[jF]using hm,rfl⟩
 |y::r,kept,du,m,hm=>by
  unfold jF at hm;split at hm
  ·split at hm
   ·obtain⟨x,hx,e⟩:=Bl se wa ir t a r _ _ m hm;simp only[arA,asf]at hx;rcases hx with(hx|rfl)|hx
    ·exact⟨x,by simp[hx],e⟩
    ·exact⟨y,by simp,e⟩
    ·exact⟨x,by simp[hx],e⟩
   ·obtain⟨x,hx,e⟩:=Bl se wa ir t a r _ _ m hm;simp only[arA]at hx;rcases hx with hx|hx
    ·exact⟨x,by simp[hx],e⟩
    ·exact⟨x,by simp[hx],e⟩
  ·obtain⟨x,hx,e⟩:=Bl se wa ir t a r _ _ m hm;simp only[arA,asf]at hx;rcases hx with(hx|rfl)|hx
   ·exact⟨x,by simp[hx],e⟩
   ·exact⟨x,by simp,e⟩
   ·exact⟨x,by simp[hx],e⟩
theorem tV.of{p:dw}{g g':bC}(h:tV p g)(h1:g'.1=g.1)(h2:g'.2.1=g.2.1)(hm:∀m∈aM g',∃x∈aM g,bq x=bq m):tV p g':=by
 intro m hm';obtain⟨x,hx,e⟩:=hm m hm';rw[h1,h2,←e];exact h x hx
theorem abB(p:dw)(now:Int)(g:bC):∀m∈aM (GL p now g),∃x∈aM g,bq x=bq m:=by
 intro m hm;unfold GL yD at hm;split at hm
 ·exact⟨m,hm,rfl⟩
 ·obtain⟨x,hx,e⟩:=Bl _ _ _ _ _ _ _ _ m hm;exact⟨x,by simpa using hx,e⟩
theorem XZ(p:dw)(sl:List dm)(now:Int)(fs:List (List LT))(g:bC):∀m∈aM (qd p sl now fs g),∃x∈aM g,bq x=bq m:=by
 intro m hm;unfold qd pI jI at hm;split at hm
 ·exact⟨m,hm,rfl⟩
 ·dsimp only at hm;split at hm
  ·obtain⟨x,hx,_,e⟩:=UM.1 hm;exact⟨x,hx,by rw[e];rfl⟩
  ·exact⟨m,hm,rfl⟩
theorem aes{p:dw}(hp:mR p){s:InT}(hs:mE s)(h:VI p s){now:Int}(hn:0≤now∧now≤8589934592):VI p (Vj p s now):=by
 have tk:=h.tk hp hs hn;have lg:=h.lg hp hs;have hk:=OU lg h.rR;have g2:=BM tk;refine QT h hn g2 (((sU h.rR).1.map _ (Ob p now)).map _ (F7 p _ now _)) (fun g hg=> ?_) ?_
 ·unfold tY jN at hg;simp only[asn]at hg;obtain⟨g1,⟨g0,hg0,rfl⟩,rfl⟩:=hg;exact((hk g0 hg0).of (Ob p now g0).1 (Ob p now g0).2 (abB p now g0)).of (F7 p _ now _ _).1 (F7 p _ now _ _).2 (XZ p _ now _ _)
 ·have h1:=(K5 p now (tY p s now)).length_le;have h2:(tY p s now).length=(bA s).length:=(arq ..).trans (arq ..);have:=h.len;omega
theorem acr(g:bC)(r:dG)(l:List LT)(on:Bool)(t:Int):∀m∈(lG g r l on t).2.2,(∃x∈aM g,bq x=bq m)∨bq m=l:=by
 intro m hm;unfold lG at hm;dsimp only at hm;by_cases hh:hit (gM (dX l)) (aM g)=true
 ·rw[if_pos hh]at hm;obtain⟨y,hy,_⟩:=Au hh;rw[hy]at hm;dsimp only at hm;have hym:=arp hy
  have set_case:∀z:bH,bq z=bq y→m∈(aM g).set (pos (gM (dX l)) (aM g)) z→(∃x∈aM g,bq x=bq m)∨bq m=l:=by
   intro z hz hmz;rcases mem_set hmz with hmz|rfl
   ·exact .inl ⟨m,hmz,rfl⟩
   ·exact .inl ⟨y,hym,hz.symm⟩
  split at hm
  ·exact set_case (tq y t) rfl hm
  ·split at hm
   ·exact set_case (stepM (tq y t) true t) rfl hm
   ·split at hm
    ·exact set_case (stepM (tq y t) false t) rfl hm
    ·rcases arA.1 hm with hm|hm
     ·exact .inl ⟨m,List.mem_of_mem_take hm,rfl⟩
     ·exact .inl ⟨m,List.mem_of_mem_drop hm,rfl⟩
 ·rw[if_neg hh]at hm;split at hm
  ·split at hm
   ·cases hm
   ·simp only[arA,asf]at hm;rcases hm with(hm|rfl)|hm
    ·exact .inl ⟨m,List.mem_of_mem_take hm,rfl⟩
    ·exact .inr rfl
    ·exact .inl ⟨m,List.mem_of_mem_drop hm,rfl⟩
  ·exact .inl ⟨m,hm,rfl⟩
theorem WB{p:dw}{a:Ag}{gs gs':List bC}{i:Nat}(hk:∀g∈gs,tV p g)(e:xq p a gs i=some gs'):∀g∈gs',tV p g:=by
 unfold xq at e;split at e
 ·cases e;exact hk
 ·split at e
  ·cases e
  ·rename_i h0;simp only[ne_eq,Decidable.not_not]at h0;cases e;obtain⟨g,hg,g1,g2,hm⟩:=Ma p a gs i;have ha:Zi p a gs i=lG g (Gi p (i:Int)) a.2.1 a.2.2.1 a.1:=by unfold Zi;rw[hg];rfl
   have hg0:tV p g:=by
    rcases hm with hm|rfl
    ·exact hk g hm
    ·exact fun m hm'=>by cases hm'
   rw[ha]at h0 ⊢;obtain⟨k1,k2⟩:=O3 h0;intro x hx;rcases mem_set hx with hx|rfl
   ·unfold alG at hx;split at hx
    ·exact hk x hx
    ·simp only[arA,asf]at hx;rcases hx with(hx|rfl)|hx
     ·exact hk x (List.mem_of_mem_take hx)
     ·exact fun m hm'=>by cases hm'
     ·exact hk x (List.mem_of_mem_drop hx)
   ·intro m hm'
    show A7 (Gi p (lG g (Gi p (i:Int)) a.2.1 a.2.2.1 a.1).2.1.1) (bq m)=(lG g (Gi p (i:Int)) a.2.1 a.2.2.1 a.1).2.1.2.1
    rw[k1,k2];rcases acr _ _ _ _ _ m hm' with⟨y,hy,e⟩|e
    ·rw[←e];exact hg0 y hy
    ·rw[e,g1,g2];rfl
theorem QI{p:dw}{a:Ag}:∀{l:List Nat} {gs gs':List bC},(∀g∈gs,tV p g)→yK p a l gs=some gs'→∀g∈gs',tV p g
 | [],gs,gs',h,e=>by cases e;exact h
 |i::r,gs,gs',h,e=>by
  obtain⟨g1,e1,e2⟩:=asr.1 e;exact QI (WB h e1) e2
theorem XJ{p:dw}(hp:mR p){s:InT}(hs:mE s)(a:Ag)(h0:(eU p s a).1=0):VI p (eU p s a).2:=by
 unfold eU at h0 ⊢;split at h0
 ·cases h0
 rename_i hv;rw[if_neg hv];simp only[not_or,Bool.not_eq_false]at hv;have h:=kE.1 hv.1;split at h0
 ·rename_i hc;exact absurd h0 hc
 rename_i hc;rw[if_neg hc];simp only[ne_eq,Decidable.not_not]at hc;obtain⟨n0,n1,n2⟩:=kr hc h.now.1;have hck:=(iY h.iQ).1;have lg:=h.lg hp hs;obtain⟨f1,f2⟩:=FO hp hck a.2.1
 cases hr:yK p a (kY p.1 a.2.1) (bA s)with
 |none=>rw[hr]at h0;cases h0
 |some gs=>
  rw[hr]at h0;simp only at h0 ⊢;have inv:=wX hv.2 ⟨n0,n1⟩ f1 (⟨lg,(sU h.rR).1,h.len⟩:yL p (bA s) 64) hr;split at h0
  ·cases h0
  ·rename_i hl;rw[if_neg hl];exact QT h ⟨n0,n1⟩ inv.lg inv.up (QI (OU lg h.rR) hr) (by omega)
theorem qP(t:Int)(g:bC):(ng t g).1=g.1∧(ng t g).2.1=g.2.1:=by
 unfold ng Kb;cases (jG (aM g)&&uM t g)<;>exact⟨rfl,rfl⟩
theorem IB(t:Int)(g:bC):aM (ng t g)=aM g∧bQ (ng t g)=bQ g:=by
 unfold ng Kb;cases (jG (aM g)&&uM t g)<;>exact⟨rfl,rfl⟩
theorem abM{t:Int}(ht: -1≤t∧t≤8589934592){g:bC}(h:VG g):VG (ng t g):=by
 unfold ng Kb;cases (jG (aM g)&&uM t g)
 ·exact h
 ·exact⟨h.len,h.rt,ht,h.sent,h.mem,h.up⟩
theorem WH(rs:List dG)(now t:Int)(g:bC):iD rs now (ng t g)=iD rs now g:=by
 unfold iD;rw[(IB t g).1,(IB t g).2,(qP t g).1]
theorem Bv{p:dw}{s:InT}(h:VI p s)(hp:mR p)(hs:mE s){t:Int}(ht: -1≤t∧t≤8589934592):KT p ((bA s).map (ng t))∧tJ (r9 p (dx s)) none ((bA s).map (ng t))=true:=by
 have lg:=h.lg hp hs;have g2:KT p ((bA s).map (ng t)):=X8 lg _ (fun g=>(qP t g).1) (fun g hg=>abM ht (lg g hg).1);refine⟨g2,RO g2 ((sU h.rR).1.map _ (qP t)) (fun _ ha=>by cases ha) (fun g hg=> ?_)⟩;obtain⟨x,hx,rfl⟩:=asn.1 hg;obtain⟨q,hb⟩:=Am h.rR x hx;obtain⟨_,r,hr,_⟩:=lg x hx;have hb:=(Na hr).1 hb;rw[WH];exact⟨hb.2.1,hb.2.2.2.of (qP t x).1 (qP t x).2 (fun m hm=>⟨m,by rw[(IB t x).1]at hm;exact hm,rfl⟩)⟩
theorem agB(s:InT)(hs:mE s):m17 ((s,s,()),())=some ((true,()),()):=by
 have hl:=hs.len;have q1:=XV (bL s) hs.CY
 have q2:=dM (f:=Gs) (bA s) (fun i=>(((i:Int),()),((s,()),((s,()),())))) (.inr ((),())) (fun i e he hi=>by
  have hw:=aI (i:=i) (by omega);have hv:=(hs.rR e (arp he)).1;have q:=ais e (by have:=hv.len;unfold big;omega) (fun m hm=>by have:=(fE (hv.mem m hm).lab).1;unfold big;omega);dsimp only[bA]at he hi;simp only[Gs,bO hi,aJ,aD he,q,hw,arE,aA,sS]) (by dsimp only[bA];simp only[Gs,bX,aA,sS])
 unfold m17;dsimp only[bL]at q1;simp only[arN,q1,arE,aA,sS];refine aN _ q2 ?_;simp only[aA,sS]
theorem adY(l:List Ah)(hl:l.length≤1048576)(hn:∀n∈l,n.2.2.2.2.1.length≤big∧n.2.2.2.2.2.1.length≤big):m18 ((l,l,()),())=some ((true,()),()):=by
 have q2:=dM (f:=FW) l (fun i=>(((i:Int),l,l,()),())) (.inr ((),())) (fun i e he hi=>by
  have hw:=aI (i:=i) (by omega);obtain⟨h1,h2⟩:=hn e (arp he);have q:=agZ (e.1,e.2.1,e.2.2.1,e.2.2.2.1,()) e.2.2.2.2.1 e.2.2.2.2.2.1 h1 h2;simp only[FW,bO hi,aJ,aD he,hw,aA,sS];refine aN _ q ?_;simp only[arE,aA,sS]) (by simp only[FW,bX,aA,sS])
 unfold m18;simp only[arN,aA,sS];refine aN _ q2 ?_;simp only[aA,sS]
theorem Jh:∀(l:List dm) (last:Int) (x:dm),tQ last (l++ [x])=0→tQ last l=0∧iy (Hq last l) x=0
 | [],last,x,h=>by
  have h:tQ last [x]=0:=h;unfold tQ at h;cases hc:(iy last x !=0)
  ·exact⟨rfl,by show iy last x=0;simpa using hc⟩
  ·rw[hc]at h;simp only[cond_true]at h;rw[h]at hc;cases hc
 |s::r,last,x,h=>by
  rw[asE]at h;unfold tQ at h ⊢;cases hc:(iy last s !=0)
  ·rw[hc]at h;simp only[asw]at h ⊢;exact Jh r s.1 x h
  ·rw[hc]at h;simp only[cond_true]at h;rw[h]at hc;cases hc
theorem P7{last:Int}{x:dm}(h:iy last x=0):0≤x.2.1∧x.2.1<x.2.2.1∧x.2.2.1≤8589934592:=by
 unfold iy at h;cases h1:(decide (x.1<1)||decide (x.1≤last))
 ·rw[h1]at h;cases h2:(decide (x.2.1<0)||(decide (x.2.1≥x.2.2.1)||(decide (x.2.2.1>8589934592)||decide (x.2.2.2.1<0))))
  ·simp only[asg,asy]at h2;omega
  ·rw[h2]at h;cases h
 ·rw[h1]at h;cases h
theorem YK{p:dw}(hp:mR p){s:InT}(hs:mE s)(x:dm)(h0:(Ay p s x).2.1=0):VI p (Ay p s x).2.2:=by
 unfold Ay at h0 ⊢;split at h0
 ·cases h0
 rename_i hv;rw[if_neg hv];have h:=kE.1 (by simpa using hv);split at h0
 ·cases h0
 rename_i h1;rw[if_neg h1];split at h0
 ·rename_i h2;exact absurd h0 h2
 rename_i h2;rw[if_neg h2];simp only[ne_eq,Decidable.not_not]at h2;have hnx:=h.next
 have e:iW (bL s++ [((bN s,x.2):dm)])=0∧(yI (bL s) (bN s,x.2)).2=bL s++ [(bN s,x.2)]:=by
  unfold yI at h2 ⊢;cases hc:(iW (bL s++ [((bN s,x.2):dm)]) !=0)
  ·exact⟨by simpa using hc,rfl⟩
  ·rw[hc]at h2;simp only[cond_true]at h2;rw[h2]at hc;cases hc
 have hg:=(Jh _ _ _ (Dw e.1).1).2;have hr:=P7 hg;have hr2: -1≤x.2.2.1∧x.2.2.1≤8589934592:=⟨by have h1:=hr.1;have h2:=hr.2.1;dsimp only at h1 h2;omega,hr.2.2⟩
 obtain⟨k1,k2⟩:=Bv h hp hs hr2;rw[e.2];refine⟨h.iQ,h.now,by rw[show bA (dx s,(bA s).map (ng x.2.2.1),bL s++ [(bN s,x.2)],bN s+1,())=(bA s).map (ng x.2.2.1)from rfl,arq];exact h.len,e.1,by show 1≤bN s+1;omega,fun y hy=> ?_,k2⟩
 show y.1<bN s+1
 rcases arA.1 hy with hy|hy
 ·have:=h.ids y hy;omega
 ·rw[asf.1 hy];show bN s<bN s+1;omega
theorem U2:∀(a:List dm) (last:Int) (s:dm) (b:List dm),tQ last (a++s::b)=0→tQ last a=0∧iy (Hq last a) s=0∧tQ s.1 b=0
 | [],last,s,b,h=>by
  have h:tQ last (s::b)=0:=h;unfold tQ at h;cases hc:(iy last s !=0)
  ·rw[hc]at h;exact⟨rfl,by show iy last s=0;simpa using hc,h⟩
  ·rw[hc]at h;simp only[cond_true]at h;rw[h]at hc;cases hc
 |x::r,last,s,b,h=>by
  rw[asE]at h;unfold tQ at h;cases hc:(iy last x !=0)
  ·rw[hc]at h;simp only[asw]at h;obtain⟨h1,h2⟩:=U2 r x.1 s b h;refine⟨?_,h2⟩
   show(bif iy last x !=0 then iy last x else tQ x.1 r)=0
   rw[hc];exact h1
  ·rw[hc]at h;simp only[cond_true]at h;rw[h]at hc;cases hc
theorem Hw:∀(a:List dm) (last:Int) (b:List dm),tQ last a=0→tQ (Hq last a) b=0→tQ last (a++b)=0
 | [],last,b,_,h=>h
 |x::r,last,b,h,h2=>by
  unfold tQ at h;rw[asE];unfold tQ;cases hc:(iy last x !=0)
  ·rw[hc]at h;simp only[asw]at h ⊢;exact Hw r x.1 b h h2
  ·rw[hc]at h;simp only[cond_true]at h;rw[h]at hc;cases hc
theorem Wx:∀(b:List dm) (l l':Int),l'≤l→tQ l b=0→tQ l' b=0
 | [],_,_,_,_=>rfl
 |x::r,l,l',hl,h=>by
  unfold tQ at h ⊢;cases hc:(iy l x !=0)
  ·rw[hc]at h;have h0:iy l x=0:=by simpa using hc
   have h1:iy l' x=0:=by
    unfold iy at h0 ⊢;cases h2:(decide (x.1<1)||decide (x.1≤l))
    ·rw[h2]at h0
     have h3:(decide (x.1<1)||decide (x.1≤l'))=false:=by
      simp only[asg,asy]at h2 ⊢;omega
     rw[h3];exact h0
    ·rw[h2]at h0;cases h0
   rw[h1];exact h
  ·rw[hc]at h;simp only[cond_true]at h;rw[h]at hc;cases hc
theorem acX{l:List dm}{id t:Int}(h:iW l=0)(ht:0≤t∧t≤8589934592)(h0:(yH id t l).1=0):iW (yH id t l).2=0∧∀y∈(yH id t l).2,∃z∈l,z.1=y.1:=by
 unfold yH at h0 ⊢;rw[if_neg (by simpa using h)]at h0 ⊢;rcases zU id l with hn|⟨a,s,b,rfl,ha,hs⟩
 ·have e:(l.takeWhile fun y=>decide (y.1≠id))=l:=BO fun y hy=>arj (hn y hy)
  rw[e,asj]at h0;cases h0
 ·rw[take_split ha hs,List.drop_left]at h0 ⊢;simp only at h0 ⊢;obtain⟨hg,hl⟩:=Dw h;obtain⟨c1,c2,c3⟩:=U2 a 0 s b hg
  have hsl:Hq 0 a<s.1:=by
   unfold iy at c2;cases h2:(decide (s.1<1)||decide (s.1≤Hq 0 a))
   ·simp only[asg,asy]at h2;omega
   ·rw[h2]at c2;cases c2
  have mk:∀L:List dm,L.length≤24→tQ 0 L=0→iW L=0:=fun L hL hG=>by
   unfold iW;rw[show decide ((L.length:Int)>24)=false from arl (by omega)];exact hG
  simp only[arC,arS]at hl;unfold Mj at h0 ⊢;cases e1:decide (s.2.2.1≤t)
  ·rw[e1]at h0;cases e2:decide (s.2.1≥t)
   ·simp only[asw];refine⟨mk _ (by simp;omega) (Hw a 0 _ c1 ?_),fun y hy=> ?_⟩
    ·unfold tQ
     have h3:iy (Hq 0 a) (s.1,s.2.1,t,s.2.2.2)=0:=by
      have d1:=asF e1;have d2:=asF e2;unfold iy at c2 ⊢;cases h4:(decide (s.1<1)||decide (s.1≤Hq 0 a))
      ·rw[h4]at c2;simp only[h4];cases h5:(decide (s.2.1<0)||(decide (s.2.1≥s.2.2.1)||(decide (s.2.2.1>8589934592)||decide (s.2.2.2.1<0))))
       ·rw[h5]at c2;simp only[asg,asy]at h5
        have h6:(decide (s.2.1<0)||(decide (s.2.1≥t)||(decide (t>8589934592)||decide (s.2.2.2.1<0))))=false:=by
         simp only[asg,asy];omega
        rw[h6];exact c2
       ·rw[h5]at c2;cases c2
      ·rw[h4]at c2;cases c2
     rw[h3];exact c3
    ·rcases arA.1 hy with hy|hy
     ·exact⟨y,by simp[hy],rfl⟩
     ·rcases arW.1 hy with rfl|hy
      ·exact⟨s,by simp,rfl⟩
      ·exact⟨y,by simp[hy],rfl⟩
   ·simp only[cond_true,asw];refine⟨mk _ (by simp;omega) (Hw a 0 b c1 (Wx b _ _ (by omega) c3)),fun y hy=>⟨y,?_,rfl⟩⟩;rcases arA.1 hy with hy|hy<;>simp[hy]
  ·rw[e1]at h0;cases h0
theorem XK{p:dw}(hp:mR p){s:InT}(hs:mE s)(id:Int)(h0:(BV p s id).1=0):VI p (BV p s id).2:=by
 unfold BV at h0 ⊢;split at h0
 ·cases h0
 rename_i hv;rw[if_neg hv];have h:=kE.1 (by simpa using hv);split at h0
 ·rename_i h2;exact absurd h0 h2
 rename_i h2;rw[if_neg h2];simp only[ne_eq,Decidable.not_not]at h2;have hnow:=h.now;obtain⟨e1,e2⟩:=acX h.CY h.now h2;have hm: -1≤Im (dx s)∧Im (dx s)≤8589934592:=by unfold Im;split<;>omega
 obtain⟨k1,k2⟩:=Bv h hp hs hm;refine⟨h.iQ,h.now,?_,e1,h.next,fun y hy=> ?_,k2⟩
 ·show((bA s).map (ng (Im (dx s)))).length≤64
  rw[arq];exact h.len
 ·obtain⟨z,hz,e⟩:=e2 y hy;rw[←e];exact h.ids z hz
theorem aa3(p:dw)(s:InT)(now:Int):(Gw p s now).length≤(bA s).length:=by
 unfold Gw
 have key:∀l:List bC,(l.flatMap (qg p (bL s) now (uh p s now))).length≤l.length:=by
  intro l
  induction l with
  |nil=>simp
  |cons g r ih=>
   rw[as5,arC,arS]
   have:(qg p (bL s) now (uh p s now) g).length≤1:=by
    unfold qg;cases (pI p (bL s) now (uh p s now) g).1<;>simp
   omega
 have:=key (jN p s now);rw[show(jN p s now).length=(bA s).length from arq ..]at this;exact this
theorem VI.z{p:dw}(hp:mR p){s:InT}(h:VI p s)(hg:KT p (bA s))(hs:uw (bL s)):mE s:=
 ⟨by have:=h.len;omega,fun g hg'=>by
  obtain⟨hv,r,hr,_⟩:=hg g hg';have h1:=(ark.1 hr).1;have h2:=og (iY h.iQ).1;have h3:=hv.rt;exact⟨hv,by omega⟩,hs⟩
theorem Kq{p:dw}(hp:mR p){s:InT}(hs:mE s)(h:VI p s){now:Int}(hn:0≤now∧now≤8589934592):VI p (Vj p s now)∧mE (Vj p s now):=by
 have hv:=aes hp hs h hn;have g2:=BM (h.tk hp hs hn);exact⟨hv,hv.z hp (fun g hg=>g2 g (rM hg).1) hs.CY⟩
end Go.Proofs.YtchnmpafhfjimaaGreatDoor
namespace Go.Proofs.YtchnmpafhfjimaaGreatDoor
open Go Go.Abs
theorem Gz{p:dw}(hp:mR p){s:InT}(h:VI p s)(hs:mE s)(a:Ag)(h0:(eU p s a).1=0):VI p (eU p s a).2∧mE (eU p s a).2:=by
 have hv:=XJ hp hs a h0
 have hsil:bL (eU p s a).2=bL s∨bL (eU p s a).2=[]:=by
  unfold eU;split
  ·exact .inr rfl
  ·split
   ·exact .inr rfl
   ·split
    ·exact .inr rfl
    ·split
     ·exact .inr rfl
     ·exact .inl rfl
 have hss:uw (bL (eU p s a).2):=by
  rcases hsil with e|e
  ·rw[e];exact hs.CY
  ·rw[e];exact⟨arO _,fun x hx=>by cases hx⟩
 refine⟨hv,hv.z hp ?_ hss⟩;intro g hg;have hgrp:=hv.rR;unfold eU at h0 hg;split at h0
 ·cases h0
 rename_i c1;rw[if_neg c1]at hg;simp only[not_or,Bool.not_eq_false]at c1;split at h0
 ·rename_i c2;exact absurd h0 c2
 rename_i c2;rw[if_neg c2]at hg;simp only[ne_eq,Decidable.not_not]at c2;obtain⟨n0,n1,n2⟩:=kr c2 h.now.1;have lg:=h.lg hp hs;obtain⟨f1,f2⟩:=FO hp (iY h.iQ).1 a.2.1
 cases hr:yK p a (kY p.1 a.2.1) (bA s)with
 |none=>rw[hr]at h0;cases h0
 |some gs=>
  rw[hr]at h0 hg;simp only at h0 hg;have inv:=wX c1.2 ⟨n0,n1⟩ f1 (⟨lg,(sU h.rR).1,h.len⟩:yL p (bA s) 64) hr;split at h0
  ·cases h0
  ·rename_i hl;rw[if_neg hl]at hg;exact inv.lg g (rM hg).1
abbrev acN:InT:=(0,[],[],1,())
theorem agQ{p:dw}(h:Ad p=0):VI p acN:=⟨h,⟨by decide,by decide⟩,by decide,rfl,by decide,fun x hx=>(by cases hx),rfl⟩
theorem af8:mE acN:=⟨by decide,fun g hg=>(by cases hg),⟨by decide,fun x hx=>(by cases hx)⟩⟩
end Go.Proofs.YtchnmpafhfjimaaGreatDoor
namespace Go.Proofs.YtchnmpafhfjimaaGreatDoor
open Go Go.Abs
end Go.Proofs.YtchnmpafhfjimaaGreatDoor
namespace Go.Proofs.YtchnmpafhfjimaaGreatDoor
open Go Go.Abs
def NtS(n:Ah):Prop:=n.2.2.2.2.1.length≤big∧n.2.2.2.2.2.1.length≤big
theorem SN{g:bC}(h:VG g)(r:dG)(t:Int)(mu:List ByteArray):(jI g r t mu).2.2.2.2.1.length≤big∧(jI g r t mu).2.2.2.2.2.length≤big:=by
 have hl:=h.len;have h1:=xD mu (aM g);have h2:=wB mu (aM g);unfold jI;split
 ·exact⟨arO _,arO _⟩
 ·dsimp only;split
  ·exact⟨by unfold big;dsimp only;omega,by unfold big;dsimp only;omega⟩
  ·exact⟨arO _,arO _⟩
theorem PW{p:dw}{s:InT}{now:Int}(h:Sb p s now):∀n∈Gw p s now,NtS n:=by
 intro n hn;unfold Gw at hn;obtain⟨g,hg,hn⟩:=List.mem_flatMap.1 hn;have hv:=(vL h g hg).1;unfold qg at hn;cases hc:(pI p (bL s) now (uh p s now) g).1
 ·rw[hc]at hn;cases hn
 ·rw[hc]at hn;rw[asf.1 hn];exact SN hv _ _ _
end Go.Proofs.YtchnmpafhfjimaaGreatDoor
namespace Go.Proofs.YtchnmpafhfjimaaGreatDoor
open Go Go.Abs Go.Lab
def aoc(p s:List UInt8):Bool:=s.take p.length==p
theorem Ud{p s:List UInt8}(h:aoc p s=true):p.length≤s.length:=by
 have:=congrArg List.length (eq_of_beq h);rw[ar9]at this;omega
end Go.Proofs.YtchnmpafhfjimaaGreatDoor
namespace Go.Proofs.YtchnmpafhfjimaaGreatDoor
open Go Go.Abs
theorem jL:mE yP:=⟨by decide,fun g hg=>(by cases hg),⟨by decide,fun x hx=>(by cases hx)⟩⟩
theorem aaR{p:dw}(hp:mR p){s:InT}(hs:mE s)(now:Int):mE (iR p s now).2.1:=by
 unfold iR;split
 ·exact jL
 rename_i hv;split
 ·exact jL
 rename_i h1;have h:=kE.1 (by simpa using hv);have:=kr (by simpa using h1) h.now.1;exact(Kq hp hs h ⟨this.1,this.2.1⟩).2
theorem Yj{p:dw}(hp:mR p){s:InT}(hs:mE s){now:Int}(h0:(iR p s now).1=0):VI p (iR p s now).2.1:=by
 unfold iR at h0 ⊢;split at h0
 ·cases h0
 rename_i hv;rw[if_neg hv];split at h0
 ·rename_i h1;exact absurd h0 h1
 rename_i h1;rw[if_neg h1];have h:=kE.1 (by simpa using hv);have:=kr (by simpa using h1) h.now.1;exact(Kq hp hs h ⟨this.1,this.2.1⟩).1
theorem O7{p:dw}(hp:mR p){s:InT}(hs:mE s)(now:Int):(iR p s now).2.2.length≤64∧∀n∈(iR p s now).2.2,NtS n:=by
 unfold iR;split
 ·exact⟨arO _,fun x hx=>(by cases hx)⟩
 rename_i hv;split
 ·exact⟨arO _,fun x hx=>(by cases hx)⟩
 rename_i h1;have h:=kE.1 (by simpa using hv);have q:=kr (by simpa using h1) h.now.1;exact⟨asb (aa3 p s now) h.len,PW (h.tk hp hs ⟨q.1,q.2.1⟩)⟩
theorem ack{p:dw}(hp:mR p){s:InT}(hs:mE s)(a:Ag):mE (eU p s a).2:=by
 by_cases h0:(eU p s a).1=0
 ·have h:VI p s:=by
   unfold eU at h0;split at h0
   ·cases h0
   ·rename_i c;simp only[not_or,Bool.not_eq_false]at c;exact kE.1 c.1
  exact(Gz hp h hs a h0).2
 ·unfold eU at h0 ⊢;split
  ·exact jL
  ·rename_i c1;rw[if_neg c1]at h0;split
   ·exact jL
   ·rename_i c2;rw[if_neg c2]at h0;split
    ·exact jL
    ·rename_i gs e;simp only[e]at h0;split
     ·exact jL
     ·rename_i c3;rw[if_neg c3]at h0;exact absurd rfl h0
theorem abK{l:List dm}(hl:uw l)(h1:l.length≤999){x:dm}(hx:FZ x):uw (yI l x).2:=by
 unfold yI;cases iW (l++ [x]) !=0
 ·exact hl.app h1 hx
 ·exact⟨arO _,fun y hy=>(by cases hy)⟩
theorem afP{p:dw}(hp:mR p){s:InT}(hs:mE s)(x:dm)(hx:FZ x):mE (Ay p s x).2.2:=by
 by_cases h0:(Ay p s x).2.1=0
 ·have hv:=YK hp hs x h0;unfold Ay at h0 hv ⊢;split
  ·exact jL
  rename_i c1;rw[if_neg c1]at h0 hv;have h:=kE.1 (by simpa using c1);split
  ·exact jL
  rename_i c2;rw[if_neg c2]at h0 hv;split
  ·exact jL
  rename_i c3;rw[if_neg c3]at h0 hv;have hx':FZ (bN s,x.2):=hx;have hr:=abK hs.CY (by have:=h.short;omega) hx';refine hv.z hp ?_ hr
  have hr2: -1≤x.2.2.1∧x.2.2.1≤8589934592:=by
   have e:iW (bL s++ [((bN s,x.2):dm)])=0:=by
    simp only[ne_eq,Decidable.not_not]at c3;unfold yI at c3;cases hc:(iW (bL s++ [((bN s,x.2):dm)]) !=0)
    ·simpa using hc
    ·rw[hc]at c3;simp only[cond_true]at c3;exact c3
   have hg:=(Jh _ _ _ (Dw e).1).2;have hr:=P7 hg;exact⟨by have h1:=hr.1;have h2:=hr.2.1;dsimp only at h1 h2;omega,hr.2.2⟩
  exact(Bv h hp hs hr2).1
 ·unfold Ay at h0 ⊢;split
  ·exact jL
  rename_i c1;rw[if_neg c1]at h0;split
  ·exact jL
  rename_i c2;rw[if_neg c2]at h0;split
  ·exact jL
  rename_i c3;rw[if_neg c3]at h0;exact absurd rfl h0
theorem ad6{l:List dm}(hl:uw l)(id t:Int):uw (yH id t l).2:=by
 unfold yH;split
 ·exact⟨arO _,fun y hy=>(by cases hy)⟩
 rcases zU id l with hn|⟨a,s,b,rfl,ha,hs⟩
 ·have e:(l.takeWhile fun y=>decide (y.1≠id))=l:=BO fun y hy=>arj (hn y hy)
  rw[e,asj];exact⟨arO _,fun y hy=>(by cases hy)⟩
 ·rw[take_split ha hs,List.drop_left];simp only;have h1:=hl.1;simp only[arC,arS]at h1;have hsz:FZ s:=hl.2 s (by simp);unfold Mj;cases decide (s.2.2.1≤t)
  ·cases decide (s.2.1≥t)
   ·simp only[asw];refine⟨by simp;omega,fun y hy=> ?_⟩;rcases arA.1 hy with hy|hy
    ·exact hl.2 y (by simp[hy])
    ·rcases arW.1 hy with rfl|hy
     ·exact hsz
     ·exact hl.2 y (by simp[hy])
   ·simp only[cond_true,asw];refine⟨by simp;omega,fun y hy=> ?_⟩;rcases arA.1 hy with hy|hy
    ·exact hl.2 y (by simp[hy])
    ·exact hl.2 y (by simp[hy])
  ·exact⟨arO _,fun y hy=>(by cases hy)⟩
theorem agn{p:dw}(hp:mR p){s:InT}(hs:mE s)(id:Int):mE (BV p s id).2:=by
 by_cases h0:(BV p s id).1=0
 ·have hv:=XK hp hs id h0;unfold BV at h0 hv ⊢;split
  ·exact jL
  rename_i c1;rw[if_neg c1]at h0 hv;have h:=kE.1 (by simpa using c1);split
  ·exact jL
  rename_i c2;rw[if_neg c2]at h0 hv;have hnow:=h.now;have hm: -1≤Im (dx s)∧Im (dx s)≤8589934592:=by unfold Im;split<;>omega
  exact hv.z hp (Bv h hp hs hm).1 (ad6 hs.CY _ _)
 ·unfold BV at h0 ⊢;split
  ·exact jL
  rename_i c1;rw[if_neg c1]at h0;split
  ·exact jL
  rename_i c2;rw[if_neg c2]at h0;exact absurd rfl h0
abbrev Vx(y:Ah):Int:=y.1
abbrev Zz(y:Ah):Int:=y.2.1
abbrev aqC(y:Ah):Int:=y.2.2.1
abbrev aep(y:Ah):ByteArray:=y.2.2.2.1
abbrev nF(y:Ah):List ByteArray:=y.2.2.2.2.1
abbrev nR(y:Ah):List ByteArray:=y.2.2.2.2.2.1
def Rk(z:Ah)(rt:Int)(k:ByteArray):Prop:=Zz z=rt∧aep z=k
structure GI(p:dw)(Q:List LT→Prop)(nt:List Ah)(now:Int)(g:bC):Prop where
 lab:∀m∈aM g,Q (bq m)∧g.1.toNat∈kY p.1 (bq m)
 told:∀m∈aM g,(bZ m=false∨dD m=true)→∃z∈nt,Rk z g.1 g.2.1∧aL m∈nF z
 sent:bQ g≠ -1→∃z∈nt,Rk z g.1 g.2.1∧Vx z=bQ g
 due:bQ g≠ -1→dU g= -1∨bQ g+iL (Gi p g.1)≤dU g
 past:∀z∈nt,Rk z g.1 g.2.1→Vx z≤bQ g∨Vx z+iL (Gi p g.1)≤now
 now:bQ g≤now
theorem GI.app{p:dw}{Q:List LT→Prop}{nt:List Ah}{now:Int}{g:bC}(h:GI p Q nt now g){more:List Ah}(hm:∀z∈more,¬ Rk z g.1 g.2.1):GI p Q (nt++more) now g:=
 ⟨h.lab,fun m hm' c=>by
  obtain⟨z,hz,e⟩:=h.told m hm' c;exact⟨z,List.mem_append_left _ hz,e⟩,fun c=>by
  obtain⟨z,hz,e⟩:=h.sent c;exact⟨z,List.mem_append_left _ hz,e⟩,h.due,fun z hz e=>by
  rcases arA.1 hz with hz|hz
  ·exact h.past z hz e
  ·exact absurd e (hm z hz),h.now⟩
theorem GI.later{p:dw}{Q:List LT→Prop}{nt:List Ah}{now now':Int}{g:bC}(h:GI p Q nt now g)(hn:now≤now'):GI p Q nt now' g:=
 ⟨h.lab,h.told,h.sent,h.due,fun z hz e=>by
  rcases h.past z hz e with a|a
  ·exact .inl a
  ·exact .inr (by omega),by have:=h.now;omega⟩
structure Good(p:dw)(Q:List LT→Prop)(pre:List Ah)(y:Ah):Prop where
 rt:0≤Zz y∧Zz y<p.1.length
 pol:aqC y=(Gi p (Zz y)).2.2.1
 some:0<(nF y).length+(nR y).length
 key:∀k,k∈nF y∨k∈nR y→∃l,Q l∧cO l=true∧k=gM (dX l)∧(Zz y).toNat∈kY p.1 l∧A7 (Gi p (Zz y)) l=aep y
 up:(nF y).Pairwise Less
 res:∀k∈nR y,∃z∈pre,Rk z (Zz y) (aep y)∧k∈nF z
 apart:∀z∈pre,Rk z (Zz y) (aep y)→Vx z+iL (Gi p (Zz y))≤Vx y
 late:∀z∈pre,Vx z≤Vx y
def AG(p:dw)(Q:List LT→Prop)(nt:List Ah):Prop:=∀a y b,nt=a++y::b→Good p Q a y
theorem AG.nil(p:dw)(Q:List LT→Prop):AG p Q []:=fun a y b e=>by cases a<;>cases e
structure NI(p:dw)(Q:List LT→Prop)(s:InT)(nt:List Ah):Prop where
 gi:∀g∈bA s,GI p Q nt (dx s) g
 gone:∀z∈nt,(∀g∈bA s,¬ Rk z g.1 g.2.1)→Vx z+iL (Gi p (Zz z))≤dx s
 good:AG p Q nt
 at_:∀z∈nt,0≤Vx z∧Vx z≤dx s
structure NG(p:dw)(Q:List LT→Prop)(nt:List Ah)(now:Int)(gs:List bC):Prop where
 gi:∀g∈gs,GI p Q nt now g
 gone:∀z∈nt,(∀g∈gs,¬ Rk z g.1 g.2.1)→Vx z+iL (Gi p (Zz z))≤now
structure TJ(p:dw)(mk:ByteArray)(i:Nat)(key:ByteArray)(nt0:List Ah)(at_ W:Int)(s:InT)(nt:List Ah):Prop where
 CY:bL s=[]
 now:at_≤dx s
 mem:∃more,nt=nt0++more∧(∀z∈more,Rk z i key→mk∈nF z∧at_≤Vx z)∧∃g∈bA s,g.1=i∧g.2.1=key∧∃m∈aM g,aL m=mk∧bZ m=true∧
  ((dD m=false∧(∀z∈more,¬ Rk z i key)∧dU g≠ -1∧dU g≤W∧dx s≤W)∨∃a z b,more=a++z::b∧(∀y∈a,¬ Rk y i key)∧Rk z i key∧Vx z≤W)
theorem GI.mono{p:dw}{Q Q':List LT→Prop}{nt:List Ah}{now:Int}{g:bC}(h:GI p Q nt now g)(f:∀l,Q l→Q' l):GI p Q' nt now g:=
 ⟨fun m hm=>⟨f _ (h.lab m hm).1,(h.lab m hm).2⟩,h.told,h.sent,h.due,h.past,h.now⟩
theorem wh.t{r:yN}(h:wh r):TSz r:=by
 obtain⟨h1,h2,h3,h4,h5,_⟩:=h;have h6:=h5.length_le;rw[show iU.length=4 from rfl]at h6;exact⟨⟨by unfold big;omega,fun m hm=>(h3 m hm).z⟩,⟨by unfold big;omega,fun m hm=>(h4 m hm).z⟩,by unfold big;omega,fun k hk=>by have:=(Cr k (h5.subset hk)).2;unfold big;omega⟩
theorem wh.iQ{r:yN}(h:wh r):DZ r=0:=by
 obtain⟨h1,h2,h3,h4,h5,h6,h7⟩:=h;have h8:=h5.length_le;rw[show iU.length=4 from rfl]at h8;have:=List.length_pos_iff.2 h6;have:=List.length_pos_iff.2 h7;unfold DZ
 rw[ar7.2 (show(r.1.length:Int)≠0 by omega),ar7.2 (show(r.2.1.length:Int)≠0 by omega),arl (show¬(r.1.length:Int)>8 by omega),arl (show¬(r.2.1.length:Int)>8 by omega),arl (show¬(r.2.2.1.length:Int)>12 by omega),
  KP h3,KP h4,Q5 h5]
 rfl
theorem RY{l:List yN}(hl:l.length≤3)(h:∀r∈l,wh r):vP l=0:=by
 unfold vP;rw[arl (by omega),asw];clear hl
 induction l with
 |nil=>rfl
 |cons r l ih=>
  unfold MJ;rw[(h r (by simp)).iQ];exact ih fun x hx=>h x (by simp[hx])
structure Pw(p:dw):Prop where
 rt:w9 p.1
 inl:p.2.1.length≤3
 inh:∀r∈p.2.1,wh r
 exp:0≤p.2.2.1∧p.2.2.1≤1000
theorem Pw.z{p:dw}(h:Pw p):mR p:=⟨h.rt.z,by have:=h.inl;unfold big;omega,fun r hr=>(h.inh r hr).t,by have:=h.inl;unfold big;omega,fun r hr=>(h.inh r hr).z⟩
theorem Pw.iQ{p:dw}(h:Pw p):Ad p=0:=by
 have:=h.exp;unfold Ad;rw[h.rt.iQ,RY h.inl h.inh,if_neg (by simp),if_neg (by simp),if_neg (by omega)]
theorem GZ(n:Int)(d:gI)(hd:nL d)(h0:0≤n)(h1:n≤10):∃(p:dw) (d':gI),m12 ((n,()),((d,()),()))=some ((),((d',()),(((p.2.2.1,()),()),(p.1,(p.2.1,())))))∧nL d'∧Pw p:=by
 obtain⟨rs,d1,e1,hd1,g1⟩:=Qg n d hd h0 h1;obtain⟨is,d2,e2,hd2,g2,g3⟩:=YJ d1 hd1;obtain⟨x,d3,e3,hd3,g4⟩:=ku [0,0,200,1000] d2 hd2 (by simp) (by simp);refine⟨(rs,is,x,()),d3,?_,hd3,g1,g2,g3,?_⟩
 ·unfold m12;simp only[e1,e2,e3,asa]
 ·simp only[arW,List.not_mem_nil,or_false]at g4;dsimp only;omega
structure aqS(l:List Ag)(t:Int):Prop where
 lab:∀a∈l,qW iU a.2.1
 at_:∀a∈l,0≤a.1∧a.1≤t
 up:l.Pairwise fun a b=>a.1≤b.1
structure oP(p:dw)(s:InT):Prop where
 vi:VI p s
 z:mE s
theorem Yw{p:dw}(hp:mR p){s:InT}(h:oP p s){a:Ag}(h0:(eU p s a).1=0):oP p (eU p s a).2:=by
 obtain⟨a,b⟩:=Gz hp h.vi h.z a h0;exact⟨a,b⟩
theorem aea{p:dw}(hp:mR p){s:InT}(h:oP p s){t:Int}(h0:(iR p s t).1=0):oP p (iR p s t).2.1:=⟨Yj hp h.z h0,aaR hp h.z t⟩
theorem agA{p:dw}(hp:mR p){s:InT}(h:oP p s){x:dm}(hx:FZ x)(h0:(Ay p s x).2.1=0):oP p (Ay p s x).2.2:=⟨YK hp h.z x h0,afP hp h.z x hx⟩
theorem ahi{p:dw}(hp:mR p){s:InT}(h:oP p s){id:Int}(h0:(BV p s id).1=0):oP p (BV p s id).2:=⟨XK hp h.z id h0,agn hp h.z id⟩
theorem agX{p:dw}(h:Ad p=0):oP p acN:=⟨agQ h,af8⟩
abbrev mkS(i:Int)(d:gI)(s:InT)(p:dw)(x1 x2:Int):(Int×Unit)×(gI×Unit)×(InT×Unit)×(dw×Unit)×((Int×Int×Unit)×Unit)×Unit:=((i,()),(d,()),(s,()),(p,()),((x1,x2,()),()),())
theorem PG{p:dw}(hp:mR p)(i:Int)(d:gI)(s:InT)(x1 x2:Int)(hi:0<i∧i≤100)(hd:nL d)(hs:oP p s)(hc:d.2.1<d.1.length):
  ∃(d':gI) (s':InT),jd (mkS i d s p x1 x2)=some (.inl (mkS (i-1) d' s' p x1 x2))∧nL d'∧oP p s':=by
 have hnow:=hs.vi.now;obtain⟨x,d1,e1,hd1,g1⟩:=ku [0,1,10,30,400] d hd (by simp) (by simp);obtain⟨k,d2,e2,hd2,b2,_⟩:=dP 6 d1 hd1 (by omega);have b2:=b2 (by omega);have c0:decide (i>0)=true:=arj hi.1;have c1:decide (d.2.1<(d.1.length:Int))=true:=arj hc;have hw:aO (i-1)=i-1:=bI (by omega) (by omega);have hk:k=0∨k=1∨k=2∨k=3∨k=4∨k=5:=by omega
 have alert:k=0∨k=1∨k=2→∃(d':gI) (s':InT),jd (mkS i d s p x1 x2)=some (.inl (mkS (i-1) d' s' p x1 x2))∧nL d'∧oP p s':=by
  intro hk;obtain⟨ls,d3,e3,hd3,g3⟩:=EK d2 hd2;obtain⟨y,d4,e4,hd4,_⟩:=dP 3 d3 hd3 (by omega);have q:=Un hp hs.z (aO (dx s+x),ls,decide (y>0),()) (YZ g3);have hg:=Yw hp hs (a:=(aO (dx s+x),ls,decide (y>0),()));dsimp only[dx]at q hg;generalize eU p s (aO (s.1+x),ls,decide (y>0),())=V at q hg;by_cases h0:V.1=0
  ·refine⟨d4,V.2,?_,hd4,hg h0⟩;rcases hk with rfl|rfl|rfl<;>simp only[jd,m77,c0,c1,e1,e2,e3,e4,q,h0,hw,asu,Int.reduceBEq,aA,sS]<;>rfl
  ·refine⟨d4,s,?_,hd4,hs⟩;rcases hk with rfl|rfl|rfl<;>simp only[jd,m77,c0,c1,e1,e2,e3,e4,q,ar7.2 h0,hw,asu,Int.reduceBEq,aA,sS]<;>rfl
 rcases hk with rfl|rfl|rfl|rfl|rfl|rfl
 ·exact alert (.inl rfl)
 ·exact alert (.inr (.inl rfl))
 ·exact alert (.inr (.inr rfl))
 ·have q:=(Kt hp hs.z (aO (dx s+x))).2;have hg:=aea hp hs (t:=aO (dx s+x));dsimp only[dx]at q hg;generalize iR p s (aO (s.1+x))=V at q hg;by_cases h0:V.1=0
  ·refine⟨d2,V.2.1,?_,hd2,hg h0⟩;simp only[jd,m77,c0,c1,e1,e2,q,h0,hw,asu,Int.reduceBEq,aA,sS]
  ·refine⟨d2,s,?_,hd2,hs⟩;simp only[jd,m77,c0,c1,e1,e2,q,ar7.2 h0,hw,asu,Int.reduceBEq,aA,sS]
 ·obtain⟨f,t,b,ms,d3,e3,hd3,g3⟩:=Ch 0 d2 hd2;have q:=(QX hp hs.z (0,f,t,b,ms,()) g3.z).2;have hg:=agA hp hs (x:=(0,f,t,b,ms,())) g3.z;generalize Ay p s (0,f,t,b,ms,())=V at q hg;by_cases h0:V.2.1=0
  ·refine⟨d3,V.2.2,?_,hd3,hg h0⟩;simp only[jd,m77,c0,c1,e1,e2,e3,q,Ei,h0,hw,asu,Int.reduceBEq,aA,sS]
  ·refine⟨d3,s,?_,hd3,hs⟩;simp only[jd,m77,c0,c1,e1,e2,e3,q,Ei,ar7.2 h0,hw,asu,Int.reduceBEq,aA,sS]
 ·obtain⟨y,d3,e3,hd3,b3,_⟩:=dP 3 d2 hd2 (by omega);have q:=(Qm hp hs.z (aO (1+y))).2;have hg:=ahi hp hs (id:=aO (1+y));generalize BV p s (aO (1+y))=V at q hg;by_cases h0:V.1=0
  ·refine⟨d3,V.2,?_,hd3,hg h0⟩;simp only[jd,m77,c0,c1,e1,e2,e3,q,Jl,h0,hw,asu,Int.reduceBEq,aA,sS]
  ·refine⟨d3,s,?_,hd3,hs⟩;simp only[jd,m77,c0,c1,e1,e2,e3,q,Jl,ar7.2 h0,hw,asu,Int.reduceBEq,aA,sS]
theorem P9{p:dw}(hp:mR p):∀(n:Nat) (i:Int) (d:gI) (s:InT) (x1 x2:Int),i=n→n≤100→nL d→oP p s→
  ∃(d':gI) (s':InT),aC jd (mkS i d s p x1 x2)=some ((),((d',()),((x1,x2,()),()),(s',()),()))∧nL d'∧oP p s':=by
 intro n
 induction n with
 |zero=>
  intro i d s x1 x2 hi hn hd hs;refine⟨d,s,aF ?_,hd,hs⟩;have:decide (i>0)=false:=arl (by omega);simp only[jd,this,aA,sS]
 |succ n ih=>
  intro i d s x1 x2 hi hn hd hs;by_cases hc:d.2.1<d.1.length
  ·obtain⟨d1,s1,e,hd1,hs1⟩:=PG hp i d s x1 x2 (by omega) hd hs hc;obtain⟨d',s',k1,k2,k3⟩:=ih (i-1) d1 s1 x1 x2 (by omega) (by omega) hd1 hs1;exact⟨d',s',(aH e).trans k1,k2,k3⟩
  ·refine⟨d,s,aF ?_,hd,hs⟩;have c0:decide (i>0)=true:=arj (by omega);have c1:decide (d.2.1<(d.1.length:Int))=false:=arl hc;simp only[jd,m77,c0,c1,aA,sS]
theorem QG{p:dw}(hp:mR p)(hc:Ad p=0)(n:Int)(d:gI)(hd:nL d)(h0:0≤n)(h1:n≤100):∃(s:InT) (d':gI),m31 ((p,n,()),((d,()),()))=some ((),((d',()),((s,()),())))∧nL d'∧oP p s:=by
 obtain⟨d',s,e,k1,k2⟩:=P9 hp n.toNat n d acN 0 0 (by omega) (by omega) hd (agX hc);refine⟨s,d',?_,k1,k2⟩;unfold m31 m33;rw[asa];exact aN _ e rfl
set_option maxRecDepth 1000000 in
theorem Mi:m10 ((),())=some ((true,()),()):=by kernel_rfl
end Go.Proofs.YtchnmpafhfjimaaGreatDoor
namespace Go.Proofs.YtchnmpafhfjimaaGreatDoor
open Go Go.Abs
theorem Av{s:InT}(hs:mE s):m17 (((s.1,s.2.1,s.2.2.1,s.2.2.2.1,()),(s.1,s.2.1,s.2.2.1,s.2.2.2.1,()),()),())=some ((true,()),()):=agB s hs
theorem Dm(v)(i:Nat)(a:Ag)(h0:v.1.1=(i:Int))(hi:i<3)(hz:mE v.2.1.1)(hp:mR v.2.2.1.1)(ha:([v.1.2.1.1,v.1.2.1.2.1,v.1.2.1.2.2.1]:List Ag)[i]?=some a)(hk:Fg a.2.1):Aj v=some (.inl (((i+1:Nat),v.1.2),v.2)):=by
 obtain⟨n,blk,q,q1,q2⟩:=aeu hp hz a hk;have r:=Un hp hz a hk;have z:=ack hp hz a;generalize eU v.2.2.1.1 v.2.1.1 a=V at q q2 r z;have c0:decide ((i:Int)<3)=true:=arj (by omega);have c1:decide (0+n≤blk.length)=true:=arj (by omega);have w:aO ((i:Int)+1)=((i+1:Nat):Int):=aI (by omega);have s:=Av z;simp only[Aj,h0,c0,aJ,aD ha,q,r,c1,arL,q2,s,arN,w,aA,sS]
theorem aoq(v)(h0:v.1.1=0)(hz:mE v.2.1.1)(hp:mR v.2.2.1.1)(h1:Fg v.1.2.1.1.2.1)(h2:Fg v.1.2.1.2.1.2.1)(h3:Fg v.1.2.1.2.2.1.2.1):aC Aj v=some (.inr (v.1.2.2,v.2)):=by
 refine(aH (Dm v 0 _ h0 (by omega) hz hp rfl h1)).trans ((aH (Dm ((((1:Nat):Int),v.1.2),v.2) 1 _ rfl (by omega) hz hp rfl h2)).trans ((aH (Dm ((((2:Nat):Int),v.1.2),v.2) 2 _ rfl (by omega) hz hp rfl h3)).trans (aF ?_)));have c0:decide (((2+1:Nat):Int)<3)=false:=arl (by omega);simp only[Aj,c0,aA,sS]
theorem DW(v)(i:Nat)(n:Int)(h0:v.1.1=(i:Int))(hi:i<3)(hz:mE v.2.1.1)(hp:mR v.2.2.1.1)(ha:([v.1.2.1.1,v.1.2.1.2.1,v.1.2.1.2.2.1]:List Int)[i]?=some n):Ak v=some (.inl (((i+1:Nat),v.1.2),v.2)):=by
 obtain⟨⟨m,blk,q,q1,q2⟩,r⟩:=Kt hp hz n;have z:=aaR hp hz n;obtain⟨l,sm⟩:=O7 hp hz n;generalize iR v.2.2.1.1 v.2.1.1 n=V at q q2 r z l sm;have c0:decide ((i:Int)<3)=true:=arj (by omega);have c1:decide (0+m≤blk.length)=true:=arj (by omega);have w:aO ((i:Int)+1)=((i+1:Nat):Int):=aI (by omega);have s:=Av z;have s2:=adY V.2.2 (by omega) sm;simp only[Ak,h0,c0,aJ,aD ha,q,r,c1,arL,q2,s,s2,arN,w,aA,sS]
theorem ao6(v)(h0:v.1.1=0)(hz:mE v.2.1.1)(hp:mR v.2.2.1.1):aC Ak v=some (.inr (v.1.2.2,v.2)):=by
 refine(aH (DW v 0 _ h0 (by omega) hz hp rfl)).trans ((aH (DW ((((1:Nat):Int),v.1.2),v.2) 1 _ rfl (by omega) hz hp rfl)).trans ((aH (DW ((((2:Nat):Int),v.1.2),v.2) 2 _ rfl (by omega) hz hp rfl)).trans (aF ?_)));have c0:decide (((2+1:Nat):Int)<3)=false:=arl (by omega);simp only[Ak,c0,aA,sS]
theorem KX(v)(i:Nat)(x:dm)(h0:v.1.1=(i:Int))(hi:i<2)(hz:mE v.2.1.1)(hp:mR v.2.2.1.1)(ha:([v.1.2.1.1,v.1.2.1.2.1]:List dm)[i]?=some x)(hx:FZ x):CQ v=some (.inl (((i+1:Nat),v.1.2),v.2)):=by
 obtain⟨q,r⟩:=QX hp hz x hx;have z:=afP hp hz x hx;generalize Ay v.2.2.1.1 v.2.1.1 x=V at q r z;have c0:decide ((i:Int)<2)=true:=arj (by omega);have w:aO ((i:Int)+1)=((i+1:Nat):Int):=aI (by omega);have s:=Av z;simp only[CQ,h0,c0,aJ,aD ha,q,r,Ei,s,arN,w,aA,sS]
theorem apC(v)(h0:v.1.1=0)(hz:mE v.2.1.1)(hp:mR v.2.2.1.1)(h1:FZ v.1.2.1.1)(h2:FZ v.1.2.1.2.1):aC CQ v=some (.inr (v.1.2.2,v.2.2)):=by
 refine(aH (KX v 0 _ h0 (by omega) hz hp rfl h1)).trans ((aH (KX ((((1:Nat):Int),v.1.2),v.2) 1 _ rfl (by omega) hz hp rfl h2)).trans (aF ?_));have c0:decide (((1+1:Nat):Int)<2)=false:=arl (by omega);simp only[CQ,c0,aA,sS]
theorem KS(v)(i:Nat)(s:InT)(h0:v.1.1=(i:Int))(hi:i<2)(hy:([v.1.2.2.1.1,v.1.2.2.1.2.1]:List InT)[i]?=some s)(hz:mE s)(hp:mR v.2.1.1)(hd:nL v.2.2.1.1)(hr:FZ v.2.2.2.1.1)(ha:Fg v.2.2.2.2.1.1.2.1):
  ∃d',nL d'∧Al v=some (.inl (((i+1:Nat),v.1.2),(v.2.1,(d',()),v.2.2.2))):=by
 obtain⟨x,d1,e1,hd1,_⟩:=dP 50 v.2.2.1.1 hd (by omega);obtain⟨ls,d2,e2,hd2,g2⟩:=EK d1 hd1;obtain⟨b,d3,e3,hd3⟩:=Dk 2 d2 hd2 (by omega) (by omega);obtain⟨y,d4,e4,hd4,_⟩:=ku [0,30,400,5000] d3 hd3 (by simp) (by simp);obtain⟨f,t,b2,ms,d5,e5,hd5,g5⟩:=Ch 0 d4 hd4;have q1:=Ht _ hp s hz;have q2:=J3 _ hp s hz;have c0:decide ((i:Int)<2)=true:=arj (by omega);have w:aO ((i:Int)+1)=((i+1:Nat):Int):=aI (by omega);refine⟨d5,hd5,?_⟩;unfold Al;simp only[h0,c0,aJ,aD hy,q1,q2,asu,e1,e2,e3,aA,sS];rw[aoq _ rfl hz hp ha (YZ g2) ajb];simp only[e4,aA,sS];rw[ao6 _ rfl hz hp];simp only[e5,aA,sS];rw[apC _ rfl hz hp hr g5.z];simp only[w,aA,sS]
theorem apP(v)(h0:v.1.1=0)(h1:mE v.1.2.2.1.1)(h2:mE v.1.2.2.1.2.1)(hp:mR v.2.1.1)(hd:nL v.2.2.1.1)(hr:FZ v.2.2.2.1.1)(ha:Fg v.2.2.2.2.1.1.2.1):
  ∃d',nL d'∧aC Al v=some (.inr ((v.1.2.1,v.1.2.2.2),((d',()),v.2.2.2))):=by
 obtain⟨d1,hd1,e1⟩:=KS v 0 _ h0 (by omega) rfl h1 hp hd hr ha;obtain⟨d2,hd2,e2⟩:=KS ((((1:Nat):Int),v.1.2),(v.2.1,(d1,()),v.2.2.2)) 1 _ rfl (by omega) rfl h2 hp hd1 hr ha;refine⟨d2,hd2,(aH e1).trans ((aH e2).trans (aF ?_))⟩;have c0:decide (((1+1:Nat):Int)<2)=false:=arl (by omega);simp only[Al,c0,aA,sS]
theorem Ej(v)(i:Nat)(p:dw)(h0:v.1.2.1=(i:Int))(hi:i<3)(hy:([v.1.2.2.1.1,v.1.2.2.1.2.1,v.1.2.2.1.2.2.1]:List dw)[i]?=some p)(hp:mR p)(hd:nL v.2.1.1)(hr:FZ v.2.2.1.1)(ha:Fg v.2.2.2.1.1.2.1)(h1:mE v.2.2.2.2.2.1.1)(h2:mE v.2.2.2.2.1.1):
  ∃d',nL d'∧BR v=some (.inl ((v.1.1,(i+1:Nat),v.1.2.2),((d',()),v.2.2))):=by
 have q1:=RP p hp;have q2:=TL p hp;have c0:decide ((i:Int)<3)=true:=arj (by omega);have w:aO ((i:Int)+1)=((i+1:Nat):Int):=aI (by omega);unfold BR;simp only[h0,c0,aJ,aD hy,q1,q2,arN,aA,sS];obtain⟨d',hd',e⟩:=apP ((0,v.1.1,(v.2.2.2.2.2.1.1,v.2.2.2.2.1.1,()),v.1.2.2.1,v.1.2.2.2.1,(i:Int),()),((p,()),(v.2.1.1,()),v.2.2)) rfl h1 h2 hp hd hr ha;refine⟨d',hd',?_⟩;refine aN _ e ?_;simp only[w,aA,sS]
theorem aov(v)(h0:v.1.2.1=0)(hp1:mR v.1.2.2.1.1)(hp2:mR v.1.2.2.1.2.1)(hp3:mR v.1.2.2.1.2.2.1)(hd:nL v.2.1.1)(hr:FZ v.2.2.1.1)(ha:Fg v.2.2.2.1.1.2.1)(h1:mE v.2.2.2.2.2.1.1)(h2:mE v.2.2.2.2.1.1):
  aC BR v=some (.inr ((v.1.2.2.2.1,()),v.2.2.2.2.2)):=by
 obtain⟨d1,hd1,e1⟩:=Ej v 0 _ h0 (by omega) rfl hp1 hd hr ha h1 h2;obtain⟨d2,hd2,e2⟩:=Ej ((v.1.1,((1:Nat):Int),v.1.2.2),((d1,()),v.2.2)) 1 _ rfl (by omega) rfl hp2 hd1 hr ha h1 h2;obtain⟨d3,hd3,e3⟩:=Ej ((v.1.1,((2:Nat):Int),v.1.2.2),((d2,()),v.2.2)) 2 _ rfl (by omega) rfl hp3 hd2 hr ha h1 h2;refine(aH e1).trans ((aH e2).trans ((aH e3).trans (aF ?_)));have c0:decide (((2+1:Nat):Int)<3)=false:=arl (by omega);simp only[BR,c0,aA,sS]
theorem Eh(v)(i:Nat)(id:Int)(h0:v.1.1=(i:Int))(hi:i<3)(hz:mE v.2.1.1)(hp:mR (v.2.2.2.1,v.2.2.2.2.1,v.2.2.1.1.1,()))(ha:([v.1.2.1.1,v.1.2.1.2.1,v.1.2.1.2.2.1]:List Int)[i]?=some id):Bu v=some (.inl (((i+1:Nat),v.1.2),v.2)):=by
 obtain⟨q,r⟩:=Qm hp hz id;have z:=agn hp hz id;generalize BV (v.2.2.2.1,v.2.2.2.2.1,v.2.2.1.1.1,()) v.2.1.1 id=V at q r z;have c0:decide ((i:Int)<3)=true:=arj (by omega);have w:aO ((i:Int)+1)=((i+1:Nat):Int):=aI (by omega);have s:=Av z;simp only[Bu,h0,c0,aJ,aD ha,q,r,Jl,s,arN,w,aA,sS]
theorem aq9(v)(h0:v.1.1=0)(hz:mE v.2.1.1)(hp:mR (v.2.2.2.1,v.2.2.2.2.1,v.2.2.1.1.1,())):aC Bu v=some (.inr ((),((v.2.1.1,()),()))):=by
 refine(aH (Eh v 0 _ h0 (by omega) hz hp rfl)).trans ((aH (Eh ((((1:Nat):Int),v.1.2),v.2) 1 _ rfl (by omega) hz hp rfl)).trans ((aH (Eh ((((2:Nat):Int),v.1.2),v.2) 2 _ rfl (by omega) hz hp rfl)).trans (aF ?_)));have c0:decide (((2+1:Nat):Int)<3)=false:=arl (by omega);simp only[Bu,c0,aA,sS]
theorem aoY(l:List (List LT))(hl:l.length≤1048576)(hz:∀x∈l,x.length≤big):aC BL ((0,l,(l.length:Int),()),l,())=some (.inr ((),())):=by
 have key:∀(k i:Nat),i+k=l.length→aC BL (((i:Int),l,(l.length:Int),()),l,())=some (.inr ((),())):=by
  intro k
  induction k with
  |zero=>
   intro i h;obtain rfl:i=l.length:=by omega
   exact aF (by simp only[BL,bX,aA,sS])
  |succ k ih=>
   intro i h;obtain⟨e,he⟩:=getD_some (l:=l) (i:=i) (by omega);refine(aH ?_).trans (ih (i+1) (by omega));have w:aO ((i:Int)+1)=((i+1:Nat):Int):=aI (by omega);have c:decide ((0:Int)≤(i:Int)∧(i:Int)<l.length)=true:=arj ⟨by omega,by omega⟩;have s:=aa1 e (hz e (arp he));simp only[BL,bO (show i<l.length by omega),aJ,aD he,aA,sS];simp only[c,arn,he,s,w,aA,sS]
 exact key l.length 0 (by omega)
theorem alb(t:List Int)(a:Ag)(raw:dm)(x id:Int)(ha:Fg a.2.1)(hr:FZ raw):m7 ((t,a,raw,x,id,()),())=some ((true,()),()):=by
 have q26:m26 ((),())=some ((),((0,1,()),()),()):=rfl;have q33:m33 ((),())=some ((),((0,1,()),()),()):=rfl;have s0:=Av af8;unfold m7;simp only[light,aA,sS];by_cases ht:t.length≤500
 ·by_cases c1:(a.2.1.length:Int)>20
  ·simp only[arj ht,arj c1,Mi,aA,sS]
  ·by_cases c2:(raw.2.2.2.2.1.length:Int)>20
   ·simp only[arj ht,arl c1,arj c2,Mi,aA,sS]
   ·obtain⟨p,d1,e1,hd1,gp⟩:=GZ 3 (t,0,()) (anY ht) (by omega) (by omega);obtain⟨s,d2,e2,hd2,gi⟩:=QG gp.z gp.iQ 8 d1 hd1 (by omega) (by omega);obtain⟨o,d3,e3,hd3,go⟩:=GZ 2 d2 hd2 (by omega) (by omega);obtain⟨y,d4,e4,hd4,_⟩:=ku [-1,0,604800,604801] d3 hd3 (by simp) (by simp);obtain⟨z,d5,e5,hd5,_⟩:=ku [0,1,2,8589934592] d4 hd4 (by simp) (by simp);have e2:m31 (((p.1,p.2.1,p.2.2.1,()),8,()),((d1,()),()))=_:=e2;have gw:mR (o.1,o.2.1,y,()):=⟨go.z.rt,go.z.inl,go.z.inh,go.z.rs⟩
    have zo:mE (s.1,s.2.1,s.2.2.1,z,()):=⟨gi.z.len,gi.z.rR,gi.z.CY⟩
    simp only[arj ht,arl c1,arl c2,roll,e1,e2,e3,e4,e5,q26,q33,s0,aA,sS];rw[aov _ rfl gp.z go.z gw hd5 hr ha gi.z zo];simp only[aA,sS];rw[aq9 _ rfl gi.z gp.z];have lg:=gi.vi.lg gp.z gi.z;have hlen:=gi.vi.len;have hv:∀g∈bA s,VG g:=fun g hg=>(lg g hg).1
    have f1:=QH hv (by omega);have f2:jD (bA s)=(uX (bA s)).map bq:=KA _;have f3:=ag3 s hv (by omega);have f4:=NJ hv (by omega);have f5:=Kw (bA s) hv;have q1:=ahX s (by omega);have q2:=aiK s (by omega);dsimp only[bA]at f1 f2 f3 f4 f5 q1 q2;simp only[f1,f2,f3,q1,q2,arN,asu,aA,sS];rw[aoY _ (by rw[arq];dsimp only[bA]at hlen;omega) (fun x hx=> ?_)]
    ·simp only[Mi,aA,sS]
    ·obtain⟨m,hm,rfl⟩:=asn.1 hx;obtain⟨g,hg,hmg,_⟩:=PZ hm;exact(iT ((hv g hg).mem m hmg).lab).1
 ·simp only[arl ht,Mi,aA,sS]
abbrev tyM:Ty:=.row (.cons .str (.cons (.int .i64) (.cons .str .unit)))
theorem apz:∀x,Abs.WX 1048576 [.row (.int .i64),.cons (.int .i64) (.cons (.row (.cons .str (.cons .str .unit))) (.cons .bool .unit)),.cons (.int .i64) (.cons (.int .i64) (.cons (.int .i64) (.cons (.int .i64) (.cons tyM .unit)))),.int .i64,.int .i64] x→m7 (x,())=some ((true,()),()):=by
 intro x h;obtain⟨_,h1,h2,_⟩:=h;refine alb x.1 x.2.1 x.2.2.1 x.2.2.2.1 x.2.2.2.2.1 ?_ ?_
 ·have h3:=h1.2.1;exact⟨asb h3.1 (by decide),fun y hy=>⟨asb (h3.2 y hy).1 (by decide),asb (h3.2 y hy).2.1 (by decide)⟩⟩
 ·have h3:=h2.2.2.2.2.1;refine⟨asb h3.1 (by decide),fun m hm=> ?_⟩;have a:m.1.size≤1048576:=(h3.2 m hm).1;have b:m.2.2.1.size≤1048576:=(h3.2 m hm).2.2.1;exact⟨show _≤_ by omega,show _≤_ by omega,show _≤_ by omega⟩
end Go.Proofs.YtchnmpafhfjimaaGreatDoor
