/- Lemmas for the statement of the last text of this claim. -/
import Derived.Test.YtchnmpafhfjimaaGreatDoorV8E
set_option linter.unusedSimpArgs false
set_option linter.unusedVariables false
namespace Go.Proofs.YtchnmpafhfjimaaGreatDoor
open Go Go.Abs
structure Nb(p:cZ)(a:Gc)(gs:List bC)(i:Nat):Prop where
 inv:Af p gs 1000
 rl:p.1.length≤24
 rt:∃r,p.1[i]?=some r∧RR r
 lab:cB a.2.1=true
 at':0≤a.1∧a.1≤8589934592
theorem Nb.key{p:cZ}{a:Gc}{gs:List bC}{i:Nat}(h:Nb p a gs i){r:dz}(hr:p.1[i]?=some r)(rr:RR r):
  ZR ((r,a.2.1,()),())=some ((BD p a i,()),()) ∧m20 ((r,a.2.1,()),())=some ((BD p a i,()),()):=by
 have hre:Dm p ((i:Nat):Int)=r:=xH (by rw [Int.toNat_natCast];exact hr);unfold BD;rw [hre];exact⟨RU r a.2.1 (jB h.lab) rr.z.2.1,Uv r a.2.1 (jB h.lab) rr.z.2.1⟩
theorem ML{p:cZ}{a:Gc}{gs:List bC}{i:Nat}(h:Nb p a gs i)(hl:gs.length≤900)(l:List Nat)(q:Nat)(hq:l[q]?=some i)(hll:l.length≤1000)(now next:Int)(sl:List eP):
  vE (((q:Int),(l.length:Int),()),((0,0,()),()),((now,next,()),()),(a,()),(p,()),ints l,gs,sl,())=
   some (match Bz p a gs i with
    |some gs'=> .inl ((((q+1:Nat):Int),(l.length:Int),()),((0,0,()),()),((now,next,()),()),(a,()),(p,()),ints l,gs',sl,())
    |none=> .inr (.inl ((5,()),((0,0,()),()),()))):=by
 obtain⟨r,hr,rr⟩:=h.rt;have hql:=(List.getElem?_eq_some_iff.1 hq).1;have hil:=(List.getElem?_eq_some_iff.1 hr).1;have hrl:=h.rl;have il:(ints l).length=l.length:=by simp [ints]
 have hqi:(ints l)[((q:Int)).toNat]?=some (i:Int):=by rw [Int.toNat_natCast];simp [ints,hq]
 have b1:decide ((0:Int) ≤(q:Int) ∧(q:Int)< ((ints l).length:Int))=true:=decide_eq_true (by rw [il];omega);have hw:=aI (i:=q) (by omega);have hk:=(h.key hr rr).1;have hbs:=bsearch gs (by omega) (h.inv.small h.rl) h.inv.up (i:Int) ⟨by omega,by omega⟩ (BD p a i);obtain⟨g,hg,g1,g2,hm⟩:=MB p a gs i;have hre:Dm p ((i:Nat):Int)=r:=xH (by rw [Int.toNat_natCast];exact hr)
 have hv:VG g:=by
  rcases hm with hm|rfl
  ·exact(h.inv.nT g hm).1
  ·exact Mi _ (by omega)
 have hadd:=abu hv rr h.lab a.2.2.1 h.at';have ha:VU p a gs i=nS g r a.2.1 a.2.2.1 a.1:=by unfold VU;rw [hg,hre];rfl
 have hri:p.1[((i:Int)).toNat]?=some r:=by rw [Int.toNat_natCast];exact hr
 have hrow:∀{B:Type} (F:dz→Option B),qK p.1 (i:Int) F=F r:=fun F=>jf (by omega) hri F
 have hple:=Jd (i:Int) (BD p a i) gs;have hx0:Cm i (BD p a i) gs=match gs[ja i (BD p a i) gs]? with|some g=>decide (g.1=(i:Int))&&decide (g.2.1=BD p a i)|none=>false:=rfl
 have hsm:=h.inv.small h.rl;unfold Bz;rw [ha];unfold XL at hg ⊢;generalize BD p a i=k at *;generalize hP:ja (i:Int) k gs=P at *;unfold vE;simp only [bV hql,b1,hqi,aH,hrow,au,sS];simp only [hk,hbs,au,sS]
 have key:∀{B:Type} (F:((Int×Bool×Unit)×(List bC×(Int×Unit)×Unit)) →Option B),
   ((bif decide ((P:Int)< (gs.length:Int)) then(bif decide ((0:Int) ≤(P:Int) ∧(P:Int)< (gs.length:Int)) then
     (gs[((P:Int)).toNat]?).bind fun e285=>(Zj ((e285,(i:Int),k,()),())).bind fun u286=>some (((P:Int),(u286.1.1==0),()),(gs,((i:Int),()),()))
     else none) else some (((P:Int),false,()),(gs,((i:Int),()),())):Option ((Int×Bool×Unit)×(List bC×(Int×Unit)×Unit))).bind F)=F (((P:Int),Cm i k gs,()),(gs,((i:Int),()),())):=by
  intro B F;rw [hx0];by_cases hpl:P< gs.length
  ·obtain⟨e,he⟩:=getD_some hpl;have d1:decide ((P:Int)< (gs.length:Int))=true:=decide_eq_true (by omega);have d2:decide ((0:Int) ≤(P:Int) ∧(P:Int)< (gs.length:Int))=true:=decide_eq_true (by omega);have q84:=NM e (i:Int) k (hsm e (List.mem_of_getElem? he)) ⟨by omega,by omega⟩;simp only [d1,d2,Int.toNat_natCast,he,q84,NU,au,sS]
  ·have d1:decide ((P:Int)< (gs.length:Int))=false:=decide_eq_false (by omega);rw [show gs[P]?=none from List.getElem?_eq_none (by omega)];simp only [d1,au,sS]
 rw [key];simp only [eq_self,au,sS];have hgP:(if Cm (i:Int) k gs=true then gs else List.take P gs++ [newG (i:Int) k]++List.drop P gs)[((P:Int)).toNat]?=some g:=by rw [Int.toNat_natCast];exact hg
 have hlenG:P< (if Cm (i:Int) k gs=true then gs else List.take P gs++ [newG (i:Int) k]++List.drop P gs).length:=(List.getElem?_eq_some_iff.1 hg).1;have c1:∀z:bC,decide ((0:Int) ≤(P:Int) ∧(P:Int) ≤(gs.length:Int) ∧gs.length≤4294967295∧ [z].length=1)=true:=fun z=>decide_eq_true ⟨by omega,by omega,by omega,rfl⟩
 cases hh:Cm (i:Int) k gs
 ·cases hf:a.2.2.1
  ·simp only [hw,if_true,and_self,Bool.not_false,au,sS]
  ·rw [hh] at hgP hlenG;simp only [Bool.false_eq_true,if_false] at hgP hlenG;have c2:decide ((0:Int) ≤(P:Int) ∧(P:Int)< ((List.take P gs++ [newG (i:Int) k]++List.drop P gs).length:Int))=true:=decide_eq_true (by omega);have c3:decide (P< (List.take P gs++ [newG (i:Int) k]++List.drop P gs).length)=true:=decide_eq_true hlenG;rw [hf] at hadd;unfold newG at hgP c2 c3;rw [Int.toNat_natCast] at hgP;simp only [m72,c1,eq_self,Bool.not_false,Bool.not_true,Bool.true_eq_false,Bool.false_eq_true,and_false,if_false,RH,au,sS];simp only [Int.toNat_natCast,c2,c3,hgP,hrow,hf,hadd,RH,au,sS];generalize nS g r a.2.1 true a.1=X;by_cases hX:X.1=0
   ·simp only [hX,bne_self_eq_false,ne_eq,not_true_eq_false,if_false,hw,vT,newG,au,sS]
   ·simp only [bne_iff_ne.2 hX,ne_eq,hX,not_false_eq_true,if_true,au,sS]
 ·rw [hh] at hgP hlenG;simp only [if_true] at hgP hlenG;have c2:decide ((0:Int) ≤(P:Int) ∧(P:Int)< (gs.length:Int))=true:=decide_eq_true (by omega);have c3:decide (P< gs.length)=true:=decide_eq_true hlenG;simp only [eq_self,c2,hgP,hrow,hadd,Bool.not_false,Bool.not_true,Bool.true_eq_false,Bool.false_eq_true,false_and,if_false,if_true,RH,au,sS];generalize nS g r a.2.1 a.2.2.1 a.1=X;by_cases hX:X.1=0
  ·simp only [hX,bne_self_eq_false,ne_eq,not_true_eq_false,if_false,hw,c3,Int.toNat_natCast,vT,au,sS]
  ·simp only [bne_iff_ne.2 hX,ne_eq,hX,not_false_eq_true,if_true,au,sS]
def DR(p:cZ)(a:Gc):List Nat→List bC→Option (List bC)
 | [],gs=>some gs
 |i::r,gs=>(Bz p a gs i).bind (DR p a r)
theorem zk{p:cZ}{a:Gc}(hlab:cB a.2.1=true)(ht:0≤a.1∧a.1≤8589934592):∀{l:List Nat} {gs gs':List bC} {n:Nat},(∀i∈l,∃r,p.1[i]?=some r∧RR r) →Af p gs n→DR p a l gs=some gs'→Af p gs' (n+l.length)
 | [],gs,gs',n,_,h,e=>by cases e;exact h
 |i::r,gs,gs',n,hl,h,e=>by
  obtain⟨g1,e1,e2⟩:=Option.bind_eq_some_iff.1 e;have:=zk hlab ht (fun j hj=>hl j (by simp [hj])) (Gq h (hl i (by simp)) hlab ht e1) e2;rw [List.length_cons]
  rwa [show n+1+r.length=n+(r.length+1) by omega] at this
theorem Nj{p:cZ}{a:Gc}(hlab:cB a.2.1=true)(ht:0≤a.1∧a.1≤8589934592)(hrl:p.1.length≤24)(l:List Nat)(hl:∀i∈l,∃r,p.1[i]?=some r∧RR r)(hll:l.length≤100)(now next:Int)(sl:List eP)(gs:List bC)(hgs:Af p gs 100):
  aB vE (((0:Int),(l.length:Int),()),((0,0,()),()),((now,next,()),()),(a,()),(p,()),ints l,gs,sl,())=
   some (match DR p a l gs with
    |some gs'=> .inr ((),((0,0,()),()),((now,next,()),()),(p,()),gs',sl,())
    |none=> .inl ((5,()),((0,0,()),()),())):=by
 have key:∀(d q:Nat) (gs:List bC),q+d=l.length→Af p gs (100+q) →
   aB vE (((q:Int),(l.length:Int),()),((0,0,()),()),((now,next,()),()),(a,()),(p,()),ints l,gs,sl,())=
    some (match DR p a (l.drop q) gs with
     |some gs'=> .inr ((),((0,0,()),()),((now,next,()),()),(p,()),gs',sl,())
     |none=> .inl ((5,()),((0,0,()),()),())):=by
  intro d
  induction d with
  |zero=>
   intro q gs hq h;obtain rfl:q=l.length:=by omega
   rw [List.drop_length];refine aF ?_;simp only [vE,dG,DR,au,sS]
  |succ d ih=>
   intro q gs hq h;obtain⟨i,hi,hd⟩:=drop_at (l:=l) (i:=q) (by omega);have hir:=hl i (List.mem_of_getElem? hi);have hlen:=h.len;have st:=ML (p:=p) (a:=a) (gs:=gs) (i:=i) ⟨⟨h.nT,h.up,by omega⟩,hrl,hir,hlab,ht⟩ (by omega) l q hi (by omega) now next sl;rw [hd];unfold DR
   cases hs:Bz p a gs i with
   |none=>
    rw [hs] at st;exact aF st
   |some gs'=>
    rw [hs] at st;rw [aN st];exact ih (q+1) gs' (by omega) (by have:=Gq h hir hlab ht hs;rwa [show 100+q+1=100+(q+1) by omega] at this)
 have:=key l.length 0 gs (by omega) hgs;rw [List.drop_zero] at this;exact this
theorem N8:OC=qH:=rfl
theorem JN:OU=vD:=rfl
abbrev nI:InT:=(0,[],[],0,())
def gL(p:cZ)(s:InT)(a:Gc):Int×InT:=
 if jb p s=false∨cB a.2.1=false then(8,nI) else if Fw (cu s) a.1≠0 then(Fw (cu s) a.1,nI)
 else match DR p a (o5 p.1 a.2.1) (bS s) with
  |none=>(5,nI)
  |some gs=>if(jk p a.1 gs).length>64 then(5,nI) else(0,(a.1,jk p a.1 gs,bX s,bF s,()))
theorem Hu{p:cZ}(hp:vY p)(h:ko p.1=0)(x:List LT):(∀i∈o5 p.1 x,∃r,p.1[i]?=some r∧RR r) ∧(o5 p.1 x).length≤24:=by
 have hl:=pV h;have tok:=Tw h;unfold o5;split
 ·have hf:=fun j (hj:j∈fB p.1 x 400 0)=>(found tok hj).1
  refine⟨fun i hi=> ?_,?_⟩
  ·have:=hf i hi;exact⟨p.1[i],List.getElem?_eq_getElem this,zq hp.rt h _ (List.getElem_mem this)⟩
  ·have hnd:=Bu tok x 400 0 (by omega) tok.pos
   have hp2:(fB p.1 x 400 0).Perm ((List.range p.1.length).filter fun j=>decide (j∈fB p.1 x 400 0)):=
    (List.perm_ext_iff_of_nodup hnd (List.nodup_range.filter _)).2 fun j=>by
     simp only [List.mem_filter,List.mem_range,decide_eq_true_eq];exact⟨fun hj=>⟨hf j hj,hj⟩,fun hj=>hj.2⟩
   have h1:=hp2.length_eq;have h2:=List.length_filter_le (fun j=>decide (j∈fB p.1 x 400 0)) (List.range p.1.length);rw [List.length_range] at h2;omega
 ·exact⟨fun i hi=>(by cases hi),Nat.zero_le _⟩
def agU(V:Int×InT)(o:Option ((Int×Unit)×((Int×(Nat×Nat)×Int×Unit)×Unit)×List bC×List eP×Unit)):Prop:=
 ∃(n:Nat) (blk:List bC),o=some ((V.1,()),((V.2.1,(0,n),V.2.2.2.2.1,()),()),blk,V.2.2.2.1,()) ∧n≤blk.length∧blk.take n=V.2.2.1
theorem UW{p:cZ}(hp:vY p){s:InT}(hs:wD s)(a:Gc)(ha:PY a.2.1):agU (gL p s a) (UI ((p,s,a,()),())):=by
 have q1:=E9 p hp s hs;have q2:=AL a.2.1 ha;have q3:=Rx s a.1;unfold gL;cases hv:jb p s
 ·rw [if_pos (.inl rfl)];rw [hv] at q1;unfold UI;simp only [q1,au,sS];exact⟨0,[],rfl,Nat.le_refl _,rfl⟩
 cases hlab:cB a.2.1
 ·rw [if_pos (.inr rfl)];rw [hv] at q1;rw [hlab] at q2;unfold UI;simp only [q1,q2,au,sS];exact⟨0,[],rfl,Nat.le_refl _,rfl⟩
 rw [if_neg (by simp)];rw [hv] at q1;rw [hlab] at q2;have h:=l5.1 hv;by_cases hc:Fw (cu s) a.1=0
 ·rw [if_neg (by simpa using hc)];rw [hc] at q3;obtain⟨n0,n1,n2⟩:=mK hc h.now.1;have hck:=(iU h.gZ).1;have nT:=h.nT hp hs;obtain⟨f1,f2⟩:=Hu hp hck a.2.1;have hl:=h.len;have q4:=vz s (by omega) (fun g hg=>(nT g hg).1) hs.Cj;have q5:=YQ p.1 hp.rt a.2.1 ha;have inv0:Af p (bS s) 64:=⟨nT,(wJ h.vT).1,hl⟩
  have q6:=Nj hlab ⟨n0,n1⟩ (pV hck) (o5 p.1 a.2.1) f1 (by omega) a.1 (bF s) (bX s) (bS s) ⟨nT,(wJ h.vT).1,by omega⟩;have il:((ints (o5 p.1 a.2.1)).length:Int)=((o5 p.1 a.2.1).length:Int):=by simp [ints]
  unfold UI;simp only [q1,q2,q3,q4,q5,bne_self_eq_false,il,au,sS];rw [q6]
  cases hr:DR p a (o5 p.1 a.2.1) (bS s) with
  |none=>exact⟨0,[],rfl,Nat.le_refl _,rfl⟩
  |some gs=>
   have inv:=zk hlab ⟨n0,n1⟩ f1 inv0 hr;have g2:=inv.nT;have l2:=inv.len;simp only [N8,JN,au,sS];have big64:∀n:Nat,n=(jk p a.1 gs).length→decide (((n:Nat):Int)>64)=decide ((jk p a.1 gs).length>64):=fun n hn=>decide_eq_decide.2 (by omega)
   rcases Eb p (bX s) a.1 (bF s) gs (by omega) g2 with⟨e,hf⟩|⟨j,hj,e,hf⟩
   ·rw [e];simp only [eq_self,beq_self_eq_true,big64 gs.length (by rw [hf]),au,sS];by_cases hb:(jk p a.1 gs).length>64
    ·rw [if_pos hb];simp only [hb,decide_true,au,sS];exact⟨0,[],rfl,Nat.le_refl _,rfl⟩
    ·rw [if_neg hb];simp only [hb,decide_false,au,sS];exact⟨gs.length,gs,rfl,Nat.le_refl _,by rw [List.take_length];exact hf.symm⟩
   ·have bj:((j:Int)== -1)=false:=beq_eq_false_iff_ne.2 (by omega);have wj:aT ((j:Int)+1)=((j+1:Nat):Int):=aI (by omega);rw [e];simp only [eq_self,bj,wj,au,sS];obtain⟨dst,blk,e2,h3,h4,h5⟩:=BS p (bX s) a.1 (bF s) gs (by omega) g2 (gs.length -(j+1)) (j+1) j gs (by omega) (by omega) rfl hf.symm rfl;rw [e2];have c1:decide ((0:Int) ≤(dst:Int))=true:=decide_eq_true (by omega);have c2:decide (dst≤blk.length∧blk.length≤blk.length)=true:=decide_eq_true ⟨by omega,Nat.le_refl _⟩;have c3:decide (dst+(blk.length - dst) ≤blk.length)=true:=decide_eq_true (by omega);have hz:∀z:bC,(bU blk dst (List.replicate (blk.length - dst) z)).length=blk.length:=fun z=>DY blk z dst (by omega)
    have c4:∀z:bC,decide (0≤dst∧dst≤(bU blk dst (List.replicate (blk.length - dst) z)).length)=true:=fun z=>decide_eq_true ⟨Nat.zero_le _,by rw [hz];omega⟩
    have c5:∀z:bC,decide ((bU blk dst (List.replicate (blk.length - dst) z)).length=gs.length)=true:=fun z=>decide_eq_true (by rw [hz];omega)
    have hd:dst=(jk p a.1 gs).length:=by
     have:=congrArg List.length h5;rw [List.length_take] at this;omega
    simp only [c1,c2,c3,c4,c5,Int.toNat_natCast,eq_self,big64 dst hd,au,sS];by_cases hb:(jk p a.1 gs).length>64
    ·rw [if_pos hb];simp only [hb,decide_true,au,sS];exact⟨0,[],rfl,Nat.le_refl _,rfl⟩
    ·rw [if_neg hb];simp only [hb,decide_false,au,sS];exact⟨dst,_,rfl,by rw [hz];omega,(BF blk _ dst (by omega)).trans h5⟩
 ·rw [if_pos hc];unfold UI;simp only [q1,q2,q3,bne_iff_ne.2 hc,au,sS];exact⟨0,[],rfl,Nat.le_refl _,rfl⟩
end Go.Proofs.YtchnmpafhfjimaaGreatDoor
namespace Go.Proofs.YtchnmpafhfjimaaGreatDoor
open Go Go.Abs
def Uk(t:Int)(g:bC):bC:=(g.1,g.2.1,g.2.2.1,t,g.2.2.2.2)
def KH(t:Int)(g:bC):Bool:=(fu g== -1)||decide (fu g>t)
def pE(t:Int)(g:bC):bC:=bif tu (aL g)&&KH t g then Uk t g else g
theorem MC:OQ=uX:=rfl
theorem X6(ms:List bJ)(hl:ms.length≤256):∃j:Nat,aB yD (((0:Int),ms,(ms.length:Int),()),())=some (bif tu ms then .inl (((j:Int),()),()) else .inr ((),())):=by
 obtain⟨j,h⟩:=qy (f:=yD) ms (fun i=>(((i:Int),ms,(ms.length:Int),()),())) (fun m=>dI m) (fun i=> .inl (((i:Int),()),())) (.inr ((),())) (fun i e he hi=>by
  have hw:=aI (i:=i) (by omega);simp only [yD,X4,bV hi,aH,aC he,au,sS]
  cases hm:e.2.2.2.2.2.1<;>simp only [hw,hm,Bool.not_true,Bool.not_false,au,sS]) (by simp only [yD,dG,au,sS])
 refine⟨j,h.trans ?_⟩
 have:tu ms= !ms.all (fun m=>dI m):=by
  unfold tu;rw [List.not_all_eq_any_not]
 rw [this];cases ms.all (fun m=>dI m)<;>rfl
theorem Pj(t:Int)(gs:List bC)(hl:gs.length≤1000)(hv:∀g∈gs,VG g)(x1 x2:Int)(sl:List eP):
  aB uX (((0:Int),t,(gs.length:Int),()),((x1,x2,()),()),gs,sl,())=some ((),((x1,x2,()),()),gs.map (pE t),sl,()):=by
 refine zo (F:=Unit) (f:=uX) gs (fun i a _=>(((i:Int),t,(gs.length:Int),()),((x1,x2,()),()),a,sl,())) (pE t) (fun _=> []) (fun a _=>((),((x1,x2,()),()),a,sl,())) (fun _=>Nat.zero_le _) ?_ ?_
 ·intro i a n e hi ha _ hm he hae;have hw:=aI (i:=i) (by omega);have hb:decide ((0:Int) ≤(i:Int) ∧(i:Int)< (a.length:Int))=true:=decide_eq_true (by omega);have hai:a[((i:Int)).toNat]?=some e:=by rw [Int.toNat_natCast];exact hae
  obtain⟨j,hj⟩:=X6 (aL e) (hv e hm).len;have hj0:decide ((j:Int) ≥0)=true:=decide_eq_true (by omega);dsimp only [aL] at hj;unfold pE KH Uk;dsimp only [aL,fu];simp only [uX,bV hi,hb,hai,hj,au,sS]
  have hset:a.set i e=a:=by
   obtain⟨h1,h2⟩:=List.getElem?_eq_some_iff.1 hae;rw [←h2];exact List.set_getElem_self h1
  cases tu e.2.2.1<;>simp only [hj0,hw,hset,Bool.true_and,Bool.false_and,au,sS];cases (e.2.2.2.1== -1)<;>simp only [hb,hai,hae,hw,Int.toNat_natCast,Bool.true_or,Bool.false_or,au,sS];cases decide (e.2.2.2.1>t)<;>simp only [hb,hai,hae,hw,hset,Int.toNat_natCast,au,sS]
 ·intro a n ha;simp only [uX,dG,au,sS]
def zN(id t:Int)(l:List eP):Int×List eP:=
 if jg l≠0 then(jg l,[]) else match l.drop (l.takeWhile fun y=>decide (y.1≠id)).length with
  | []=>(3,[])
  |s::b=>Qs t (l.takeWhile fun y=>decide (y.1≠id)) s b
theorem take_split{id:Int}{a b:List eP}{s:eP}(ha:∀y∈a,y.1≠id)(hs:s.1=id):((a++s::b).takeWhile fun y=>decide (y.1≠id))=a:=by
 induction a with
 |nil=>rw [List.nil_append,List.takeWhile_cons,if_neg (by simp [hs])]
 |cons y r ih=>
  rw [List.cons_append,List.takeWhile_cons,if_pos (decide_eq_true (ha y (by simp))),ih (fun z hz=>ha z (by simp [hz]))]
theorem yV{A:Type}{p:A→Bool}:∀{l:List A},(∀y∈l,p y=true) →l.takeWhile p=l
 | [],_=>rfl
 |y::r,h=>by rw [List.takeWhile_cons,if_pos (h y (by simp)),yV fun z hz=>h z (by simp [hz])]
def xg(p:cZ)(s:InT)(x:eP):Int×Int×InT:=
 if jb p s=false then(0,8,nI) else if bF s≥8589934592 then(0,5,nI)
 else if(Am (bX s) (bF s,x.2)).1≠0 then(0,(Am (bX s) (bF s,x.2)).1,nI)
 else(bF s,0,(cu s,(bS s).map (pE x.2.2.1),(Am (bX s) (bF s,x.2)).2,bF s+1,()))
abbrev M8(V:Int×Int×InT):Option ((Int×Int×Unit)×((Int×Int×Unit)×Unit)×List bC×List eP×Unit):=some ((V.1,V.2.1,()),((V.2.2.1,V.2.2.2.2.2.1,()),()),V.2.2.2.1,V.2.2.2.2.1,())
theorem VI.short{p:cZ}{s:InT}(h:VI p s):(bX s).length≤24:=(Dv h.Cj).2
def FY(now:Int):Int:=if 8589934592< now+1 then 8589934592 else now+1
def wS(p:cZ)(s:InT)(id:Int):Int×InT:=
 if jb p s=false then(8,nI) else if(zN id (cu s) (bX s)).1≠0 then((zN id (cu s) (bX s)).1,nI)
 else(0,(cu s,(bS s).map (pE (FY (cu s))),(zN id (cu s) (bX s)).2,bF s,()))
abbrev P6(V:Int×InT):Option ((Int×Unit)×((Int×Int×Unit)×Unit)×List bC×List eP×Unit):=some ((V.1,()),((V.2.1,V.2.2.2.2.1,()),()),V.2.2.1,V.2.2.2.1,())
def ru(p:cZ)(g:bC):Prop:=∀m∈aL g,xP (Dm p g.1) (bP m)=g.2.1
theorem Ow{p:cZ}{g:bC}{r:dz}(h:p.1[g.1.toNat]?=some r)(m:bJ):wX p.1 g m=xP (Dm p g.1) (bP m):=by
 unfold wX;rw [h,xH h]
theorem HV{p:cZ}{now:Int}{q:Option bC}{g:bC}{r:dz}(h:p.1[g.1.toNat]?=some r):pK p now q g=false↔g.1< (p.1.length:Int) ∧iG p.1 now g=false∧(∀a,q=some a→LG a g.1 g.2.1) ∧ru p g:=by
 unfold pK
 cases q with
 |none=>
  simp only [Bool.or_eq_false_iff,decide_eq_false_iff_not,Bool.not_eq_false',List.all_eq_true,decide_eq_true_eq,Ow h];exact⟨fun⟨a,b,_,d⟩=>⟨by omega,b,fun _ e=>(by cases e),d⟩,fun⟨a,b,_,d⟩=>⟨by omega,b,trivial,d⟩⟩
 |some x=>
  simp only [Bool.or_eq_false_iff,decide_eq_false_iff_not,Bool.not_eq_false',List.all_eq_true,decide_eq_true_eq,Ow h];exact⟨fun⟨a,b,c,d⟩=>⟨by omega,b,fun _ e=>(by cases e;exact wM.1 c),d⟩,fun⟨a,b,c,d⟩=>⟨by omega,b,wM.2 (c x rfl),d⟩⟩
theorem Mr{p:cZ}{now:Int}:∀{gs:List bC} {q:Option bC},JJ p gs→JM gs→(∀a,q=some a→∀b∈gs,LG a b.1 b.2.1) →(∀g∈gs,iG p.1 now g=false∧ru p g) →qC (pK p now) q gs=true
 | [],_,_,_,_,_=>rfl
 |g::r,q,h,hu,hq,hk=>by
  obtain⟨u1,u2⟩:=List.pairwise_cons.1 hu;obtain⟨hv,rt,hr,rr⟩:=h g (by simp);have hlt:=(List.getElem?_eq_some_iff.1 hr).1;have h1:=hv.rt;unfold qC;rw [Bool.and_eq_true];refine⟨?_,Mr (fun x hx=>h x (by simp [hx])) u2 (fun a ha b hb=>by cases ha;exact u1 b hb) (fun x hx=>hk x (by simp [hx]))⟩;rw [Bool.not_eq_true',HV hr];exact⟨by omega,(hk g (by simp)).1,fun a ha=>hq a ha g (by simp),(hk g (by simp)).2⟩
theorem LA{p:cZ}{now:Int}{gs:List bC}(hg:JJ p gs)(h:qC (pK p now) none gs=true):∀g∈gs,ru p g:=by
 intro g hg';obtain⟨q,hb⟩:=yJ h g hg';obtain⟨_,r,hr,_⟩:=hg g hg';exact((HV hr).1 hb).2.2.2
theorem JM.map{gs:List bC}(h:JM gs)(f:bC→bC)(hf:∀g,(f g).1=g.1∧(f g).2.1=g.2.1):JM (gs.map f):=by
 unfold JM at h ⊢;refine List.pairwise_map.2 (h.imp fun {a b} hab=> ?_);unfold LG at hab ⊢;rw [(hf a).1,(hf a).2,(hf b).1,(hf b).2];exact hab
theorem JM.sub{gs l:List bC}(h:JM gs)(hs:l.Sublist gs):JM l:=List.Pairwise.sublist hs h
theorem Gw(p:cZ)(now:Int)(gs:List bC):(jk p now gs).Sublist gs:=List.filter_sublist
theorem qd{p:cZ}{now:Int}{gs:List bC}{g:bC}(h:g∈jk p now gs):g∈gs∧iG p.1 now g=false:=by
 obtain⟨a,b⟩:=List.mem_filter.1 h;exact⟨a,by simpa using b⟩
theorem Kr{p:cZ}{s:InT}(h:VI p s){now:Int}(hn:0≤now∧now≤8589934592){gs:List bC}(hg:JJ p gs)(hu:JM gs)(hk:∀g∈gs,ru p g)(hl:(jk p now gs).length≤64):
  VI p (now,jk p now gs,bX s,bF s,()):=
 ⟨h.gZ,hn,hl,h.Cj,h.next,h.ids,Mr (fun g hg'=>hg g (qd hg').1) (hu.sub (Gw p now gs)) (fun _ ha=>by cases ha) (fun g hg'=>⟨(qd hg').2,hk g (qd hg').1⟩)⟩
theorem xV(se wa ir t a:Int):∀(rem kept:List bJ) (du:Int),∀m∈(lU se wa ir t a kept du rem).1,∃x∈kept++rem,bP x=bP m
 | [],kept,du,m,hm=>⟨m,by simpa [lU] using hm,rfl⟩
 |y::r,kept,du,m,hm=>by
  unfold lU at hm;split at hm
  ·split at hm
   ·obtain⟨x,hx,e⟩:=xV se wa ir t a r _ _ m hm;simp only [List.mem_append,List.mem_singleton] at hx;rcases hx with(hx|rfl)|hx
    ·exact⟨x,by simp [hx],e⟩
    ·exact⟨y,by simp,e⟩
    ·exact⟨x,by simp [hx],e⟩
   ·obtain⟨x,hx,e⟩:=xV se wa ir t a r _ _ m hm;simp only [List.mem_append] at hx;rcases hx with hx|hx
    ·exact⟨x,by simp [hx],e⟩
    ·exact⟨x,by simp [hx],e⟩
  ·obtain⟨x,hx,e⟩:=xV se wa ir t a r _ _ m hm;simp only [List.mem_append,List.mem_singleton] at hx;rcases hx with(hx|rfl)|hx
   ·exact⟨x,by simp [hx],e⟩
   ·exact⟨x,by simp,e⟩
   ·exact⟨x,by simp [hx],e⟩
theorem ru.of{p:cZ}{g g':bC}(h:ru p g)(h1:g'.1=g.1)(h2:g'.2.1=g.2.1)(hm:∀m∈aL g',∃x∈aL g,bP x=bP m):ru p g':=by
 intro m hm';obtain⟨x,hx,e⟩:=hm m hm';rw [h1,h2,←e];exact h x hx
theorem Wu(p:cZ)(now:Int)(g:bC):∀m∈aL (IE p now g),∃x∈aL g,bP x=bP m:=by
 intro m hm;unfold IE J2 at hm;split at hm
 ·exact⟨m,hm,rfl⟩
 ·obtain⟨x,hx,e⟩:=xV _ _ _ _ _ _ _ _ m hm;exact⟨x,by simpa using hx,e⟩
theorem Ro(p:cZ)(sl:List eP)(now:Int)(fs:List (List LT))(g:bC):∀m∈aL (wh p sl now fs g),∃x∈aL g,bP x=bP m:=by
 intro m hm;unfold wh yO vV at hm;split at hm
 ·exact⟨m,hm,rfl⟩
 ·dsimp only at hm;split at hm
  ·obtain⟨x,hx,_,e⟩:=OX.1 hm;exact⟨x,hx,by rw [e];rfl⟩
  ·exact⟨m,hm,rfl⟩
theorem X0{p:cZ}(hp:vY p){s:InT}(hs:wD s)(h:VI p s){now:Int}(hn:0≤now∧now≤8589934592):VI p (Pd p s now):=by
 have tk:=h.tk hp hs hn;have nT:=h.nT hp hs;have hk:=LA nT h.vT;have g2:=ET tk;refine Kr h hn g2 (((wJ h.vT).1.map _ (Jr p now)).map _ (Cw p _ now _)) (fun g hg=> ?_) ?_
 ·unfold y7 rC at hg;simp only [List.mem_map] at hg;obtain⟨g1,⟨g0,hg0,rfl⟩,rfl⟩:=hg;exact((hk g0 hg0).of (Jr p now g0).1 (Jr p now g0).2 (Wu p now g0)).of (Cw p _ now _ _).1 (Cw p _ now _ _).2 (Ro p _ now _ _)
 ·have h1:=(Gw p now (y7 p s now)).length_le;have h2:(y7 p s now).length=(bS s).length:=(List.length_map ..).trans (List.length_map ..);have:=h.len;omega
theorem Vk(g:bC)(r:dz)(l:List LT)(on:Bool)(t:Int):∀m∈(nS g r l on t).2.2,(∃x∈aL g,bP x=bP m) ∨bP m=l:=by
 intro m hm;unfold nS at hm;dsimp only at hm;by_cases hh:hit (gX (fC l)) (aL g)=true
 ·rw [if_pos hh] at hm;obtain⟨y,hy,_⟩:=yK hh;rw [hy] at hm;dsimp only at hm;have hym:=List.mem_of_getElem? hy
  have set_case:∀z:bJ,bP z=bP y→m∈(aL g).set (pos (gX (fC l)) (aL g)) z→(∃x∈aL g,bP x=bP m) ∨bP m=l:=by
   intro z hz hmz;rcases mem_set hmz with hmz|rfl
   ·exact .inl ⟨m,hmz,rfl⟩
   ·exact .inl ⟨y,hym,hz.symm⟩
  split at hm
  ·exact set_case (sw y t) rfl hm
  ·split at hm
   ·exact set_case (stepM (sw y t) true t) rfl hm
   ·split at hm
    ·exact set_case (stepM (sw y t) false t) rfl hm
    ·rcases List.mem_append.1 hm with hm|hm
     ·exact .inl ⟨m,List.mem_of_mem_take hm,rfl⟩
     ·exact .inl ⟨m,List.mem_of_mem_drop hm,rfl⟩
 ·rw [if_neg hh] at hm;split at hm
  ·split at hm
   ·cases hm
   ·simp only [List.mem_append,List.mem_singleton] at hm;rcases hm with(hm|rfl)|hm
    ·exact .inl ⟨m,List.mem_of_mem_take hm,rfl⟩
    ·exact .inr rfl
    ·exact .inl ⟨m,List.mem_of_mem_drop hm,rfl⟩
  ·exact .inl ⟨m,hm,rfl⟩
theorem QT{p:cZ}{a:Gc}{gs gs':List bC}{i:Nat}(hk:∀g∈gs,ru p g)(e:Bz p a gs i=some gs'):∀g∈gs',ru p g:=by
 unfold Bz at e;split at e
 ·cases e;exact hk
 ·split at e
  ·cases e
  ·rename_i h0;simp only [ne_eq,Decidable.not_not] at h0;cases e;obtain⟨g,hg,g1,g2,hm⟩:=MB p a gs i;have ha:VU p a gs i=nS g (Dm p (i:Int)) a.2.1 a.2.2.1 a.1:=by unfold VU;rw [hg];rfl
   have hg0:ru p g:=by
    rcases hm with hm|rfl
    ·exact hk g hm
    ·exact fun m hm'=>by cases hm'
   rw [ha] at h0 ⊢;obtain⟨k1,k2⟩:=LF h0;intro x hx;rcases mem_set hx with hx|rfl
   ·unfold XL at hx;split at hx
    ·exact hk x hx
    ·simp only [List.mem_append,List.mem_singleton] at hx;rcases hx with(hx|rfl)|hx
     ·exact hk x (List.mem_of_mem_take hx)
     ·exact fun m hm'=>by cases hm'
     ·exact hk x (List.mem_of_mem_drop hx)
   ·intro m hm'
    show xP (Dm p (nS g (Dm p (i:Int)) a.2.1 a.2.2.1 a.1).2.1.1) (bP m)=(nS g (Dm p (i:Int)) a.2.1 a.2.2.1 a.1).2.1.2.1
    rw [k1,k2];rcases Vk _ _ _ _ _ m hm' with⟨y,hy,e⟩|e
    ·rw [←e];exact hg0 y hy
    ·rw [e,g1,g2];rfl
theorem L6{p:cZ}{a:Gc}:∀{l:List Nat} {gs gs':List bC},(∀g∈gs,ru p g) →DR p a l gs=some gs'→∀g∈gs',ru p g
 | [],gs,gs',h,e=>by cases e;exact h
 |i::r,gs,gs',h,e=>by
  obtain⟨g1,e1,e2⟩:=Option.bind_eq_some_iff.1 e;exact L6 (QT h e1) e2
theorem Sy{p:cZ}(hp:vY p){s:InT}(hs:wD s)(a:Gc)(h0:(gL p s a).1=0):VI p (gL p s a).2:=by
 unfold gL at h0 ⊢;split at h0
 ·cases h0
 rename_i hv;rw [if_neg hv];simp only [not_or,Bool.not_eq_false] at hv;have h:=l5.1 hv.1;split at h0
 ·rename_i hc;exact absurd h0 hc
 rename_i hc;rw [if_neg hc];simp only [ne_eq,Decidable.not_not] at hc;obtain⟨n0,n1,n2⟩:=mK hc h.now.1;have hck:=(iU h.gZ).1;have nT:=h.nT hp hs;obtain⟨f1,f2⟩:=Hu hp hck a.2.1
 cases hr:DR p a (o5 p.1 a.2.1) (bS s) with
 |none=>rw [hr] at h0;cases h0
 |some gs=>
  rw [hr] at h0;simp only at h0 ⊢;have inv:=zk hv.2 ⟨n0,n1⟩ f1 (⟨nT,(wJ h.vT).1,h.len⟩:Af p (bS s) 64) hr;split at h0
  ·cases h0
  ·rename_i hl;rw [if_neg hl];exact Kr h ⟨n0,n1⟩ inv.nT inv.up (L6 (LA nT h.vT) hr) (by omega)
theorem qb(t:Int)(g:bC):(pE t g).1=g.1∧(pE t g).2.1=g.2.1:=by
 unfold pE Uk;cases (tu (aL g)&&KH t g)<;>exact⟨rfl,rfl⟩
theorem Es(t:Int)(g:bC):aL (pE t g)=aL g∧bR (pE t g)=bR g:=by
 unfold pE Uk;cases (tu (aL g)&&KH t g)<;>exact⟨rfl,rfl⟩
theorem VH{t:Int}(ht: -1≤t∧t≤8589934592){g:bC}(h:VG g):VG (pE t g):=by
 unfold pE Uk;cases (tu (aL g)&&KH t g)
 ·exact h
 ·exact⟨h.len,h.rt,ht,h.sent,h.mem,h.up⟩
theorem QZ(rs:List dz)(now t:Int)(g:bC):iG rs now (pE t g)=iG rs now g:=by
 unfold iG;rw [(Es t g).1,(Es t g).2,(qb t g).1]
theorem zl{p:cZ}{s:InT}(h:VI p s)(hp:vY p)(hs:wD s){t:Int}(ht: -1≤t∧t≤8589934592):JJ p ((bS s).map (pE t)) ∧qC (pK p (cu s)) none ((bS s).map (pE t))=true:=by
 have nT:=h.nT hp hs;have g2:JJ p ((bS s).map (pE t)):=UD nT _ (fun g=>(qb t g).1) (fun g hg=>VH ht (nT g hg).1);refine⟨g2,Mr g2 ((wJ h.vT).1.map _ (qb t)) (fun _ ha=>by cases ha) (fun g hg=> ?_)⟩;obtain⟨x,hx,rfl⟩:=List.mem_map.1 hg;obtain⟨q,hb⟩:=yJ h.vT x hx;obtain⟨_,r,hr,_⟩:=nT x hx;have hb:=(HV hr).1 hb;rw [QZ];exact⟨hb.2.1,hb.2.2.2.of (qb t x).1 (qb t x).2 (fun m hm=>⟨m,by rw [(Es t x).1] at hm;exact hm,rfl⟩)⟩
theorem YO(s:InT)(hs:wD s):m17 ((s,s,()),())=some ((true,()),()):=by
 have hl:=hs.len;have q1:=RY (bX s) hs.Cj
 have q2:=gB (f:=Cv) (bS s) (fun i=>(((i:Int),()),((s,()),((s,()),())))) (.inr ((),())) (fun i e he hi=>by
  have hw:=aI (i:=i) (by omega);have hv:=(hs.vT e (List.mem_of_getElem? he)).1;have q:=YH e (by have:=hv.len;unfold big;omega) (fun m hm=>by have:=(gy (hv.mem m hm).lab).1;unfold big;omega);dsimp only [bS] at he hi;simp only [Cv,bV hi,aH,aC he,q,hw,Bool.not_true,au,sS]) (by dsimp only [bS];simp only [Cv,dG,au,sS])
 unfold m17;dsimp only [bX] at q1;simp only [bne_self_eq_false,q1,Bool.not_true,au,sS];refine aQ _ q2 ?_;simp only [au,sS]
theorem DZ:∀(l:List eP) (last:Int) (x:eP),r9 last (l++ [x])=0→r9 last l=0∧gH (DJ last l) x=0
 | [],last,x,h=>by
  have h:r9 last [x]=0:=h;unfold r9 at h;cases hc:(gH last x !=0)
  ·exact⟨rfl,by show gH last x=0;simpa using hc⟩
  ·rw [hc] at h;simp only [cond_true] at h;rw [h] at hc;cases hc
 |s::r,last,x,h=>by
  rw [List.cons_append] at h;unfold r9 at h ⊢;cases hc:(gH last s !=0)
  ·rw [hc] at h;simp only [cond_false] at h ⊢;exact DZ r s.1 x h
  ·rw [hc] at h;simp only [cond_true] at h;rw [h] at hc;cases hc
theorem Lx{last:Int}{x:eP}(h:gH last x=0):0≤x.2.1∧x.2.1< x.2.2.1∧x.2.2.1≤8589934592:=by
 unfold gH at h;cases h1:(decide (x.1< 1)||decide (x.1≤last))
 ·rw [h1] at h;cases h2:(decide (x.2.1< 0)||(decide (x.2.1≥x.2.2.1)||(decide (x.2.2.1>8589934592)||decide (x.2.2.2.1< 0))))
  ·simp only [Bool.or_eq_false_iff,decide_eq_false_iff_not] at h2;omega
  ·rw [h2] at h;cases h
 ·rw [h1] at h;cases h
theorem Tt{p:cZ}(hp:vY p){s:InT}(hs:wD s)(x:eP)(h0:(xg p s x).2.1=0):VI p (xg p s x).2.2:=by
 unfold xg at h0 ⊢;split at h0
 ·cases h0
 rename_i hv;rw [if_neg hv];have h:=l5.1 (by simpa using hv);split at h0
 ·cases h0
 rename_i h1;rw [if_neg h1];split at h0
 ·rename_i h2;exact absurd h0 h2
 rename_i h2;rw [if_neg h2];simp only [ne_eq,Decidable.not_not] at h2;have hnx:=h.next
 have e:jg (bX s++ [((bF s,x.2):eP)])=0∧(Am (bX s) (bF s,x.2)).2=bX s++ [(bF s,x.2)]:=by
  unfold Am at h2 ⊢;cases hc:(jg (bX s++ [((bF s,x.2):eP)]) !=0)
  ·exact⟨by simpa using hc,rfl⟩
  ·rw [hc] at h2;simp only [cond_true] at h2;rw [h2] at hc;cases hc
 have hg:=(DZ _ _ _ (Dv e.1).1).2;have hr:=Lx hg;have hr2: -1≤x.2.2.1∧x.2.2.1≤8589934592:=⟨by have h1:=hr.1;have h2:=hr.2.1;dsimp only at h1 h2;omega,hr.2.2⟩
 obtain⟨k1,k2⟩:=zl h hp hs hr2;rw [e.2];refine⟨h.gZ,h.now,by rw [show bS (cu s,(bS s).map (pE x.2.2.1),bX s++ [(bF s,x.2)],bF s+1,())=(bS s).map (pE x.2.2.1) from rfl,List.length_map];exact h.len,e.1,by show 1≤bF s+1;omega,fun y hy=> ?_,k2⟩
 show y.1< bF s+1
 rcases List.mem_append.1 hy with hy|hy
 ·have:=h.ids y hy;omega
 ·rw [List.mem_singleton.1 hy];show bF s< bF s+1;omega
theorem OZ:∀(a:List eP) (last:Int) (s:eP) (b:List eP),r9 last (a++s::b)=0→r9 last a=0∧gH (DJ last a) s=0∧r9 s.1 b=0
 | [],last,s,b,h=>by
  have h:r9 last (s::b)=0:=h;unfold r9 at h;cases hc:(gH last s !=0)
  ·rw [hc] at h;exact⟨rfl,by show gH last s=0;simpa using hc,h⟩
  ·rw [hc] at h;simp only [cond_true] at h;rw [h] at hc;cases hc
 |x::r,last,s,b,h=>by
  rw [List.cons_append] at h;unfold r9 at h;cases hc:(gH last x !=0)
  ·rw [hc] at h;simp only [cond_false] at h;obtain⟨h1,h2⟩:=OZ r x.1 s b h;refine⟨?_,h2⟩
   show(bif gH last x !=0 then gH last x else r9 x.1 r)=0
   rw [hc];exact h1
  ·rw [hc] at h;simp only [cond_true] at h;rw [h] at hc;cases hc
theorem DX:∀(a:List eP) (last:Int) (b:List eP),r9 last a=0→r9 (DJ last a) b=0→r9 last (a++b)=0
 | [],last,b,_,h=>h
 |x::r,last,b,h,h2=>by
  unfold r9 at h;rw [List.cons_append];unfold r9;cases hc:(gH last x !=0)
  ·rw [hc] at h;simp only [cond_false] at h ⊢;exact DX r x.1 b h h2
  ·rw [hc] at h;simp only [cond_true] at h;rw [h] at hc;cases hc
theorem Qm:∀(b:List eP) (l l':Int),l'≤l→r9 l b=0→r9 l' b=0
 | [],_,_,_,_=>rfl
 |x::r,l,l',hl,h=>by
  unfold r9 at h ⊢;cases hc:(gH l x !=0)
  ·rw [hc] at h;have h0:gH l x=0:=by simpa using hc
   have h1:gH l' x=0:=by
    unfold gH at h0 ⊢;cases h2:(decide (x.1< 1)||decide (x.1≤l))
    ·rw [h2] at h0
     have h3:(decide (x.1< 1)||decide (x.1≤l'))=false:=by
      simp only [Bool.or_eq_false_iff,decide_eq_false_iff_not] at h2 ⊢;omega
     rw [h3];exact h0
    ·rw [h2] at h0;cases h0
   rw [h1];exact h
  ·rw [hc] at h;simp only [cond_true] at h;rw [h] at hc;cases hc
theorem V4{l:List eP}{id t:Int}(h:jg l=0)(ht:0≤t∧t≤8589934592)(h0:(zN id t l).1=0):jg (zN id t l).2=0∧∀y∈(zN id t l).2,∃z∈l,z.1=y.1:=by
 unfold zN at h0 ⊢;rw [if_neg (by simpa using h)] at h0 ⊢;rcases xG id l with hn|⟨a,s,b,rfl,ha,hs⟩
 ·have e:(l.takeWhile fun y=>decide (y.1≠id))=l:=yV fun y hy=>decide_eq_true (hn y hy)
  rw [e,List.drop_length] at h0;cases h0
 ·rw [take_split ha hs,List.drop_left] at h0 ⊢;simp only at h0 ⊢;obtain⟨hg,hl⟩:=Dv h;obtain⟨c1,c2,c3⟩:=OZ a 0 s b hg
  have hsl:DJ 0 a< s.1:=by
   unfold gH at c2;cases h2:(decide (s.1< 1)||decide (s.1≤DJ 0 a))
   ·simp only [Bool.or_eq_false_iff,decide_eq_false_iff_not] at h2;omega
   ·rw [h2] at c2;cases c2
  have mk:∀L:List eP,L.length≤24→r9 0 L=0→jg L=0:=fun L hL hG=>by
   unfold jg;rw [show decide ((L.length:Int)>24)=false from decide_eq_false (by omega)];exact hG
  simp only [List.length_append,List.length_cons] at hl;unfold Qs at h0 ⊢;cases e1:decide (s.2.2.1≤t)
  ·rw [e1] at h0;cases e2:decide (s.2.1≥t)
   ·simp only [cond_false];refine⟨mk _ (by simp;omega) (DX a 0 _ c1 ?_),fun y hy=> ?_⟩
    ·unfold r9
     have h3:gH (DJ 0 a) (s.1,s.2.1,t,s.2.2.2)=0:=by
      have d1:=of_decide_eq_false e1;have d2:=of_decide_eq_false e2;unfold gH at c2 ⊢;cases h4:(decide (s.1< 1)||decide (s.1≤DJ 0 a))
      ·rw [h4] at c2;simp only [h4];cases h5:(decide (s.2.1< 0)||(decide (s.2.1≥s.2.2.1)||(decide (s.2.2.1>8589934592)||decide (s.2.2.2.1< 0))))
       ·rw [h5] at c2;simp only [Bool.or_eq_false_iff,decide_eq_false_iff_not] at h5
        have h6:(decide (s.2.1< 0)||(decide (s.2.1≥t)||(decide (t>8589934592)||decide (s.2.2.2.1< 0))))=false:=by
         simp only [Bool.or_eq_false_iff,decide_eq_false_iff_not];omega
        rw [h6];exact c2
       ·rw [h5] at c2;cases c2
      ·rw [h4] at c2;cases c2
     rw [h3];exact c3
    ·rcases List.mem_append.1 hy with hy|hy
     ·exact⟨y,by simp [hy],rfl⟩
     ·rcases List.mem_cons.1 hy with rfl|hy
      ·exact⟨s,by simp,rfl⟩
      ·exact⟨y,by simp [hy],rfl⟩
   ·simp only [cond_true,cond_false];refine⟨mk _ (by simp;omega) (DX a 0 b c1 (Qm b _ _ (by omega) c3)),fun y hy=>⟨y,?_,rfl⟩⟩;rcases List.mem_append.1 hy with hy|hy<;>simp [hy]
  ·rw [e1] at h0;cases h0
theorem Ud{p:cZ}(hp:vY p){s:InT}(hs:wD s)(id:Int)(h0:(wS p s id).1=0):VI p (wS p s id).2:=by
 unfold wS at h0 ⊢;split at h0
 ·cases h0
 rename_i hv;rw [if_neg hv];have h:=l5.1 (by simpa using hv);split at h0
 ·rename_i h2;exact absurd h0 h2
 rename_i h2;rw [if_neg h2];simp only [ne_eq,Decidable.not_not] at h2;have hnow:=h.now;obtain⟨e1,e2⟩:=V4 h.Cj h.now h2;have hm: -1≤FY (cu s) ∧FY (cu s) ≤8589934592:=by unfold FY;split<;>omega
 obtain⟨k1,k2⟩:=zl h hp hs hm;refine⟨h.gZ,h.now,?_,e1,h.next,fun y hy=> ?_,k2⟩
 ·show((bS s).map (pE (FY (cu s)))).length≤64
  rw [List.length_map];exact h.len
 ·obtain⟨z,hz,e⟩:=e2 y hy;rw [←e];exact h.ids z hz
theorem VI.z{p:cZ}(hp:vY p){s:InT}(h:VI p s)(hg:JJ p (bS s))(hs:Ab (bX s)):wD s:=
 ⟨by have:=h.len;omega,fun g hg'=>by
  obtain⟨hv,r,hr,_⟩:=hg g hg';have h1:=(List.getElem?_eq_some_iff.1 hr).1;have h2:=pV (iU h.gZ).1;have h3:=hv.rt;exact⟨hv,by omega⟩,hs⟩
theorem Gd{p:cZ}(hp:vY p){s:InT}(hs:wD s)(h:VI p s){now:Int}(hn:0≤now∧now≤8589934592):VI p (Pd p s now) ∧wD (Pd p s now):=by
 have hv:=X0 hp hs h hn;have g2:=ET (h.tk hp hs hn);exact⟨hv,hv.z hp (fun g hg=>g2 g (qd hg).1) hs.Cj⟩
end Go.Proofs.YtchnmpafhfjimaaGreatDoor
namespace Go.Proofs.YtchnmpafhfjimaaGreatDoor
open Go Go.Abs
theorem MU{p:cZ}(hp:vY p){s:InT}(h:VI p s)(hs:wD s)(a:Gc)(h0:(gL p s a).1=0):VI p (gL p s a).2∧wD (gL p s a).2:=by
 have hv:=Sy hp hs a h0
 have hsil:bX (gL p s a).2=bX s∨bX (gL p s a).2=[]:=by
  unfold gL;split
  ·exact .inr rfl
  ·split
   ·exact .inr rfl
   ·split
    ·exact .inr rfl
    ·split
     ·exact .inr rfl
     ·exact .inl rfl
 have hss:Ab (bX (gL p s a).2):=by
  rcases hsil with e|e
  ·rw [e];exact hs.Cj
  ·rw [e];exact⟨Nat.zero_le _,fun x hx=>by cases hx⟩
 refine⟨hv,hv.z hp ?_ hss⟩;intro g hg;have hgrp:=hv.vT;unfold gL at h0 hg;split at h0
 ·cases h0
 rename_i c1;rw [if_neg c1] at hg;simp only [not_or,Bool.not_eq_false] at c1;split at h0
 ·rename_i c2;exact absurd h0 c2
 rename_i c2;rw [if_neg c2] at hg;simp only [ne_eq,Decidable.not_not] at c2;obtain⟨n0,n1,n2⟩:=mK c2 h.now.1;have nT:=h.nT hp hs;obtain⟨f1,f2⟩:=Hu hp (iU h.gZ).1 a.2.1
 cases hr:DR p a (o5 p.1 a.2.1) (bS s) with
 |none=>rw [hr] at h0;cases h0
 |some gs=>
  rw [hr] at h0 hg;simp only at h0 hg;have inv:=zk c1.2 ⟨n0,n1⟩ f1 (⟨nT,(wJ h.vT).1,h.len⟩:Af p (bS s) 64) hr;split at h0
  ·cases h0
  ·rename_i hl;rw [if_neg hl] at hg;exact inv.nT g (qd hg).1
abbrev VQ:InT:=(0,[],[],1,())
theorem Zc{p:cZ}(h:zK p=0):VI p VQ:=⟨h,⟨by decide,by decide⟩,by decide,rfl,by decide,fun x hx=>(by cases hx),rfl⟩
theorem adb:wD VQ:=⟨by decide,fun g hg=>(by cases hg),⟨by decide,fun x hx=>(by cases hx)⟩⟩
end Go.Proofs.YtchnmpafhfjimaaGreatDoor
namespace Go.Proofs.YtchnmpafhfjimaaGreatDoor
open Go Go.Abs
end Go.Proofs.YtchnmpafhfjimaaGreatDoor
namespace Go.Proofs.YtchnmpafhfjimaaGreatDoor
open Go Go.Abs
end Go.Proofs.YtchnmpafhfjimaaGreatDoor
namespace Go.Proofs.YtchnmpafhfjimaaGreatDoor
open Go Go.Abs Go.Lab
def afL(p s:List UInt8):Bool:=s.take p.length==p
theorem Ot{p s:List UInt8}(h:afL p s=true):p.length≤s.length:=by
 have:=congrArg List.length (eq_of_beq h);rw [List.length_take] at this;omega
end Go.Proofs.YtchnmpafhfjimaaGreatDoor
namespace Go.Proofs.YtchnmpafhfjimaaGreatDoor
open Go Go.Abs
theorem ku:wD nI:=⟨by decide,fun g hg=>(by cases hg),⟨by decide,fun x hx=>(by cases hx)⟩⟩
theorem Zd{p:cZ}(hp:vY p){s:InT}(hs:wD s)(now:Int):wD (jO p s now).2.1:=by
 unfold jO;split
 ·exact ku
 rename_i hv;split
 ·exact ku
 rename_i h1;have h:=l5.1 (by simpa using hv);have:=mK (by simpa using h1) h.now.1;exact(Gd hp hs h ⟨this.1,this.2.1⟩).2
theorem Tg{p:cZ}(hp:vY p){s:InT}(hs:wD s){now:Int}(h0:(jO p s now).1=0):VI p (jO p s now).2.1:=by
 unfold jO at h0 ⊢;split at h0
 ·cases h0
 rename_i hv;rw [if_neg hv];split at h0
 ·rename_i h1;exact absurd h0 h1
 rename_i h1;rw [if_neg h1];have h:=l5.1 (by simpa using hv);have:=mK (by simpa using h1) h.now.1;exact(Gd hp hs h ⟨this.1,this.2.1⟩).1
theorem WO{l:List eP}(hl:Ab l)(h1:l.length≤999){x:eP}(hx:ND x):Ab (Am l x).2:=by
 unfold Am;cases jg (l++ [x]) !=0
 ·exact hl.app h1 hx
 ·exact⟨Nat.zero_le _,fun y hy=>(by cases hy)⟩
theorem acH{p:cZ}(hp:vY p){s:InT}(hs:wD s)(x:eP)(hx:ND x):wD (xg p s x).2.2:=by
 by_cases h0:(xg p s x).2.1=0
 ·have hv:=Tt hp hs x h0;unfold xg at h0 hv ⊢;split
  ·exact ku
  rename_i c1;rw [if_neg c1] at h0 hv;have h:=l5.1 (by simpa using c1);split
  ·exact ku
  rename_i c2;rw [if_neg c2] at h0 hv;split
  ·exact ku
  rename_i c3;rw [if_neg c3] at h0 hv;have hx':ND (bF s,x.2):=hx;have hr:=WO hs.Cj (by have:=h.short;omega) hx';refine hv.z hp ?_ hr
  have hr2: -1≤x.2.2.1∧x.2.2.1≤8589934592:=by
   have e:jg (bX s++ [((bF s,x.2):eP)])=0:=by
    simp only [ne_eq,Decidable.not_not] at c3;unfold Am at c3;cases hc:(jg (bX s++ [((bF s,x.2):eP)]) !=0)
    ·simpa using hc
    ·rw [hc] at c3;simp only [cond_true] at c3;exact c3
   have hg:=(DZ _ _ _ (Dv e).1).2;have hr:=Lx hg;exact⟨by have h1:=hr.1;have h2:=hr.2.1;dsimp only at h1 h2;omega,hr.2.2⟩
  exact(zl h hp hs hr2).1
 ·unfold xg at h0 ⊢;split
  ·exact ku
  rename_i c1;rw [if_neg c1] at h0;split
  ·exact ku
  rename_i c2;rw [if_neg c2] at h0;split
  ·exact ku
  rename_i c3;rw [if_neg c3] at h0;exact absurd rfl h0
theorem Wm{l:List eP}(hl:Ab l)(id t:Int):Ab (zN id t l).2:=by
 unfold zN;split
 ·exact⟨Nat.zero_le _,fun y hy=>(by cases hy)⟩
 rcases xG id l with hn|⟨a,s,b,rfl,ha,hs⟩
 ·have e:(l.takeWhile fun y=>decide (y.1≠id))=l:=yV fun y hy=>decide_eq_true (hn y hy)
  rw [e,List.drop_length];exact⟨Nat.zero_le _,fun y hy=>(by cases hy)⟩
 ·rw [take_split ha hs,List.drop_left];simp only;have h1:=hl.1;simp only [List.length_append,List.length_cons] at h1;have hsz:ND s:=hl.2 s (by simp);unfold Qs;cases decide (s.2.2.1≤t)
  ·cases decide (s.2.1≥t)
   ·simp only [cond_false];refine⟨by simp;omega,fun y hy=> ?_⟩;rcases List.mem_append.1 hy with hy|hy
    ·exact hl.2 y (by simp [hy])
    ·rcases List.mem_cons.1 hy with rfl|hy
     ·exact hsz
     ·exact hl.2 y (by simp [hy])
   ·simp only [cond_true,cond_false];refine⟨by simp;omega,fun y hy=> ?_⟩;rcases List.mem_append.1 hy with hy|hy
    ·exact hl.2 y (by simp [hy])
    ·exact hl.2 y (by simp [hy])
  ·exact⟨Nat.zero_le _,fun y hy=>(by cases hy)⟩
theorem acK{p:cZ}(hp:vY p){s:InT}(hs:wD s)(id:Int):wD (wS p s id).2:=by
 by_cases h0:(wS p s id).1=0
 ·have hv:=Ud hp hs id h0;unfold wS at h0 hv ⊢;split
  ·exact ku
  rename_i c1;rw [if_neg c1] at h0 hv;have h:=l5.1 (by simpa using c1);split
  ·exact ku
  rename_i c2;rw [if_neg c2] at h0 hv;have hnow:=h.now;have hm: -1≤FY (cu s) ∧FY (cu s) ≤8589934592:=by unfold FY;split<;>omega
  exact hv.z hp (zl h hp hs hm).1 (Wm hs.Cj _ _)
 ·unfold wS at h0 ⊢;split
  ·exact ku
  rename_i c1;rw [if_neg c1] at h0;split
  ·exact ku
  rename_i c2;rw [if_neg c2] at h0;exact absurd rfl h0
abbrev QS(y:Br):Int:=y.1
abbrev Ug(y:Br):Int:=y.2.1
abbrev afP(y:Br):Int:=y.2.2.1
abbrev UL(y:Br):ByteArray:=y.2.2.2.1
abbrev nF(y:Br):List ByteArray:=y.2.2.2.2.1
abbrev nR(y:Br):List ByteArray:=y.2.2.2.2.2.1
def Rk(z:Br)(rt:Int)(k:ByteArray):Prop:=Ug z=rt∧UL z=k
structure GI(p:cZ)(Q:List LT→Prop)(nt:List Br)(now:Int)(g:bC):Prop where
 lab:∀m∈aL g,Q (bP m) ∧g.1.toNat∈o5 p.1 (bP m)
 told:∀m∈aL g,(cO m=false∨dI m=true) →∃z∈nt,Rk z g.1 g.2.1∧aK m∈nF z
 sent:bR g≠ -1→∃z∈nt,Rk z g.1 g.2.1∧QS z=bR g
 due:bR g≠ -1→fu g= -1∨bR g+j3 (Dm p g.1) ≤fu g
 past:∀z∈nt,Rk z g.1 g.2.1→QS z≤bR g∨QS z+j3 (Dm p g.1) ≤now
 now:bR g≤now
theorem GI.app{p:cZ}{Q:List LT→Prop}{nt:List Br}{now:Int}{g:bC}(h:GI p Q nt now g){more:List Br}(hm:∀z∈more,¬ Rk z g.1 g.2.1):GI p Q (nt++more) now g:=
 ⟨h.lab,fun m hm' c=>by
  obtain⟨z,hz,e⟩:=h.told m hm' c;exact⟨z,List.mem_append_left _ hz,e⟩,fun c=>by
  obtain⟨z,hz,e⟩:=h.sent c;exact⟨z,List.mem_append_left _ hz,e⟩,h.due,fun z hz e=>by
  rcases List.mem_append.1 hz with hz|hz
  ·exact h.past z hz e
  ·exact absurd e (hm z hz),h.now⟩
theorem GI.later{p:cZ}{Q:List LT→Prop}{nt:List Br}{now now':Int}{g:bC}(h:GI p Q nt now g)(hn:now≤now'):GI p Q nt now' g:=
 ⟨h.lab,h.told,h.sent,h.due,fun z hz e=>by
  rcases h.past z hz e with a|a
  ·exact .inl a
  ·exact .inr (by omega),by have:=h.now;omega⟩
structure Good(p:cZ)(Q:List LT→Prop)(pre:List Br)(y:Br):Prop where
 rt:0≤Ug y∧Ug y< p.1.length
 pol:afP y=(Dm p (Ug y)).2.2.1
 some:0< (nF y).length+(nR y).length
 key:∀k,k∈nF y∨k∈nR y→∃l,Q l∧cB l=true∧k=gX (fC l) ∧(Ug y).toNat∈o5 p.1 l∧xP (Dm p (Ug y)) l=UL y
 up:(nF y).Pairwise Less
 res:∀k∈nR y,∃z∈pre,Rk z (Ug y) (UL y) ∧k∈nF z
 apart:∀z∈pre,Rk z (Ug y) (UL y) →QS z+j3 (Dm p (Ug y)) ≤QS y
 late:∀z∈pre,QS z≤QS y
def AG(p:cZ)(Q:List LT→Prop)(nt:List Br):Prop:=∀a y b,nt=a++y::b→Good p Q a y
theorem AG.nil(p:cZ)(Q:List LT→Prop):AG p Q []:=fun a y b e=>by cases a<;>cases e
structure NI(p:cZ)(Q:List LT→Prop)(s:InT)(nt:List Br):Prop where
 gi:∀g∈bS s,GI p Q nt (cu s) g
 gone:∀z∈nt,(∀g∈bS s,¬ Rk z g.1 g.2.1) →QS z+j3 (Dm p (Ug z)) ≤cu s
 good:AG p Q nt
 at_:∀z∈nt,0≤QS z∧QS z≤cu s
structure NG(p:cZ)(Q:List LT→Prop)(nt:List Br)(now:Int)(gs:List bC):Prop where
 gi:∀g∈gs,GI p Q nt now g
 gone:∀z∈nt,(∀g∈gs,¬ Rk z g.1 g.2.1) →QS z+j3 (Dm p (Ug z)) ≤now
structure TJ(p:cZ)(mk:ByteArray)(i:Nat)(key:ByteArray)(nt0:List Br)(at_ W:Int)(s:InT)(nt:List Br):Prop where
 Cj:bX s=[]
 now:at_≤cu s
 mem:∃more,nt=nt0++more∧(∀z∈more,Rk z i key→mk∈nF z∧at_≤QS z) ∧∃g∈bS s,g.1=i∧g.2.1=key∧∃m∈aL g,aK m=mk∧cO m=true∧
  ((dI m=false∧(∀z∈more,¬ Rk z i key) ∧fu g≠ -1∧fu g≤W∧cu s≤W) ∨∃a z b,more=a++z::b∧(∀y∈a,¬ Rk y i key) ∧Rk z i key∧QS z≤W)
theorem GI.mono{p:cZ}{Q Q':List LT→Prop}{nt:List Br}{now:Int}{g:bC}(h:GI p Q nt now g)(f:∀l,Q l→Q' l):GI p Q' nt now g:=
 ⟨fun m hm=>⟨f _ (h.lab m hm).1,(h.lab m hm).2⟩,h.told,h.sent,h.due,h.past,h.now⟩
theorem tV.t{r:Ac}(h:tV r):TSz r:=by
 obtain⟨h1,h2,h3,h4,h5,_⟩:=h;have h6:=h5.length_le;rw [show ic.length=4 from rfl] at h6;exact⟨⟨by unfold big;omega,fun m hm=>(h3 m hm).z⟩,⟨by unfold big;omega,fun m hm=>(h4 m hm).z⟩,by unfold big;omega,fun k hk=>by have:=(zH k (h5.subset hk)).2;unfold big;omega⟩
theorem tV.gZ{r:Ac}(h:tV r):AU r=0:=by
 obtain⟨h1,h2,h3,h4,h5,h6,h7⟩:=h;have h8:=h5.length_le;rw [show ic.length=4 from rfl] at h8;have:=List.length_pos_iff.2 h6;have:=List.length_pos_iff.2 h7;unfold AU
 rw [beq_eq_false_iff_ne.2 (show(r.1.length:Int) ≠0 by omega),beq_eq_false_iff_ne.2 (show(r.2.1.length:Int) ≠0 by omega),decide_eq_false (show¬(r.1.length:Int)>8 by omega),decide_eq_false (show¬(r.2.1.length:Int)>8 by omega),decide_eq_false (show¬(r.2.2.1.length:Int)>12 by omega),
  GL h3,GL h4,KN h5]
 rfl
theorem M9{l:List Ac}(hl:l.length≤3)(h:∀r∈l,tV r):tq l=0:=by
 unfold tq;rw [decide_eq_false (by omega),cond_false];clear hl
 induction l with
 |nil=>rfl
 |cons r l ih=>
  unfold Je;rw [(h r (by simp)).gZ];exact ih fun x hx=>h x (by simp [hx])
structure Lg(p:cZ):Prop where
 rt:ug p.1
 inl:p.2.1.length≤3
 inh:∀r∈p.2.1,tV r
 exp:0≤p.2.2.1∧p.2.2.1≤1000
theorem Lg.z{p:cZ}(h:Lg p):vY p:=⟨h.rt.z,by have:=h.inl;unfold big;omega,fun r hr=>(h.inh r hr).t,by have:=h.inl;unfold big;omega,fun r hr=>(h.inh r hr).z⟩
theorem Lg.gZ{p:cZ}(h:Lg p):zK p=0:=by
 have:=h.exp;unfold zK;rw [h.rt.gZ,M9 h.inl h.inh,if_neg (by simp),if_neg (by simp),if_neg (by omega)]
theorem MX(n:Int)(d:fZ)(hd:qZ d)(h0:0≤n)(h1:n≤10):∃(p:cZ) (d':fZ),m12 ((n,()),((d,()),()))=some ((),((d',()),(((p.2.2.1,()),()),(p.1,(p.2.1,()))))) ∧qZ d'∧Lg p:=by
 obtain⟨rs,d1,e1,hd1,g1⟩:=LQ n d hd h0 h1;obtain⟨is,d2,e2,hd2,g2,g3⟩:=TI d1 hd1;obtain⟨x,d3,e3,hd3,g4⟩:=pq [0,0,200,1000] d2 hd2 (by simp) (by simp);refine⟨(rs,is,x,()),d3,?_,hd3,g1,g2,g3,?_⟩
 ·unfold m12;simp only [e1,e2,e3,Option.bind_some]
 ·simp only [List.mem_cons,List.not_mem_nil,or_false] at g4;dsimp only;omega
structure ahT(l:List Gc)(t:Int):Prop where
 lab:∀a∈l,p9 ic a.2.1
 at_:∀a∈l,0≤a.1∧a.1≤t
 up:l.Pairwise fun a b=>a.1≤b.1
structure nP(p:cZ)(s:InT):Prop where
 vi:VI p s
 z:wD s
theorem U1{p:cZ}(hp:vY p){s:InT}(h:nP p s){a:Gc}(h0:(gL p s a).1=0):nP p (gL p s a).2:=by
 obtain⟨a,b⟩:=MU hp h.vi h.z a h0;exact⟨a,b⟩
theorem Xu{p:cZ}(hp:vY p){s:InT}(h:nP p s){t:Int}(h0:(jO p s t).1=0):nP p (jO p s t).2.1:=⟨Tg hp h.z h0,Zd hp h.z t⟩
theorem Y7{p:cZ}(hp:vY p){s:InT}(h:nP p s){x:eP}(hx:ND x)(h0:(xg p s x).2.1=0):nP p (xg p s x).2.2:=⟨Tt hp h.z x h0,acH hp h.z x hx⟩
theorem Zk{p:cZ}(hp:vY p){s:InT}(h:nP p s){id:Int}(h0:(wS p s id).1=0):nP p (wS p s id).2:=⟨Ud hp h.z id h0,acK hp h.z id⟩
theorem ZH{p:cZ}(h:zK p=0):nP p VQ:=⟨Zc h,adb⟩
set_option maxRecDepth 1000000 in
theorem Si:m10 ((),())=some ((true,()),()):=by kernel_rfl
theorem U8{p:cZ}(hp:vY p){s:InT}(hs:wD s)(now:Int):
  ∃(n:Nat) (blk:List bC),XY ((p,s,now,()),())=some (((jO p s now).1,()),(((jO p s now).2.1.1,(0,n),(jO p s now).2.1.2.2.2.1,()),()),(jO p s now).2.2,blk,(jO p s now).2.1.2.2.1,()) ∧n≤blk.length∧blk.take n=(jO p s now).2.1.2.1:=by
 have q1:=E9 p hp s hs;have q3:=Rx s now;unfold jO;cases hv:jb p s
 ·rw [if_pos rfl];rw [hv] at q1;unfold XY;simp only [q1,au,sS];exact⟨0,[],rfl,Nat.le_refl _,rfl⟩
 ·rw [if_neg (by simp)];rw [hv] at q1;have h:=l5.1 hv;by_cases hc:Fw (cu s) now=0
  ·rw [if_neg (by simpa using hc)];rw [hc] at q3;obtain⟨n0,n1,n2⟩:=mK hc h.now.1;have tk:=h.tk hp hs ⟨n0,n1⟩;obtain⟨n,blk,e,e1,e2⟩:=ZF tk;refine⟨n,blk,?_,e1,e2⟩;unfold XY;simp only [q1,q3,e,bne_self_eq_false,au,sS];rfl
  ·rw [if_pos hc];unfold XY;simp only [q1,q3,bne_iff_ne.2 hc,au,sS];exact⟨0,[],rfl,Nat.le_refl _,rfl⟩
theorem Xo{p:cZ}(hp:vY p){s:InT}(hs:wD s)(x:eP)(hx:ND x):W9 ((p,s,x,()),())=M8 (xg p s x):=by
 have q1:=E9 p hp s hs;unfold xg;cases hv:jb p s
 ·rw [if_pos rfl];rw [hv] at q1;unfold W9;simp only [q1,M8,au,sS]
 rw [if_neg (by simp)];rw [hv] at q1;have h:=l5.1 hv;have nT:=h.nT hp hs;have hl:=h.len;have hvg:∀g∈bS s,VG g:=fun g hg=>(nT g hg).1
 have hx':ND (bF s,x.2):=hx;have q3:=ZO (bX s) hs.Cj (by have:=h.short;omega) (bF s,x.2) hx';have q5:=vz s (by omega) hvg hs.Cj;have hnx:=h.next;by_cases h1:bF s≥8589934592
 ·rw [if_pos h1];dsimp only [bF] at h1;unfold W9;simp only [q1,h1,decide_true,M8,au,sS]
 rw [if_neg h1];have q6:=Pj x.2.2.1 (bS s) (by omega) hvg (cu s) (bF s+1) (Am (bX s) (bF s,x.2)).2;have w1:aT (bF s+1)=bF s+1:=bO (by omega) (by omega);dsimp only [bF,bX,cu,bS] at h1 q3 q5 q6 w1 ⊢;generalize Am s.2.2.1 (s.2.2.2.1,x.2)=A at q3 q6 ⊢;by_cases h2:A.1=0
 ·rw [if_neg (by simpa using h2)];unfold W9;simp only [q1,h1,decide_false,q3,h2,bne_self_eq_false,q5,w1,q6,eq_self,List.length_map,M8,au,sS]
 ·rw [if_pos h2];unfold W9;simp only [q1,h1,decide_false,q3,bne_iff_ne.2 h2,M8,au,sS]
theorem VF(l:List eP)(hl:Ab l)(id t:Int):Vv ((l,id,t,()),())=some (((zN id t l).1,()),((zN id t l).2,())):=by
 unfold zN;by_cases h:jg l=0
 ·rw [if_neg (by simpa using h)];rcases xG id l with hn|⟨a,s,b,rfl,ha,hs⟩
  ·have e:(l.takeWhile fun y=>decide (y.1≠id))=l:=by
    exact yV fun y hy=>decide_eq_true (hn y hy)
   rw [e,List.drop_length];exact TD l hl id t h hn
  ·rw [take_split ha hs,List.drop_left];subst hs;exact Wz a s b hl t h ha
 ·rw [if_pos h];exact VK l hl id t h
theorem Wd{p:cZ}(hp:vY p){s:InT}(hs:wD s)(id:Int):YR ((p,s,id,()),())=P6 (wS p s id):=by
 have q1:=E9 p hp s hs;unfold wS;cases hv:jb p s
 ·rw [if_pos rfl];rw [hv] at q1;unfold YR;simp only [q1,P6,au,sS]
 rw [if_neg (by simp)];rw [hv] at q1;have h:=l5.1 hv;have nT:=h.nT hp hs;have hl:=h.len;have hnow:=h.now;have hvg:∀g∈bS s,VG g:=fun g hg=>(nT g hg).1
 have q3:=VF (bX s) hs.Cj id (cu s);have q5:=vz s (by omega) hvg hs.Cj;have w1:aT (cu s+1)=cu s+1:=bO (by omega) (by omega);have q6:=Pj (FY (cu s)) (bS s) (by omega) hvg (cu s) (bF s) (zN id (cu s) (bX s)).2;unfold FY at q6 ⊢;dsimp only [bF,bX,cu,bS] at q3 q5 q6 w1 ⊢;generalize zN id s.1 s.2.2.1=A at q3 q6 ⊢;by_cases h2:A.1=0
 ·rw [if_neg (by simpa using h2)];unfold YR;simp only [q1,q3,h2,bne_self_eq_false,q5,w1,MC,q6,eq_self,List.length_map,P6,au,sS]
 ·rw [if_pos h2];unfold YR;simp only [q1,q3,bne_iff_ne.2 h2,P6,au,sS]
end Go.Proofs.YtchnmpafhfjimaaGreatDoor
namespace Go.Proofs.YtchnmpafhfjimaaGreatDoor
open Go Go.Abs
theorem Np{p:cZ}{s:InT}{a:Gc}(h:(gL p s a).1≠0):(gL p s a).2=nI:=by
 unfold gL at h ⊢;split
 ·rfl
 ·rename_i c1;rw [if_neg c1] at h;split
  ·rfl
  ·rename_i c2;rw [if_neg c2] at h;split
   ·rfl
   ·rename_i gs e;simp only [e] at h;split
    ·rfl
    ·rename_i c3;rw [if_neg c3] at h;exact absurd rfl h
theorem Qc{p:cZ}{s:InT}{t:Int}(h:(jO p s t).1≠0):(jO p s t).2.1=nI:=by
 unfold jO at h ⊢;split
 ·rfl
 ·rename_i c1;rw [if_neg c1] at h;split
  ·rfl
  ·rename_i c2;rw [if_neg c2] at h;exact absurd rfl h
theorem TV{p:cZ}{s:InT}{x:eP}(h:(xg p s x).2.1≠0):(xg p s x).2.2=nI:=by
 unfold xg at h ⊢;split
 ·rfl
 ·rename_i c1;rw [if_neg c1] at h;split
  ·rfl
  ·rename_i c2;rw [if_neg c2] at h;split
   ·rfl
   ·rename_i c3;rw [if_neg c3] at h;exact absurd rfl h
theorem TM{p:cZ}{s:InT}{id:Int}(h:(wS p s id).1≠0):(wS p s id).2=nI:=by
 unfold wS at h ⊢;split
 ·rfl
 ·rename_i c1;rw [if_neg c1] at h;split
  ·rfl
  ·rename_i c2;rw [if_neg c2] at h;exact absurd rfl h
abbrev vdS(i:Int)(s:InT)(p:cZ)(d:fZ):(Int×Unit)×(InT×Unit)×((Int×Unit)×Unit)×(fZ×Unit)×List dz×List Ac×Unit:=((i,()),(s,()),((p.2.2.1,()),()),(d,()),p.1,p.2.1,())
theorem NP{p:cZ}(hp:vY p)(i:Int)(d:fZ)(s:InT)(hi:0≤i∧i< 14)(hd:qZ d)(hs:nP p s):
  ∃(d':fZ) (s':InT),jA (vdS i s p d)=some (.inl (vdS (i+1) s' p d')) ∧qZ d'∧nP p s':=by
 have z0:m17 ((((0,[],[],0,()):InT),((0,[],[],0,()):InT),()),())=some ((true,()),()):=YO nI ku
 have val:∀{s:InT},nP p s→Un (((p.1,p.2.1,p.2.2.1,()),s,()),())=some ((true,()),()) ∧ZQ (((p.1,p.2.1,p.2.2.1,()),s,()),())=some ((true,()),()):=fun h=>by
  have a:=E9 p hp _ h.z;have b:=YC p hp _ h.z;rw [l5.2 h.vi] at a b;exact⟨a,b⟩
 have val4:∀{s:InT},nP p s→Un (((p.1,p.2.1,p.2.2.1,()),(s.1,s.2.1,s.2.2.1,s.2.2.2.1,()),()),())=some ((true,()),()) ∧ZQ (((p.1,p.2.1,p.2.2.1,()),(s.1,s.2.1,s.2.2.1,s.2.2.2.1,()),()),())=some ((true,()),()):=fun h=>val h
 obtain⟨w1,w2⟩:=val hs;obtain⟨x,d1,e1,hd1,g1⟩:=pq [0,1,10,30,400,-1] d hd (by simp) (by simp);obtain⟨k,d2,e2,hd2,b2,_⟩:=dw 6 d1 hd1 (by omega);have b2:=b2 (by omega);have c0:decide (i< 14)=true:=decide_eq_true hi.2;have hw:aT (i+1)=i+1:=bO (by omega) (by omega);have hk:k=0∨k=1∨k=2∨k=3∨k=4∨k=5:=by omega
 have alert:k=0∨k=1∨k=2→∃(d':fZ) (s':InT),jA (vdS i s p d)=some (.inl (vdS (i+1) s' p d')) ∧qZ d'∧nP p s':=by
  intro hk;obtain⟨ls,d3,e3,hd3,g3⟩:=JS d2 hd2;obtain⟨y,d4,e4,hd4,_⟩:=dw 3 d3 hd3 (by omega);obtain⟨n,blk,q,q1,q2⟩:=UW hp hs.z (aT (cu s+x),ls,decide (y>0),()) (ZK g3);have q:UI (((p.1,p.2.1,p.2.2.1,()),s,(aT (s.1+x),ls,decide (y>0),()),()),())=_:=q;have hg:=U1 hp hs (a:=(aT (cu s+x),ls,decide (y>0),()));have hz:=Np (p:=p) (s:=s) (a:=(aT (cu s+x),ls,decide (y>0),()));dsimp only [cu] at q q2 hg hz;generalize gL p s (aT (s.1+x),ls,decide (y>0),())=V at q q2 hg hz;have c1:decide (0+n≤blk.length)=true:=decide_eq_true (by omega);by_cases h0:V.1=0
  ·obtain⟨v1,v2⟩:=val4 (hg h0);refine⟨d4,V.2,?_,hd4,hg h0⟩;rcases hk with rfl|rfl|rfl<;>simp only [jA,c0,c1,e1,e2,e3,e4,q,q2,h0,hw,v1,v2,beq_self_eq_true,Int.reduceBEq,List.drop_zero,au,sS]<;>rfl
  ·have e0:=hz h0;obtain⟨V1,V2⟩:=V;dsimp only at e0 q q2 h0;subst e0;dsimp only at q q2;refine⟨d4,s,?_,hd4,hs⟩;rcases hk with rfl|rfl|rfl<;>simp only [jA,c0,c1,e1,e2,e3,e4,q,q2,beq_eq_false_iff_ne.2 h0,hw,w1,w2,z0,beq_self_eq_true,Int.reduceBEq,List.drop_zero,au,sS]<;>rfl
 rcases hk with rfl|rfl|rfl|rfl|rfl|rfl
 ·exact alert (.inl rfl)
 ·exact alert (.inr (.inl rfl))
 ·exact alert (.inr (.inr rfl))
 ·obtain⟨n,blk,q,q1,q2⟩:=U8 hp hs.z (aT (cu s+x));have q:XY (((p.1,p.2.1,p.2.2.1,()),s,aT (s.1+x),()),())=_:=q;have hg:=Xu hp hs (t:=aT (cu s+x));have hz:=Qc (p:=p) (s:=s) (t:=aT (cu s+x));dsimp only [cu] at q q2 hg hz;generalize jO p s (aT (s.1+x))=V at q q2 hg hz;have c1:decide (0+n≤blk.length)=true:=decide_eq_true (by omega);by_cases h0:V.1=0
  ·obtain⟨v1,v2⟩:=val4 (hg h0);refine⟨d2,V.2.1,?_,hd2,hg h0⟩;simp only [jA,c0,c1,e1,e2,q,q2,h0,hw,v1,v2,beq_self_eq_true,Int.reduceBEq,List.drop_zero,au,sS]
  ·have e0:=hz h0;obtain⟨V1,V2,V3⟩:=V;dsimp only at e0 q q2 h0;subst e0;dsimp only at q q2;refine⟨d2,s,?_,hd2,hs⟩;simp only [jA,c0,c1,e1,e2,q,q2,beq_eq_false_iff_ne.2 h0,hw,w1,w2,z0,beq_self_eq_true,Int.reduceBEq,List.drop_zero,au,sS]
 ·obtain⟨f,t,b,ms,d3,e3,hd3,g3⟩:=Ht 0 d2 hd2;have q:W9 (((p.1,p.2.1,p.2.2.1,()),s,(0,f,t,b,ms,()),()),())=_:=Xo hp hs.z (0,f,t,b,ms,()) g3.z;have hg:=Y7 hp hs (x:=(0,f,t,b,ms,())) g3.z;have hz:=TV (p:=p) (s:=s) (x:=(0,f,t,b,ms,()));generalize xg p s (0,f,t,b,ms,())=V at q hg hz;by_cases h0:V.2.1=0
  ·obtain⟨v1,v2⟩:=val4 (hg h0);refine⟨d3,V.2.2,?_,hd3,hg h0⟩;simp only [jA,c0,e1,e2,e3,q,M8,h0,hw,v1,v2,beq_self_eq_true,Int.reduceBEq,au,sS]
  ·have e0:=hz h0;obtain⟨V1,V2,V3⟩:=V
   try dsimp only at e0 q h0
   subst e0
   try dsimp only at q
   refine⟨d3,s,?_,hd3,hs⟩;simp only [jA,c0,e1,e2,e3,q,M8,beq_eq_false_iff_ne.2 h0,hw,w1,w2,z0,beq_self_eq_true,Int.reduceBEq,au,sS]
 ·obtain⟨y,d3,e3,hd3,b3,_⟩:=dw 3 d2 hd2 (by omega);have q:YR (((p.1,p.2.1,p.2.2.1,()),s,aT (1+y),()),())=_:=Wd hp hs.z (aT (1+y));have hg:=Zk hp hs (id:=aT (1+y));have hz:=TM (p:=p) (s:=s) (id:=aT (1+y));generalize wS p s (aT (1+y))=V at q hg hz;by_cases h0:V.1=0
  ·obtain⟨v1,v2⟩:=val4 (hg h0);refine⟨d3,V.2,?_,hd3,hg h0⟩;simp only [jA,c0,e1,e2,e3,q,P6,h0,hw,v1,v2,beq_self_eq_true,Int.reduceBEq,au,sS]
  ·have e0:=hz h0;obtain⟨V1,V2⟩:=V
   try dsimp only at e0 q h0
   subst e0
   try dsimp only at q
   refine⟨d3,s,?_,hd3,hs⟩;simp only [jA,c0,e1,e2,e3,q,P6,beq_eq_false_iff_ne.2 h0,hw,w1,w2,z0,beq_self_eq_true,Int.reduceBEq,au,sS]
theorem NN{p:cZ}(hp:vY p):∀(n:Nat) (i:Int) (d:fZ) (s:InT),i+n=14→0≤i→qZ d→nP p s→aB jA (vdS i s p d)=some (.inr ((),())):=by
 intro n
 induction n with
 |zero=>
  intro i d s hi h0 hd hs;have:decide (i< 14)=false:=decide_eq_false (by omega);exact aF (by simp only [jA,this,au,sS])
 |succ n ih=>
  intro i d s hi h0 hd hs;obtain⟨d',s',e,k1,k2⟩:=NP hp i d s (by omega) hd hs;exact(aN e).trans (ih (i+1) d' s' (by omega) (by omega) k1 k2)
theorem acr(t:List Int):m8 ((t,()),())=some ((true,()),()):=by
 unfold m8;simp only [light,au,sS];by_cases ht:t.length≤500
 ·obtain⟨p,d1,e1,hd1,gp⟩:=MX 3 (t,0,()) (adZ ht) (by omega) (by omega);have h:=NN gp.z 14 0 d1 VQ (by omega) (by omega) hd1 (ZH gp.gZ);have q26:m26 ((),())=some ((),((0,1,()),()),()):=rfl;simp only [decide_eq_true ht,roll,e1,q26,au,sS];rw [show aB jA ((0,()),((0,[],[],1,()),()),((p.2.2.1,()),()),(d1,()),p.1,p.2.1,())=_ from h];simp only [Si,au,sS]
 ·simp only [decide_eq_false ht,Si,au,sS]
theorem ag3:∀x,Abs.PE [.row (.int .i64)] x→m8 (x,())=some ((true,()),()):=fun x _=>acr x.1
end Go.Proofs.YtchnmpafhfjimaaGreatDoor
