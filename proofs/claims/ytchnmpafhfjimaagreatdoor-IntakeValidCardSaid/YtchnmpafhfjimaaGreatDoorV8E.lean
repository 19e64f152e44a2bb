/- Lemmas for the statement of the last text of this claim. -/
import Derived.Test.YtchnmpafhfjimaaGreatDoorV8D
set_option linter.unusedSimpArgs false
set_option linter.unusedVariables false
namespace Go.Proofs.YtchnmpafhfjimaaGreatDoor
open Go Go.Abs Go.Lab
def Dg(p s:ByteArray):Bool:=like (bl p) (bl s)
theorem Zq{c d:UInt8}(h:u8 c=u8 d):c=d:=UInt8.toNat_inj.1 (by unfold u8 at h;omega)
theorem Jt(c d:UInt8):(u8 c==u8 d)=(c==d):=by
 by_cases h:c=d
 ·subst h;simp
 ·rw [beq_eq_false_iff_ne.2 h,beq_eq_false_iff_ne.2 (fun e=>h (Zq e))]
theorem Sj(c:UInt8):(u8 c==42)=decide (c=42):=by
 rw [show(42:Int)=u8 42 from rfl,Jt];by_cases h:c=42<;>simp [h]
theorem X9(c:UInt8):(u8 c==63)=(c==63):=Jt c 63
def ZN:Option (Nat×Nat) →Int→Int→Prop
 |none,s,_=>s= -1
 |some q,s,f=>s=((q.1:Nat):Int) ∧f=((q.2:Nat):Int)
structure LS(P V:ByteArray)(p v:Nat)(star:Option (Nat×Nat))(a:(Int×Int×Int×Int×ByteArray×ByteArray×Unit)×Unit):Prop where
 inv:rX (bl P) (bl V) p v star
 st:∃(s f:Int),a=(((p:Int),(v:Int),s,f,V,P,()),()) ∧ZN star s f
def Sb(P V:ByteArray)(p:Nat)(star:Option (Nat×Nat)):Nat:=(V.size+1 -(star.map (·.2)).getD 0)*(P.size+1)+(P.size - p)
theorem QW(P V:ByteArray)(hP:P.size≤4294967295)(hV:V.size≤4294967295):∀(n p v:Nat) (star:Option (Nat×Nat)) (a),LS P V p v star a→Sb P V p star≤n→
  ∃d,aB fV a=some d∧((d= .inl ((false,()),()) ∧Dg P V=false) ∨∃q:Nat,q≤P.size∧d= .inr (((q:Int),P,()),()) ∧Dg P V=((bl P).drop q).all (· ==42)):=by
 intro n
 induction n with
 |zero=>
  intro p v star a h hn
  exfalso
  have hp:=h.inv.hp;have hv:=h.inv.hv;rw [bI] at hp hv;unfold Sb at hn
  have hf:(star.map (·.2)).getD 0≤V.size:=by
   cases star with
   |none=>exact Nat.zero_le _
   |some q=>have:=(h.inv.ok:_∧_∧_).2.1;simp;omega
  have:1 *(P.size+1) ≤(V.size+1 -(star.map (·.2)).getD 0)*(P.size+1):=Nat.mul_le_mul_right _ (by omega);omega
 |succ n ih=>
  intro p v star a h hn;obtain⟨inv,s,f,rfl,hst⟩:=h;have hp:=inv.hp;have hv:=inv.hv;rw [bI] at hp hv
  have hf:(star.map (·.2)).getD 0≤v:=by
   cases star with
   |none=>exact Nat.zero_le _
   |some q=>exact(inv.ok:_∧_∧_).2.1
  by_cases hve:v=V.size
  ·refine⟨.inr (((p:Int),P,()),()),aF ?_,.inr ⟨p,hp,rfl,inv.aa2 (by rw [bI];exact hve)⟩⟩;have:decide ((v:Int)< (V.size:Int))=false:=decide_eq_false (by omega);simp only [fV,this,au,sS]
  ·have hvlt:decide ((v:Int)< (V.size:Int))=true:=decide_eq_true (by omega);have hvb:decide ((0:Int) ≤(v:Int) ∧(v:Int)< (V.size:Int))=true:=decide_eq_true (by omega);obtain⟨x,hx,_⟩:=drop_at (l:=bl V) (i:=v) (by rw [bI];omega);have bx:=byte_at hx;have w1:aT ((v:Int)+1)=((v+1:Nat):Int):=aI (by omega);have w2:aT ((p:Int)+1)=((p+1:Nat):Int):=aI (by omega)
   have miss:(∀c,(bl P)[p]?=some c→c≠42∧(c==63||c==x)=false) →fV (((p:Int),(v:Int),s,f,V,P,()),())=(bif decide (s≥0) then some (.inl ((aT (s+1),aT (f+1),s,aT (f+1),V,P,()),())) else some (.inr (.inl ((false,()),())))) →
     ∃d,aB fV (((p:Int),(v:Int),s,f,V,P,()),())=some d∧((d= .inl ((false,()),()) ∧Dg P V=false) ∨∃q:Nat,q≤P.size∧d= .inr (((q:Int),P,()),()) ∧Dg P V=((bl P).drop q).all (· ==42)):=by
    intro hm hstep
    cases star with
    |none=>
     have hs:s= -1:=hst;subst hs;exact⟨_,aF hstep,.inl ⟨rfl,inv.onFail hx hm⟩⟩
    |some q=>
     obtain⟨q1,q2⟩:=q;obtain⟨rfl,rfl⟩:s=((q1:Nat):Int) ∧f=((q2:Nat):Int):=hst;have hq:=(inv.ok:_∧_∧_)
     have hq1:q1+1≤p:=hq.1;have hq2:q2≤v:=hq.2.1;rw [decide_eq_true (show((q1:Nat):Int) ≥0 by omega),aI (by omega),aI (by omega)] at hstep;rw [aN hstep];refine ih (q1+1) (q2+1) (some (q1,q2+1)) _ ⟨inv.ZA hx hm,_,_,rfl,⟨rfl,rfl⟩⟩ ?_;unfold Sb at hn ⊢;simp only [Option.map_some,Option.getD_some] at hn ⊢;have e:V.size+1 - q2=(V.size+1 -(q2+1))+1:=by omega
     rw [e,Nat.succ_mul] at hn;omega
   by_cases hpe:p< P.size
   ·have hplt:decide ((p:Int)< (P.size:Int))=true:=decide_eq_true (by omega);have hpb:decide ((0:Int) ≤(p:Int) ∧(p:Int)< (P.size:Int))=true:=decide_eq_true (by omega);obtain⟨c,hc,_⟩:=drop_at (l:=bl P) (i:=p) (by rw [bI];omega);have bc:=byte_at hc;by_cases h42:c=42
    ·subst h42
     rw [show aB fV (((p:Int),(v:Int),s,f,V,P,()),())=aB fV ((((p+1:Nat):Int),(v:Int),(p:Int),(v:Int),V,P,()),()) from aN (by
      simp only [fV,hvlt,hplt,hpb,bc,Sj,au,sS,w2])]
     refine ih (p+1) v (some (p,v)) _ ⟨inv.Yx hc,_,_,rfl,⟨rfl,rfl⟩⟩ ?_;unfold Sb at hn ⊢;simp only [Option.map_some,Option.getD_some];have:=Nat.mul_le_mul_right (P.size+1) (show V.size+1 - v≤V.size+1 -(star.map (·.2)).getD 0 by omega);omega
    ·by_cases hm:(c==63||c==x)=true
     ·rw [show aB fV (((p:Int),(v:Int),s,f,V,P,()),())=aB fV ((((p+1:Nat):Int),((v+1:Nat):Int),s,f,V,P,()),()) from aN (by
       simp only [fV,hvlt,hplt,hpb,hvb,bc,bx,Sj,X9,Jt,decide_eq_false h42,au,sS,w2];rcases Bool.or_eq_true_iff.1 hm with h|h
       ·simp only [h,au,sS,w1,w2]
       ·cases (c==63)<;>simp only [h,au,sS,w1,w2])]
      refine ih (p+1) (v+1) star _ ⟨inv.Zx hc hx h42 hm,s,f,rfl,hst⟩ ?_;unfold Sb at hn ⊢;omega
     ·have hm:(c==63||c==x)=false:=by simpa using hm
      refine miss (fun d hd=> ?_) ?_
      ·rw [hc] at hd;cases hd;exact⟨h42,hm⟩
      ·rw [Bool.or_eq_false_iff] at hm;simp only [fV,hvlt,hplt,hpb,hvb,bc,bx,Sj,X9,Jt,decide_eq_false h42,hm.1,hm.2,au,sS]
   ·have hplt:decide ((p:Int)< (P.size:Int))=false:=decide_eq_false (by omega);refine miss (fun d hd=> ?_) ?_
    ·have:=(List.getElem?_eq_some_iff.1 hd).1;rw [bI] at this;omega
    ·simp only [fV,hvlt,hplt,au,sS]
theorem Wn(P V:ByteArray)(hP:P.size≤4294967295)(hV:V.size≤4294967295):TR ((P,V,()),())=some ((Dg P V,()),()):=by
 obtain⟨d,h1,h2⟩:=QW P V hP hV _ 0 0 none (((0:Int),(0:Int),(-1),(0:Int),V,P,()),()) ⟨rX.start _ _,-1,0,rfl,rfl⟩ (Nat.le_refl _);unfold TR;refine aQ _ h1 ?_;rcases h2 with⟨rfl,h⟩|⟨q,hq,rfl,h⟩
 ·rw [h];rfl
 ·have ex:bl (P.extract q P.size)=(bl P).drop q:=by
   rw [nJ,List.take_of_length_le];rw [List.length_drop,bI];exact Nat.le_refl _
  have hsz:(P.extract q P.size).size≤P.size:=by rw [←bI,ex,List.length_drop,bI];omega
  obtain⟨t,ht,he⟩:=Wh (P.extract q P.size) (by omega);simp only [au,sS,decide_eq_true (show(0:Int) ≤(q:Int) by omega),Int.toNat_natCast,decide_eq_true (show q≤P.size∧P.size≤P.size by omega),ht,bH,he,ex,h]
def cell(c:UInt8)(V:List UInt8)(r r':List Bool)(k:Nat):Bool:=
 if c=42 then(r[k]?.getD false||(decide (0< k)&&r'[k - 1]?.getD false)) else(decide (0< k)&&r[k - 1]?.getD false&&(c==63||some c==V[k - 1]?))
def J6(m:MT)(l:List LT):Bool:=
 let v:=xk l m.1
 if m.2.1=0 then decide (v=m.2.2.1) else if m.2.1=1 then !decide (v=m.2.2.1) else if m.2.1=2 then Dg m.2.2.1 v else if m.2.1=3 then !Dg m.2.2.1 v else false
def allM(ms:List MT)(l:List LT):Bool:=ms.all fun m=>J6 m l
def OM(l:List LT):Prop:=l.length≤9223372036854775807∧∀x∈l,x.2.1.size≤4294967294
def PSz(m:MT):Prop:=m.2.2.1.size≤4294967295
theorem GK{k v:ByteArray}:∀{l:List LT},yc k l=some v→∃x∈l,x.2.1=v
 | [],h=>by cases h
 |x::l,h=>by
  simp only [yc] at h;split at h
  ·cases h;exact⟨x,by simp,rfl⟩
  ·obtain⟨y,h1,h2⟩:=GK h;exact⟨y,by simp [h1],h2⟩
theorem TG{l:List LT}(h:OM l)(k:ByteArray):(xk l k).size≤4294967294:=by
 unfold xk
 cases hf:yc k l with
 |none=>exact Nat.zero_le _
 |some v=>
  obtain⟨x,h1,rfl⟩:=GK hf;exact h.2 x h1
theorem Ww(m:MT)(l:List LT)(hm:PSz m)(hl:OM l):WW ((m,l,()),())=some ((J6 m l,()),()):=by
 have hg:=TG hl m.1;unfold WW J6;simp only [Hw l m.1 hl.1,Wn m.2.2.1 _ hm (show(xk l m.1).size≤4294967295 by omega),au,sS,dD,bH,jZ];by_cases h0:m.2.1=0
 ·simp only [decide_eq_true h0,if_pos h0,au,sS]
 ·by_cases h1:m.2.1=1
  ·simp only [decide_eq_false h0,decide_eq_true h1,if_neg h0,if_pos h1,au,sS]
  ·by_cases h2:m.2.1=2
   ·simp only [decide_eq_false h0,decide_eq_false h1,decide_eq_true h2,if_neg h0,if_neg h1,if_pos h2,au,sS]
   ·by_cases h3:m.2.1=3
    ·simp only [decide_eq_false h0,decide_eq_false h1,decide_eq_false h2,decide_eq_true h3,if_neg h0,if_neg h1,if_neg h2,if_pos h3,au,sS]
    ·simp only [decide_eq_false h0,decide_eq_false h1,decide_eq_false h2,decide_eq_false h3,if_neg h0,if_neg h1,if_neg h2,if_neg h3,au,sS]
def ZU(ms:List MT):Prop:=ms.length≤9223372036854775807∧∀m∈ms,PSz m
theorem Zg(ms:List MT)(l:List LT)(hm:ZU ms)(hl:OM l):∀(k i:Nat),i+k=ms.length→
  ∃j:Nat,aB qf (((i:Int),ms,(ms.length:Int),()),((l,()),()))=some (if allM (ms.drop i) l then .inr ((),((l,()),())) else .inl (((j:Int),()),((l,()),()))):=by
 intro k
 induction k with
 |zero=>
  intro i h;refine⟨0,?_⟩;rw [List.drop_eq_nil_of_le (by omega)];refine aF ?_;have:decide ((i:Int)< (ms.length:Int))=false:=decide_eq_false (by omega);simp only [qf,this,au,sS,allM,List.all_nil,if_true]
 |succ k ih=>
  intro i h;obtain⟨e,he,hd⟩:=drop_at (l:=ms) (i:=i) (by omega);have hlt:decide ((i:Int)< (ms.length:Int))=true:=decide_eq_true (by omega);have hle:=hm.1;have hme:=Ww e l (hm.2 e (List.mem_of_getElem? he)) hl;rw [hd];unfold allM;rw [List.all_cons];cases hq:J6 e l
  ·refine⟨i,aF ?_⟩;simp only [qf,aH,aC he,hlt,hme,hq,au,sS];rfl
  ·obtain⟨j,hj⟩:=ih (i+1) (by omega);refine⟨j,?_⟩;rw [Bool.true_and];unfold allM at hj;rw [←hj];refine aN ?_;simp only [qf,aH,aC he,hlt,hme,hq,au,sS,aI (show i< 9223372036854775807 by omega)]
theorem qR(ms:List MT)(l:List LT)(hm:ZU ms)(hl:OM l):KJ ((ms,l,()),())=some ((allM ms l,()),()):=by
 obtain⟨j,h⟩:=Zg ms l hm hl ms.length 0 (by omega);rw [List.drop_zero] at h;unfold KJ;rw [show aB qf ((0,ms,(ms.length:Int),()),((l,()),()))=_ from h];cases allM ms l
 ·simp only [au,sS,Bool.false_eq_true,if_false,decide_eq_true (show(j:Int) ≥0 by omega)]
 ·simp only [au,sS,if_true]
end Go.Proofs.YtchnmpafhfjimaaGreatDoor
namespace Go.Proofs.YtchnmpafhfjimaaGreatDoor
open Go Go.Abs Go.Lab
abbrev fZ:=List Int×Int×Unit
def qZ(d:fZ):Prop:=0≤d.2.1∧d.2.1≤d.1.length∧d.1.length≤500
theorem adZ{l:List Int}(h:l.length≤500):qZ (l,0,()):=⟨Int.le_refl _,Int.natCast_nonneg _,h⟩
theorem dw(n:Int)(d:fZ)(hd:qZ d)(hn:n≤9223372036854775807):
  ∃(r:Int) (d':fZ),Fp ((n,()),((d,()),()))=some ((r,()),((d',()),())) ∧qZ d'∧(1≤n→0≤r∧r< n) ∧(n< 1→r=0):=by
 obtain⟨l,at_,u⟩:=d;obtain⟨h1,h2,h3⟩:=hd;simp only at h1 h2 h3;unfold Fp;simp only [aH];by_cases c1:at_≥(l.length:Int)
 ·refine⟨0,(l,at_,()),?_,⟨h1,h2,h3⟩,fun h=>⟨by omega,by omega⟩,fun _=>rfl⟩;simp only [decide_eq_true c1,au,sS]
 ·by_cases c2:n< 1
  ·refine⟨0,(l,at_,()),?_,⟨h1,h2,h3⟩,fun h=>⟨by omega,by omega⟩,fun _=>rfl⟩;simp only [decide_eq_false c1,decide_eq_true c2,au,sS]
  ·have hat:aT (at_+1)=at_+1:=bO (by omega) (by omega);have hne:n≠0:=by omega
   obtain⟨e,he⟩:=getD_some (l:=l) (i:=at_.toNat) (by omega);have hb:=Int.tmod_lt_of_pos e (show(0:Int)< n by omega)
   have hb2: -n< e.tmod n:=by
    have:=Int.lt_tmod_of_pos e (show(0:Int)< n by omega);omega
   by_cases c3:e.tmod n< 0
   ·refine⟨e.tmod n+n,(l,at_+1,()),?_,⟨by simp only;omega,by simp only;omega,h3⟩,fun h=>⟨by omega,by omega⟩,fun h=>by omega⟩;simp only [decide_eq_false c1,decide_eq_false c2,au,sS,jf h1 he,decide_eq_true hne,decide_eq_true c3,hat,bO (x:=e.tmod n+n) (by omega) (by omega)]
   ·refine⟨e.tmod n,(l,at_+1,()),?_,⟨by simp only;omega,by simp only;omega,h3⟩,fun h=>⟨by omega,by omega⟩,fun h=>by omega⟩;simp only [decide_eq_false c1,decide_eq_false c2,au,sS,jf h1 he,decide_eq_true hne,decide_eq_false c3,hat]
theorem pq(l:List Int)(d:fZ)(hd:qZ d)(h0:0< l.length)(h1:l.length≤4294967296):
  ∃(r:Int) (d':fZ),m32 ((l,()),((d,()),()))=some ((r,()),((d',()),())) ∧qZ d'∧r∈l:=by
 obtain⟨n,d',e1,e2,e3,_⟩:=dw l.length d hd (by omega);obtain⟨hn0,hn1⟩:=e3 (by omega);obtain⟨r,hr⟩:=getD_some (l:=l) (i:=n.toNat) (by omega);refine⟨r,d',?_,e2,List.mem_of_getElem? hr⟩;unfold m32;simp only [e1,Option.bind_some,aH,jf hn0 hr]
theorem Gr(n:Int)(d:fZ)(hd:qZ d)(hn:1≤n)(hn2:n≤9223372036854775807):∃(b:Bool) (d':fZ),m40 ((n,()),((d,()),()))=some ((b,()),((d',()),())) ∧qZ d':=by
 obtain⟨r,d',e1,e2,_⟩:=dw n d hd hn2;refine⟨(r==aT (n - 1)),d',?_,e2⟩;unfold m40;simp only [e1,Option.bind_some]
theorem Oj{A B:Type}(l:List A){n:Int}(h0:0≤n)(h1:n< l.length)(F:A→Option B):∃e,e∈l∧(bif decide ((0:Int) ≤n∧(n:Int)< l.length) then(l[n.toNat]?).bind F else none)=F e:=by
 obtain⟨e,he⟩:=getD_some (l:=l) (i:=n.toNat) (by omega);exact⟨e,List.mem_of_getElem? he,by rw [decide_eq_true (And.intro h0 h1),he];rfl⟩
def lF(m:MT):Prop:=aX m=true∧m.1.size≤64∧m.2.2.1.size≤64∧0≤m.2.1∧m.2.1≤3
theorem lF.p{m:MT}(h:lF m):PSz m:=by have:=h.2.2.1;unfold PSz;omega
theorem lF.z{m:MT}(h:lF m):Po m:=by have:=h.2.1;have:=h.2.2.1;unfold Po;omega
theorem acM:∀k∈ [(bs [97,112,112]),(bs [104,111,115,116]),(bs [115,101,118]),(bs [116,101,97,109]),(bs [122,111,110,101])],l6 k=true∧k.size≤64:=by decide+kernel
theorem ace:∀v∈ [(bs [97]),(bs [98]),ByteArray.empty,(bs [42]),(bs [99,114,105,116]),(bs [63]),(bs [119,101,98,45,42]),(bs [97,34,98,92])],vS v=true∧v.size≤64:=by decide+kernel
theorem qx(d:fZ)(hd:qZ d):∃(m:MT) (d':fZ),ZW ((),((d,()),()))=some ((),((d',()),((m,()),()))) ∧qZ d'∧lF m:=by
 obtain⟨a,d1,e1,hd1,b1,_⟩:=dw 5 d hd (by omega);have b1:=b1 (by omega);obtain⟨o,d2,e2,hd2,b2,_⟩:=dw 4 d1 hd1 (by omega);have b2:=b2 (by omega);obtain⟨c,d3,e3,hd3,b3,_⟩:=dw 8 d2 hd2 (by omega);have b3:=b3 (by omega);unfold ZW;simp only [e1,Option.bind_some]
 obtain⟨k,hk,ek⟩:=Oj [(bs [97,112,112]),(bs [104,111,115,116]),(bs [115,101,118]),(bs [116,101,97,109]),(bs [122,111,110,101])] b1.1 b1.2 (fun e11=>(Fp ((4,()),((d1,()),()))).bind fun u12=>
  (Fp ((8,()),((u12.2.1.1,()),()))).bind fun u13=>
  bif (decide ((0:Int) ≤u13.1.1∧(u13.1.1:Int)< [(bs [97]),(bs [98]),ByteArray.empty,(bs [42]),(bs [99,114,105,116]),(bs [63]),(bs [119,101,98,45,42]),(bs [97,34,98,92])].length)) then
  ([(bs [97]),(bs [98]),ByteArray.empty,(bs [42]),(bs [99,114,105,116]),(bs [63]),(bs [119,101,98,45,42]),(bs [97,34,98,92])][u13.1.1.toNat]?).bind fun e14=>
  some (((),((u13.2.1.1,()),(((e11,(u12.1.1,(e14,()))),()),()))):(Unit)×(((List Int×Int×Unit)×Unit)×(MT×Unit)×Unit))
  else none)
 rw [ek];simp only [e2,e3,Option.bind_some];obtain⟨v,hv,ev⟩:=Oj [(bs [97]),(bs [98]),ByteArray.empty,(bs [42]),(bs [99,114,105,116]),(bs [63]),(bs [119,101,98,45,42]),(bs [97,34,98,92])] b3.1 b3.2 (fun e14=>some (((),((d3,()),(((k,(o,(e14,()))),()),()))):(Unit)×(((List Int×Int×Unit)×Unit)×(MT×Unit)×Unit)));rw [ev];have h1:=acM k hk;have h2:=ace v hv;refine⟨(k,o,v,()),d3,rfl,hd3,?_,h1.2,h2.2,b2.1,by simp only;omega⟩;unfold aX;simp only [h1.1,h2.1,decide_eq_true b2.1,decide_eq_true (show o≤3 by omega),Bool.and_self]
theorem FM:∀(n:Nat) (i:Int) (d:fZ) (l:List MT),qZ d→i=n→l.length+n≤1000→(∀m∈l,lF m) →
  ∃(l':List MT) (d':fZ),aB C8 ((i,()),((d,()),(l,())))=some ((),((d',()),(l',()))) ∧qZ d'∧l'.length=l.length+n∧∀m∈l',lF m:=by
 intro n
 induction n with
 |zero=>
  intro i d l hd hi hl hg;refine⟨l,d,aF ?_,hd,rfl,hg⟩;have:decide (i>0)=false:=decide_eq_false (by omega);simp only [C8,this,au,sS]
 |succ n ih=>
  intro i d l hd hi hl hg;obtain⟨m,d1,e1,hd1,hm⟩:=qx d hd
  obtain⟨l',d',e2,hd',hl',hg'⟩:=ih (i - 1) d1 (l++ [m]) hd1 (by omega) (by simp;omega) (fun x hx=>by
   rcases List.mem_append.1 hx with h|h
   ·exact hg x h
   ·simp at h;subst h;exact hm)
  refine⟨l',d',?_,hd',by rw [hl'];simp;omega,hg'⟩;rw [←e2];refine aN ?_;have h0:decide (i>0)=true:=decide_eq_true (by omega);have h1:decide (l.length+([m]:List MT).length≤4294967296)=true:=decide_eq_true (by simp;omega);simp only [C8,h0,e1,au,sS,h1,bO (x:=i - 1) (by omega) (by omega)]
theorem kH(n:Int)(d:fZ)(hd:qZ d)(h0:0≤n)(hn:n≤900):∃(l:List MT) (d':fZ),Zz ((n,()),((d,()),()))=some ((),((d',()),(l,()))) ∧qZ d'∧(l.length:Int) ≤n∧∀m∈l,lF m:=by
 obtain⟨a,d1,e1,hd1,b1,_⟩:=dw (aT (n+1)) d hd (by rw [bO (by omega) (by omega)];omega);rw [bO (x:=n+1) (by omega) (by omega)] at e1 b1;have b1:=b1 (by omega);obtain⟨l',d',e2,hd',hl',hg'⟩:=FM a.toNat a d1 [] hd1 (by omega) (by simp;omega) (fun m hm=>by cases hm);refine⟨l',d',?_,hd',by rw [hl'];simp;omega,hg'⟩;unfold Zz;simp only [bO (x:=n+1) (by omega) (by omega),e1,Option.bind_some,e2]
def R8(l:List LT):Prop:=l.length≤4∧∀x∈l,x.1.size≤64∧x.2.1.size≤64
theorem R8.z{l:List LT}(h:R8 l):OM l:=⟨by have:=h.1;omega,fun x hx=>by have:=(h.2 x hx).2;omega⟩
abbrev ic:List ByteArray:=[(bs [97,112,112]),(bs [104,111,115,116]),(bs [115,101,118]),(bs [116,101,97,109])]
abbrev Oy:List ByteArray:=[ByteArray.empty,(bs [97]),(bs [98]),(bs [99,114,105,116]),(bs [97,34,98,92]),(bs [119,101,98,45,49])]
abbrev abY:ByteArray×ByteArray×ByteArray×ByteArray×Unit:=((bs [97,112,112]),((bs [104,111,115,116]),((bs [115,101,118]),((bs [116,101,97,109]),()))))
theorem U3:∀v∈Oy,vS v=true∧v.size≤64:=by decide+kernel
theorem zH:∀k∈ic,l6 k=true∧k.size≤64:=by decide+kernel
def p9(ks:List ByteArray)(l:List LT):Prop:=(l.map (·.1)).Sublist ks∧∀x∈l,x.2.1∈Oy∧x.2.1≠ByteArray.empty
theorem Kg:∀(n i:Nat) (d:fZ) (l:List LT),i+n=4→qZ d→p9 (ic.take i) l→
  ∃(l':List LT) (d':fZ),aB zU (((i:Int),abY,()),((d,()),(l,())))=some ((),((d',()),(l',()))) ∧qZ d'∧p9 ic l':=by
 intro n
 induction n with
 |zero=>
  intro i d l hi hd hl;refine⟨l,d,aF ?_,hd,by rw [show i=4 by omega] at hl;exact hl⟩;have:decide ((i:Int)< 4)=false:=decide_eq_false (by omega);simp only [zU,this,au,sS]
 |succ n ih=>
  intro i d l hi hd hl;obtain⟨k,hk⟩:=getD_some (l:=ic) (i:=i) (by show i< 4;omega);obtain⟨a,d1,e1,hd1,b1,_⟩:=dw 6 d hd (by omega);have b1:=b1 (by omega);obtain⟨v,hv⟩:=getD_some (l:=Oy) (i:=a.toNat) (by show a.toNat< 6;omega);have h0:decide ((i:Int)< 4)=true:=decide_eq_true (by omega);have hb:decide ((0:Int) ≤a∧(a:Int)< Oy.length)=true:=decide_eq_true ⟨b1.1,b1.2⟩;have htk:ic.take (i+1)=ic.take i++ [k]:=by rw [List.take_add_one,hk];rfl
  have hw:aT ((i:Int)+1)=((i+1:Nat):Int):=aI (by omega)
  have hlen:l.length≤4:=by
   have:=hl.1.length_le;rw [List.length_map,List.length_take] at this;omega
  by_cases he:v=ByteArray.empty
  ·obtain⟨l',d',e2,hd',hl'⟩:=ih (i+1) d1 l (by omega) hd1 ⟨by rw [htk];exact hl.1.trans (List.sublist_append_left _ _),hl.2⟩;refine⟨l',d',?_,hd',hl'⟩;rw [←e2];refine aN ?_;simp only [zU,h0,aH,aC hk,e1,hb,hv,bH,jZ,decide_eq_true he,au,sS,hw]
  ·obtain⟨l',d',e2,hd',hl'⟩:=ih (i+1) d1 (l++ [(k,v,())]) (by omega) hd1 ⟨by rw [htk,List.map_append];exact hl.1.append (List.Sublist.refl _),fun x hx=>by
    rcases List.mem_append.1 hx with h|h
    ·exact hl.2 x h
    ·simp only [List.mem_singleton] at h;subst h;exact⟨List.mem_of_getElem? hv,he⟩⟩
   refine⟨l',d',?_,hd',hl'⟩;rw [←e2];refine aN ?_;have h1:decide (l.length+([(k,(v,()))]:List LT).length≤4294967296)=true:=decide_eq_true (by simp;omega);simp only [zU,h0,aH,aC hk,e1,hb,hv,bH,jZ,decide_eq_false he,au,sS,h1,hw]
theorem JS(d:fZ)(hd:qZ d):∃(l:List LT) (d':fZ),m39 ((),((d,()),()))=some ((),((d',()),(l,()))) ∧qZ d'∧p9 ic l:=by
 obtain⟨l,d',h1,h2,h3⟩:=Kg 4 0 d [] (by omega) hd ⟨List.nil_sublist _,fun x hx=>by cases hx⟩;refine⟨l,d',?_,h2,h3⟩;unfold m39;refine aQ _ h1 rfl
theorem P7{l:List LT}(h:p9 ic l):R8 l:=by
 refine⟨by have:=h.1.length_le;rw [List.length_map] at this;exact this,fun x hx=>⟨?_,(U3 _ (h.2 x hx).1).2⟩⟩;exact(zH _ (h.1.subset (List.mem_map_of_mem hx))).2
theorem MJ:∀(n i:Nat) (d:fZ) (l:List ByteArray),i+n=4→qZ d→l.Sublist (ic.take i) →
  ∃(l':List ByteArray) (d':fZ),aB zR (((i:Int),abY,()),((d,()),(l,())))=some ((),((d',()),(l',()))) ∧qZ d'∧l'.Sublist ic:=by
 intro n
 induction n with
 |zero=>
  intro i d l hi hd hl;refine⟨l,d,aF ?_,hd,by rw [show i=4 by omega] at hl;exact hl⟩;have:decide ((i:Int)< 4)=false:=decide_eq_false (by omega);simp only [zR,this,au,sS]
 |succ n ih=>
  intro i d l hi hd hl;obtain⟨k,hk⟩:=getD_some (l:=ic) (i:=i) (by show i< 4;omega);obtain⟨b,d1,e1,hd1⟩:=Gr 3 d hd (by omega) (by omega);have h0:decide ((i:Int)< 4)=true:=decide_eq_true (by omega);have htk:ic.take (i+1)=ic.take i++ [k]:=by rw [List.take_add_one,hk];rfl
  have hw:aT ((i:Int)+1)=((i+1:Nat):Int):=aI (by omega)
  have hlen:l.length≤4:=by
   have:=hl.length_le;rw [List.length_take] at this;omega
  cases b with
  |false=>
   obtain⟨l',d',e2,hd',hl'⟩:=ih (i+1) d1 l (by omega) hd1 (by rw [htk];exact hl.trans (List.sublist_append_left _ _));refine⟨l',d',?_,hd',hl'⟩;rw [←e2];refine aN ?_;simp only [zR,h0,aH,aC hk,e1,au,sS,hw]
  |true=>
   obtain⟨l',d',e2,hd',hl'⟩:=ih (i+1) d1 (l++ [k]) (by omega) hd1 (by rw [htk];exact hl.append (List.Sublist.refl _));refine⟨l',d',?_,hd',hl'⟩;rw [←e2];refine aN ?_;have h1:decide (l.length+ [k].length≤4294967296)=true:=decide_eq_true (by simp;omega);simp only [zR,h0,aH,aC hk,e1,au,sS,h1,hw]
theorem Ei(d:fZ)(hd:qZ d):∃(l:List ByteArray) (d':fZ),m62 ((),((d,()),()))=some ((),((d',()),(l,()))) ∧qZ d'∧l.Sublist ic:=by
 obtain⟨l,d',h1,h2,h3⟩:=MJ 4 0 d [] (by omega) hd (List.nil_sublist _);refine⟨l,d',?_,h2,h3⟩;unfold m62;refine aQ _ h1 rfl
theorem light(l:List Int):m9 ((l,()),())=some ((decide (l.length≤500),()),()):=by
 unfold m9;rw [show decide ((l.length:Int) ≤500)=decide (l.length≤500) from decide_eq_decide.2 (by omega)]
theorem roll(l:List Int):m11 ((l,()),())=some ((),(((l,0,()),()),())):=rfl
abbrev Ac:Type:=List MT×List MT×List ByteArray×Unit
abbrev big:Nat:=9223372036854775807
def Dw(a b:List LT)(ks:List ByteArray):Bool:=ks.any fun k=> !decide (xk a k=xk b k)
theorem Wq(a b:List LT)(ha:a.length≤big)(hb:b.length≤big)(ks:List ByteArray)(hk:ks.length≤big):∀(k i:Nat),i+k=ks.length→
  ∃j:Nat,aB pO (((i:Int),ks,(ks.length:Int),()),((a,()),((b,()),())))=some (if Dw a b (ks.drop i) then .inl (((j:Int),()),((a,()),((b,()),()))) else .inr ((),((a,()),((b,()),())))):=by
 intro k
 induction k with
 |zero=>
  intro i h;refine⟨0,?_⟩;rw [List.drop_eq_nil_of_le (by omega)];refine aF ?_;have:decide ((i:Int)< (ks.length:Int))=false:=decide_eq_false (by omega);simp only [pO,this,au,sS];rfl
 |succ k ih=>
  intro i h;obtain⟨e,he,hd⟩:=drop_at (l:=ks) (i:=i) (by omega);have hlt:decide ((i:Int)< (ks.length:Int))=true:=decide_eq_true (by omega);have hw:aT ((i:Int)+1)=((i+1:Nat):Int):=aI (by unfold big at hk;omega);have q1:=Hw a e ha;have q2:=Hw b e hb;rw [hd,show Dw a b (e::ks.drop (i+1))=((!decide (xk a e=xk b e))||Dw a b (ks.drop (i+1))) from List.any_cons];cases hq:decide (xk a e=xk b e)
  ·refine⟨i,aF ?_⟩;simp only [pO,aH,aC he,hlt,q1,q2,bH,jZ,hq,au,sS];rfl
  ·obtain⟨j,hj⟩:=ih (i+1) (by omega);refine⟨j,?_⟩;rw [Bool.not_true,Bool.false_or,←hj];refine aN ?_;simp only [pO,aH,aC he,hlt,q1,q2,bH,jZ,hq,au,sS,hw]
theorem Vb(a b:List LT)(ha:a.length≤big)(hb:b.length≤big)(ks:List ByteArray)(hk:ks.length≤big):Vj ((a,b,ks,()),())=some ((!Dw a b ks,()),()):=by
 obtain⟨j,h⟩:=Wq a b ha hb ks hk ks.length 0 (by omega);rw [List.drop_zero] at h;unfold Vj;rw [show aB pO ((0,ks,(ks.length:Int),()),((a,()),((b,()),())))=_ from h];cases Dw a b ks
 ·simp only [au,sS,Bool.false_eq_true,if_false]
 ·simp only [au,sS,if_true,decide_eq_true (show(j:Int) ≥0 by omega)]
def RSz(r:Ac):Prop:=ZU r.1∧ZU r.2.1∧r.2.2.1.length≤big
def Ze(l:List Ac):Prop:=l.length≤big∧∀r∈l,RSz r
def Yo(f:List (List LT)):Prop:=f.length≤big∧∀l∈f,OM l
def QK(r:Ac)(x f:List LT):Bool:=allM r.1 f&&(!allM r.2.1 f&& !Dw x f r.2.2.1)
def QX(x:List LT)(fs:List (List LT))(r:Ac):Bool:=allM r.2.1 x&&fs.any (QK r x)
def xR(l:List Ac)(x:List LT)(fs:List (List LT)):Bool:=l.any (QX x fs)
theorem Xx(r:Ac)(hr:RSz r)(x:List LT)(hx:OM x)(fs:List (List LT))(hf:Yo fs)(l:List Ac)(n o:Int):∀(k i:Nat),i+k=fs.length→
  aB pW (((i:Int),x,fs,fs,l,n,o,(fs.length:Int),()),((r,()),()))=some (if(fs.drop i).any (QK r x) then .inl ((true,()),()) else .inr ((x,fs,l,n,o,()),())):=by
 intro k
 induction k with
 |zero=>
  intro i h;rw [List.drop_eq_nil_of_le (by omega)];refine aF ?_;have:decide ((i:Int)< (fs.length:Int))=false:=decide_eq_false (by omega);simp only [pW,this,au,sS];rfl
 |succ k ih=>
  intro i h;obtain⟨e,he,hd⟩:=drop_at (l:=fs) (i:=i) (by omega);have hlt:decide ((i:Int)< (fs.length:Int))=true:=decide_eq_true (by omega);have hlen:=hf.1;have hw:aT ((i:Int)+1)=((i+1:Nat):Int):=aI (by unfold big at hlen;omega);have hze:=hf.2 e (List.mem_of_getElem? he);have q1:=qR r.1 e hr.1 hze;have q2:=qR r.2.1 e hr.2.1 hze;have q3:=Vb x e hx.1 hze.1 r.2.2.1 hr.2.2;rw [hd,List.any_cons]
  have go:∀b,QK r x e=b→pW (((i:Int),x,fs,fs,l,n,o,(fs.length:Int),()),((r,()),()))=(if b then some (.inr (.inl ((true,()),()))) else some (.inl ((((i+1:Nat):Int),x,fs,fs,l,n,o,(fs.length:Int),()),((r,()),())))):=by
   intro b hb;unfold QK at hb;subst hb;simp only [pW,aH,aC he,hlt,q1,q2,q3,au,sS];cases allM r.1 e<;>cases allM r.2.1 e<;>cases Dw x e r.2.2.1<;>simp only [au,sS,hw]<;>rfl
  cases hq:QK r x e
  ·rw [Bool.false_or,←ih (i+1) (by omega)];exact aN (go false hq)
  ·exact aF (go true hq)
theorem VO(l:List Ac)(hl:Ze l)(x:List LT)(hx:OM x)(fs:List (List LT))(hf:Yo fs):∀(k i:Nat),i+k=l.length→
  aB rQ (((i:Int),x,fs,l,(l.length:Int),()),())=some (if(l.drop i).any (QX x fs) then .inl ((true,()),()) else .inr ((),())):=by
 intro k
 induction k with
 |zero=>
  intro i h;rw [List.drop_eq_nil_of_le (by omega)];refine aF ?_;have:decide ((i:Int)< (l.length:Int))=false:=decide_eq_false (by omega);simp only [rQ,this,au,sS];rfl
 |succ k ih=>
  intro i h;obtain⟨e,he,hd⟩:=drop_at (l:=l) (i:=i) (by omega);have hlt:decide ((i:Int)< (l.length:Int))=true:=decide_eq_true (by omega);have hlen:=hl.1;have hw:aT ((i:Int)+1)=((i+1:Nat):Int):=aI (by unfold big at hlen;omega);have hze:=hl.2 e (List.mem_of_getElem? he);have q1:=qR e.2.1 x hze.2.1 hx;have q2:=Xx e hze x hx fs hf l (l.length:Int) (i:Int) fs.length 0 (by omega);rw [List.drop_zero] at q2;rw [hd,List.any_cons]
  have go:∀b,QX x fs e=b→rQ (((i:Int),x,fs,l,(l.length:Int),()),())=(if b then some (.inr (.inl ((true,()),()))) else some (.inl ((((i+1:Nat):Int),x,fs,l,(l.length:Int),()),()))):=by
   intro b hb;unfold QX at hb;subst hb;simp only [rQ,aH,aC he,hlt,q1,au,sS];cases allM e.2.1 x
   ·simp only [au,sS,hw];rfl
   ·simp only [au,sS];rw [show aB pW ((0,x,fs,fs,l,(l.length:Int),(i:Int),(fs.length:Int),()),((e,()),()))=_ from q2];cases fs.any (QK e x)
    ·simp only [Bool.false_eq_true,if_false,au,sS,hw]
    ·simp only [if_true,au,sS]
  cases hq:QX x fs e
  ·rw [Bool.false_or,←ih (i+1) (by omega)];exact aN (go false hq)
  ·exact aF (go true hq)
theorem Vx(l:List Ac)(hl:Ze l)(x:List LT)(hx:OM x)(fs:List (List LT))(hf:Yo fs):Vl ((l,x,fs,()),())=some ((xR l x fs,()),()):=by
 have h:=VO l hl x hx fs hf l.length 0 (by omega);rw [List.drop_zero] at h;unfold Vl;refine aQ _ h ?_;unfold xR;cases l.any (QX x fs)<;>rfl
def tV(r:Ac):Prop:=r.1.length≤8∧r.2.1.length≤8∧(∀m∈r.1,lF m) ∧(∀m∈r.2.1,lF m) ∧r.2.2.1.Sublist ic∧r.1≠ [] ∧r.2.1≠ []
theorem tV.z{r:Ac}(h:tV r):RSz r:=by
 obtain⟨h1,h2,h3,h4,h5,_⟩:=h;refine⟨⟨by omega,fun m hm=>(h3 m hm).p⟩,⟨by omega,fun m hm=>(h4 m hm).p⟩,?_⟩;have:=h5.length_le;rw [show ic.length=4 from rfl] at this;unfold big;omega
theorem WL:lF ((bs [115,101,118]),(0,((bs [99,114,105,116]),()))):=by
 unfold lF;decide+kernel
theorem Tz:∀(n:Nat) (i:Int) (d:fZ) (l:List Ac),qZ d→i=n→l.length+n≤1000→(∀r∈l,tV r) →
  ∃(l':List Ac) (d':fZ),aB Cr ((i,()),((d,()),(l,())))=some ((),((d',()),(l',()))) ∧qZ d'∧l'.length=l.length+n∧∀r∈l',tV r:=by
 intro n
 induction n with
 |zero=>
  intro i d l hd hi hl hg;refine⟨l,d,aF ?_,hd,rfl,hg⟩;have:decide (i>0)=false:=decide_eq_false (by omega);simp only [Cr,this,au,sS]
 |succ n ih=>
  intro i d l hd hi hl hg;obtain⟨s,d1,e1,hd1,hs,hsg⟩:=kH 1 d hd (by omega) (by omega);obtain⟨t,d2,e2,hd2,ht,htg⟩:=kH 1 d1 hd1 (by omega) (by omega);obtain⟨m,d3,e3,hd3,hm⟩:=qx d2 hd2;obtain⟨ks,d4,e4,hd4,hk⟩:=Ei d3 hd3;have h0:decide (i>0)=true:=decide_eq_true (by omega);have b1:decide (s.length+([((bs [115,101,118]),(0,((bs [99,114,105,116]),())))]:List MT).length≤4294967296)=true:=decide_eq_true (by simp;omega);have b2:decide (t.length+([m]:List MT).length≤4294967296)=true:=decide_eq_true (by simp;omega);have b3:∀r:Ac,decide (l.length+([r]:List Ac).length≤4294967296)=true:=fun r=>decide_eq_true (by simp;omega)
  obtain⟨l',d',e5,hd',hl',hg'⟩:=ih (i - 1) d4 (l++ [(s++ [((bs [115,101,118]),(0,((bs [99,114,105,116]),())))],(t++ [m],(ks,())))]) hd4 (by omega) (by simp;omega) (fun x hx=>by
   rcases List.mem_append.1 hx with h|h
   ·exact hg x h
   ·simp only [List.mem_singleton] at h;subst h;refine⟨by simp;omega,by simp;omega,fun y hy=> ?_,fun y hy=> ?_,hk,by simp,by simp⟩
    ·rcases List.mem_append.1 hy with h|h
     ·exact hsg y h
     ·simp only [List.mem_singleton] at h;subst h;exact WL
    ·rcases List.mem_append.1 hy with h|h
     ·exact htg y h
     ·simp only [List.mem_singleton] at h;subst h;exact hm)
  refine⟨l',d',?_,hd',by rw [hl'];simp;omega,hg'⟩;rw [←e5];refine aN ?_;simp only [Cr,h0,e1,e2,e3,e4,au,sS,b1,b2,b3,bO (x:=i - 1) (by omega) (by omega)]
theorem TI(d:fZ)(hd:qZ d):∃(l:List Ac) (d':fZ),m51 ((),((d,()),()))=some ((),((d',()),(l,()))) ∧qZ d'∧l.length≤3∧∀r∈l,tV r:=by
 obtain⟨a,d1,e1,hd1,b1,_⟩:=dw 3 d hd (by omega);have b1:=b1 (by omega);obtain⟨l',d',e2,hd',hl',hg'⟩:=Tz a.toNat a d1 [] hd1 (by omega) (by simp;omega) (fun m hm=>by cases hm);refine⟨l',d',?_,hd',by rw [hl'];simp;omega,hg'⟩;unfold m51;simp only [e1,Option.bind_some,e2]
def eU{S E B:Type}(step:Nat→S→E→S⊕B)(fin:S→B):Nat→List E→S→B
 |_,[],s=>fin s
 |i,e::r,s=>match step i s e with
  | .inl s'=>eU step fin (i+1) r s'
  | .inr b=>b
theorem vL{A B S E:Type}{f:A→Option (A⊕B)}(l:List E)(st:Nat→S→A)(step:Nat→S→E→S⊕B)(fin:S→B)(I:Nat→S→Prop)
  (h1:∀i e s,l[i]?=some e→i< l.length→I i s→f (st i s)=some (match step i s e with| .inl s'=> .inl (st (i+1) s')| .inr b=> .inr b))
  (hI:∀i e s s',l[i]?=some e→I i s→step i s e= .inl s'→I (i+1) s')
  (h2:∀s,I l.length s→f (st l.length s)=some (.inr (fin s))):
  ∀(k i:Nat) (s:S),i+k=l.length→I i s→aB f (st i s)=some (eU step fin i (l.drop i) s):=by
 intro k
 induction k with
 |zero=>
  intro i s h hi;obtain rfl:i=l.length:=by omega
  rw [List.drop_length];exact aF (h2 s hi)
 |succ k ih=>
  intro i s h hi;obtain⟨e,he,hd⟩:=drop_at (l:=l) (i:=i) (by omega);have q:=h1 i e s he (by omega) hi;rw [hd];unfold eU
  cases hs:step i s e with
  |inl s'=>
   rw [hs] at q;simp only;rw [←ih (i+1) s' (by omega) (hI i e s s' he hi hs)];exact aN q
  |inr b=>
   rw [hs] at q;exact aF q
theorem dh{A B S E:Type}{f:A→Option (A⊕B)}(l:List E)(st:Nat→S→A)(step:Nat→S→E→S⊕B)(fin:S→B)
  (h1:∀i e s,l[i]?=some e→i< l.length→f (st i s)=some (match step i s e with| .inl s'=> .inl (st (i+1) s')| .inr b=> .inr b))
  (h2:∀s,f (st l.length s)=some (.inr (fin s))) (s:S):aB f (st 0 s)=some (eU step fin 0 l s):=by
 have:=vL l st step fin (fun _ _=>True) (fun i e s he hl _=>h1 i e s he hl) (fun _ _ _ _ _ _ _=>trivial) (fun s _=>h2 s) l.length 0 s (by omega) trivial
 rwa [List.drop_zero] at this
theorem vO{S E B:Type}(g:S→E→S)(fin:S→B):∀(l:List E) (i:Nat) (s:S),eU (fun _ s e=> .inl (g s e)) fin i l s=fin (l.foldl g s):=by
 intro l
 induction l with
 |nil=>intro i s;rfl
 |cons e r ih=>intro i s;exact ih (i+1) (g s e)
theorem gB{A B E:Type}{f:A→Option (A⊕B)}(l:List E)(st:Nat→A)(fin:B)
  (h1:∀i e,l[i]?=some e→i< l.length→f (st i)=some (.inl (st (i+1)))) (h2:f (st l.length)=some (.inr fin)):aB f (st 0)=some fin:=by
 have:=dh (S:=Unit) l (fun i _=>st i) (fun _ _ _=> .inl ()) (fun _=>fin) (fun i e _ he hi=>h1 i e he hi) (fun _=>h2) ();exact this.trans (congrArg some (vO (fun _ _=>()) (fun _=>fin) l 0 ()))
theorem mU{A B:Type}{f:A→Option (A⊕B)}{Q:B→Prop}(I:Nat→A→Prop)(n:Nat)
  (h1:∀i a,i< n→I i a→∃a',f a=some (.inl a') ∧I (i+1) a') (h2:∀a,I n a→∃b,f a=some (.inr b) ∧Q b):∀a,I 0 a→∃b,aB f a=some b∧Q b:=by
 have:∀(k i:Nat) a,i+k=n→I i a→∃b,aB f a=some b∧Q b:=by
  intro k
  induction k with
  |zero=>
   intro i a h hi;obtain rfl:i=n:=by omega
   obtain⟨b,h,hq⟩:=h2 a hi;exact⟨b,aF h,hq⟩
  |succ k ih=>
   intro i a h hi;obtain⟨a',h,hi'⟩:=h1 i a (by omega) hi;obtain⟨b,hb,hq⟩:=ih (i+1) a' (by omega) hi';exact⟨b,by rw [←hb];exact aN h,hq⟩
 exact fun a h=>this n 0 a (by omega) h
theorem bV{i n:Nat}(h:i< n):decide ((i:Int)< (n:Int))=true:=decide_eq_true (by omega)
theorem dG(n:Nat):decide ((n:Int)< (n:Int))=false:=decide_eq_false (by omega)
abbrev eP:Type:=Int×Int×Int×Int×List MT×Unit
def ND(s:eP):Prop:=s.2.2.2.2.1.length≤4294967296∧∀m∈s.2.2.2.2.1,PSz m∧Po m
def Ab(l:List eP):Prop:=l.length≤1000∧∀s∈l,ND s
theorem ND.p{s:eP}(h:ND s):ZU s.2.2.2.2.1:=⟨by have:=h.1;omega,fun m hm=>(h.2 m hm).1⟩
theorem Ab.at{l:List eP}(h:Ab l){i:Nat}{e:eP}(he:l[i]?=some e):ND e:=h.2 e (List.mem_of_getElem? he)
def abQ(x:List LT)(t:Int)(s:eP):Bool:=decide (s.2.1≤t)&&(decide (t< s.2.2.1)&&allM s.2.2.2.2.1 x)
def Tf(x:List LT)(t:Int)(a:Int×Bool)(s:eP):Int×Bool:=bif abQ x t s&&(!a.2||decide (s.1< a.1)) then(s.1,true) else a
def FU(x:List LT)(t:Int)(l:List eP):Int×Bool:=l.foldl (Tf x t) (0,false)
theorem Xl(l:List eP)(hl:Ab l)(x:List LT)(hx:OM x)(t:Int):Xm ((l,x,t,()),())=some (((FU x t l).1,(FU x t l).2,()),()):=by
 have h:=dh (f:=yA) l (fun i (a:Int×Bool)=>(((i:Int),a.1,a.2,x,t,l,(l.length:Int),()),())) (fun _ a e=> .inl (Tf x t a e)) (fun a=>((a.2,a.1,()),())) ?_ ?_ (0,false)
 ·rw [vO] at h;unfold Xm;exact aQ _ h rfl
 ·intro i e ⟨a1,a2⟩ he hi;have hl1:=hl.1;have q:=qR e.2.2.2.2.1 x (hl.at he).p hx;have hw:aT ((i:Int)+1)=((i+1:Nat):Int):=aI (by omega);unfold Tf abQ;simp only [yA,aH,aC he,bV hi,q,au,sS];cases decide (e.2.1≤t)<;>cases decide (t< e.2.2.1)<;>cases allM e.2.2.2.2.1 x<;>cases a2<;>cases decide (e.1< a1)<;>simp only [au,sS,hw,Bool.not_true,Bool.not_false,Bool.or_true,Bool.true_or,Bool.or_false,Bool.false_or]
 ·intro a;simp only [yA,dG,au,sS]
theorem jC{E B:Type}(p:E→Bool)(b:Nat→B)(fin:B):∀(l:List E) (i:Nat),∃j,i≤j∧eU (fun i (_:Unit) e=>bif p e then .inr (b i) else .inl ()) (fun _=>fin) i l ()=bif l.any p then b j else fin:=by
 intro l
 induction l with
 |nil=>intro i;exact⟨i,Nat.le_refl _,rfl⟩
 |cons e r ih=>
  intro i;cases h:p e
  ·obtain⟨j,h1,h2⟩:=ih (i+1);refine⟨j,by omega,?_⟩;simp only [eU,h,cond_false,List.any_cons,Bool.false_or];exact h2
  ·exact⟨i,Nat.le_refl _,by simp only [eU,h,cond_true,List.any_cons,Bool.true_or]⟩
theorem Jq(m:MT)(hm:Po m):P9 ((m,()),())=some ((!aX m,()),()):=by
 unfold P9;exact aQ _ (Og m hm) rfl
theorem vG{E:Type}(p:E→Bool)(l:List E):(l.any fun e=> !p e)= !l.all p:=by
 induction l with
 |nil=>rfl
 |cons e r ih=>rw [List.any_cons,List.all_cons,ih,Bool.not_and]
theorem Sn(ms:List MT)(hs:ms.length≤big)(hm:∀m∈ms,Po m):∃j:Nat,aB uK ((0,ms,(ms.length:Int),()),())=some (bif ms.all aX then .inr ((),()) else .inl (((j:Int),()),())):=by
 have h:=dh (f:=uK) ms (fun i (_:Unit)=>(((i:Int),ms,(ms.length:Int),()),())) (fun i _ e=>bif !aX e then .inr (.inl (((i:Int),()),())) else .inl ()) (fun _=> .inr ((),())) ?_ ?_ ()
 ·obtain⟨j,_,hj⟩:=jC (fun e=> !aX e) (fun i:Nat=>(Sum.inl (((i:Int),()),()):((Int×Unit)×Unit) ⊕(Unit×Unit))) (.inr ((),())) ms 0;refine⟨j,?_⟩;refine h.trans (congrArg some (hj.trans ?_));rw [vG];cases ms.all aX<;>rfl
 ·intro i e _ he hi;unfold big at hs;have hw:aT ((i:Int)+1)=((i+1:Nat):Int):=aI (by omega);simp only [uK,aH,aC he,bV hi,Jq e (hm e (List.mem_of_getElem? he)),au,sS];cases aX e<;>simp only [au,sS,hw,Bool.not_true,Bool.not_false]
 ·intro _;simp only [uK,dG,au,sS]
theorem I7(ms:List MT)(hs:ms.length≤big)(hm:∀m∈ms,Po m):Qw ((ms,()),())=some ((ms.all aX,()),()):=by
 have h:=dh (f:=yP) ms (fun i (_:Unit)=>(((i:Int),ms,()),())) (fun i _ e=>bif !aX e then .inr (.inl ((false,()),())) else .inl ()) (fun _=> .inr ((),())) ?_ ?_ ()
 ·obtain⟨j,_,hj⟩:=jC (fun e=> !aX e) (fun i:Nat=>(Sum.inl ((false,()),()):((Bool×Unit)×Unit) ⊕(Unit×Unit))) (.inr ((),())) ms 0;unfold Qw;refine aQ _ (h.trans (congrArg some hj)) ?_;rw [vG];cases ms.all aX<;>rfl
 ·intro i e _ he hi;unfold big at hs;have hw:aT ((i:Int)+1)=((i+1:Nat):Int):=aI (by omega);simp only [yP,aH,aC he,bV hi,OV e (hm e (List.mem_of_getElem? he)),au,sS];cases aX e<;>simp only [au,sS,hw,Bool.not_true,Bool.not_false]
 ·intro _;simp only [yP,dG,au,sS]
def gH(last:Int)(s:eP):Int:=
 bif decide (s.1< 1)||decide (s.1≤last) then 6
 else bif decide (s.2.1< 0)||(decide (s.2.1≥s.2.2.1)||(decide (s.2.2.1>8589934592)||decide (s.2.2.2.1< 0))) then 1
 else bif (s.2.2.2.2.1.length:Int)==0 then 7
 else bif decide ((s.2.2.2.2.1.length:Int)>8) then 5
 else bif s.2.2.2.2.1.all aX then 0 else 8
theorem WG(s:eP)(hs:ND s)(last:Int):Wl ((s,last,()),())=some ((gH last s,()),()):=by
 obtain⟨j,hj⟩:=Sn s.2.2.2.2.1 (by have:=hs.1;unfold big;omega) (fun m h=>(hs.2 m h).2);unfold Wl gH;have hj0:decide ((j:Int) ≥0)=true:=decide_eq_true (by omega);cases decide (s.1< 1)<;>cases decide (s.1≤last)<;>simp only [au,sS,Bool.or_true,Bool.true_or,Bool.or_false,Bool.false_or];cases decide (s.2.1< 0)<;>simp only [au,sS,Bool.or_true,Bool.true_or,Bool.or_false,Bool.false_or];cases decide (s.2.1≥s.2.2.1)<;>simp only [au,sS,Bool.or_true,Bool.true_or,Bool.or_false,Bool.false_or];cases decide (s.2.2.1>8589934592)<;>simp only [au,sS,Bool.or_true,Bool.true_or,Bool.or_false,Bool.false_or];cases decide (s.2.2.2.1< 0)<;>simp only [au,sS,Bool.or_true,Bool.true_or,Bool.or_false,Bool.false_or];cases ((s.2.2.2.2.1.length:Int)==0)<;>simp only [au,sS];cases decide ((s.2.2.2.2.1.length:Int)>8)<;>simp only [au,sS];rw [hj];cases s.2.2.2.2.1.all aX<;>simp only [au,sS,hj0]
def r9:Int→List eP→Int
 |_,[]=>0
 |last,s::r=>bif gH last s !=0 then gH last s else r9 s.1 r
def jg(l:List eP):Int:=bif decide ((l.length:Int)>24) then 5 else r9 0 l
theorem Le{B:Type}(f:Int→B)(fin:B):∀(l:List eP) (i:Nat) (last:Int),∃b,eU (fun _ last e=>bif gH last e !=0 then .inr (f (gH last e)) else .inl e.1) (fun _=>fin) i l last=b∧(r9 last l=0∧b=fin∨r9 last l≠0∧b=f (r9 last l)):=by
 intro l
 induction l with
 |nil=>intro i last;exact⟨fin,rfl,.inl ⟨rfl,rfl⟩⟩
 |cons s r ih=>
  intro i last;cases h:(gH last s !=0)
  ·obtain⟨b,h1,h2⟩:=ih (i+1) s.1;refine⟨b,?_,?_⟩
   ·simp only [eU,h,cond_false];exact h1
   ·simp only [r9,h,cond_false];exact h2
  ·refine⟨f (gH last s),?_,.inr ⟨?_,?_⟩⟩
   ·simp only [eU,h,cond_true]
   ·simp only [r9,h,cond_true];exact bne_iff_ne.1 h
   ·simp only [r9,h,cond_true]
theorem DV(l:List eP)(hl:Ab l):m81 ((l,()),())=some ((jg l,()),()):=by
 unfold m81 jg;cases decide ((l.length:Int)>24)
 ·simp only [au,sS];have h:=dh (f:=Dc) l (fun i (last:Int)=>(((i:Int),last,l,(l.length:Int),()),())) (fun _ last e=>bif gH last e !=0 then .inr (.inl ((gH last e,()),())) else .inl e.1) (fun _=> .inr ((),())) ?_ ?_ 0
  ·obtain⟨b,h1,h2⟩:=Le (fun c:Int=>(Sum.inl ((c,()),()):((Int×Unit)×Unit) ⊕(Unit×Unit))) (.inr ((),())) l 0 0;refine aQ b (h.trans (congrArg some h1)) ?_;rcases h2 with⟨e1,rfl⟩|⟨e1,rfl⟩
   ·rw [e1]
   ·rfl
  ·intro i e last he hi;have hl1:=hl.1;have hw:aT ((i:Int)+1)=((i+1:Nat):Int):=aI (by omega);simp only [Dc,aH,aC he,bV hi,WG e (hl.at he) last,au,sS];cases gH last e !=0<;>simp only [au,sS,hw]
  ·intro _;simp only [Dc,dG,au,sS]
 ·simp only [au,sS]
theorem YZ (l:List eP) (hl:Ab l):m87 ((l,()),())=some ((jg l,()),()):=by
 unfold m87 jg;cases decide ((l.length:Int)>24)
 ·simp only [au,sS];have h:=vL (f:=Ct) l (fun i (last:Int)=>(((i:Int),l,()),())) (fun _ last e=>bif gH last e !=0 then .inr (.inl ((gH last e,()),())) else .inl e.1) (fun _=> .inr ((),()))
   (fun i last=>(i=0∧last=0) ∨∃e,0< i∧l[i - 1]?=some e∧last=e.1) ?_ ?_ ?_ l.length 0 0 (by omega) (.inl ⟨rfl,rfl⟩)
  ·rw [List.drop_zero] at h;obtain⟨b,h1,h2⟩:=Le (fun c:Int=>(Sum.inl ((c,()),()):((Int×Unit)×Unit) ⊕(Unit×Unit))) (.inr ((),())) l 0 0;refine aQ b (h.trans (congrArg some h1)) ?_;rcases h2 with⟨e1,rfl⟩|⟨e1,rfl⟩
   ·rw [e1]
   ·rfl
  ·intro i e last he hi hI;have hl1:=hl.1;have hw:aT ((i:Int)+1)=((i+1:Nat):Int):=aI (by omega);have hz:=hl.at he;have q:=I7 e.2.2.2.2.1 (by have:=hz.1;unfold big;omega) (fun m h=>(hz.2 m h).2)
   have key:((bif (decide (e.1< 1)) then(some ((true,(l,((i:Int),()))),((e,()),()))) else(bif (decide ((i:Int)>0)) then(Abs.rowAt l (aT ((i:Int) - 1)) fun e60 _=>some ((decide (e.1≤e60.1),(l,((i:Int),()))),((e,()),()))) else some ((false,(l,((i:Int),()))),((e,()),())))):Option ((Bool×List eP×Int×Unit)×((eP×Unit)×Unit)))=some ((decide (e.1< 1)||decide (e.1≤last),(l,((i:Int),()))),((e,()),())):=by
    rcases hI with⟨rfl,rfl⟩|⟨p,h0,hp,rfl⟩
    ·cases h1:decide (e.1< 1)
     ·have:=of_decide_eq_false h1;rw [decide_eq_false (show¬ e.1≤0 by omega)];rfl
     ·rfl
    ·cases h1:decide (e.1< 1)
     ·have hw1:aT ((i:Int) - 1)=((i - 1:Nat):Int):=by rw [bO (by omega) (by omega)];omega
      simp only [decide_eq_true (show(i:Int)>0 by omega),aH,hw1,aC hp,au,sS,Bool.false_or]
     ·rfl
   simp only [Ct,aH,aC he,bV hi,au,sS];simp only [aH] at key;refine aQ _ key ?_;unfold gH;simp only [q,au,sS];cases decide (e.1< 1)||decide (e.1≤last)<;>simp only [au,sS]
   ·cases decide (e.2.1< 0)<;>simp only [au,sS,Bool.or_true,Bool.true_or,Bool.or_false,Bool.false_or]
    ·cases decide (e.2.1≥e.2.2.1)<;>simp only [au,sS,Bool.or_true,Bool.true_or,Bool.or_false,Bool.false_or]
     ·cases decide (e.2.2.1>8589934592)<;>simp only [au,sS,Bool.or_true,Bool.true_or,Bool.or_false,Bool.false_or]
      ·cases decide (e.2.2.2.1< 0)<;>simp only [au,sS,Bool.or_true,Bool.true_or,Bool.or_false,Bool.false_or]
       ·cases ((e.2.2.2.2.1.length:Int)==0)<;>simp only [au,sS]
        ·cases decide ((e.2.2.2.2.1.length:Int)>8)<;>simp only [au,sS]
         ·rw [q];cases e.2.2.2.2.1.all aX<;>simp only [au,sS,hw,Bool.not_true,Bool.not_false]<;>rfl
         ·rfl
        ·rfl
       ·rfl
      ·rfl
     ·rfl
    ·rfl
   ·rfl
  ·intro i e s s' he hI hs;refine .inr ⟨e,by omega,by rw [Nat.add_sub_cancel];exact he,?_⟩;cases hc:(gH s e !=0)<;>rw [hc] at hs<;>simp only [cond_true,cond_false] at hs
   ·exact(Sum.inl.inj hs).symm
   ·cases hs
  ·intro _ _;simp only [Ct,dG,au,sS]
 ·simp only [au,sS]
theorem CS(l:List eP)(hl:Ab l):Mh ((l,()),())=some ((),(l,())):=by
 have hl1:=hl.1;have h:=gB (f:=yX) l (fun i=>(((i:Int),(l.length:Int),()),(l,()))) ((),(l,())) ?_ ?_
 ·unfold Mh Zw;have hb:decide (l.length≤4294967296)=true:=decide_eq_true (by omega);simp only [hb,au,sS];exact aQ _ h rfl
 ·intro i e he hi;have hw:aT ((i:Int)+1)=((i+1:Nat):Int):=aI (by omega);have hb:decide ((0:Int) ≤(i:Int) ∧(i:Int)< (l.length:Int))=true:=decide_eq_true (by omega);have hc:decide (e.2.2.2.2.1.length≤4294967296)=true:=decide_eq_true (hl.at he).1
  have hs:l.set i (e.1,(e.2.1,(e.2.2.1,(e.2.2.2.1,(e.2.2.2.2.1,())))))=l:=by
   obtain⟨hlt,rfl⟩:=List.getElem?_eq_some_iff.1 he;exact List.set_getElem_self hlt
  simp only [yX,YD,bV hi,hb,Int.toNat_natCast,he,hc,hs,hw,au,sS]
 ·simp only [yX,dG,au,sS]
def Am(l:List eP)(s:eP):Int×List eP:=bif jg (l++ [s]) !=0 then(jg (l++ [s]),[]) else(0,l++ [s])
theorem Ab.app{l:List eP}(hl:Ab l)(h1:l.length≤999){s:eP}(hs:ND s):Ab (l++ [s]):=
 ⟨by simp;omega,fun x hx=>by
  rcases List.mem_append.1 hx with h|h
  ·exact hl.2 x h
  ·simp at h;subst h;exact hs⟩
theorem ZO(l:List eP)(hl:Ab l)(h1:l.length≤999)(s:eP)(hs:ND s):m63 ((l,s,()),())=some (((Am l s).1,()),((Am l s).2,())):=by
 unfold m63 Am;have q:=CS [s] ⟨by simp,fun x hx=>by simp at hx;subst hx;exact hs⟩;have hb:decide (l.length+([s]:List eP).length≤4294967296)=true:=decide_eq_true (by simp;omega);simp only [CS l hl,q,hb,DV _ (hl.app h1 hs),au,sS];cases jg (l++ [s]) !=0<;>rfl
theorem xG(id:Int):∀(l:List eP),(∀y∈l,y.1≠id) ∨∃a s b,l=a++s::b∧(∀y∈a,y.1≠id) ∧s.1=id:=by
 intro l
 induction l with
 |nil=>exact .inl fun y hy=>by cases hy
 |cons e r ih=>
  by_cases h:e.1=id
  ·exact .inr ⟨[],e,r,rfl,(fun y hy=>by cases hy),h⟩
  ·rcases ih with h1|⟨a,s,b,rfl,h1,h2⟩
   ·exact .inl fun y hy=>by
     rcases List.mem_cons.1 hy with rfl|hy
     ·exact h
     ·exact h1 y hy
   ·exact .inr ⟨e::a,s,b,rfl,fun y hy=>by
     rcases List.mem_cons.1 hy with rfl|hy
     ·exact h
     ·exact h1 y hy,h2⟩
def Qs(t:Int)(a:List eP)(s:eP)(b:List eP):Int×List eP:=
 bif decide (s.2.2.1≤t) then(9,[]) else bif decide (s.2.1≥t) then(0,a++b) else(0,a++(s.1,s.2.1,t,s.2.2.2)::b)
theorem VN:∀(l:List eP) (last:Int),r9 last l=0→∀s∈l,last< s.1:=by
 intro l
 induction l with
 |nil=>intro last _ s hs;cases hs
 |cons e r ih=>
  intro last h s hs;unfold r9 at h;cases hc:(gH last e !=0)
  ·rw [hc] at h;simp only [cond_false] at h;have h0:gH last e=0:=by simpa using hc
   have hlt:last< e.1:=by
    unfold gH at h0;cases h1:decide (e.1≤last)
    ·have:=of_decide_eq_false h1;omega
    ·rw [h1,Bool.or_true] at h0;cases h0
   rcases List.mem_cons.1 hs with rfl|hs
   ·exact hlt
   ·have:=ih _ h s hs;omega
  ·rw [hc] at h;simp only [cond_true] at h;rw [h] at hc;cases hc
theorem Qg:∀(a:List eP) (last:Int) (s:eP) (b:List eP),r9 last (a++s::b)=0→∀y∈b,s.1< y.1:=by
 intro a
 induction a with
 |nil=>
  intro last s b h;rw [List.nil_append] at h;unfold r9 at h;cases hc:(gH last s !=0)
  ·rw [hc] at h;exact VN b s.1 h
  ·rw [hc] at h;simp only [cond_true] at h;rw [h] at hc;cases hc
 |cons e r ih=>
  intro last s b h;rw [List.cons_append] at h;unfold r9 at h;cases hc:(gH last e !=0)
  ·rw [hc] at h;exact ih e.1 s b h
  ·rw [hc] at h;simp only [cond_true] at h;rw [h] at hc;cases hc
theorem Dv{l:List eP}(h:jg l=0):r9 0 l=0∧l.length≤24:=by
 unfold jg at h;cases hc:decide ((l.length:Int)>24)
 ·rw [hc] at h;exact⟨h,by have:=of_decide_eq_false hc;omega⟩
 ·rw [hc] at h;cases h
theorem RO(l:List eP)(hl:l.length≤1000)(id:Int):∃b,aB zA ((0,l,(l.length:Int),()),((id,()),()))=some b∧
  (((∀y∈l,y.1≠id) →b= .inr ((),((id,()),()))) ∧∀a s c,l=a++s::c→(∀y∈a,y.1≠id) →s.1=id→b= .inl (((a.length:Int),()),((id,()),()))):=by
 have h:=dh (f:=zA) l (fun i (_:Unit)=>(((i:Int),l,(l.length:Int),()),((id,()),()))) (fun i _ e=>bif e.1==id then .inr (.inl (((i:Int),()),((id,()),()))) else .inl ()) (fun _=> .inr ((),((id,()),()))) ?_ ?_ ()
 ·refine⟨_,h,?_,?_⟩
  ·intro hn;clear h;generalize 0=k
   revert k
   clear hl
   induction l with
   |nil=>intro k;rfl
   |cons e r ih=>
    intro k;have:(e.1==id)=false:=beq_eq_false_iff_ne.2 (hn e (List.mem_cons_self ..));simp only [eU,this,cond_false];exact ih (fun y hy=>hn y (List.mem_cons_of_mem _ hy)) (k+1)
  ·intro a s c he ha hs;subst he;clear h hl
   have:∀k:Nat,eU (fun i (_:Unit) (e:eP)=>bif e.1==id then .inr (.inl (((i:Int),()),((id,()),()))) else .inl ()) (fun _=>(.inr ((),((id,()),())):((Int×Unit)×((Int×Unit)×Unit)) ⊕(Unit×((Int×Unit)×Unit)))) k (a++s::c) ()= .inl ((((k+a.length:Nat):Int),()),((id,()),())):=by
    induction a with
    |nil=>
     intro k;have:(s.1==id)=true:=beq_iff_eq.2 hs;simp only [eU,List.nil_append,this,cond_true,List.length_nil,Nat.add_zero]
    |cons e r ih=>
     intro k;have:(e.1==id)=false:=beq_eq_false_iff_ne.2 (ha e (List.mem_cons_self ..));simp only [eU,List.cons_append,this,cond_false];rw [ih (fun y hy=>ha y (List.mem_cons_of_mem _ hy)) (k+1),List.length_cons,show k+1+r.length=k+(r.length+1) by omega]
   have q:=this 0;rw [Nat.zero_add] at q;exact q
 ·intro i e _ he hi;have hw:aT ((i:Int)+1)=((i+1:Nat):Int):=aI (by omega);simp only [zA,aH,aC he,bV hi,au,sS];cases (e.1==id)<;>simp only [au,sS,hw]
 ·intro _;simp only [zA,dG,au,sS]
theorem VK(l:List eP)(hl:Ab l)(id t:Int)(h:jg l≠0):Vv ((l,id,t,()),())=some ((jg l,()),([],())):=by
 unfold Vv;have:(jg l !=0)=true:=bne_iff_ne.2 h;simp only [DV l hl,this,au,sS]
theorem TD(l:List eP)(hl:Ab l)(id t:Int)(h:jg l=0)(hn:∀y∈l,y.1≠id):Vv ((l,id,t,()),())=some ((3,()),([],())):=by
 unfold Vv;obtain⟨b,hb,h1,_⟩:=RO l hl.1 id;rw [h1 hn] at hb;simp only [DV l hl,h,au,sS];rw [hb];rfl
theorem Wz(a:List eP)(s:eP)(c:List eP)(hl:Ab (a++s::c))(t:Int)(h:jg (a++s::c)=0)(ha:∀y∈a,y.1≠s.1):
  Vv ((a++s::c,s.1,t,()),())=some (((Qs t a s c).1,()),((Qs t a s c).2,())):=by
 unfold Vv;have hl1:=hl.1;obtain⟨b,hb,_,h2⟩:=RO (a++s::c) hl.1 s.1;rw [h2 a s c rfl ha rfl] at hb;have hs:(a++s::c)[a.length]?=some s:=by rw [List.getElem?_append_right (Nat.le_refl _),Nat.sub_self];rfl
 have hlen:a.length< (a++s::c).length:=by simp
 have h0:decide ((a.length:Int)< 0)=false:=decide_eq_false (by omega);have hbd:decide ((0:Int) ≤(a.length:Int) ∧(a.length:Int)< ((a++s::c).length:Int))=true:=decide_eq_true (by omega);have hw:aT ((a.length:Int)+1)=((a.length+1:Nat):Int):=aI (by omega);have hd:decide ((0:Int) ≤(a.length:Int) ∧(a.length:Int)< ((a.length+1:Nat):Int) ∧((a.length+1:Nat):Int) ≤((a++s::c).length:Int) ∧(a++s::c).length≤4294967296)=true:=decide_eq_true (by omega);have ht:(a++s::c).take a.length=a:=List.take_left' rfl;have hdr:(a++s::c).drop (a.length+1)=c:=by rw [show a++s::c=(a++ [s])++c by simp];exact List.drop_left' (by simp)
 have hset:∀z,(a++s::c).set a.length z=a++z::c:=fun z=>by rw [List.set_append_right _ _ (Nat.le_refl _),Nat.sub_self];rfl
 simp only [DV _ hl,h,au,sS];rw [hb];have hsum:∀{A B C:Type} (x:A) (f:A→C) (g:B→C),au (.inl x:A⊕B) f g=f x:=fun _ _ _=>rfl
 simp only [au,sS,h0,aH,aC hs,CS _ hl,hbd,Int.toNat_natCast,hs,hw,hd,ht,hdr,hset];unfold Qs;cases decide (s.2.2.1≤t)<;>cases decide (s.2.1≥t)<;>simp only [au,sS,decide_true]
theorem RY(l:List eP)(hl:Ab l):m53 ((l,l,()),())=some ((true,()),()):=by
 have hl1:=hl.1;have h:=gB (f:=CF) l (fun i=>(((i:Int),l,l,()),())) (.inr ((),())) ?_ ?_
 ·unfold m53;simp only [au,sS];exact aQ _ h rfl
 ·intro i e he hi;have hw:aT ((i:Int)+1)=((i+1:Nat):Int):=aI (by omega);have hz:=(hl.at he).1;have h2:=gB (f:=zi) e.2.2.2.2.1 (fun j=>(((j:Int),l,l,(i:Int),()),((e,()),((e,()),())))) (.inr ((l,l,(i:Int),()),())) ?_ ?_
  ·simp only [CF,bV hi,aH,aC he,au,sS];refine aQ _ h2 ?_;simp only [hw]
  ·intro j m hj hji;have hw2:aT ((j:Int)+1)=((j+1:Nat):Int):=aI (by omega)
   have h1:∀b:ByteArray,(b==b)=true:=fun b=>by
    show(b.data==b.data)=true
    exact beq_self_eq_true _
   simp only [zi,bV hji,aH,aC hj,hw2,h1,beq_self_eq_true,Bool.and_self,Bool.not_true,au,sS]
  ·simp only [zi,dG,au,sS]
 ·simp only [CF,dG,au,sS]
def GoodS(s:eP):Prop:=0≤s.2.1∧s.2.1< s.2.2.1∧s.2.2.1≤2000∧0≤s.2.2.2.1∧s.2.2.2.2.1≠ [] ∧s.2.2.2.2.1.length≤8∧∀m∈s.2.2.2.2.1,lF m
theorem GoodS.z{s:eP}(h:GoodS s):ND s:=⟨by have:=h.2.2.2.2.2.1;omega,fun m hm=>⟨(h.2.2.2.2.2.2 m hm).p,(h.2.2.2.2.2.2 m hm).z⟩⟩
theorem GL{l:List MT}(h:∀m∈l,lF m):l.all aX=true:=List.all_eq_true.2 fun m hm=>(h m hm).1
def DJ(last:Int)(l:List eP):Int:=l.foldl (fun _ s=>s.1) last
theorem Ht(id:Int)(d:fZ)(hd:qZ d):∃(f t b:Int) (ms:List MT) (d':fZ),m43 ((id,()),((d,()),()))=some ((),((d',()),((id,f,t,b,()),()),ms,())) ∧qZ d'∧GoodS (id,f,t,b,ms,()):=by
 obtain⟨a1,d1,e1,hd1,b1,_⟩:=dw 600 d hd (by omega);have b1:=b1 (by omega);obtain⟨a2,d2,e2,hd2,b2,_⟩:=dw 900 d1 hd1 (by omega);have b2:=b2 (by omega);obtain⟨a3,d3,e3,hd3,b3,_⟩:=dw 3 d2 hd2 (by omega);have b3:=b3 (by omega);obtain⟨ms,d4,e4,hd4,hl,hg⟩:=kH 1 d3 hd3 (by omega) (by omega);obtain⟨m,d5,e5,hd5,hm⟩:=qx d4 hd4;have hb:decide (ms.length+([m]:List MT).length≤4294967296)=true:=decide_eq_true (by simp;omega);refine⟨a1,a1+1+a2,a3,ms++ [m],d5,?_,hd5,b1.1,by show a1< a1+1+a2;omega,by show a1+1+a2≤2000;omega,b3.1,by simp,by show(ms++ [m]).length≤8;simp;omega,?_⟩
 ·unfold m43;simp only [e1,e2,e3,e4,e5,hb,au,sS,bO (x:=a1+1) (by omega) (by omega),bO (x:=a1+1+a2) (by omega) (by omega)]
 ·intro x hx;rcases List.mem_append.1 hx with h|h
  ·exact hg x h
  ·simp at h;subst h;exact hm
def Ij(l:List eP):Prop:=l.length≤3∧r9 0 l=0∧∀s∈l,s.1≤2 *(l.length:Int) ∧GoodS s
theorem Ij.gZ{l:List eP}(h:Ij l):jg l=0:=by
 unfold jg;rw [decide_eq_false (by have:=h.1;omega),cond_false,h.2.1]
theorem Ij.z{l:List eP}(h:Ij l):Ab l:=⟨by have:=h.1;omega,fun s hs=>(h.2.2 s hs).2.z⟩
def qC{E:Type}(bad:Option E→E→Bool):Option E→List E→Bool
 |_,[]=>true
 |p,e::r=> !bad p e&&qC bad (some e) r
theorem jr{A B E:Type}{f:A→Option (A⊕B)}(l:List E)(st:Nat→A)(bad:Option E→E→Bool)(no yes:B)
  (h1:∀i e,l[i]?=some e→i< l.length→f (st i)=some (bif bad (if i=0 then none else l[i - 1]?) e then .inr no else .inl (st (i+1)))) (h2:f (st l.length)=some (.inr yes)):
  aB f (st 0)=some (bif qC bad none l then yes else no):=by
 have key:∀(k i:Nat),i+k=l.length→aB f (st i)=some (bif qC bad (if i=0 then none else l[i - 1]?) (l.drop i) then yes else no):=by
  intro k
  induction k with
  |zero=>
   intro i h;obtain rfl:i=l.length:=by omega
   rw [List.drop_length];exact aF h2
  |succ k ih=>
   intro i h;obtain⟨e,he,hd⟩:=drop_at (l:=l) (i:=i) (by omega);have q:=h1 i e he (by omega);rw [hd];unfold qC;cases hb:bad (if i=0 then none else l[i - 1]?) e
   ·rw [hb] at q;have:=ih (i+1) (by omega);rw [if_neg (by omega),Nat.add_sub_cancel,he] at this;rw [Bool.not_false,Bool.true_and,←this];exact aN q
   ·rw [hb] at q;exact aF q
 have:=key l.length 0 (by omega);rw [List.drop_zero] at this;exact this
theorem iT{E:Type}{l:List E}{i:Nat}(hi:i< l.length):i=0∨∃p,0< i∧l[i - 1]?=some p∧(i≤9223372036854775807→aT ((i:Int) - 1)=((i - 1:Nat):Int)):=by
 by_cases h:i=0
 ·exact .inl h
 ·obtain⟨p,hp⟩:=getD_some (l:=l) (i:=i - 1) (by omega);exact .inr ⟨p,by omega,hp,fun hb=>by rw [bO (by omega) (by omega)];omega⟩
def leB(a b:ByteArray):Bool:=Op.bytesLess a.toList b.toList||a.toList==b.toList
def DU(p:Option ByteArray)(k:ByteArray):Bool:= !l6 k||(match p with|none=>false|some q=>leB k q)
def jc(l:List ByteArray):Bool:=qC DU none l
theorem Xf(s:ByteArray)(hs:s.size≤big):VP ((s,()),())=some ((l6 s,()),()):=by
 unfold VP;exact aQ _ (IC s hs) rfl
theorem Pe(l:List ByteArray)(hl:l.length≤big)(hs:∀k∈l,k.size≤big):Sl ((l,()),())=some ((jc l,()),()):=by
 have h:=jr (f:=tK) l (fun i=>(((i:Int),l,l,(l.length:Int),()),())) DU (.inl ((false,()),())) (.inr ((),())) ?_ ?_
 ·unfold Sl;refine aQ _ h ?_;unfold jc;cases qC DU none l<;>rfl
 ·intro i e he hi;unfold big at hl;have hw:aT ((i:Int)+1)=((i+1:Nat):Int):=aI (by omega);have q:=Xf e (hs e (List.mem_of_getElem? he));rcases iT hi with h0|⟨p,h0,hp,hp1⟩
  ·rw [if_pos h0];have:decide ((i:Int)>0)=false:=decide_eq_false (by omega);unfold DU;simp only [tK,aH,aC he,bV hi,q,this,au,sS];cases l6 e<;>simp only [au,sS,hw,Bool.or_false]
  ·rw [if_neg (by omega),hp];have:decide ((i:Int)>0)=true:=decide_eq_true (by omega);unfold DU leB;simp only [tK,aH,aC he,bV hi,q,this,hp1 (by omega),aC hp,au,sS];cases l6 e<;>cases Op.bytesLess e.toList p.toList||e.toList==p.toList<;>simp only [au,sS,hw,Bool.or_false,Bool.or_true]
 ·simp only [tK,dG,au,sS]
theorem O6(l:List ByteArray)(hl:l.length≤big)(hs:∀k∈l,k.size≤big):Tx ((l,()),())=some ((jc l,()),()):=by
 have h:=jr (f:=uh) l (fun i=>(((i:Int),l,()),())) DU (.inl ((false,()),())) (.inr ((),())) ?_ ?_
 ·unfold Tx;refine aQ _ h ?_;unfold jc;cases qC DU none l<;>rfl
 ·intro i e he hi;unfold big at hl;have hw:aT ((i:Int)+1)=((i+1:Nat):Int):=aI (by omega);have q:=Jw e (hs e (List.mem_of_getElem? he));rcases iT hi with h0|⟨p,h0,hp,hp1⟩
  ·rw [if_pos h0];have:decide ((i:Int)>0)=false:=decide_eq_false (by omega);unfold DU;simp only [uh,aH,aC he,bV hi,q,this,au,sS];cases l6 e<;>simp only [au,sS,hw,Bool.or_false]
  ·rw [if_neg (by omega),hp];have:decide ((i:Int)>0)=true:=decide_eq_true (by omega);unfold DU leB;simp only [uh,aH,aC he,bV hi,q,this,hp1 (by omega),aC hp,au,sS];cases l6 e<;>cases Op.bytesLess e.toList p.toList||e.toList==p.toList<;>simp only [au,sS,hw,Bool.or_false,Bool.or_true]
 ·simp only [uh,dG,au,sS]
def Je{E:Type}(gZ:E→Int):List E→Int
 | []=>0
 |e::r=>bif gZ e !=0 then gZ e else Je gZ r
theorem x9{A B E:Type}{f:A→Option (A⊕B)}(l:List E)(st:Nat→A)(gZ:E→Int)(no:Int→B)(yes:B)
  (h1:∀i e,l[i]?=some e→i< l.length→f (st i)=some (bif gZ e !=0 then .inr (no (gZ e)) else .inl (st (i+1)))) (h2:f (st l.length)=some (.inr yes)):
  aB f (st 0)=some (bif Je gZ l !=0 then no (Je gZ l) else yes):=by
 have key:∀(k i:Nat),i+k=l.length→aB f (st i)=some (bif Je gZ (l.drop i) !=0 then no (Je gZ (l.drop i)) else yes):=by
  intro k
  induction k with
  |zero=>
   intro i h;obtain rfl:i=l.length:=by omega
   rw [List.drop_length];exact aF h2
  |succ k ih=>
   intro i h;obtain⟨e,he,hd⟩:=drop_at (l:=l) (i:=i) (by omega);have q:=h1 i e he (by omega);rw [hd];unfold Je;cases hb:(gZ e !=0)
   ·rw [hb] at q;rw [cond_false,←ih (i+1) (by omega)];exact aN q
   ·rw [hb] at q;rw [cond_true,hb];exact aF q
 have:=key l.length 0 (by omega);rw [List.drop_zero] at this;exact this
def TSz(r:Ac):Prop:=(r.1.length≤big∧∀m∈r.1,Po m) ∧(r.2.1.length≤big∧∀m∈r.2.1,Po m) ∧r.2.2.1.length≤big∧∀k∈r.2.2.1,k.size≤big
def AU(r:Ac):Int:=
 bif (r.1.length:Int)==0||(r.2.1.length:Int)==0 then 7
 else bif decide ((r.1.length:Int)>8)||(decide ((r.2.1.length:Int)>8)||decide ((r.2.2.1.length:Int)>12)) then 5
 else bif !r.1.all aX||(!r.2.1.all aX|| !jc r.2.2.1) then 8 else 0
def tq(l:List Ac):Int:=bif decide ((l.length:Int)>12) then 5 else Je AU l
theorem K3(ms:List MT)(hs:ms.length≤big)(hm:∀m∈ms,Po m):∃j:Nat,aB uH ((0,ms,(ms.length:Int),()),())=some (bif ms.all aX then .inr ((),()) else .inl (((j:Int),()),())) ∧
  aB tJ ((0,ms,(ms.length:Int),()),())=some (bif ms.all aX then .inr ((),()) else .inl (((j:Int),()),())):=by
 have h:=dh (f:=uH) ms (fun i (_:Unit)=>(((i:Int),ms,(ms.length:Int),()),())) (fun i _ e=>bif !aX e then .inr (.inl (((i:Int),()),())) else .inl ()) (fun _=> .inr ((),())) ?_ ?_ ();have g:=dh (f:=tJ) ms (fun i (_:Unit)=>(((i:Int),ms,(ms.length:Int),()),())) (fun i _ e=>bif !aX e then .inr (.inl (((i:Int),()),())) else .inl ()) (fun _=> .inr ((),())) ?_ ?_ ()
 ·obtain⟨j,_,hj⟩:=jC (fun e=> !aX e) (fun i:Nat=>(Sum.inl (((i:Int),()),()):((Int×Unit)×Unit) ⊕(Unit×Unit))) (.inr ((),())) ms 0
  have hh:(bif (ms.any fun e=> !aX e) then(Sum.inl (((j:Int),()),()):((Int×Unit)×Unit) ⊕(Unit×Unit)) else .inr ((),()))=(bif ms.all aX then .inr ((),()) else .inl (((j:Int),()),())):=by
   rw [vG];cases ms.all aX<;>rfl
  exact⟨j,h.trans (congrArg some (hj.trans hh)),g.trans (congrArg some (hj.trans hh))⟩
 ·intro i e _ he hi;unfold big at hs;have hw:aT ((i:Int)+1)=((i+1:Nat):Int):=aI (by omega);simp only [tJ,aH,aC he,bV hi,Jq e (hm e (List.mem_of_getElem? he)),au,sS];cases aX e<;>simp only [au,sS,hw,Bool.not_true,Bool.not_false]
 ·intro _;simp only [tJ,dG,au,sS]
 ·intro i e _ he hi;unfold big at hs;have hw:aT ((i:Int)+1)=((i+1:Nat):Int):=aI (by omega);simp only [uH,aH,aC he,bV hi,Jq e (hm e (List.mem_of_getElem? he)),au,sS];cases aX e<;>simp only [au,sS,hw,Bool.not_true,Bool.not_false]
 ·intro _;simp only [uH,dG,au,sS]
theorem Vd(r:Ac)(hr:TSz r):WK ((r,()),())=some ((AU r,()),()):=by
 obtain⟨⟨a1,a2⟩,⟨b1,b2⟩,c1,c2⟩:=hr;obtain⟨j,hj,_⟩:=K3 r.1 a1 a2;obtain⟨k,_,hk⟩:=K3 r.2.1 b1 b2;have q:=Pe r.2.2.1 c1 c2;have hj0:decide ((j:Int) ≥0)=true:=decide_eq_true (by omega);have hk0:decide ((k:Int) ≥0)=true:=decide_eq_true (by omega);unfold WK AU;cases ((r.1.length:Int)==0)<;>simp only [au,sS,Bool.or_true,Bool.true_or,Bool.or_false,Bool.false_or];cases ((r.2.1.length:Int)==0)<;>simp only [au,sS,Bool.or_true,Bool.true_or,Bool.or_false,Bool.false_or];cases decide ((r.1.length:Int)>8)<;>simp only [au,sS,Bool.or_true,Bool.true_or,Bool.or_false,Bool.false_or];cases decide ((r.2.1.length:Int)>8)<;>simp only [au,sS,Bool.or_true,Bool.true_or,Bool.or_false,Bool.false_or];cases decide ((r.2.2.1.length:Int)>12)<;>simp only [au,sS,Bool.or_true,Bool.true_or,Bool.or_false,Bool.false_or];rw [hj,hk]
 cases r.1.all aX<;>simp only [au,sS,hj0,q,Bool.not_true,Bool.not_false,Bool.or_true,Bool.true_or,Bool.or_false,Bool.false_or];cases r.2.1.all aX<;>simp only [au,sS,hk0,Bool.not_true,Bool.not_false,Bool.or_true,Bool.true_or,Bool.or_false,Bool.false_or];cases jc r.2.2.1<;>simp only [au,sS,Bool.not_true,Bool.not_false]
theorem YP(l:List Ac)(hl:l.length≤big)(hr:∀r∈l,TSz r):m79 ((l,()),())=some ((tq l,()),()):=by
 unfold m79 tq;cases decide ((l.length:Int)>12)
 ·simp only [au,sS];have h:=x9 (f:=Cz) l (fun i=>(((i:Int),l,(l.length:Int),()),())) AU (fun c=> .inl ((c,()),())) (.inr ((),())) ?_ ?_
  ·refine aQ _ h ?_;cases hc:(Je AU l !=0)
   ·have:Je AU l=0:=by simpa using hc
    rw [this];rfl
   ·rfl
  ·intro i e he hi;unfold big at hl;have hw:aT ((i:Int)+1)=((i+1:Nat):Int):=aI (by omega);simp only [Cz,aH,aC he,bV hi,Vd e (hr e (List.mem_of_getElem? he)),au,sS];cases AU e !=0<;>simp only [au,sS,hw]
  ·simp only [Cz,dG,au,sS]
 ·simp only [au,sS]
theorem Yz (l:List Ac) (hl:l.length≤big) (hr:∀r∈l,TSz r):m80 ((l,()),())=some ((tq l,()),()):=by
 unfold m80 tq;cases decide ((l.length:Int)>12)
 ·simp only [au,sS];have h:=x9 (f:=Da) l (fun i=>(((i:Int),l,()),())) AU (fun c=> .inl ((c,()),())) (.inr ((),())) ?_ ?_
  ·refine aQ _ h ?_;cases hc:(Je AU l !=0)
   ·have:Je AU l=0:=by simpa using hc
    rw [this];rfl
   ·rfl
  ·intro i e he hi;unfold big at hl;have hw:aT ((i:Int)+1)=((i+1:Nat):Int):=aI (by omega);obtain⟨⟨a1,a2⟩,⟨b1,b2⟩,c1,c2⟩:=hr e (List.mem_of_getElem? he);have q1:=I7 e.1 a1 a2;have q2:=I7 e.2.1 b1 b2;have q3:=O6 e.2.2.1 c1 c2;unfold AU;simp only [Da,aH,aC he,bV hi,au,sS];cases ((e.1.length:Int)==0)<;>simp only [au,sS,Bool.or_true,Bool.true_or,Bool.or_false,Bool.false_or]
   ·cases ((e.2.1.length:Int)==0)<;>simp only [au,sS,Bool.or_true,Bool.true_or,Bool.or_false,Bool.false_or]
    ·cases decide ((e.1.length:Int)>8)<;>simp only [au,sS,Bool.or_true,Bool.true_or,Bool.or_false,Bool.false_or]
     ·cases decide ((e.2.1.length:Int)>8)<;>simp only [au,sS,Bool.or_true,Bool.true_or,Bool.or_false,Bool.false_or]
      ·cases decide ((e.2.2.1.length:Int)>12)<;>simp only [au,sS,q1,q2,q3,Bool.or_true,Bool.true_or,Bool.or_false,Bool.false_or]
       ·cases e.1.all aX<;>simp only [au,sS,Bool.not_true,Bool.not_false,Bool.or_true,Bool.true_or,Bool.or_false,Bool.false_or]
        ·rfl
        ·cases e.2.1.all aX<;>simp only [au,sS,Bool.not_true,Bool.not_false,Bool.or_true,Bool.true_or,Bool.or_false,Bool.false_or]
         ·rfl
         ·cases jc e.2.2.1<;>simp only [au,sS,hw,Bool.not_true,Bool.not_false]<;>rfl
       ·rfl
      ·rfl
     ·rfl
    ·rfl
   ·rfl
  ·simp only [Da,dG,au,sS]
 ·simp only [au,sS]
theorem V6(r:List Ac)(hr:Ze r)(l:List eP)(hl:Ab l)(x:List LT)(hx:OM x)(f:List (List LT))(hf:Yo f)(t:Int):Vi ((r,l,x,f,t,()),())=some (((FU x t l).2||xR r x f,()),()):=by
 unfold Vi;simp only [Xl l hl x hx,Vx r hr x hx f hf,au,sS];cases (FU x t l).2<;>rfl
theorem RQ(a b:ByteArray):bl (a++b)=bl a++bl b:=by
 show(a++b).data.toList=_
 rw [ByteArray.data_append,Array.toList_append]
theorem Ta(a b:ByteArray):(a++b).size=a.size+b.size:=ByteArray.size_append
theorem lm(a b:List UInt8):gX a++gX b=gX (a++b):=DI (by rw [RQ,GH,GH,GH])
theorem YJ(s:ByteArray)(b:List UInt8):s++gX b=gX (bl s++b):=DI (by rw [RQ,GH,GH])
def EJ(p:Option LT)(x:LT):Bool:= !l6 x.1||(!vS x.2.1||(x.2.1.toList==ByteArray.empty.toList||(match p with|none=>false|some q=>leB x.1 q.1)))
def cB(l:List LT):Bool:= !decide ((l.length:Int)>12)&&qC EJ none l
def PY(l:List LT):Prop:=l.length≤big∧∀x∈l,x.1.size≤big∧x.2.1.size≤big
theorem AL(l:List LT)(hl:PY l):WX ((l,()),())=some ((cB l,()),()):=by
 unfold WX cB;cases hc:decide ((l.length:Int)>12)
 ·simp only [au,sS];have h:=jr (f:=zQ) l (fun i=>(((i:Int),l,l,(l.length:Int),()),())) EJ (.inl ((false,()),())) (.inr ((),())) ?_ ?_
  ·refine aQ _ h ?_;cases qC EJ none l<;>rfl
  ·intro i e he hi;have hl1:=hl.1;unfold big at hl1;have hw:aT ((i:Int)+1)=((i+1:Nat):Int):=aI (by omega);obtain⟨z1,z2⟩:=hl.2 e (List.mem_of_getElem? he);have q1:=IC e.1 z1;have q2:=Pm e.2.1 z2;rcases iT hi with h0|⟨p,h0,hp,hp1⟩
   ·rw [if_pos h0];have:decide ((i:Int)>0)=false:=decide_eq_false (by omega);unfold EJ;simp only [zQ,aH,aC he,bV hi,q1,q2,this,au,sS];cases l6 e.1<;>cases vS e.2.1<;>cases (e.2.1.toList==ByteArray.empty.toList)<;>simp only [au,sS,hw,Bool.or_false,Bool.or_true,Bool.false_or,Bool.true_or]
   ·rw [if_neg (by omega),hp];have:decide ((i:Int)>0)=true:=decide_eq_true (by omega);unfold EJ leB;simp only [zQ,aH,aC he,bV hi,q1,q2,this,hp1 (by omega),aC hp,au,sS];cases l6 e.1<;>cases vS e.2.1<;>cases (e.2.1.toList==ByteArray.empty.toList)<;>cases Op.bytesLess e.1.toList p.1.toList||e.1.toList==p.1.toList<;>simp only [au,sS,hw,Bool.or_false,Bool.or_true,Bool.false_or,Bool.true_or]
  ·simp only [zQ,dG,au,sS]
 ·simp only [au,sS]
theorem Ny(l:List LT)(hl:PY l):ZT ((l,()),())=some ((cB l,()),()):=by
 unfold ZT cB;cases hc:decide ((l.length:Int)>12)
 ·simp only [au,sS];have h:=jr (f:=zL) l (fun i=>(((i:Int),l,()),())) EJ (.inl ((false,()),())) (.inr ((),())) ?_ ?_
  ·refine aQ _ h ?_;cases qC EJ none l<;>rfl
  ·intro i e he hi;have hl1:=hl.1;unfold big at hl1;have hw:aT ((i:Int)+1)=((i+1:Nat):Int):=aI (by omega);obtain⟨z1,z2⟩:=hl.2 e (List.mem_of_getElem? he);have q1:=Jw e.1 z1;have q2:=O5 e.2.1 z2;rcases iT hi with h0|⟨p,h0,hp,hp1⟩
   ·rw [if_pos h0];have:decide ((i:Int)>0)=false:=decide_eq_false (by omega);unfold EJ;simp only [zL,aH,aC he,bV hi,q1,q2,this,au,sS];cases l6 e.1<;>cases vS e.2.1<;>cases (e.2.1.toList==ByteArray.empty.toList)<;>simp only [au,sS,hw,Bool.or_false,Bool.or_true,Bool.false_or,Bool.true_or]
   ·rw [if_neg (by omega),hp];have:decide ((i:Int)>0)=true:=decide_eq_true (by omega);unfold EJ leB;simp only [zL,aH,aC he,bV hi,q1,q2,this,hp1 (by omega),aC hp,au,sS];cases l6 e.1<;>cases vS e.2.1<;>cases (e.2.1.toList==ByteArray.empty.toList)<;>cases Op.bytesLess e.1.toList p.1.toList||e.1.toList==p.1.toList<;>simp only [au,sS,hw,Bool.or_false,Bool.or_true,Bool.false_or,Bool.true_or]
  ·simp only [zL,dG,au,sS]
 ·simp only [au,sS]
theorem yJ{E:Type}{bad:Option E→E→Bool}:∀{l:List E} {p:Option E},qC bad p l=true→∀x∈l,∃q,bad q x=false
 | [],_,_,x,hx=>by cases hx
 |e::r,p,h,x,hx=>by
  unfold qC at h;rw [Bool.and_eq_true] at h;rcases List.mem_cons.1 hx with rfl|hx
  ·exact⟨p,by simpa using h.1⟩
  ·exact yJ h.2 x hx
theorem Vr{q:Option LT}{x:LT}(h:EJ q x=false):l6 x.1=true∧vS x.2.1=true∧x.2.1≠ByteArray.empty:=by
 unfold EJ at h;simp only [Bool.or_eq_false_iff] at h;refine⟨by simpa using h.1,by simpa using h.2.1,fun e=> ?_⟩;rw [e] at h;simp at h
theorem gy{l:List LT}(h:cB l=true):l.length≤12∧∀x∈l,l6 x.1=true∧vS x.2.1=true∧x.2.1≠ByteArray.empty:=by
 unfold cB at h;rw [Bool.and_eq_true] at h;refine⟨?_,fun x hx=> ?_⟩
 ·have:decide ((l.length:Int)>12)=false:=by simpa using h.1
  have:=of_decide_eq_false this;omega
 ·obtain⟨q,hq⟩:=yJ h.2 x hx;exact Vr hq
theorem C9{s:ByteArray}(h:l6 s=true):s.size≤24:=by
 have:=(Xg (s:=bl s) h).2.1
 rwa [bI] at this
theorem vN{s:ByteArray}(h:vS s=true):s.size≤64:=by
 have h:Xr (bl s)=true:=h;unfold Xr at h;rw [Bool.and_eq_true] at h;have:=of_decide_eq_true h.2
 rwa [bI] at this
theorem Oq:∀(a b:List UInt8),esc (a++b)=esc a++esc b
 | [],b=>rfl
 |c::a,b=>by
  rw [List.cons_append];simp only [esc];rw [Oq a b];split<;>rfl
theorem EN(s:ByteArray):(jU s).size≤2 * s.size+2:=by
 unfold jU;rw [size_mk];have:=uY s.data.toList;have e:s.data.toList.length=s.size:=bI s;simp;omega
theorem VS(s:ByteArray)(hs:s.size≤1048576):Va ((s,()),())=some ((jU s,()),()):=by
 have h:=mU (f:=rO) (Q:=fun b=>b=((gX (34::esc (bl s)),()),())) (fun i st=>st=(((i:Int),s,gX (34::esc ((bl s).take i)),()),())) s.size ?_ ?_ _ rfl
 ·obtain⟨b,h1,rfl⟩:=h;unfold Va;refine aQ _ (show aB rO ((0,s,bs [34],()),())=_ from h1) ?_;have hl:=uY (bl s);rw [bI] at hl;have hb:decide ((gX (34::esc (bl s))).size+1≤4294967296)=true:=decide_eq_true (by rw [size_mk,List.length_cons];omega);simp only [hb,au,sS];unfold jU;rw [show bs [34]=gX [34] from rfl,lm];rfl
 ·rintro i _ hi rfl;obtain⟨c,hc⟩:=getD_some (l:=bl s) (i:=i) (by rw [bI];exact hi);have hlt:decide ((i:Int)< (s.size:Int))=true:=decide_eq_true (by omega);have hbd:decide ((0:Int) ≤(i:Int) ∧(i:Int)< (s.size:Int))=true:=decide_eq_true (by omega);have hw:aT ((i:Int)+1)=((i+1:Nat):Int):=aI (by omega);have h0:decide ((0:Int) ≤(i:Int))=true:=decide_eq_true (by omega);have h1:decide ((0:Int) ≤((i+1:Nat):Int))=true:=decide_eq_true (by omega);have h2:decide (i≤i+1∧i+1≤s.size)=true:=decide_eq_true (by omega)
  have hx:s.extract i (i+1)=gX [c]:=DI (by
   have hcl:i< (bl s).length:=by rw [bI];exact hi
   rw [nJ,GH,List.drop_eq_getElem_cons hcl,show i+1 - i=1 by omega,List.take_succ_cons,List.take_zero];rw [(List.getElem?_eq_some_iff.1 hc).2])
  have htk:(bl s).take (i+1)=(bl s).take i++ [c]:=by rw [List.take_add_one,hc];rfl
  have hl:=uY ((bl s).take i);rw [List.length_take] at hl;have hsz:∀b:List UInt8,b.length≤2→decide ((gX (34::(esc ((bl s).take i)++b))).size+1≤4294967296)=true:=fun b hb=>decide_eq_true (by rw [size_mk];simp;omega)
  have hs0:decide ((gX (34::esc ((bl s).take i))).size+1≤4294967296)=true:=by have:=hsz [] (by simp);rwa [List.append_nil] at this
  have hs1:(gX [c]).size=1:=rfl
  have hs92:gX (34::esc ((bl s).take i))++bs [92]=gX (34::(esc ((bl s).take i)++ [92])):=by
   rw [show bs [92]=gX [92] from rfl,lm];rfl
  have e34:(u8 c==34)=decide (c=34):=by
   by_cases h:c=34
   ·subst h;rfl
   ·rw [decide_eq_false h];exact beq_eq_false_iff_ne.2 fun e=>h (UInt8.toNat_inj.1 (by unfold u8 at e;show c.toNat=34;omega))
  have e92:(u8 c==92)=decide (c=92):=by
   by_cases h:c=92
   ·subst h;rfl
   ·rw [decide_eq_false h];exact beq_eq_false_iff_ne.2 fun e=>h (UInt8.toNat_inj.1 (by unfold u8 at e;show c.toNat=92;omega))
  refine⟨_,?_,rfl⟩;rw [htk,Oq];simp only [rO,hlt,hbd,byte_at hc,e34,e92,au,sS];by_cases c34:c=34
  ·have he:esc [c]=[92,c]:=by simp [esc,c34]
   simp only [decide_eq_true c34,au,sS,hs0,hs92,h0,hw,h1,Int.toNat_natCast,h2,hx,hs1,hsz [92] (by simp),lm,he];simp
  ·by_cases c92:c=92
   ·have he:esc [c]=[92,c]:=by simp [esc,c92]
    simp only [decide_eq_false c34,decide_eq_true c92,au,sS,hs0,hs92,h0,hw,h1,Int.toNat_natCast,h2,hx,hs1,hsz [92] (by simp),lm,he];simp
   ·have he:esc [c]=[c]:=by simp [esc,c34,c92]
    simp only [decide_eq_false c34,decide_eq_false c92,au,sS,hs0,h0,hw,h1,Int.toNat_natCast,h2,hx,hs1,lm,he];simp
 ·rintro _ rfl;refine⟨_,?_,rfl⟩;have:decide ((s.size:Int)< (s.size:Int))=false:=decide_eq_false (by omega);simp only [rO,this,au,sS];rw [List.take_of_length_le (by rw [bI];exact Nat.le_refl _)]
theorem BZ:∀l:List (List UInt8),Lib.join l [44]=commas l
 | []=>rfl
 | [x]=>Lib.join_one x [44]
 |x::y::l=>by
  rw [Lib.join_cons,uD x (by simp),←BZ (y::l),Lib.join_cons];simp [Lib.joinTail]
def dL(x:LT):List UInt8:=item (bl x.1) [61] (bl x.2.1)
def fC(l:List LT):List UInt8:=123::(commas (l.map dL)++ [125])
def yL(l:List LT):ByteArray:=if cB l then gX (fC l) else ByteArray.empty
theorem Jo(x:LT):(x.1++bs [61])++jU x.2.1=gX (dL x):=by
 rw [show bs [61]=gX [61] from rfl,YJ];unfold jU dL item;rw [lm];simp [bl]
theorem JQ{x:LT}(h1:l6 x.1=true)(h2:vS x.2.1=true):(dL x).length≤160:=by
 have a:=C9 h1;have b:=vN h2;have:=uY (bl x.2.1);rw [bI] at this;unfold dL item;simp [bI];omega
theorem vH{l:List LT}(h:cB l=true)(i:Nat):(commas ((l.map dL).take i)).length≤2000:=by
 obtain⟨h1,h2⟩:=gy h
 have:=Em ((l.map dL).take i) 160 (fun x hx=>by
  obtain⟨y,hy,rfl⟩:=List.mem_map.1 (List.mem_of_mem_take hx);exact JQ (h2 y hy).1 (h2 y hy).2.1)
 have hl:((l.map dL).take i).length≤12:=by rw [List.length_take,List.length_map];omega
 have:=Nat.mul_le_mul_right 161 hl;omega
theorem Ja(l:List LT)(hl:PY l):Ql ((l,()),())=some ((yL l,()),()):=by
 unfold Ql yL;simp only [AL l hl,au,sS];cases hv:cB l
 ·simp only [au,sS,Bool.false_eq_true,if_false]
 ·obtain⟨h1,h2⟩:=gy hv;simp only [au,sS,if_true];have h:=mU (f:=uR) (Q:=fun b=>b=((),(l.map fun x=>gX (dL x),()))) (fun i st=>st=(((i:Int),l,(l.length:Int),()),((l.take i).map fun x=>gX (dL x),()))) l.length ?_ ?_ _ rfl
  ·obtain⟨b,h3,rfl⟩:=h;refine aQ _ (show aB uR ((0,l,(l.length:Int),()),([],()))=_ from h3) ?_
   have hj:rq (l.map fun x=>gX (dL x)) (bs [44])=gX (commas (l.map dL)):=by
    unfold rq;rw [List.map_map];exact congrArg gX (BZ _)
   have hp:=vH hv l.length;rw [List.take_of_length_le (by rw [List.length_map];exact Nat.le_refl _)] at hp;have b1:decide (List.length (l.map fun x=>gX (dL x)) ≤4294967296∧(gX (commas (l.map dL))).size≤140737488355328)=true:=decide_eq_true (by rw [List.length_map,size_mk];omega);have b2:decide (1+(gX (commas (l.map dL))).size≤4294967296)=true:=decide_eq_true (by rw [size_mk];omega);have b3:decide ((gX (123::commas (l.map dL))).size+1≤4294967296)=true:=decide_eq_true (by rw [size_mk,List.length_cons];omega);simp only [hj,b1,b2,au,sS];rw [show bs [123]=gX [123] from rfl,lm,show [123]++commas (l.map dL)=123::commas (l.map dL) from rfl,b3,show bs [125]=gX [125] from rfl,lm];rfl
  ·rintro i _ hi rfl;obtain⟨e,he⟩:=getD_some (l:=l) (i:=i) hi;obtain⟨k1,k2,_⟩:=h2 e (List.mem_of_getElem? he);have z1:=C9 k1;have z2:=vN k2;have z3:=EN e.2.1;have hw:aT ((i:Int)+1)=((i+1:Nat):Int):=aI (by omega);have b1:decide (e.1.size+1≤4294967296)=true:=decide_eq_true (by omega);have b2:decide (e.2.1.size≤4294967296)=true:=decide_eq_true (by omega);have b3:decide ((e.1++(bs [61])).size+(jU e.2.1).size≤4294967296)=true:=decide_eq_true (by rw [Ta];show e.1.size+1+_≤_;omega);have b4:decide (((l.take i).map fun x=>gX (dL x)).length+ [gX (dL e)].length≤4294967296)=true:=decide_eq_true (by simp;omega);refine⟨_,?_,rfl⟩;rw [show l.take (i+1)=l.take i++ [e] by rw [List.take_add_one,he];rfl,List.map_append];simp only [uR,aH,aC he,bV hi,b1,b2,b3,Jo,b4,hw,au,sS];rfl
  ·rintro _ rfl;refine⟨_,?_,rfl⟩;simp only [uR,dG,au,sS];rw [List.take_of_length_le (Nat.le_refl _)]
theorem Cb:∀(l:List (List UInt8)) (x:List UInt8),l≠ [] →commas (l++ [x])=commas l++44::x
 | [],_,h=>absurd rfl h
 | [a],x,_=>rfl
 |a::b::l,x,_=>by
  rw [List.cons_append,uD a (by simp),Cb (b::l) x (by simp),uD a (by simp)];simp
theorem RI(l:List LT)(hl:PY l):m59 ((l,()),())=some ((yL l,()),()):=by
 unfold m59 yL;simp only [Ny l hl,au,sS];cases hv:cB l
 ·simp only [au,sS,Bool.false_eq_true,if_false]
 ·obtain⟨h1,h2⟩:=gy hv;simp only [au,sS,if_true];have h:=mU (f:=uV) (Q:=fun b=>b=((gX (123::commas (l.map dL)),()),())) (fun i st=>st=(((i:Int),l,gX (123::commas ((l.map dL).take i)),()),())) l.length ?_ ?_ _ rfl
  ·obtain⟨b,h3,rfl⟩:=h;refine aQ _ (show aB uV ((0,l,bs [123],()),())=_ from h3) ?_;have hp:=vH hv l.length;rw [List.take_of_length_le (by rw [List.length_map];exact Nat.le_refl _)] at hp;have b3:decide ((gX (123::commas (l.map dL))).size+1≤4294967296)=true:=decide_eq_true (by rw [size_mk,List.length_cons];omega);simp only [b3,au,sS];rw [show bs [125]=gX [125] from rfl,lm];rfl
  ·rintro i _ hi rfl;obtain⟨e,he⟩:=getD_some (l:=l) (i:=i) hi;obtain⟨k1,k2,_⟩:=h2 e (List.mem_of_getElem? he);have z1:=C9 k1;have z2:=vN k2;have z3:=EN e.2.1;have q:=VS e.2.1 (by omega);have hp:=vH hv i;have hl2:=JQ k1 k2;have hw:aT ((i:Int)+1)=((i+1:Nat):Int):=aI (by omega);have b1:decide (e.1.size+1≤4294967296)=true:=decide_eq_true (by omega);have b3:decide ((e.1++(bs [61])).size+(jU e.2.1).size≤4294967296)=true:=decide_eq_true (by rw [Ta];show e.1.size+1+_≤_;omega);have hm:(l.map dL)[i]?=some (dL e):=by rw [List.getElem?_map,he];rfl
   have htk:(l.map dL).take (i+1)=(l.map dL).take i++ [dL e]:=by rw [List.take_add_one,hm];rfl
   refine⟨_,?_,rfl⟩;rw [htk];by_cases h0:i=0
   ·subst h0;have b5:decide ((gX (123::commas ((l.map dL).take 0))).size+(gX (dL e)).size≤4294967296)=true:=decide_eq_true (by rw [size_mk,size_mk,List.length_cons];omega);have d0:decide (((0:Nat):Int)>0)=false:=rfl;simp only [uV,aH,aC he,bV hi,d0,b1,q,b3,Jo,b5,hw,lm,au,sS];rfl
   ·have d0:decide ((i:Int)>0)=true:=decide_eq_true (by omega);have b4:decide ((gX (123::commas ((l.map dL).take i))).size+1≤4294967296)=true:=decide_eq_true (by rw [size_mk,List.length_cons];omega)
    have e44:gX (123::commas ((l.map dL).take i))++bs [44]=gX (123::(commas ((l.map dL).take i)++ [44])):=by
     rw [show bs [44]=gX [44] from rfl,lm];rfl
    have b5:decide ((gX (123::(commas ((l.map dL).take i)++ [44]))).size+(gX (dL e)).size≤4294967296)=true:=decide_eq_true (by rw [size_mk,size_mk,List.length_cons,List.length_append];simp;omega)
    have hne:(l.map dL).take i≠ []:=by
     intro h;have:=congrArg List.length h;rw [List.length_take,List.length_map,List.length_nil] at this;omega
    simp only [uV,aH,aC he,bV hi,d0,b4,e44,b1,q,b3,Jo,b5,hw,lm,au,sS];rw [Cb _ _ hne];simp
  ·rintro _ rfl;refine⟨_,?_,rfl⟩;simp only [uV,dG,au,sS];rw [List.take_of_length_le (by rw [List.length_map];exact Nat.le_refl _)]
def gK(ks:List ByteArray)(l:List LT):List LT:=l.filter fun x=>ks.any fun k=>decide (k=x.1)
theorem Ll(ks:List ByteArray)(x:List LT):(gK ks x).Sublist x:=List.filter_sublist
theorem Wt(ks:List ByteArray)(s:ByteArray)(hk:ks.length≤big):∃j:Nat,V5 ((ks,s,()),())=some ((bif ks.any (fun k=>decide (k=s)) then(j:Int) else -1,()),()):=by
 have h:=dh (f:=yE) ks (fun i (_:Unit)=>(((i:Int),ks,s,(ks.length:Int),()),())) (fun i _ e=>bif decide (e=s) then .inr (.inl (((i:Int),()),())) else .inl ()) (fun _=> .inr ((),())) ?_ ?_ ()
 ·obtain⟨j,_,hj⟩:=jC (fun e=>decide (e=s)) (fun i:Nat=>(Sum.inl (((i:Int),()),()):((Int×Unit)×Unit) ⊕(Unit×Unit))) (.inr ((),())) ks 0;refine⟨j,?_⟩;unfold V5;refine aQ _ (h.trans (congrArg some hj)) ?_
  cases ks.any fun k=>decide (k=s)<;>rfl
 ·intro i e _ he hi;unfold big at hk;have hw:aT ((i:Int)+1)=((i+1:Nat):Int):=aI (by omega)
  have hc:(s.toList==e.toList)=decide (e=s):=by
   rw [bH,bH,jZ];exact decide_eq_decide.2 ⟨Eq.symm,Eq.symm⟩
  simp only [yE,aH,aC he,bV hi,hc,au,sS];cases decide (e=s)<;>simp only [au,sS,hw]
 ·intro _;simp only [yE,dG,au,sS]
theorem Od(ks:List ByteArray)(s:ByteArray)(hk:ks.length≤big):JB ((ks,s,()),())=some ((ks.any (fun k=>decide (k=s)),()),()):=by
 obtain⟨j,h⟩:=Wt ks s hk;unfold JB;refine aQ _ h ?_
 cases ks.any fun k=>decide (k=s)
 ·rfl
 ·simp only [cond_true,decide_eq_true (show(j:Int) ≥0 by omega)]
theorem VB(l:List LT)(ks:List ByteArray)(hl:l.length≤1048576)(hk:ks.length≤big):Vo ((l,ks,()),())=some ((),(gK ks l,())):=by
 have h:=mU (f:=sP) (Q:=fun b=>b=((),(gK ks l,()))) (fun i st=>st=(((i:Int),ks,l,(l.length:Int),()),(gK ks (l.take i),()))) l.length ?_ ?_ _ rfl
 ·obtain⟨b,h3,rfl⟩:=h;unfold Vo;exact aQ _ (show aB sP ((0,ks,l,(l.length:Int),()),([],()))=_ from h3) rfl
 ·rintro i _ hi rfl;obtain⟨e,he⟩:=getD_some (l:=l) (i:=i) hi;have hw:aT ((i:Int)+1)=((i+1:Nat):Int):=aI (by omega)
  have hlen:(gK ks (l.take i)).length≤i:=by
   have:=List.length_filter_le (fun x:LT=>ks.any fun k=>decide (k=x.1)) (l.take i);rw [List.length_take] at this;unfold gK;omega
  have b1:decide ((gK ks (l.take i)).length+ [e].length≤4294967296)=true:=decide_eq_true (by simp;omega);refine⟨_,?_,rfl⟩;rw [show l.take (i+1)=l.take i++ [e] by rw [List.take_add_one,he];rfl,show gK ks (l.take i++ [e])=gK ks (l.take i)++gK ks [e] from List.filter_append ..];simp only [sP,aH,aC he,bV hi,Od ks e.1 hk,au,sS]
  cases hc:ks.any fun k=>decide (k=e.1)
  ·simp only [au,sS,hw];rw [show gK ks [e]=[] by unfold gK;simp [List.filter_cons,hc],List.append_nil]
  ·simp only [au,sS,b1,hw];rw [show gK ks [e]=[e] by unfold gK;simp [List.filter_cons,hc]]
 ·rintro _ rfl;refine⟨_,?_,rfl⟩;simp only [sP,dG,au,sS];rw [List.take_of_length_le (Nat.le_refl _)]
theorem VE(l:List LT)(ks:List ByteArray)(hk:ks.length≤big)(n:Nat)(e:LT)(he:l[n]?=some e)(o:List LT)(ho:o.length≤1048576):
  aB xU ((l,ks,(n:Int),0,()),(o,()))=some ((l,ks,(n:Int),()),(o++gK ks [e],())):=by
 have h:=dh (f:=xU) ks (fun i (_:Unit)=>((l,ks,(n:Int),(i:Int),()),(o,()))) (fun i _ k=>bif decide (k=e.1) then .inr ((l,ks,(n:Int),()),(o++ [e],())) else .inl ()) (fun _=>((l,ks,(n:Int),()),(o,()))) ?_ ?_ ()
 ·obtain⟨j,_,hj⟩:=jC (fun k=>decide (k=e.1)) (fun _:Nat=>((l,ks,(n:Int),()),(o++ [e],()))) ((l,ks,(n:Int),()),(o,())) ks 0;refine h.trans (congrArg some (hj.trans ?_));unfold gK
  cases hc:ks.any fun k=>decide (k=e.1)
  ·simp [List.filter_cons,hc]
  ·simp [List.filter_cons,hc]
 ·intro i k _ hki hi;unfold big at hk;have hw:aT ((i:Int)+1)=((i+1:Nat):Int):=aI (by omega);have b1:decide (o.length+ [e].length≤4294967296)=true:=decide_eq_true (by simp;omega);simp only [xU,aH,aC hki,aC he,bV hi,bH,jZ,au,sS];cases decide (k=e.1)<;>simp only [au,sS,b1,hw]
 ·intro _;simp only [xU,dG,au,sS]
theorem Z0(l:List LT)(ks:List ByteArray)(hl:l.length≤1048576)(hk:ks.length≤big):m60 ((l,ks,()),())=some ((),(gK ks l,())):=by
 have h:=mU (f:=zY) (Q:=fun b=>b=((),(gK ks l,()))) (fun i st=>st=(((i:Int),l,ks,()),(gK ks (l.take i),()))) l.length ?_ ?_ _ rfl
 ·obtain⟨b,h3,rfl⟩:=h;unfold m60;exact aQ _ (show aB zY ((0,l,ks,()),([],()))=_ from h3) rfl
 ·rintro i _ hi rfl;obtain⟨e,he⟩:=getD_some (l:=l) (i:=i) hi;have hw:aT ((i:Int)+1)=((i+1:Nat):Int):=aI (by omega)
  have hlen:(gK ks (l.take i)).length≤i:=by
   have:=List.length_filter_le (fun x:LT=>ks.any fun k=>decide (k=x.1)) (l.take i);rw [List.length_take] at this;unfold gK;omega
  refine⟨_,?_,rfl⟩;rw [show l.take (i+1)=l.take i++ [e] by rw [List.take_add_one,he];rfl,show gK ks (l.take i++ [e])=gK ks (l.take i)++gK ks [e] from List.filter_append ..];simp only [zY,bV hi,au,sS];refine aQ _ (VE l ks hk i e he _ (by omega)) ?_;simp only [hw]
 ·rintro _ rfl;refine⟨_,?_,rfl⟩;simp only [zY,dG,au,sS];rw [List.take_of_length_le (Nat.le_refl _)]
abbrev dz:Type:=Int×List MT×Int×List ByteArray×Int×Int×Int×Bool×Unit
def Ir(r:dz):Prop:=(r.2.1.length≤big∧∀m∈r.2.1,Po m) ∧r.2.2.2.1.length≤big∧∀k∈r.2.2.2.1,k.size≤big
def nH(r:dz):Bool:=decide (r.2.2.1< 0)||(decide (r.2.2.2.2.1< 0)||(decide (r.2.2.2.2.1>r.2.2.2.2.2.1)||(decide (r.2.2.2.2.2.1>r.2.2.2.2.2.2.1)||(decide (r.2.2.2.2.2.2.1>604800)||(r.2.2.2.2.2.2.1==0)))))
def fQ(r:dz):Int:=
 bif decide ((r.2.1.length:Int)>8)||decide ((r.2.2.2.1.length:Int)>12) then 5
 else bif !r.2.1.all aX|| !jc r.2.2.2.1 then 8 else bif nH r then 1 else 0
def lu(i:Nat)(r:dz):Bool:=if i=0 then r.1 != -1 else decide (r.1< 0)||decide (r.1≥(i:Int))
def rF(i:Nat)(r:dz):Int:=bif lu i r then 3 else fQ r
def Aa{E:Type}(gZ:Nat→E→Int):Nat→List E→Int
 |_,[]=>0
 |i,e::r=>bif gZ i e !=0 then gZ i e else Aa gZ (i+1) r
theorem uP{A B E:Type}{f:A→Option (A⊕B)}(l:List E)(st:Nat→A)(gZ:Nat→E→Int)(no:Int→B)(yes:B)
  (h1:∀i e,l[i]?=some e→i< l.length→f (st i)=some (bif gZ i e !=0 then .inr (no (gZ i e)) else .inl (st (i+1)))) (h2:f (st l.length)=some (.inr yes)):
  aB f (st 0)=some (bif Aa gZ 0 l !=0 then no (Aa gZ 0 l) else yes):=by
 have key:∀(k i:Nat),i+k=l.length→aB f (st i)=some (bif Aa gZ i (l.drop i) !=0 then no (Aa gZ i (l.drop i)) else yes):=by
  intro k
  induction k with
  |zero=>
   intro i h;obtain rfl:i=l.length:=by omega
   rw [List.drop_length];exact aF h2
  |succ k ih=>
   intro i h;obtain⟨e,he,hd⟩:=drop_at (l:=l) (i:=i) (by omega);have q:=h1 i e he (by omega);rw [hd];unfold Aa;cases hb:(gZ i e !=0)
   ·rw [hb] at q;rw [cond_false,←ih (i+1) (by omega)];exact aN q
   ·rw [hb] at q;rw [cond_true,hb];exact aF q
 have:=key l.length 0 (by omega);rw [List.drop_zero] at this;exact this
theorem rW{E:Type}{gZ:Nat→E→Int}:∀{l:List E} {i:Nat},Aa gZ i l=0→∀(k:Nat) (e:E),l[k]?=some e→gZ (i+k) e=0
 | [],_,_,k,e,h=>by simp at h
 |x::r,i,h,k,e,he=>by
  unfold Aa at h;cases hc:(gZ i x !=0)
  ·rw [hc] at h
   cases k with
   |zero=>simp at he;subst he;simpa using hc
   |succ k=>
    have:=rW (i:=i+1) h k e (by simpa using he)
    rwa [show i+1+k=i+(k+1) by omega] at this
  ·rw [hc] at h;simp only [cond_true] at h;rw [h] at hc;cases hc
def ko(l:List dz):Int:=
 bif (l.length:Int)==0 then 7 else bif decide ((l.length:Int)>24) then 5 else bif Aa rF 0 l !=0 then Aa rF 0 l
 else match l[0]? with|some e=>bif decide ((e.2.1.length:Int)>0) then 8 else 0|none=>0
theorem V9(m:MT)(hm:Po m):WR ((m,()),())=some ((!aX m,()),()):=by
 unfold WR;exact aQ _ (Og m hm) rfl
theorem SF(ms:List MT)(hs:ms.length≤big)(hm:∀m∈ms,Po m):∃j:Nat,aB sU ((0,ms,(ms.length:Int),()),())=some (bif ms.all aX then .inr ((),()) else .inl (((j:Int),()),())):=by
 have h:=dh (f:=sU) ms (fun i (_:Unit)=>(((i:Int),ms,(ms.length:Int),()),())) (fun i _ e=>bif !aX e then .inr (.inl (((i:Int),()),())) else .inl ()) (fun _=> .inr ((),())) ?_ ?_ ()
 ·obtain⟨j,_,hj⟩:=jC (fun e=> !aX e) (fun i:Nat=>(Sum.inl (((i:Int),()),()):((Int×Unit)×Unit) ⊕(Unit×Unit))) (.inr ((),())) ms 0;refine⟨j,h.trans (congrArg some (hj.trans ?_))⟩;rw [vG];cases ms.all aX<;>rfl
 ·intro i e _ he hi;unfold big at hs;have hw:aT ((i:Int)+1)=((i+1:Nat):Int):=aI (by omega);simp only [sU,aH,aC he,bV hi,V9 e (hm e (List.mem_of_getElem? he)),au,sS];cases aX e<;>simp only [au,sS,hw,Bool.not_true,Bool.not_false]
 ·intro _;simp only [sU,dG,au,sS]
theorem KU(i:Nat)(r:dz):(i=0∧lu i r=(r.1 != -1)) ∨(0< i∧lu i r=(decide (r.1< 0)||decide (r.1≥(i:Int)))):=by
 unfold lu;by_cases h:i=0
 ·exact .inl ⟨h,by rw [if_pos h]⟩
 ·exact .inr ⟨by omega,by rw [if_neg h]⟩
theorem VZ(r:dz)(hr:Ir r)(i:Nat):Xy ((r,(i:Int),()),())=some ((rF i r,()),()):=by
 obtain⟨⟨a1,a2⟩,c1,c2⟩:=hr;obtain⟨j,hj⟩:=SF r.2.1 a1 a2;have q:=Pe r.2.2.2.1 c1 c2;have hj0:decide ((j:Int) ≥0)=true:=decide_eq_true (by omega)
 have key:((bif ((i:Int)==0) then(bif ((r.1:Int) !=(-1)) then(some ((true,()),((r,()),()))) else(bif (decide ((i:Int)>0)) then(bif (decide ((r.1:Int)< 0)) then(some ((true,()),((r,()),()))) else(some (((decide ((r.1:Int) ≥(i:Int))),()),((r,()),())))) else(some ((false,()),((r,()),())))))
   else(bif (decide ((i:Int)>0)) then(bif (decide ((r.1:Int)< 0)) then(some ((true,()),((r,()),()))) else(some (((decide ((r.1:Int) ≥(i:Int))),()),((r,()),())))) else(some ((false,()),((r,()),()))))):Option ((Bool×Unit)×((dz×Unit)×Unit)))=some ((lu i r,()),((r,()),())):=by
  rcases KU i r with⟨rfl,hb⟩|⟨h0,hb⟩
  ·rw [hb,show(((0:Nat):Int)==0)=true from rfl,show decide (((0:Nat):Int)>0)=false from rfl];cases (r.1 != -1)<;>rfl
  ·rw [hb,beq_eq_false_iff_ne.2 (show(i:Int) ≠0 by omega),decide_eq_true (show(i:Int)>0 by omega)];cases decide (r.1< 0)<;>cases decide (r.1≥(i:Int))<;>rfl
 unfold Xy;refine aQ _ key ?_;unfold rF;cases lu i r<;>simp only [au,sS];unfold fQ;cases decide ((r.2.1.length:Int)>8)<;>simp only [au,sS,Bool.or_true,Bool.true_or,Bool.or_false,Bool.false_or];cases decide ((r.2.2.2.1.length:Int)>12)<;>simp only [au,sS,Bool.or_true,Bool.true_or,Bool.or_false,Bool.false_or];rw [hj];cases r.2.1.all aX<;>simp only [au,sS,hj0,q,Bool.not_true,Bool.not_false,Bool.or_true,Bool.true_or,Bool.or_false,Bool.false_or];cases jc r.2.2.2.1<;>simp only [au,sS,Bool.not_true,Bool.not_false];unfold nH;cases decide (r.2.2.1< 0)<;>simp only [au,sS,Bool.or_true,Bool.true_or,Bool.or_false,Bool.false_or];cases decide (r.2.2.2.2.1< 0)<;>simp only [au,sS,Bool.or_true,Bool.true_or,Bool.or_false,Bool.false_or];cases decide (r.2.2.2.2.1>r.2.2.2.2.2.1)<;>simp only [au,sS,Bool.or_true,Bool.true_or,Bool.or_false,Bool.false_or]
 cases decide (r.2.2.2.2.2.1>r.2.2.2.2.2.2.1)<;>simp only [au,sS,Bool.or_true,Bool.true_or,Bool.or_false,Bool.false_or];cases decide (r.2.2.2.2.2.2.1>604800)<;>simp only [au,sS,Bool.or_true,Bool.true_or,Bool.or_false,Bool.false_or];cases (r.2.2.2.2.2.2.1==0)<;>simp only [au,sS]
theorem WA(r:dz)(hr:Ir r):VX ((r,()),())=some ((fQ r,()),()):=by
 obtain⟨⟨a1,a2⟩,c1,c2⟩:=hr;have q:=O6 r.2.2.2.1 c1 c2
 have hj:aB sI ((0,()),((r,()),()))=some (bif r.2.1.all aX then .inr ((),((r,()),())) else .inl ((8,()),())):=by
  have h:=dh (f:=sI) r.2.1 (fun i (_:Unit)=>(((i:Int),()),((r,()),()))) (fun i _ e=>bif !aX e then .inr (.inl ((8,()),())) else .inl ()) (fun _=> .inr ((),((r,()),()))) ?_ ?_ ()
  ·obtain⟨j,_,hj⟩:=jC (fun e=> !aX e) (fun _:Nat=>(Sum.inl ((8,()),()):((Int×Unit)×Unit) ⊕(Unit×(dz×Unit)×Unit))) (.inr ((),((r,()),()))) r.2.1 0;refine h.trans (congrArg some (hj.trans ?_));rw [vG];cases r.2.1.all aX<;>rfl
  ·intro i e _ he hi;unfold big at a1;have hw:aT ((i:Int)+1)=((i+1:Nat):Int):=aI (by omega);simp only [sI,aH,aC he,bV hi,OV e (a2 e (List.mem_of_getElem? he)),au,sS];cases aX e<;>simp only [au,sS,hw,Bool.not_true,Bool.not_false]
  ·intro _;simp only [sI,dG,au,sS]
 unfold VX fQ;cases decide ((r.2.1.length:Int)>8)<;>simp only [au,sS,Bool.or_true,Bool.true_or,Bool.or_false,Bool.false_or];cases decide ((r.2.2.2.1.length:Int)>12)<;>simp only [au,sS,Bool.or_true,Bool.true_or,Bool.or_false,Bool.false_or];rw [hj];cases r.2.1.all aX<;>simp only [au,sS,q,Bool.not_true,Bool.not_false,Bool.or_true,Bool.true_or,Bool.or_false,Bool.false_or];cases jc r.2.2.2.1<;>simp only [au,sS,Bool.not_true,Bool.not_false];unfold nH;cases decide (r.2.2.1< 0)<;>simp only [au,sS,Bool.or_true,Bool.true_or,Bool.or_false,Bool.false_or];cases decide (r.2.2.2.2.1< 0)<;>simp only [au,sS,Bool.or_true,Bool.true_or,Bool.or_false,Bool.false_or];cases decide (r.2.2.2.2.1>r.2.2.2.2.2.1)<;>simp only [au,sS,Bool.or_true,Bool.true_or,Bool.or_false,Bool.false_or];cases decide (r.2.2.2.2.2.1>r.2.2.2.2.2.2.1)<;>simp only [au,sS,Bool.or_true,Bool.true_or,Bool.or_false,Bool.false_or]
 cases decide (r.2.2.2.2.2.2.1>604800)<;>simp only [au,sS,Bool.or_true,Bool.true_or,Bool.or_false,Bool.false_or];cases (r.2.2.2.2.2.2.1==0)<;>simp only [au,sS]
def Py(l:List dz):Prop:=l.length≤1048576∧∀r∈l,Ir r
theorem JD(l:List dz)(hl:Py l):m78 ((l,()),())=some ((ko l,()),()):=by
 unfold m78 ko;cases hz:((l.length:Int)==0)
 ·simp only [au,sS];cases decide ((l.length:Int)>24)
  ·simp only [au,sS];have h:=uP (f:=CP) l (fun i=>(((i:Int),l,l,(l.length:Int),()),())) rF (fun c=> .inl ((c,()),())) (.inr ((l,()),())) ?_ ?_
   ·refine aQ _ h ?_;cases hc:(Aa rF 0 l !=0)
    ·obtain⟨e,he⟩:=getD_some (l:=l) (i:=0) (by have:=(beq_eq_false_iff_ne.1 hz);omega);rw [he];simp only [cond_false,au,aH];rw [show qK l 0 _=qK l ((0:Nat):Int) _ from rfl,aC he];cases decide ((e.2.1.length:Int)>0)<;>rfl
    ·rfl
   ·intro i e he hi;have hl1:=hl.1;have hw:aT ((i:Int)+1)=((i+1:Nat):Int):=aI (by omega);simp only [CP,aH,aC he,bV hi,VZ e (hl.2 e (List.mem_of_getElem? he)) i,au,sS];cases rF i e !=0<;>simp only [au,sS,hw]
   ·simp only [CP,dG,au,sS]
  ·simp only [au,sS]
 ·simp only [au,sS]
theorem ZJ(l:List dz)(hl:Py l):m56 ((l,()),())=some ((ko l,()),()):=by
 unfold m56 ko;cases hz:((l.length:Int)==0)
 ·simp only [au,sS];cases decide ((l.length:Int)>24)
  ·simp only [au,sS];have h:=uP (f:=yx) l (fun i=>(((i:Int),l,()),())) rF (fun c=> .inl ((c,()),())) (.inr ((l,()),())) ?_ ?_
   ·refine aQ _ h ?_;cases hc:(Aa rF 0 l !=0)
    ·obtain⟨e,he⟩:=getD_some (l:=l) (i:=0) (by have:=(beq_eq_false_iff_ne.1 hz);omega);rw [he];simp only [cond_false,au,aH];rw [show qK l 0 _=qK l ((0:Nat):Int) _ from rfl,aC he];cases decide ((e.2.1.length:Int)>0)<;>rfl
    ·rfl
   ·intro i e he hi;have hl1:=hl.1;have hw:aT ((i:Int)+1)=((i+1:Nat):Int):=aI (by omega);have q:=WA e (hl.2 e (List.mem_of_getElem? he));unfold rF;rcases KU i e with⟨rfl,hb⟩|⟨h0,hb⟩
    ·rw [hb];simp only [yx,aH,aC he,bV hi,show(((0:Nat):Int)==0)=true from rfl,show decide (((0:Nat):Int)>0)=false from rfl,au,sS];cases (e.1 != -1)
     ·simp only [au,sS,aH,aC he,q];cases fQ e !=0<;>simp only [au,sS,hw]
     ·simp only [au,sS];rfl
    ·rw [hb];simp only [yx,aH,aC he,bV hi,beq_eq_false_iff_ne.2 (show(i:Int) ≠0 by omega),decide_eq_true (show(i:Int)>0 by omega),au,sS];cases decide (e.1< 0)<;>simp only [au,sS,Bool.false_or,Bool.true_or]
     ·cases decide (e.1≥(i:Int))<;>simp only [au,sS,aH,aC he,q]
      ·cases fQ e !=0<;>simp only [au,sS,hw]
      ·rfl
     ·rfl
   ·simp only [yx,dG,au,sS]
  ·simp only [au,sS]
 ·simp only [au,sS]
structure LW(l:List dz):Prop where
 pos:0< l.length
 len:l.length≤24
 root:∀r,l[0]?=some r→r.1= -1∧r.2.1=[]
 par:∀(k:Nat) (r:dz),l[k]?=some r→0< k→0≤r.1∧r.1< (k:Int)
 one:∀r∈l,r.2.1.length≤8∧(∀m∈r.2.1,aX m=true) ∧jc r.2.2.2.1=true∧r.2.2.2.1.length≤12
theorem Yh{r:dz}(h:fQ r=0):r.2.1.length≤8∧(∀m∈r.2.1,aX m=true) ∧jc r.2.2.2.1=true∧r.2.2.2.1.length≤12:=by
 unfold fQ at h;cases h1:(decide ((r.2.1.length:Int)>8)||decide ((r.2.2.2.1.length:Int)>12))
 ·rw [h1] at h;simp only [Bool.or_eq_false_iff] at h1;have a:=of_decide_eq_false h1.1;have b:=of_decide_eq_false h1.2;cases h2:(!r.2.1.all aX|| !jc r.2.2.2.1)
  ·simp only [Bool.or_eq_false_iff,Bool.not_eq_false'] at h2;exact⟨by omega,List.all_eq_true.1 h2.1,h2.2,by omega⟩
  ·rw [h2] at h;cases h
 ·rw [h1] at h;cases h
theorem Tw{l:List dz}(h:ko l=0):LW l:=by
 unfold ko at h;cases h1:((l.length:Int)==0)
 ·rw [h1] at h;cases h2:decide ((l.length:Int)>24)
  ·rw [h2] at h;simp only [cond_false] at h;cases h3:(Aa rF 0 l !=0)
   ·rw [h3] at h;simp only [cond_false] at h;have hz:Aa rF 0 l=0:=by simpa using h3
    have all:=rW hz;simp only [Nat.zero_add] at all;have hpos:0< l.length:=by have:=beq_eq_false_iff_ne.1 h1;omega
    have hone:∀(k:Nat) (e:dz),l[k]?=some e→lu k e=false∧fQ e=0:=by
     intro k e he;have:=all k e he;unfold rF at this;cases hb:lu k e
     ·rw [hb] at this;exact⟨rfl,this⟩
     ·rw [hb] at this;cases this
    refine⟨hpos,by have:=of_decide_eq_false h2;omega,fun r hr=> ?_,fun k r hr h0=> ?_,fun r hr=> ?_⟩
    ·have hb:=(hone 0 r hr).1;unfold lu at hb;rw [if_pos rfl] at hb;rw [hr] at h;simp only at h;refine⟨by simpa using hb,?_⟩;cases hl:decide ((r.2.1.length:Int)>0)
     ·have:=of_decide_eq_false hl;exact List.length_eq_zero_iff.1 (by omega)
     ·rw [hl] at h;cases h
    ·have hb:=(hone k r hr).1;unfold lu at hb;rw [if_neg (by omega)] at hb;simp only [Bool.or_eq_false_iff] at hb;have a:=of_decide_eq_false hb.1;have b:=of_decide_eq_false hb.2;omega
    ·obtain⟨k,hk,rfl⟩:=List.mem_iff_getElem.1 hr;exact Yh (hone k _ (List.getElem?_eq_getElem hk)).2
   ·rw [h3] at h;simp only [cond_true] at h;rw [h] at h3;cases h3
  ·rw [h2] at h;cases h
 ·rw [h1] at h;cases h
theorem LW.psz{l:List dz}(h:LW l){r:dz}(hr:r∈l):ZU r.2.1:=by
 obtain⟨h1,h2,_⟩:=h.one r hr;refine⟨by omega,fun m hm=> ?_⟩;have:=h2 m hm;unfold aX at this;simp only [Bool.and_eq_true] at this;have:=vN this.2.2.2;unfold PSz;omega
def La(l:List dz)(i:Int)(k:Nat):Bool:=match l[k]? with|some r=>r.1==i|none=>false
def Fj(l:List dz)(i:Int):List Nat:=(List.range l.length).filter (La l i)
abbrev ints(l:List Nat):List Int:=l.map fun k:Nat=>(k:Int)
theorem O9{l:List dz}{i:Int}{k:Nat}:k∈Fj l i↔∃r,l[k]?=some r∧r.1=i:=by
 unfold Fj La;rw [List.mem_filter,List.mem_range];constructor
 ·rintro⟨h1,h2⟩;obtain⟨r,hr⟩:=getD_some h1;rw [hr] at h2;exact⟨r,hr,by simpa using h2⟩
 ·rintro⟨r,hr,rfl⟩;refine⟨(List.getElem?_eq_some_iff.1 hr).1,?_⟩;rw [hr];simp
theorem qP(l:List dz)(i:Int):(Fj l i).Pairwise (· < ·):=List.Pairwise.filter _ (List.pairwise_lt_range)
theorem Q9(p:Nat→Bool)(i:Nat):(List.range (i+1)).filter p=(List.range i).filter p++(if p i then [i] else []):=by
 rw [List.range_succ,List.filter_append];cases h:p i<;>simp [List.filter_cons,h]
theorem V8(l:List dz)(hl:l.length≤1048576)(i:Int):UQ ((l,i,()),())=some ((),(ints (Fj l i),())):=by
 have h:=mU (f:=rP) (Q:=fun b=>b=((),(ints (Fj l i),()))) (fun k st=>st=(((k:Int),i,l,(l.length:Int),()),(ints ((List.range k).filter (La l i)),()))) l.length ?_ ?_ _ rfl
 ·obtain⟨b,h3,rfl⟩:=h;unfold UQ;exact aQ _ (show aB rP ((0,i,l,(l.length:Int),()),([],()))=_ from h3) rfl
 ·rintro k _ hk rfl;obtain⟨e,he⟩:=getD_some (l:=l) (i:=k) hk;have hw:aT ((k:Int)+1)=((k+1:Nat):Int):=aI (by omega)
  have hlen:(ints ((List.range k).filter (La l i))).length≤k:=by
   have:=List.length_filter_le (La l i) (List.range k);rw [List.length_range] at this;rw [List.length_map];exact this
  have b1:decide ((ints ((List.range k).filter (La l i))).length+ [(k:Int)].length≤4294967296)=true:=decide_eq_true (by simp only [List.length_cons,List.length_nil];omega);have hc:La l i k=(e.1==i):=by unfold La;rw [he]
  refine⟨_,?_,rfl⟩;rw [Q9,hc];simp only [rP,aH,aC he,bV hk,au,sS];cases (e.1==i)
  ·simp only [au,sS,hw,Bool.false_eq_true,if_false,List.append_nil]
  ·simp only [au,sS,b1,hw,if_true,List.map_append,List.map_cons,List.map_nil]
 ·rintro _ rfl;refine⟨_,?_,rfl⟩;simp only [rP,dG,au,sS];rfl
def goC(rec:Nat→List Nat)(l:List dz)(x:List LT):List Nat→List Nat
 | []=> []
 |k::ks=>match l[k]? with
  |none=> []
  |some r=>bif allM r.2.1 x then rec k++(bif r.2.2.2.2.2.2.2.1 then goC rec l x ks else []) else goC rec l x ks
def fB(l:List dz)(x:List LT):Nat→Nat→List Nat
 |0,_=> []
 |n+1,i=>if goC (fB l x n) l x (Fj l (i:Int))=[] then [i] else goC (fB l x n) l x (Fj l (i:Int))
theorem RP{a:Nat}(h:0< a):2 ^(a - 1)+2 ^(a - 1)=2 ^ a:=by
 obtain⟨b,rfl⟩:∃b,a=b+1:=⟨a - 1,by omega⟩
 rw [Nat.add_sub_cancel,Nat.pow_succ];omega
theorem Ol{rec:Nat→List Nat}{l:List dz}{x:List LT}:∀{ks:List Nat} {j:Nat},ks.Pairwise (· < ·) →(∀k∈ks,j≤k∧k< l.length∧(rec k).length≤2 ^(l.length - k - 1)) →(goC rec l x ks).length+1≤2 ^(l.length - j)
 | [],j,_,_=>Nat.one_le_two_pow
 |k::ks,j,hp,h=>by
  obtain⟨h1,h2,h3⟩:=h k (List.mem_cons_self ..)
  have ih:=Ol (x:=x) (ks:=ks) (j:=k+1) (List.pairwise_cons.1 hp).2 (fun y hy=>by
   obtain⟨_,a,b⟩:=h y (List.mem_cons_of_mem _ hy);exact⟨(List.pairwise_cons.1 hp).1 y hy,a,b⟩)
  have e1:l.length -(k+1)=l.length - k - 1:=by omega
  rw [e1] at ih;have e2:=RP (a:=l.length - k) (by omega);have e3:2 ^(l.length - k) ≤2 ^(l.length - j):=Nat.pow_le_pow_right (by omega) (by omega);unfold goC;obtain⟨r,hr⟩:=getD_some h2;rw [hr];simp only;cases allM r.2.1 x
  ·simp only [cond_false];omega
  ·simp only [cond_true,List.length_append];cases r.2.2.2.2.2.2.2.1
   ·simp only [cond_false,List.length_nil];have:1≤2 ^(l.length - k - 1):=Nat.one_le_two_pow;omega
   ·simp only [cond_true];omega
theorem zm{l:List dz}(h:LW l){i k:Nat}(hk:k∈Fj l (i:Int)):i< k∧k< l.length:=by
 obtain⟨r,hr,hi⟩:=O9.1 hk;have hlt:=(List.getElem?_eq_some_iff.1 hr).1;refine⟨?_,hlt⟩;by_cases h0:k=0
 ·subst h0;have:=(h.root r hr).1;omega
 ·have:=(h.par k r hr (by omega)).2;omega
theorem Gg{l:List dz}(h:LW l)(x:List LT):∀(n i:Nat),i< l.length→(fB l x n i).length≤2 ^(l.length - i - 1)
 |0,_,_=>Nat.zero_le _
 |n+1,i,hi=>by
  unfold fB
  have:=Ol (rec:=fB l x n) (x:=x) (j:=i+1) (qP l (i:Int)) (fun k hk=>by
   obtain⟨a,b⟩:=zm h hk;exact⟨a,b,Gg h x n k b⟩)
  rw [show l.length -(i+1)=l.length - i - 1 by omega] at this;split
  ·exact Nat.one_le_two_pow
  ·omega
theorem small{l:List dz}(h:LW l){a:List Nat}(k:Nat)(ha:a.length≤2 ^(l.length - k)):a.length≤16777216:=by
 have:=h.len;have e:2 ^(l.length - k) ≤2 ^ 24:=Nat.pow_le_pow_right (by omega) (by omega);have:(2:Nat)^ 24=16777216:=rfl;omega
theorem Iq(l:List dz)(hl:LW l)(x:List LT)(hx:OM x)(n:Nat)(rc:(((List dz)×Int×List LT×Unit)×Unit) →Option (Unit×(List Int×Unit)))
  (hrc:∀k:Nat,k< l.length→l.length - k≤n→rc ((l,(k:Int),x,()),())=some ((),(ints (fB l x n k),()))) (o:Int) (ch:List Nat) (hs:ch.Pairwise (· < ·)) (hc:∀k∈ch,k< l.length∧l.length - k≤n):
  ∀(k i:Nat) (out:List Int),i+k=ch.length→out.length≤16777216 * i→aB (nE rc) (((i:Int),o,l,x,((ch.length:Nat):Int),()),(out,(ints ch,())))=some ((o,()),(out++ints (goC (fB l x n) l x (ch.drop i)),())):=by
 have hcl:ch.length≤24:=by
  have:=hl.len
  have:ch.length≤l.length:=by
   have hsub:ch.Sublist (List.range l.length):=by
    have h1:ch=(List.range l.length).filter (fun k=>decide (k∈ch)):=by
     apply List.Perm.eq_of_pairwise (le:=(· < ·)) (fun a b _ _ h1 h2=>absurd h1 (by omega)) hs (List.Pairwise.filter _ List.pairwise_lt_range);refine(List.perm_ext_iff_of_nodup (hs.imp (fun h=>by omega)) ((List.nodup_range).filter _)).2 fun a=> ?_
     rw [List.mem_filter,List.mem_range,decide_eq_true_eq];exact⟨fun h=>⟨(hc a h).1,h⟩,fun h=>h.2⟩
    rw [h1];exact List.filter_sublist
   have:=hsub.length_le
   rwa [List.length_range] at this
  omega
 intro k
 induction k with
 |zero=>
  intro i out h ho;obtain rfl:i=ch.length:=by omega
  rw [List.drop_length];refine aF ?_;simp only [nE,dG,au,sS];simp [goC]
 |succ k ih=>
  intro i out h ho;obtain⟨e,he,hd⟩:=drop_at (l:=ch) (i:=i) (by omega);obtain⟨he1,he2⟩:=hc e (List.mem_of_getElem? he);obtain⟨r,hr⟩:=getD_some he1;have hp:=hl.psz (List.mem_of_getElem? hr);have hei:(ints ch)[i]?=some (e:Int):=by rw [List.getElem?_map,he];rfl
  have hb:decide ((0:Int) ≤(i:Int) ∧(i:Int)< (((ints ch).length:Nat):Int))=true:=decide_eq_true (by rw [List.length_map];omega);have hlt:decide ((i:Int)< ((ch.length:Nat):Int))=true:=decide_eq_true (by omega);have hw:aT ((i:Int)+1)=((i+1:Nat):Int):=aI (by omega);have hfl:(fB l x n e).length≤16777216:=small hl (e+1) (by have:=Gg hl x n e he1;rwa [show l.length -(e+1)=l.length - e - 1 by omega]);have hmul:16777216 * i≤16777216 * 24:=Nat.mul_le_mul_left _ (by omega);have hb2:decide (out.length+(ints (fB l x n e)).length≤4294967296)=true:=decide_eq_true (by rw [List.length_map];omega);rw [hd];unfold goC;rw [hr];simp only;cases hq:allM r.2.1 x
  ·simp only [cond_false];rw [←ih (i+1) out (by omega) (by omega)];refine aN ?_;simp only [nE,hlt,hb,Int.toNat_natCast,hei,aH,aC hr,qR r.2.1 x hp hx,hq,hw,au,au,sS]
  ·simp only [cond_true];cases hcont:r.2.2.2.2.2.2.2.1
   ·simp only [cond_false,List.append_nil];refine aF ?_;simp only [nE,hlt,hb,Int.toNat_natCast,hei,aH,aC hr,qR r.2.1 x hp hx,hq,hrc e he1 he2,hb2,hcont,au,au,sS]
   ·simp only [cond_true]
    rw [show ints (fB l x n e++goC (fB l x n) l x (ch.drop (i+1)))=ints (fB l x n e)++ints (goC (fB l x n) l x (ch.drop (i+1))) from List.map_append,←List.append_assoc,
     ←ih (i+1) (out++ints (fB l x n e)) (by omega) (by rw [List.length_append,List.length_map];omega)]
    refine aN ?_;simp only [nE,hlt,hb,Int.toNat_natCast,hei,aH,aC hr,qR r.2.1 x hp hx,hq,hrc e he1 he2,hb2,hcont,hw,au,au,sS]
theorem WB(l:List dz)(hl:LW l)(x:List LT)(hx:OM x):∀(n i:Nat),i< l.length→l.length - i≤n→GJ n ((l,(i:Int),x,()),())=some ((),(ints (fB l x n i),())):=by
 intro n
 induction n with
 |zero=>intro i h1 h2;omega
 |succ n ih=>
  intro i hi hn;have hlen:=hl.len;have q:=V8 l (by omega) (i:Int)
  have q2:=Iq l hl x hx n (GJ n) (fun k h1 h2=>ih k h1 h2) (i:Int) (Fj l (i:Int)) (qP l _) (fun k hk=>by
   obtain⟨a,b⟩:=zm hl hk;exact⟨b,by omega⟩) (Fj l (i:Int)).length 0 [] (by omega) (by simp)
  rw [List.drop_zero,List.nil_append] at q2
  show Sv (GJ n) ((l,(i:Int),x,()),())=_
  unfold Sv;simp only [q,au,sS];rw [List.length_map];refine aQ _ (show aB (nE (GJ n)) ((0,(i:Int),l,x,(((Fj l (i:Int)).length:Nat):Int),()),([],(ints (Fj l (i:Int)),())))=_ from q2) ?_;unfold fB;by_cases h:goC (fB l x n) l x (Fj l (i:Int))=[]
  ·rw [if_pos h,h];rfl
  ·rw [if_neg h]
   have:(((ints (goC (fB l x n) l x (Fj l (i:Int)))).length:Int)==0)=false:=beq_eq_false_iff_ne.2 (by
    rw [List.length_map];intro e;exact h (List.length_eq_zero_iff.1 (by omega)))
   simp only [this,au,sS]
def o5(l:List dz)(x:List LT):List Nat:=if ko l=0∧cB x=true then fB l x 400 0 else []
theorem Ic{x:List LT}(h:cB x=true):OM x:=by
 obtain⟨h1,h2⟩:=gy h;exact⟨by omega,fun y hy=>by have:=vN (h2 y hy).2.1;omega⟩
theorem YQ(l:List dz)(hl:Py l)(x:List LT)(hx:PY x):m68 ((l,x,()),())=some ((),(ints (o5 l x),())):=by
 unfold m68 o5;by_cases h:ko l=0
 ·have hb:(ko l !=0)=false:=by rw [h];rfl
  have hk:=Tw h;simp only [JD l hl,AL x hx,hb,au,sS];cases hv:cB x
  ·simp only [au,sS];rw [if_neg (by simp)];rfl
  ·have q:=WB l hk x (Ic hv) 400 0 hk.pos (by have:=hk.len;omega);simp only [au,sS];rw [if_pos ⟨h,trivial⟩];exact aQ _ q rfl
 ·have hb:(ko l !=0)=true:=bne_iff_ne.2 h;simp only [JD l hl,hb,au,sS];rw [if_neg (fun e=>h e.1)];rfl
def iD(l:List dz):Nat→Nat→List Nat
 |0,_=> []
 |n+1,i=>if i=0 then [0] else match l[i]? with|some r=>iD l n r.1.toNat++ [i]|none=> []
def xP(r:dz)(x:List LT):ByteArray:=if cB x then yL (gK r.2.2.2.1 x) else ByteArray.empty
theorem Tc{ks:List ByteArray}{x:List LT}(h:PY x):PY (gK ks x):=⟨Nat.le_trans (Ll ks x).length_le h.1,fun y hy=>h.2 y ((Ll ks x).subset hy)⟩
theorem RU(r:dz)(x:List LT)(hx:PY x)(hr:r.2.2.2.1.length≤big):ZR ((r,x,()),())=some ((xP r x,()),()):=by
 unfold ZR xP;simp only [AL x hx,au,sS];cases hv:cB x
 ·rfl
 ·have:=(gy hv).1;simp only [VB x r.2.2.2.1 (by omega) hr,Ja _ (Tc hx),if_true,au,sS]
theorem Uv(r:dz)(x:List LT)(hx:PY x)(hr:r.2.2.2.1.length≤big):m20 ((r,x,()),())=some ((xP r x,()),()):=by
 unfold m20 xP;simp only [Ny x hx,au,sS];cases hv:cB x
 ·rfl
 ·have:=(gy hv).1;simp only [Z0 x r.2.2.2.1 (by omega) hr,RI _ (Tc hx),if_true,au,sS]
theorem LY:∀{l:List ByteArray} {p:Option ByteArray},(∀k∈l,l6 k=true) →l.Pairwise (fun a b=>leB b a=false) →(∀q,p=some q→∀k∈l,leB k q=false) →qC DU p l=true
 | [],_,_,_,_=>rfl
 |k::l,p,h1,h2,h3=>by
  unfold qC;have h2:=List.pairwise_cons.1 h2;rw [LY (p:=some k) (fun y hy=>h1 y (List.mem_cons_of_mem _ hy)) h2.2 (fun q hq y hy=>by cases hq;exact h2.1 y hy),Bool.and_true];unfold DU;rw [h1 k (List.mem_cons_self ..)]
  cases p with
  |none=>rfl
  |some q=>simp only;rw [h3 q rfl k (List.mem_cons_self ..)];rfl
theorem Q5:ic.Pairwise (fun a b=>leB b a=false):=by decide+kernel
theorem KN{l:List ByteArray}(h:l.Sublist ic):jc l=true:=LY (fun k hk=>(zH k (h.subset hk)).1) (Q5.sublist h) (fun q hq=>by cases hq)
theorem ZK{l:List LT}(h:p9 ic l):PY l:=by
 have g:=P7 h;exact⟨by have:=g.1;unfold big;omega,fun x hx=>by have:=g.2 x hx;unfold big;omega⟩
def GU(r:dz):Prop:=(r.2.1.length≤8∧∀m∈r.2.1,lF m) ∧r.2.2.2.1.Sublist ic∧nH r=false∧r.2.2.2.2.2.1≤1000∧0≤r.2.2.2.2.2.1∧0≤r.2.2.2.2.2.2.1∧r.2.2.2.2.2.2.1≤10000
theorem GU.z{r:dz}(h:GU r):Ir r:=by
 obtain⟨⟨h1,h2⟩,h3,_⟩:=h;have h4:=h3.length_le;rw [show ic.length=4 from rfl] at h4;exact⟨⟨by unfold big;omega,fun m hm=>(h2 m hm).z⟩,by unfold big;omega,fun k hk=>by have:=(zH k (h3.subset hk)).2;unfold big;omega⟩
theorem GU.one{r:dz}(h:GU r):fQ r=0:=by
 obtain⟨⟨h1,h2⟩,h3,h4,_⟩:=h;have h5:=h3.length_le;rw [show ic.length=4 from rfl] at h5;unfold fQ;rw [decide_eq_false (show¬(r.2.1.length:Int)>8 by omega),decide_eq_false (show¬(r.2.2.2.1.length:Int)>12 by omega),List.all_eq_true.2 (fun m hm=>(h2 m hm).1),KN h3,h4];rfl
theorem UE{E:Type}{gZ:Nat→E→Int}:∀{l:List E} {i:Nat},(∀(k:Nat) (e:E),l[k]?=some e→gZ (i+k) e=0) →Aa gZ i l=0
 | [],_,_=>rfl
 |x::r,i,h=>by
  unfold Aa;have h0:=h 0 x rfl;rw [Nat.add_zero] at h0;rw [h0]
  exact UE (i:=i+1) fun k e he=>by
   have:=h (k+1) e (by simpa using he)
   rwa [show i+(k+1)=i+1+k by omega] at this
structure ug(l:List dz):Prop where
 pos:0< l.length
 len:l.length≤24
 root:∀r,l[0]?=some r→r.1= -1∧r.2.1=[]
 par:∀(k:Nat) (r:dz),l[k]?=some r→0< k→0≤r.1∧r.1< (k:Int)
 good:∀r∈l,GU r
theorem ZB{l:List dz}(pos:0< l.length)(len:l.length≤24)(root:∀r,l[0]?=some r→r.1= -1∧r.2.1=[])(par:∀(k:Nat) (r:dz),l[k]?=some r→0< k→0≤r.1∧r.1< (k:Int))(one:∀r∈l,fQ r=0):ko l=0:=by
 unfold ko;rw [beq_eq_false_iff_ne.2 (show(l.length:Int) ≠0 by omega),decide_eq_false (show¬(l.length:Int)>24 by omega),UE (fun k e he=> ?_)]
 ·obtain⟨r,hr⟩:=getD_some pos;rw [hr];simp only [(root r hr).2];rfl
 ·rw [Nat.zero_add];unfold rF lu
  have:(if k=0 then e.1 != -1 else decide (e.1< 0)||decide (e.1≥(k:Int)))=false:=by
   by_cases h0:k=0
   ·subst h0;rw [if_pos rfl,(root e he).1];rfl
   ·rw [if_neg h0];obtain⟨a,b⟩:=par k e he (by omega);rw [decide_eq_false (by omega),decide_eq_false (by omega)];rfl
  rw [this];exact one e (List.mem_of_getElem? he)
theorem ug.gZ{l:List dz}(h:ug l):ko l=0:=ZB h.pos h.len h.root h.par (fun r hr=>(h.good r hr).one)
theorem ug.z{l:List dz}(h:ug l):Py l:=⟨by have:=h.len;omega,fun r hr=>(h.good r hr).z⟩
theorem mem3{x a b c:Int}(h:x∈ [a,b,c]):x=a∨x=b∨x=c:=by simpa using h
theorem adW{x a b c d:Int}(h:x∈ [a,b,c,d]):x=a∨x=b∨x=c∨x=d:=by simpa using h
theorem D5(d:fZ)(hd:qZ d):∃(p w i r:Int) (c:Bool) (by_:List ByteArray) (d':fZ),m24 ((),((d,()),()))=some ((),((d',()),(((-1),p,w,i,r,c,()),()),by_,())) ∧qZ d'∧
  ∀(q:Int) (ms:List MT),(ms.length≤8∧∀m∈ms,lF m) →GU (q,ms,p,by_,w,i,r,c,()):=by
 obtain⟨a1,d1,e1,hd1,b1⟩:=pq [0,30,10,60] d hd (by simp) (by simp);obtain⟨a2,d2,e2,hd2,b2⟩:=pq [20,300,40] d1 hd1 (by simp) (by simp);obtain⟨a3,d3,e3,hd3,b3,_⟩:=dw 3 d2 hd2 (by omega);have b3:=b3 (by omega);obtain⟨ks,d4,e4,hd4,hk⟩:=Ei d3 hd3;obtain⟨a5,d5,e5,hd5,b5⟩:=pq [0,3600,100] d4 hd4 (by simp) (by simp);obtain⟨c,d6,e6,hd6⟩:=Gr 2 d5 hd5 (by omega) (by omega);have b1:=adW b1;have b2:=mem3 b2;have b5:=mem3 b5;have w1:aT (a1+a2)=a1+a2:=bO (by omega) (by omega);have w2:aT (a1+a2+a5)=a1+a2+a5:=bO (by omega) (by omega);refine⟨a3,a1,a1+a2,a1+a2+a5,c,ks,d6,?_,hd6,fun q ms hms=>⟨hms,hk,?_,?_,?_,?_,?_⟩⟩
 ·unfold m24;simp only [e1,e2,e3,e4,e5,e6,w1,w2,au,sS]
 ·unfold nH;simp only [Bool.or_eq_false_iff];exact⟨decide_eq_false (by omega),decide_eq_false (by omega),decide_eq_false (by omega),decide_eq_false (by omega),decide_eq_false (by omega),beq_eq_false_iff_ne.2 (by omega)⟩
 all_goals simp only;omega
theorem Lv:∀(n:Nat) (i:Int) (d:fZ) (l:List dz),qZ d→i=n→l.length+n≤20→ug l→
  ∃(l':List dz) (d':fZ),aB Cy ((i,()),((d,()),(l,())))=some ((),((d',()),(l',()))) ∧qZ d'∧ug l'∧l'.length=l.length+n:=by
 intro n
 induction n with
 |zero=>
  intro i d l hd hi hl hg;refine⟨l,d,aF ?_,hd,hg,rfl⟩;have:decide (i>0)=false:=decide_eq_false (by omega);simp only [Cy,this,au,sS]
 |succ n ih=>
  intro i d l hd hi hl hg;have hpos:=hg.pos;obtain⟨p,w,t,r,c,ks,d1,e1,hd1,hr⟩:=D5 d hd;obtain⟨a,d2,e2,hd2,b2,_⟩:=dw ((l.length:Nat):Int) d1 hd1 (by omega);have b2:=b2 (by omega);obtain⟨ms,d3,e3,hd3,hn,hm⟩:=kH 2 d2 hd2 (by omega) (by omega);have hgood:=hr a ms ⟨by omega,hm⟩
  obtain⟨l',d',e4,hd',hl',hlen⟩:=ih (i - 1) d3 (l++ [(a,ms,p,ks,w,t,r,c,())]) hd3 (by omega) (by simp;omega) ⟨by simp,by simp;omega,fun y hr=>hg.root y (by rwa [List.getElem?_append_left hpos] at hr),fun k y hr h0=>by
    by_cases hk:k< l.length
    ·rw [List.getElem?_append_left hk] at hr;exact hg.par k y hr h0
    ·have:k< (l++ [(a,ms,p,ks,w,t,r,c,())]).length:=(List.getElem?_eq_some_iff.1 hr).1;simp at this;obtain rfl:k=l.length:=by omega
     rw [List.getElem?_append_right (Nat.le_refl _),Nat.sub_self] at hr;simp at hr;subst hr;exact⟨b2.1,b2.2⟩,fun x hx=>by
    rcases List.mem_append.1 hx with h|h
    ·exact hg.good x h
    ·simp only [List.mem_singleton] at h;subst h;exact hgood⟩
  refine⟨l',d',?_,hd',hl',by rw [hlen];simp;omega⟩;rw [←e4];refine aN ?_;have h0:decide (i>0)=true:=decide_eq_true (by omega);have h1:∀z:dz,decide (l.length+([z]:List dz).length≤4294967296)=true:=fun z=>decide_eq_true (by simp;omega)
  simp only [Cy,h0,e1,e2,e3,h1,au,sS,bO (x:=i - 1) (by omega) (by omega)]
theorem LQ(n:Int)(d:fZ)(hd:qZ d)(h0:0≤n)(h1:n≤10):∃(l:List dz) (d':fZ),m50 ((n,()),((d,()),()))=some ((),((d',()),(l,()))) ∧qZ d'∧ug l:=by
 obtain⟨p,w,t,r,c,ks,d1,e1,hd1,hr⟩:=D5 d hd;obtain⟨a,d2,e2,hd2,b2,_⟩:=dw (n+1) d1 hd1 (by omega);have b2:=b2 (by omega);have hgood:=hr (-1) [] ⟨by simp,fun m hm=>by cases hm⟩
 obtain⟨l',d',e3,hd',hl',hlen⟩:=Lv a.toNat a d2 [((-1),[],p,ks,w,t,r,c,())] hd2 (by omega) (by simp;omega) ⟨by simp,by simp,fun r hr=>by simp at hr;subst hr;exact⟨rfl,rfl⟩,fun k r hr h0=>by
  have:=(List.getElem?_eq_some_iff.1 hr).1;simp at this;omega,fun x hx=>by simp only [List.mem_singleton] at hx;subst hx;exact hgood⟩
 refine⟨l',d',?_,hd',hl'⟩;unfold m50;simp only [e1,bO (x:=n+1) (by omega) (by omega),e2,e3,au,sS]
def JH(l:List dz)(x:List LT)(k:Nat):Bool:=match l[k]? with|some r=>allM r.2.1 x|none=>false
def cnt(l:List dz)(k:Nat):Bool:=match l[k]? with|some r=>r.2.2.2.2.2.2.2.1|none=>false
inductive Down(l:List dz)(x:List LT):Nat→Nat→Prop where
 |here (i:Nat) (h:∀c∈Fj l (i:Int),JH l x c=false):Down l x i i
 |step (i k j:Nat) (hk:k∈Fj l (i:Int)) (hm:JH l x k=true) (hs:∀c∈Fj l (i:Int),c< k→JH l x c=true→cnt l c=true) (h:Down l x k j):Down l x i j
theorem H6{rec:Nat→List Nat}{l:List dz}{x:List LT}:∀{ks:List Nat},ks.Pairwise (· < ·) →(∀k∈ks,k< l.length) →∀j∈goC rec l x ks,∃k∈ks,JH l x k=true∧j∈rec k∧∀c∈ks,c< k→JH l x c=true→cnt l c=true
 | [],_,_,j,hj=>by cases hj
 |k::ks,hp,hl,j,hj=>by
  obtain⟨r,hr⟩:=getD_some (hl k (List.mem_cons_self ..));unfold goC at hj;rw [hr] at hj;simp only at hj;have hp:=List.pairwise_cons.1 hp;have hm:JH l x k=allM r.2.1 x:=by unfold JH;rw [hr]
  have hc:cnt l k=r.2.2.2.2.2.2.2.1:=by unfold cnt;rw [hr]
  have tail:j∈goC rec l x ks→(JH l x k=true→cnt l k=true) →∃k'∈k::ks,JH l x k'=true∧j∈rec k'∧∀c∈k::ks,c< k'→JH l x c=true→cnt l c=true:=fun h hk=>by
   obtain⟨k',h1,h2,h3,h4⟩:=H6 hp.2 (fun y hy=>hl y (List.mem_cons_of_mem _ hy)) j h;refine⟨k',List.mem_cons_of_mem _ h1,h2,h3,fun c hcm hlt hmc=> ?_⟩;rcases List.mem_cons.1 hcm with rfl|hcm
   ·exact hk hmc
   ·exact h4 c hcm hlt hmc
  cases hq:allM r.2.1 x
  ·rw [hq] at hj;exact tail hj (fun h=>by rw [hm,hq] at h;cases h)
  ·rw [hq] at hj;simp only [cond_true] at hj;rcases List.mem_append.1 hj with h|h
   ·refine⟨k,List.mem_cons_self ..,by rw [hm,hq],h,fun c hcm hlt=> ?_⟩;rcases List.mem_cons.1 hcm with rfl|hcm
    ·omega
    ·have:=hp.1 c hcm;omega
   ·cases hco:r.2.2.2.2.2.2.2.1
    ·rw [hco] at h;cases h
    ·rw [hco] at h;exact tail h (fun _=>by rw [hc,hco])
theorem Ui(l:List dz)(x:List LT)(n i:Nat):fB l x (n+1) i≠ []:=by
 unfold fB;split
 ·simp
 ·assumption
theorem OG{rec:Nat→List Nat}{l:List dz}{x:List LT}:∀{ks:List Nat},(∀k∈ks,k< l.length∧rec k≠ []) →goC rec l x ks=[] →∀c∈ks,JH l x c=false
 | [],_,_,c,hc=>by cases hc
 |k::ks,hl,h,c,hc=>by
  obtain⟨r,hr⟩:=getD_some (hl k (List.mem_cons_self ..)).1;unfold goC at h;rw [hr] at h;simp only at h;have hm:JH l x k=allM r.2.1 x:=by unfold JH;rw [hr]
  cases hq:allM r.2.1 x
  ·rw [hq] at h;rcases List.mem_cons.1 hc with rfl|hc
   ·rw [hm,hq]
   ·exact OG (fun y hy=>hl y (List.mem_cons_of_mem _ hy)) h c hc
  ·rw [hq] at h;simp only [cond_true] at h;exact absurd (List.append_eq_nil_iff.1 h).1 (hl k (List.mem_cons_self ..)).2
theorem vB{l:List dz}(hl:LW l)(x:List LT):∀(n i:Nat),l.length - i≤n→i< l.length→∀j∈fB l x n i,Down l x i j
 |0,i,h,hi,j,hj=>by omega
 |n+1,i,h,hi,j,hj=>by
  have hc:∀k∈Fj l (i:Int),k< l.length∧fB l x n k≠ []:=fun k hk=>by
   obtain⟨a,b⟩:=zm hl hk;obtain⟨m,rfl⟩:∃m,n=m+1:=⟨n - 1,by omega⟩
   exact⟨b,Ui l x m k⟩
  unfold fB at hj;split at hj
  ·rename_i h0;simp only [List.mem_singleton] at hj;subst hj;exact .here j (OG hc h0)
  ·obtain⟨k,h1,h2,h3,h4⟩:=H6 (qP l _) (fun k hk=>(hc k hk).1) j hj;obtain⟨a,b⟩:=zm hl h1;exact .step i k j h1 h2 h4 (vB hl x n k (by omega) b j h3)
theorem Gi{l:List dz}(hl:LW l):∀(n m i:Nat),i< n→i< m→i< l.length→iD l n i=iD l m i
 |0,_,_,h,_,_=>by omega
 |_+1,0,_,_,h,_=>by omega
 |n+1,m+1,i,hn,hm,hi=>by
  unfold iD;by_cases h0:i=0
  ·rw [if_pos h0,if_pos h0]
  ·rw [if_neg h0,if_neg h0];obtain⟨r,hr⟩:=getD_some hi;obtain⟨p1,p2⟩:=hl.par i r hr (by omega);rw [hr];simp only;rw [Gi hl n m r.1.toNat (by omega) (by omega) (by omega)]
theorem qD{l:List dz}(hl:LW l){i k:Nat}(hk:k∈Fj l (i:Int)):iD l 400 k=iD l 400 i++ [k]:=by
 obtain⟨a,b⟩:=zm hl hk;obtain⟨r,hr,hi⟩:=O9.1 hk;have hlen:=hl.len;rw [show(400:Nat)=399+1 from rfl]
 conv=>lhs;unfold iD
 rw [if_neg (by omega),hr];simp only;rw [hi,Int.toNat_natCast,Gi hl 399 (399+1) i (by omega) (by omega) (by omega)]
def DF(l:List dz)(x:List LT)(p:List Nat):Prop:=
 (∀k∈p,k< l.length∧JH l x k=true) ∧∀(k a b:Nat),p[k]?=some a→p[k+1]?=some b→∀c∈Fj l (a:Int),c< b→JH l x c=true→cnt l c=true
theorem Gf{l:List dz}(hl:LW l){i:Nat}(hi:i< l.length):∃q,iD l 400 i=q++ [i]:=by
 have hlen:=hl.len;rw [show(400:Nat)=399+1 from rfl];unfold iD;by_cases h0:i=0
 ·rw [if_pos h0,h0];exact⟨[],rfl⟩
 ·rw [if_neg h0];obtain⟨r,hr⟩:=getD_some hi;rw [hr];exact⟨_,rfl⟩
theorem Pp{l:List dz}(hl:LW l){x:List LT}{i j:Nat}(h:Down l x i j):i< l.length→DF l x (iD l 400 i) →∃s,iD l 400 j=iD l 400 i++s∧DF l x (iD l 400 j) ∧j< l.length∧∀c∈Fj l (j:Int),JH l x c=false:=by
 induction h with
 |here i h=>intro hi hp;exact⟨[],by simp,hp,hi,h⟩
 |step i k j hk hm hs h ih=>
  intro hi hp;obtain⟨a,b⟩:=zm hl hk;have e:=qD hl hk
  have hp2:DF l x (iD l 400 k):=by
   rw [e];refine⟨fun y hy=> ?_,fun n a b ha hb=> ?_⟩
   ·rcases List.mem_append.1 hy with h|h
    ·exact hp.1 y h
    ·simp only [List.mem_singleton] at h;subst h;exact⟨by assumption,hm⟩
   ·by_cases hn:n+1< (iD l 400 i).length
    ·rw [List.getElem?_append_left (by omega)] at ha hb;exact hp.2 n a b ha hb
    ·have hlt:=(List.getElem?_eq_some_iff.1 hb).1;rw [List.length_append,List.length_singleton] at hlt;obtain⟨q,hq⟩:=Gf hl hi;have hl2:(iD l 400 i).length=q.length+1:=by rw [hq];simp
     obtain rfl:n=q.length:=by omega
     rw [List.getElem?_append_left (by omega),hq,List.getElem?_append_right (Nat.le_refl _),Nat.sub_self] at ha;rw [List.getElem?_append_right (by omega),show q.length+1 -(iD l 400 i).length=0 by omega] at hb;simp at ha hb;subst ha;subst hb;exact hs
  obtain⟨s,h1,h2,h3,h4⟩:=ih b hp2;exact⟨[k]++s,by rw [h1,e,List.append_assoc],h2,h3,h4⟩
theorem P5{l:List dz}(hl:LW l)(x:List LT):DF l x (iD l 400 0):=by
 have e:iD l 400 0=[0]:=rfl;rw [e];refine⟨fun k hk=> ?_,fun k a b ha hb=> ?_⟩
 ·simp only [List.mem_singleton] at hk;subst hk;obtain⟨r,hr⟩:=getD_some hl.pos;refine⟨hl.pos,?_⟩;unfold JH;rw [hr];simp only [(hl.root r hr).2];rfl
 ·simp at hb
theorem He{rec:Nat→List Nat}{l:List dz}{x:List LT}:∀{ks:List Nat},ks.Pairwise (· < ·) →(∀k∈ks,k< l.length∧(rec k).Nodup) →(∀k∈ks,∀k'∈ks,∀j,j∈rec k→j∈rec k'→k=k') →(goC rec l x ks).Nodup
 | [],_,_,_=>List.nodup_nil
 |k::ks,hp,hl,hd=>by
  obtain⟨h1,h2⟩:=hl k (List.mem_cons_self ..);obtain⟨r,hr⟩:=getD_some h1;have hp:=List.pairwise_cons.1 hp;have ih:=He (rec:=rec) (l:=l) (x:=x) hp.2 (fun y hy=>hl y (List.mem_cons_of_mem _ hy)) (fun a ha b hb=>hd a (List.mem_cons_of_mem _ ha) b (List.mem_cons_of_mem _ hb));unfold goC;rw [hr];simp only;cases allM r.2.1 x
  ·exact ih
  ·simp only [cond_true];cases r.2.2.2.2.2.2.2.1
   ·simp only [cond_false,List.append_nil];exact h2
   ·simp only [cond_true];refine List.nodup_append.2 ⟨h2,ih,fun a ha b hb e=> ?_⟩;subst e;obtain⟨k',g1,_,g3,_⟩:=H6 hp.2 (fun y hy=>(hl y (List.mem_cons_of_mem _ hy)).1) a hb;have:=hd k (List.mem_cons_self ..) k' (List.mem_cons_of_mem _ g1) a ha g3;have:=hp.1 k' g1;omega
theorem LK{l:List dz}(hl:LW l){x:List LT}{i j:Nat}(h:Down l x i j):∃s,iD l 400 j=iD l 400 i++s:=by
 induction h with
 |here i h=>exact⟨[],by simp⟩
 |step i k j hk hm hs h ih=>
  obtain⟨s,hs⟩:=ih;exact⟨[k]++s,by rw [hs,qD hl hk,List.append_assoc]⟩
theorem Bu{l:List dz}(hl:LW l)(x:List LT):∀(n i:Nat),l.length - i≤n→i< l.length→(fB l x n i).Nodup
 |0,_,h,hi=>by omega
 |n+1,i,h,hi=>by
  unfold fB;split
  ·simp
  ·refine He (qP l _) (fun k hk=> ?_) (fun k hk k' hk' j hj hj'=> ?_)
   ·obtain⟨a,b⟩:=zm hl hk;exact⟨b,Bu hl x n k (by omega) b⟩
   ·obtain⟨a,b⟩:=zm hl hk;obtain⟨a',b'⟩:=zm hl hk';obtain⟨s,hs⟩:=LK hl (vB hl x n k (by omega) b j hj);obtain⟨s',hs'⟩:=LK hl (vB hl x n k' (by omega) b' j hj');rw [qD hl hk] at hs;rw [qD hl hk',hs,List.append_assoc,List.append_assoc] at hs';have:=List.append_cancel_left hs';simp at this;exact this.1
theorem found{l:List dz}(hl:LW l){x:List LT}{j:Nat}(hj:j∈fB l x 400 0):
  j< l.length∧(∃q,iD l 400 j=0::q) ∧(∃q,iD l 400 j=q++ [j]) ∧DF l x (iD l 400 j) ∧∀c∈Fj l (j:Int),JH l x c=false:=by
 have hlen:=hl.len;obtain⟨s,h1,h2,h3,h4⟩:=Pp hl (vB hl x 400 0 (by omega) hl.pos j hj) hl.pos (P5 hl x);exact⟨h3,⟨s,h1⟩,Gf hl h3,h2,h4⟩
abbrev bJ:Type:=ByteArray×List LT×Int×Int×Bool×Bool×Unit
abbrev bC:Type:=Int×ByteArray×List bJ×Int×Int×Unit
abbrev aK(m:bJ):ByteArray:=m.1
abbrev bP(m:bJ):List LT:=m.2.1
abbrev gD(m:bJ):Int:=m.2.2.1
abbrev dX(m:bJ):Int:=m.2.2.2.1
abbrev cO(m:bJ):Bool:=m.2.2.2.2.1
abbrev dI(m:bJ):Bool:=m.2.2.2.2.2.1
abbrev aL(g:bC):List bJ:=g.2.2.1
abbrev fu(g:bC):Int:=g.2.2.2.1
abbrev bR(g:bC):Int:=g.2.2.2.2.1
structure qI(m:bJ):Prop where
 lab:cB (bP m)=true
 key:aK m=gX (fC (bP m))
 since:0≤gD m∧gD m≤8589934592
 heard:0≤dX m∧dX m≤8589934592
 told:cO m=true∨dI m=false
abbrev Less(a b:ByteArray):Prop:=leB b a=false
structure VG(g:bC):Prop where
 len:(aL g).length≤256
 rt:0≤g.1
 due: -1≤fu g∧fu g≤8589934592
 sent: -1≤bR g∧bR g≤8589934592
 mem:∀m∈aL g,qI m
 up:((aL g).map aK).Pairwise Less
theorem jB{l:List LT}(h:cB l=true):PY l:=by
 obtain⟨h1,h2⟩:=gy h;refine⟨by unfold big;omega,fun x hx=> ?_⟩;obtain⟨a,b,_⟩:=h2 x hx;have:=C9 a;have:=vN b;unfold big;omega
theorem qm{l:List LT}(h:cB l=true):yL l=gX (fC l):=if_pos h
theorem zO(a b c:Int):Er ((a,b,c,()),())=some ((decide (b≤a∧a≤c),()),()):=by
 unfold Er;by_cases h1:a≥b<;>by_cases h2:a≤c<;>simp [h1,h2]
theorem Vu{m:bJ}(h:qI m):Xe ((m,()),())=some ((true,()),()):=by
 have q1:=AL (bP m) (jB h.lab);rw [h.lab] at q1;have q2:=Ja (bP m) (jB h.lab);rw [qm h.lab,←h.key] at q2;have d1:decide ((0:Int) ≤gD m∧gD m≤8589934592)=true:=decide_eq_true h.since;have d2:decide ((0:Int) ≤dX m∧dX m≤8589934592)=true:=decide_eq_true h.heard;have ht:=h.told;obtain⟨k,l,s,hh,f,t,⟨⟩⟩:=m;dsimp only [aK,bP,gD,dX,cO,dI] at q1 q2 d1 d2 ht;unfold Xe;simp only [q1,q2,zO,d1,d2,au,sS];cases f
 ·have:t=false:=by simpa using ht
  subst this;rfl
 ·rfl
theorem MR{l:List ByteArray}(h:l.Pairwise Less){i:Nat}{a b:ByteArray}(ha:l[i]?=some a)(hb:l[i+1]?=some b):Less a b:=by
 obtain⟨h1,rfl⟩:=List.getElem?_eq_some_iff.1 ha;obtain⟨h2,rfl⟩:=List.getElem?_eq_some_iff.1 hb;exact List.pairwise_iff_getElem.1 h i (i+1) h1 h2 (by omega)
theorem H7{g:bC}(h:VG g):Y1 ((g,()),())=some ((true,()),()):=by
 have hlen:=h.len;have d0:decide (((aL g).length:Int)>256)=false:=decide_eq_false (by omega);have d1:decide (g.1< 0)=false:=decide_eq_false (by have:=h.rt;omega);have d2:decide ((-1:Int) ≤fu g∧fu g≤8589934592)=true:=decide_eq_true h.due;have d3:decide ((-1:Int) ≤bR g∧bR g≤8589934592)=true:=decide_eq_true h.sent
 have hl:aB yR (((0:Int),aL g,((aL g).length:Int),()),((g,()),()))=some (.inr ((),())):=gB (aL g) (fun i=>(((i:Int),aL g,((aL g).length:Int),()),((g,()),()))) _ (fun i e he hi=>by
  have q:=Vu (h.mem e (List.mem_of_getElem? he));have hw:=aI (i:=i) (by omega);obtain⟨rt,ky,ms,du,se,⟨⟩⟩:=g;rcases iT hi with h0|⟨p,h0,hp,hp1⟩
  ·have:decide ((i:Int)>0)=false:=decide_eq_false (by omega);simp only [yR,bV hi,aH,aC he,q,this,hw,au,sS]
  ·have:decide ((i:Int)>0)=true:=decide_eq_true (by omega);have hlt:=MR h.up (i:=i - 1) (a:=aK p) (b:=aK e) (by rw [List.getElem?_map,hp];rfl) (by rw [show i - 1+1=i by omega,List.getElem?_map,he];rfl);have hlt:(Op.bytesLess e.1.toList p.1.toList||e.1.toList==p.1.toList)=false:=hlt;simp only [yR,bV hi,aH,aC he,q,this,hp1 (by omega),aC hp,hlt,hw,au,sS]) (by simp only [yR,dG,au,sS])
 obtain⟨rt,ky,ms,du,se,⟨⟩⟩:=g;dsimp only [aL,fu,bR] at d0 d1 d2 d3 hl;unfold Y1;simp only [d0,d1,zO,d2,d3,au,sS];refine aQ _ hl ?_;simp only [au,sS]
theorem isNaN(s:ByteArray):Ux ((s,()),())=some ((false,()),()):=by
 unfold Ux;simp
def Cg(a b:ByteArray):Int:=if Op.bytesLess a.toList b.toList=true then -1 else if leB a b=false then 1 else 0
theorem OP(a b:ByteArray):RX ((a,b,()),())=some ((Cg a b,()),()):=by
 unfold RX Cg leB;simp only [isNaN,au,sS];cases Op.bytesLess a.toList b.toList
 ·cases (a.toList==b.toList)<;>rfl
 ·rfl
theorem HY(m:bJ)(k:ByteArray):Sd ((m,k,()),())=some ((Cg (aK m) k,()),()):=by
 unfold Sd;simp only [OP,au,sS]
theorem SK:∀x:List UInt8,Op.bytesLess x x=false
 | []=>rfl
 |a::x=>by
  have:=SK x;simp [Op.bytesLess,this]
theorem KQ:∀{x y z:List UInt8},Op.bytesLess x y=true→Op.bytesLess y z=true→Op.bytesLess x z=true
 |_,[],_,h,_=>by cases ‹List UInt8›<;>simp [Op.bytesLess] at h
 |_,_::_,[],_,h=>by simp [Op.bytesLess] at h
 | [],_::_,_::_,_,_=>by simp [Op.bytesLess]
 |a::x,b::y,c::z,h1,h2=>by
  simp only [Op.bytesLess,Bool.or_eq_true,decide_eq_true_eq,Bool.and_eq_true,beq_iff_eq] at h1 h2 ⊢;rcases h1 with h1|⟨rfl,h1⟩
  ·rcases h2 with h2|⟨rfl,h2⟩
   ·exact .inl (UInt8.lt_trans h1 h2)
   ·exact .inl h1
  ·rcases h2 with h2|⟨rfl,h2⟩
   ·exact .inl h2
   ·exact .inr ⟨rfl,KQ h1 h2⟩
theorem Uz:∀(x y:List UInt8),Op.bytesLess x y=true∨x=y∨Op.bytesLess y x=true
 | [],[]=> .inr (.inl rfl)
 | [],_::_=> .inl rfl
 |_::_,[]=> .inr (.inr rfl)
 |a::x,b::y=>by
  simp only [Op.bytesLess,Bool.or_eq_true,decide_eq_true_eq,Bool.and_eq_true,beq_iff_eq];rcases Nat.lt_trichotomy a.toNat b.toNat with h|h|h
  ·exact .inl (.inl (UInt8.lt_iff_toNat_lt.2 h))
  ·have h:=UInt8.toNat_inj.1 h;subst h;rcases Uz x y with h|h|h
   ·exact .inl (.inr ⟨rfl,h⟩)
   ·exact .inr (.inl (by rw [h]))
   ·exact .inr (.inr (.inr ⟨rfl,h⟩))
  ·exact .inr (.inr (.inl (UInt8.lt_iff_toNat_lt.2 h)))
abbrev Lt(a b:ByteArray):Prop:=Op.bytesLess a.toList b.toList=true
theorem Ph{a b:ByteArray}(h:a.toList=b.toList):a=b:=DI (by rw [←bH,←bH,h])
theorem nL(a:ByteArray):¬ Lt a a:=fun h=>by rw [Lt,SK] at h;cases h
theorem lt_trans{a b c:ByteArray}(h:Lt a b)(k:Lt b c):Lt a c:=KQ h k
theorem IU(a b:ByteArray):Lt a b∨a=b∨Lt b a:=by
 rcases Uz a.toList b.toList with h|h|h
 ·exact .inl h
 ·exact .inr (.inl (Ph h))
 ·exact .inr (.inr h)
theorem eZ{a b:ByteArray}:Less a b↔Lt a b:=by
 unfold Less leB;rw [Bool.or_eq_false_iff];constructor
 ·rintro⟨h1,h2⟩;rcases IU a b with h|h|h
  ·exact h
  ·subst h;simp at h2
  ·rw [h] at h1;cases h1
 ·intro h;refine⟨?_,?_⟩
  ·cases hc:Op.bytesLess b.toList a.toList
   ·rfl
   ·exact absurd (lt_trans h hc) (nL a)
  ·cases hc:(b.toList==a.toList)
   ·rfl
   ·have:b=a:=Ph (by simpa using hc);subst this;exact absurd h (nL b)
theorem KS{a b:ByteArray}:Cg a b< 0↔Lt a b:=by
 unfold Cg;by_cases h:Lt a b
 ·rw [if_pos h];exact⟨fun _=>h,fun _=>by omega⟩
 ·rw [if_neg h];constructor
  ·intro h2;split at h2<;>omega
  ·exact fun h2=>absurd h2 h
theorem uU{a b:ByteArray}:Cg a b=0↔a=b:=by
 unfold Cg;by_cases h:Lt a b
 ·rw [if_pos h];exact⟨fun h2=>by omega,fun h2=>by subst h2;exact absurd h (nL a)⟩
 ·rw [if_neg h];by_cases h2:leB a b=false
  ·rw [if_pos h2];have h3:=eZ.1 (show Less b a from h2);exact⟨fun h=>by omega,fun h=>by subst h;exact absurd h3 (nL a)⟩
  ·rw [if_neg h2];refine⟨fun _=> ?_,fun _=>rfl⟩;rcases IU a b with h3|h3|h3
   ·exact absurd h3 h
   ·exact h3
   ·exact absurd (eZ.2 h3) h2
theorem half(i j:Nat)(h:i+j≤1000000):aT (zD .u64 (IntKind.wrap .u64 (aT ((i:Int)+(j:Int)))) 1)=(((i+j)/ 2:Nat):Int):=by
 have h1:aT ((i:Int)+(j:Int))=(i:Int)+(j:Int):=bO (by omega) (by omega);rw [h1]
 have h2:IntKind.wrap .u64 ((i:Int)+(j:Int))=(i:Int)+(j:Int):=by
  have hp:(2:Int)^ IntKind.u64.bits=18446744073709551616:=rfl;simp only [IntKind.wrap,hp,show IntKind.u64.signed=false from rfl,Bool.false_and,Bool.false_eq_true,if_false];omega
 rw [h2]
 have h3:zD .u64 ((i:Int)+(j:Int)) 1=(((i+j)/ 2:Nat):Int):=by
  unfold zD;rw [show(2:Int)^(min (1:Int).toNat IntKind.u64.bits)=2 from rfl,Int.fdiv_eq_ediv_of_nonneg _ (by omega)];omega
 rw [h3];exact bO (by omega) (by omega)
theorem YF{g:bC}(hlen:(aL g).length≤256)(hup0:((aL g).map aK).Pairwise Less)(k:ByteArray):∃(i:Nat) (o:Bool),Kb ((g,k,()),())=some (((i:Int),o,()),()) ∧i≤(aL g).length∧(∀m∈(aL g).take i,Lt (aK m) k) ∧
  (∀m∈(aL g).drop i,¬ Lt (aK m) k) ∧(o=true→∃m,(aL g)[i]?=some m∧aK m=k) ∧(o=false→∀m∈aL g,aK m≠k):=by
 have hup:=List.pairwise_iff_getElem.1 hup0
 have mono:∀(a b:Nat) (x y:bJ),(aL g)[a]?=some x→(aL g)[b]?=some y→a≤b→¬ Lt (aK x) k→¬ Lt (aK y) k:=by
  intro a b x y ha hb hab hx hy;by_cases e:a=b
  ·subst e;rw [ha] at hb;injection hb with hb;subst hb;exact hx hy
  ·obtain⟨h1,h1'⟩:=List.getElem?_eq_some_iff.1 ha;obtain⟨h2,h2'⟩:=List.getElem?_eq_some_iff.1 hb;have:=hup a b (by rw [List.length_map];exact h1) (by rw [List.length_map];exact h2) (by omega);rw [List.getElem_map,List.getElem_map,h1',h2'] at this;exact hx (lt_trans (eZ.1 this) hy)
 have key:∃i:Nat,aB mY ((k,aL g,((aL g).length:Int),0,((aL g).length:Int),()),())=some ((k,(i:Int),aL g,((aL g).length:Int),()),()) ∧i≤(aL g).length∧
   (∀j m,j< i→(aL g)[j]?=some m→Lt (aK m) k) ∧(∀j m,i≤j→(aL g)[j]?=some m→¬ Lt (aK m) k):=by
  have go:∀(d lo hi:Nat),hi - lo≤d→lo≤hi→hi≤(aL g).length→(∀j m,j< lo→(aL g)[j]?=some m→Lt (aK m) k) →(∀j m,hi≤j→(aL g)[j]?=some m→¬ Lt (aK m) k) →
    ∃i:Nat,aB mY ((k,aL g,(hi:Int),(lo:Int),((aL g).length:Int),()),())=some ((k,(i:Int),aL g,((aL g).length:Int),()),()) ∧i≤(aL g).length∧
     (∀j m,j< i→(aL g)[j]?=some m→Lt (aK m) k) ∧(∀j m,i≤j→(aL g)[j]?=some m→¬ Lt (aK m) k):=by
   intro d
   induction d with
   |zero=>
    intro lo hi h0 h1 h2 h3 h4;have:lo=hi:=by omega
    subst this;refine⟨lo,aF ?_,h2,h3,h4⟩;simp only [mY,dG,au,sS]
   |succ d ih=>
    intro lo hi h0 h1 h2 h3 h4;by_cases hlt:lo< hi
    ·have hm:=half lo hi (by omega);have hmid:(lo+hi)/ 2< (aL g).length:=by omega
     obtain⟨e,he⟩:=getD_some hmid;have dl:decide ((lo:Int)< (hi:Int))=true:=decide_eq_true (by omega);have d1:decide ((0:Int) ≤1)=true:=rfl;have hw:aT ((((lo+hi)/ 2:Nat):Int)+1)=(((lo+hi)/ 2+1:Nat):Int):=aI (by omega);by_cases hc:Lt (aK e) k
     ·have dc:decide (Cg (aK e) k< 0)=true:=decide_eq_true (KS.2 hc)
      obtain⟨i,q,r⟩:=ih ((lo+hi)/ 2+1) hi (by omega) (by omega) h2 (fun j m hj hjm=>by
       by_cases hx:Lt (aK m) k
       ·exact hx
       ·exact absurd hc (mono j _ m e hjm he (by omega) hx)) h4
      refine⟨i,(aN ?_).trans q,r⟩;simp only [mY,dl,d1,hm,aH,aC he,HY,dc,hw,au,sS]
     ·have dc:decide (Cg (aK e) k< 0)=false:=decide_eq_false (fun h=>hc (KS.1 h));obtain⟨i,q,r⟩:=ih lo ((lo+hi)/ 2) (by omega) (by omega) (by omega) h3 (fun j m hj hjm=>mono _ j e m he hjm hj hc);refine⟨i,(aN ?_).trans q,r⟩;simp only [mY,dl,d1,hm,aH,aC he,HY,dc,au,sS]
    ·have:lo=hi:=by omega
     subst this;refine⟨lo,aF ?_,h2,h3,h4⟩;simp only [mY,dG,au,sS]
  exact go _ 0 _ (Nat.le_refl _) (Nat.zero_le _) (Nat.le_refl _) (fun j m hj=>by omega) (fun j m hj hjm=>by
   have:=(List.getElem?_eq_some_iff.1 hjm).1;omega)
 obtain⟨i,q,h1,h2,h3⟩:=key
 have ht:∀m∈(aL g).take i,Lt (aK m) k:=fun m hm=>by
  obtain⟨j,hj,rfl⟩:=List.mem_take_iff_getElem.1 hm;exact h2 j _ (by omega) (List.getElem?_eq_getElem _)
 have hd:∀m∈(aL g).drop i,¬ Lt (aK m) k:=fun m hm=>by
  obtain⟨j,hj,rfl⟩:=List.mem_drop_iff_getElem.1 hm;exact h3 (i+j) _ (by omega) (List.getElem?_eq_getElem _)
 have hne:(∀m,(aL g)[i]?=some m→aK m≠k) →∀m∈aL g,aK m≠k:=by
  intro hi m hm e;obtain⟨j,hj,rfl⟩:=List.mem_iff_getElem.1 hm;rcases Nat.lt_trichotomy j i with hji|hji|hji
  ·have:=h2 j _ hji (List.getElem?_eq_getElem hj);rw [e] at this;exact nL _ this
  ·subst hji;exact hi _ (List.getElem?_eq_getElem hj) e
  ·have hil:i< (aL g).length:=by omega
   have a:=hup i j (by rw [List.length_map];exact hil) (by rw [List.length_map];exact hj) hji;rw [List.getElem_map,List.getElem_map] at a;have b:=h3 i _ (Nat.le_refl _) (List.getElem?_eq_getElem hil);have c:=eZ.1 a;rw [e] at c;exact b c
 by_cases hil:i< (aL g).length
 ·obtain⟨e,he⟩:=getD_some hil;have dl:decide ((i:Int)< ((aL g).length:Int))=true:=decide_eq_true (by omega);refine⟨i,Cg (aK e) k==0,?_,h1,ht,hd,fun ho=>⟨e,he,uU.1 (by simpa using ho)⟩,fun ho=>hne fun m hm hk=> ?_⟩
  ·unfold Kb;refine aQ _ q ?_;simp only [dl,aH,aC he,HY,au,sS]
  ·rw [he] at hm;injection hm with hm;subst hm;have:=uU.2 hk;rw [this] at ho;cases ho
 ·have dl:decide ((i:Int)< ((aL g).length:Int))=false:=decide_eq_false (by omega);refine⟨i,false,?_,h1,ht,hd,fun ho=>(by cases ho),fun _=>hne fun m hm=> ?_⟩
  ·unfold Kb;refine aQ _ q ?_;simp only [dl,au,sS]
  ·have:=(List.getElem?_eq_some_iff.1 hm).1;omega
abbrev Nl:=Int×ByteArray×Int×Int×Unit
def cor(g:bC):Nl:=(g.1,g.2.1,fu g,bR g,())
theorem IL{g:bC}(h:VG g):MP ((g,()),())=some ((),((cor g,()),(aL g,()))):=by
 have hlen:=h.len;obtain⟨rt,ky,ms,du,se,⟨⟩⟩:=g;dsimp only [aL] at hlen;have d0:decide (ms.length≤4294967296)=true:=decide_eq_true (by omega)
 have hl:aB yH (((0:Int),(ms.length:Int),()),(((rt,ky,du,se,()),()),(((0,ByteArray.empty,0,0,()),()),(ms,()))))=some ((),(((((0,ByteArray.empty,0,0,()):Nl),()),((((rt,ky,du,se,()):Nl),()),(ms,()))))):=by
  refine gB ms (fun i=>(((i:Int),(ms.length:Int),()),(((rt,ky,du,se,()),()),(((0,ByteArray.empty,0,0,()),()),(ms,()))))) _ (fun i e he hi=> ?_) (by simp only [yH,dG,au,sS]);have hw:=aI (i:=i) (by omega);have d2:decide ((0:Int) ≤(i:Int) ∧(i:Int)< (ms.length:Int))=true:=decide_eq_true (by omega);have hm:=h.mem e (List.mem_of_getElem? he);have hv:=(gy hm.lab).1;have d3:decide (e.2.1.length≤4294967296)=true:=decide_eq_true (by dsimp only [bP] at hv;omega)
  have hset:ms.set i (e.1,e.2.1,e.2.2)=ms:=by
   have:=(List.getElem?_eq_some_iff.1 he).2;rw [←this];exact List.set_getElem_self _
  simp only [yH,bV hi,d2,Int.toNat_natCast,he,Uc,d3,hset,hw,au,sS]
 unfold MP;simp only [Yl,d0,au,sS];refine aQ _ hl ?_;rfl
theorem X7(t:Int):Kl ((t,()),())=some (((if t>8589934592 then -1 else t),()),()):=by
 unfold Kl;by_cases h:t>8589934592
 ·simp only [h,if_true,au,sS]
 ·simp only [h,if_false,au,sS]
abbrev inst(t:Int):Bool:=decide (0≤t∧t≤8589934592)
abbrev Gj(t:Int):Bool:=decide (-1≤t∧t≤8589934592)
def okM(m:bJ):Bool:=cB (bP m)&&(decide (yL (bP m)=aK m)&&(inst (gD m)&&(inst (dX m)&&(cO m|| !dI m))))
def FX(p:Option bJ)(m:bJ):Bool:= !okM m||(match p with|none=>false|some q=>leB (aK m) (aK q))
def J4(g:bC):Bool:= !decide (((aL g).length:Int)>256)&&(!decide (g.1< 0)&&(Gj (fu g)&&(Gj (bR g)&&qC FX none (aL g))))
def GSz(g:bC):Prop:=(aL g).length≤big∧∀m∈aL g,PY (bP m)
theorem WT{m:bJ}:okM m=true↔qI m:=by
 unfold okM inst;simp only [Bool.and_eq_true,decide_eq_true_eq,Bool.or_eq_true,Bool.not_eq_true'];constructor
 ·rintro⟨h1,h2,h3,h4,h5⟩;exact⟨h1,by rw [←h2,qm h1],h3,h4,h5⟩
 ·intro h;exact⟨h.lab,by rw [qm h.lab,h.key],h.since,h.heard,h.told⟩
theorem Pn{p:Option bJ}{m:bJ}:FX p m=false↔qI m∧∀q,p=some q→Less (aK q) (aK m):=by
 unfold FX;rw [Bool.or_eq_false_iff,Bool.not_eq_false',WT]
 cases p with
 |none=>exact⟨fun h=>⟨h.1,fun q e=>by cases e⟩,fun h=>⟨h.1,rfl⟩⟩
 |some q=>exact⟨fun h=>⟨h.1,fun q' e=>by cases e;exact h.2⟩,fun h=>⟨h.1,h.2 q rfl⟩⟩
theorem Uj:∀{l:List bJ} {p:Option bJ},qC FX p l=true→(∀m∈l,qI m) ∧(∀q,p=some q→∀m∈l,Less (aK q) (aK m)) ∧(l.map aK).Pairwise Less
 | [],_,_=>⟨fun m hm=>(by cases hm),fun _ _ m hm=>(by cases hm),List.Pairwise.nil⟩
 |e::r,p,h=>by
  unfold qC at h;rw [Bool.and_eq_true,Bool.not_eq_true'] at h;obtain⟨h1,h2⟩:=Pn.1 h.1;obtain⟨k1,k2,k3⟩:=Uj h.2;refine⟨fun m hm=> ?_,fun q hq m hm=> ?_,?_⟩
  ·rcases List.mem_cons.1 hm with rfl|hm
   ·exact h1
   ·exact k1 m hm
  ·rcases List.mem_cons.1 hm with rfl|hm
   ·exact h2 q hq
   ·exact eZ.2 (lt_trans (eZ.1 (h2 q hq)) (eZ.1 (k2 e rfl m hm)))
  ·rw [List.map_cons];refine List.pairwise_cons.2 ⟨fun k hk=> ?_,k3⟩;obtain⟨m,hm,rfl⟩:=List.mem_map.1 hk;exact k2 e rfl m hm
theorem Rp:∀{l:List bJ} {p:Option bJ},(∀m∈l,qI m) →(∀q,p=some q→∀m∈l,Less (aK q) (aK m)) →(l.map aK).Pairwise Less→qC FX p l=true
 | [],_,_,_,_=>rfl
 |e::r,p,h1,h2,h3=>by
  rw [List.map_cons] at h3;have h3:=List.pairwise_cons.1 h3;unfold qC;rw [Pn.2 ⟨h1 e (List.mem_cons_self ..),fun q hq=>h2 q hq e (List.mem_cons_self ..)⟩,Bool.not_false,Bool.true_and];exact Rp (fun m hm=>h1 m (List.mem_cons_of_mem _ hm)) (fun q hq m hm=>by cases hq;exact h3.1 _ (List.mem_map_of_mem hm)) h3.2
theorem Pw{g:bC}:J4 g=true↔VG g:=by
 unfold J4;simp only [Bool.and_eq_true,Bool.not_eq_true',decide_eq_false_iff_not,decide_eq_true_eq];constructor
 ·rintro⟨h1,h2,h3,h4,h5⟩;obtain⟨k1,_,k3⟩:=Uj h5;exact⟨by omega,by omega,h3,h4,k1,k3⟩
 ·intro h;have h1:=h.len;have h2:=h.rt;exact⟨by omega,by omega,h.due,h.sent,Rp h.mem (fun q hq=>by cases hq) h.up⟩
theorem HZ(t:Int):JW ((t,()),())=some ((inst t,()),()):=by
 unfold JW inst;by_cases h1:t≥0<;>by_cases h2:t≤8589934592<;>simp [h1,h2]
theorem pJ(t:Int):(t≠ -1∧Gj t=inst t) ∨(t= -1∧Gj t=true):=by
 by_cases h:t= -1
 ·exact .inr ⟨h,decide_eq_true (by omega)⟩
 ·exact .inl ⟨h,decide_eq_decide.2 (by omega)⟩
theorem Wx(g:bC)(hg:GSz g):m88 ((g,()),())=some ((J4 g,()),()):=by
 obtain⟨hl,hk⟩:=hg;have h:=jr (f:=vF) (aL g) (fun i=>(((i:Int),()),((g,()),()))) FX (.inl ((false,()),())) (.inr ((),())) ?_ ?_
 ·unfold J4;obtain⟨rt,ky,ms,du,se,⟨⟩⟩:=g;dsimp only [aL,fu,bR,Gj,inst] at h ⊢;unfold m88;simp only [HZ,aK,bP,gD,dX,cO,dI,aL,fu,bR,inst,Gj,au,sS]
  cases decide ((ms.length:Int)>256)<;>try simp only [au,sS]
  cases decide (rt< 0)<;>try simp only [au,sS]
  have key:(aB vF (((0:Int),()),(((rt,ky,ms,du,se,()),()),()))).bind (fun d92=>au d92 (fun d93=>(some ((d93.1.1,()),()))) (fun d94=>(some ((true,()),()))))=some ((qC FX none ms,()),()):=by
   refine aQ _ h ?_;cases qC FX none ms<;>rfl
  have pJ:=pJ;dsimp only [Gj,inst] at pJ;rcases pJ du with⟨h1,e1⟩|⟨h1,e1⟩<;>rw [e1]
  ·rw [bne_iff_ne.2 h1];simp only [au,sS]
   cases decide (0≤du∧du≤8589934592)<;>try simp only [au,sS]
   rcases pJ se with⟨h2,e2⟩|⟨h2,e2⟩<;>rw [e2]
   ·rw [bne_iff_ne.2 h2];simp only [au,sS]
    cases decide (0≤se∧se≤8589934592)<;>try simp only [au,sS]
    exact key
   ·subst h2;simp only [bne_self_eq_false,au,sS];exact key
  ·subst h1;simp only [bne_self_eq_false,au,sS];rcases pJ se with⟨h2,e2⟩|⟨h2,e2⟩<;>rw [e2]
   ·rw [bne_iff_ne.2 h2];simp only [au,sS]
    cases decide (0≤se∧se≤8589934592)<;>try simp only [au,sS]
    exact key
   ·subst h2;simp only [bne_self_eq_false,au,sS];exact key
 ·intro i e he hi;unfold big at hl;have hke:=hk e (List.mem_of_getElem? he);have q1:=Ny (bP e) hke;have q2:=RI (bP e) hke;have hw:=aI (i:=i) (by omega);obtain⟨rt,ky,ms,du,se,⟨⟩⟩:=g;obtain⟨k,l,s,hh,f,t,⟨⟩⟩:=e;dsimp only [aL,bP] at he hi hl q1 q2 ⊢;rcases iT hi with h0|⟨p,h0,hp,hp1⟩
  ·rw [if_pos h0];have:decide ((i:Int)>0)=false:=decide_eq_false (by omega);unfold FX okM;simp only [vF,bV hi,aH,aC he,q1,q2,HZ,bH,jZ,aK,bP,gD,dX,cO,dI,aL,fu,bR,inst,Gj,this,hw,au,sS]
   cases cB l<;>try simp only [hw,aK,bP,gD,dX,cO,dI,aL,fu,bR,inst,Gj,au,sS,Bool.or_false,Bool.or_true,Bool.false_or,Bool.true_or]
   cases decide (yL l=k)<;>try simp only [hw,aK,bP,gD,dX,cO,dI,aL,fu,bR,inst,Gj,au,sS,Bool.or_false,Bool.or_true,Bool.false_or,Bool.true_or]
   cases decide (0≤s∧s≤8589934592)<;>try simp only [hw,aK,bP,gD,dX,cO,dI,aL,fu,bR,inst,Gj,au,sS,Bool.or_false,Bool.or_true,Bool.false_or,Bool.true_or]
   cases decide (0≤hh∧hh≤8589934592)<;>try simp only [hw,aK,bP,gD,dX,cO,dI,aL,fu,bR,inst,Gj,au,sS,Bool.or_false,Bool.or_true,Bool.false_or,Bool.true_or]
   cases f<;>cases t<;>try simp only [hw,aK,bP,gD,dX,cO,dI,aL,fu,bR,inst,Gj,au,sS,Bool.or_false,Bool.or_true,Bool.false_or,Bool.true_or]
  ·rw [if_neg (by omega),hp];have:decide ((i:Int)>0)=true:=decide_eq_true (by omega);unfold FX leB okM;simp only [vF,bV hi,aH,aC he,q1,q2,HZ,bH,jZ,aK,bP,gD,dX,cO,dI,aL,fu,bR,inst,Gj,this,hp1 (by omega),aC hp,hw,au,sS]
   cases cB l<;>try simp only [hw,aK,bP,gD,dX,cO,dI,aL,fu,bR,inst,Gj,au,sS,Bool.or_false,Bool.or_true,Bool.false_or,Bool.true_or]
   cases decide (yL l=k)<;>try simp only [hw,aK,bP,gD,dX,cO,dI,aL,fu,bR,inst,Gj,au,sS,Bool.or_false,Bool.or_true,Bool.false_or,Bool.true_or]
   cases decide (0≤s∧s≤8589934592)<;>try simp only [hw,aK,bP,gD,dX,cO,dI,aL,fu,bR,inst,Gj,au,sS,Bool.or_false,Bool.or_true,Bool.false_or,Bool.true_or]
   cases decide (0≤hh∧hh≤8589934592)<;>try simp only [hw,aK,bP,gD,dX,cO,dI,aL,fu,bR,inst,Gj,au,sS,Bool.or_false,Bool.or_true,Bool.false_or,Bool.true_or]
   cases f<;>cases t<;>try simp only [hw,aK,bP,gD,dX,cO,dI,aL,fu,bR,inst,Gj,au,sS,Bool.or_false,Bool.or_true,Bool.false_or,Bool.true_or]<;>
    cases (Op.bytesLess (bl k) (bl p.1)||decide (k=p.1))<;>try simp only [hw,aK,bP,gD,dX,cO,dI,aL,fu,bR,inst,Gj,au,sS]
 ·simp only [vF,dG,au,sS]
def strip(r:dz):dz:=(-1,[],r.2.2)
def AR(r:dz):Bool:=fQ (strip r)==0
theorem Xb{r:dz}(h:Ir r):Ir (strip r):=⟨⟨Nat.zero_le _,fun m hm=>by cases hm⟩,h.2⟩
theorem Nf(r:dz):ko [strip r]=fQ (strip r):=by
 have h1:rF 0 (strip r)=fQ (strip r):=rfl;have h2:(([strip r]:List dz)[0]?)=some (strip r):=rfl;have h3:decide (((strip r).2.1.length:Int)>0)=false:=rfl;unfold ko;simp only [Aa,h1,h2,h3,List.length_singleton];by_cases h:fQ (strip r)=0
 ·rw [h];rfl
 ·rw [bne_iff_ne.2 h];simp only [cond_true];rw [bne_iff_ne.2 h];rfl
theorem JA(r:dz)(hr:Ir r):QU ((r,()),())=some ((AR r,()),()):=by
 unfold QU;refine aQ _ (JD [strip r] ⟨by simp,fun x hx=>by simp at hx;subst hx;exact Xb hr⟩) ?_;rw [Nf];rfl
abbrev lC(r:dz):Int:=r.2.2.2.2.1
abbrev j3(r:dz):Int:=r.2.2.2.2.2.1
abbrev uJ(r:dz):Int:=r.2.2.2.2.2.2.1
structure RR(r:dz):Prop where
 z:Ir r
 ok:AR r=true
 pol:0≤r.2.2.1
 wait:0≤lC r
 int:lC r≤j3 r
 R6:j3 r≤uJ r
 max:uJ r≤604800
 pos:uJ r≠0
theorem ac6{r:dz}(z:Ir r)(h:AR r=true):RR r:=by
 have h0:fQ (strip r)=0:=by unfold AR at h;simpa using h
 unfold fQ at h0;cases h1:(decide (((strip r).2.1.length:Int)>8)||decide (((strip r).2.2.2.1.length:Int)>12))
 ·rw [h1] at h0;cases h2:(!(strip r).2.1.all aX|| !jc (strip r).2.2.2.1)
  ·rw [h2] at h0;cases h3:nH (strip r)
   ·unfold nH at h3;simp only [Bool.or_eq_false_iff,decide_eq_false_iff_not,beq_eq_false_iff_ne] at h3;obtain⟨a,b,c,d,e,f⟩:=h3;have a:¬ r.2.2.1< 0:=a;have b:¬ r.2.2.2.2.1< 0:=b;have c:¬ r.2.2.2.2.1>r.2.2.2.2.2.1:=c;have d:¬ r.2.2.2.2.2.1>r.2.2.2.2.2.2.1:=d;have e:¬ r.2.2.2.2.2.2.1>604800:=e;exact⟨z,h,by omega,by unfold lC;omega,by unfold lC j3;omega,by unfold j3 uJ;omega,by unfold uJ;omega,f⟩
   ·rw [h3] at h0;cases h0
  ·rw [h2] at h0;cases h0
 ·rw [h1] at h0;cases h0
def pos(k:ByteArray):List bJ→Nat
 | []=>0
 |m::r=>if Op.bytesLess (aK m).toList k.toList=true then pos k r+1 else 0
def hit(k:ByteArray)(l:List bJ):Bool:=match l[pos k l]? with|some m=>decide (aK m=k)|none=>false
theorem NR{k:ByteArray}:∀{l:List bJ} {i:Nat},i≤l.length→(∀m∈l.take i,Lt (aK m) k) →(∀m∈l.drop i,¬ Lt (aK m) k) →pos k l=i
 | [],i,h,_,_=>by simp at h;subst h;rfl
 |m::r,0,_,_,h=>by
  unfold pos;rw [if_neg (h m (by simp))]
 |m::r,i+1,h0,h1,h2=>by
  unfold pos;rw [if_pos (h1 m (by simp)),NR (by simpa using h0) (fun x hx=>h1 x (by rw [List.take_succ_cons];exact List.mem_cons_of_mem _ hx)) (fun x hx=>h2 x (by simpa using hx))]
theorem Mt(k:ByteArray):∀l:List bJ,pos k l≤l.length
 | []=>Nat.le_refl _
 |m::r=>by
  unfold pos;have:=Mt k r;split<;>simp<;>omega
theorem yN{k:ByteArray}:∀{l:List bJ},∀m∈l.take (pos k l),Lt (aK m) k
 | [],m,h=>by simp at h
 |x::r,m,h=>by
  unfold pos at h;split at h
  ·rename_i hx;rw [List.take_succ_cons] at h;rcases List.mem_cons.1 h with rfl|h
   ·exact hx
   ·exact yN m h
  ·simp at h
theorem pos_at{k:ByteArray}:∀{l:List bJ} {m:bJ},l[pos k l]?=some m→¬ Lt (aK m) k
 | [],m,h=>by simp at h
 |x::r,m,h=>by
  unfold pos at h;split at h
  ·exact pos_at (by simpa using h)
  ·rename_i hx;simp at h;subst h;exact hx
theorem VJ{l:List bJ}(h:(l.map aK).Pairwise Less){i:Nat}{e m:bJ}(he:l[i]?=some e)(hm:m∈l.drop (i+1)):Less (aK e) (aK m):=by
 obtain⟨j,hj,rfl⟩:=List.mem_drop_iff_getElem.1 hm;obtain⟨h1,rfl⟩:=List.getElem?_eq_some_iff.1 he;have:=List.pairwise_iff_getElem.1 h i (i+1+j) (by rw [List.length_map];exact h1) (by rw [List.length_map];omega) (by omega)
 rwa [List.getElem_map,List.getElem_map] at this
theorem DN{k:ByteArray}{l:List bJ}(h:(l.map aK).Pairwise Less)(hh:hit k l=false):∀m∈l.drop (pos k l),Lt k (aK m):=by
 intro m hm;by_cases hl:pos k l< l.length
 ·obtain⟨e,he,hd⟩:=drop_at hl;have h1:=pos_at he
  have h2:aK e≠k:=by
   unfold hit at hh;rw [he] at hh;simpa using hh
  have h3:Lt k (aK e):=by
   rcases IU (aK e) k with h|h|h
   ·exact absurd h h1
   ·exact absurd h h2
   ·exact h
  rw [hd] at hm;rcases List.mem_cons.1 hm with rfl|hm
  ·exact h3
  ·exact lt_trans h3 (eZ.1 (VJ h he hm))
 ·rw [List.drop_eq_nil_of_le (by omega)] at hm;cases hm
theorem yK{k:ByteArray}{l:List bJ}(h:hit k l=true):∃m,l[pos k l]?=some m∧aK m=k:=by
 unfold hit at h;split at h
 ·rename_i m hm;exact⟨m,hm,by simpa using h⟩
 ·cases h
theorem KC{g:bC}(hlen:(aL g).length≤256)(hup:((aL g).map aK).Pairwise Less)(k:ByteArray):Kb ((g,k,()),())=some (((pos k (aL g):Int),hit k (aL g),()),()):=by
 obtain⟨i,o,e,h1,h2,h3,h4,h5⟩:=YF hlen hup k;have hi:=NR h1 h2 h3
 have ho:hit k (aL g)=o:=by
  unfold hit;rw [hi];cases o
  ·split
   ·rename_i m hm;exact decide_eq_false (h5 rfl m (List.mem_of_getElem? hm))
   ·rfl
  ·obtain⟨m,hm,hk⟩:=h4 rfl;rw [hm];exact decide_eq_true hk
 rw [e,hi,ho]
theorem find_eq{g:bC}(h:VG g)(k:ByteArray):Kb ((g,k,()),())=some (((pos k (aL g):Int),hit k (aL g),()),()):=KC h.len h.up k
def MO(t:Int):Int:=if t>8589934592 then -1 else t
def lG(se wait int t:Int):Int:=if se= -1 then t+wait else if se+int>t then se+int else t
def iA(du se wait int t:Int):Int:=MO (if du= -1 then lG se wait int t else if du< lG se wait int t then du else lG se wait int t)
theorem nA(t:Int):Kl ((t,()),())=some ((MO t,()),()):=X7 t
abbrev yM:Nl:=(0,ByteArray.empty,0,0,())
abbrev AZ(g:bC)(d:Int):Nl:=(g.1,g.2.1,d,bR g,())
def sw(m:bJ)(t:Int):bJ:=(m.1,m.2.1,m.2.2.1,t,m.2.2.2.2)
def stepM(m:bJ)(on:Bool)(t:Int):bJ:=(m.1,m.2.1,t,dX m,on,on,())
abbrev U6(g:bC)(r:dz)(t:Int):Int:=iA (fu g) (bR g) (lC r) (j3 r) t
def Dz(g:bC)(ms:List bJ):Int:=if ms.length=0 then -1 else fu g
def nS(g:bC)(r:dz)(l:List LT)(on:Bool)(t:Int):Int×Nl×List bJ:=
 let k:=gX (fC l)
 let ms:=aL g
 let i:=pos k ms
 if hit k ms=true then
  match ms[i]? with
  |none=>(0,yM,[])
  |some m=>
   if cO m=on then(0,AZ g (fu g),ms.set i (sw m t))
   else if on=true then(0,AZ g (fu g),ms.set i (stepM (sw m t) true t))
   else if dI m=true then(0,AZ g (U6 g r t),ms.set i (stepM (sw m t) false t))
   else(0,AZ g (Dz g (ms.take i++ms.drop (i+1))),ms.take i++ms.drop (i+1))
 else if on=true then
  if ms.length=256 then(5,yM,[]) else(0,AZ g (U6 g r t),ms.take i++ [(k,l,t,t,true,false,())]++ms.drop i)
 else(0,AZ g (Dz g ms),ms)
abbrev RH(x:Int×Nl×List bJ):Option ((Int×Unit)×((Nl×Unit)×(List bJ×Unit))):=some ((x.1,()),((x.2.1,()),(x.2.2,())))
theorem YI{l:List bJ}{i:Nat}{e:bJ}(h:l[i]?=some e)(x:bJ):(l.set i x)[i]?=some x:=by
 rw [List.getElem?_set_self (List.getElem?_eq_some_iff.1 h).1]
theorem wE(l:List bJ)(i:Nat)(x:bJ):(l.set i x).take i=l.take i:=by
 rw [List.take_set,List.set_eq_of_length_le (by rw [List.length_take];omega)]
theorem FQ(l:List bJ)(i:Nat)(x:bJ):(l.set i x).drop (i+1)=l.drop (i+1):=by
 rw [List.drop_set,if_pos (by omega)]
theorem acg(l:List bJ):(((l.length:Nat):Int)==0)=decide (l.length=0):=by
 rw [dD];exact decide_eq_decide.2 (by omega)
theorem abu{g:bC}(h:VG g){r:dz}(hr:RR r){l:List LT}(hl:cB l=true)(on:Bool){t:Int}(ht:0≤t∧t≤8589934592):
  m73 ((g,r,l,on,t,()),())=RH (nS g r l on t):=by
 have q1:=H7 h;have q2:=JA r hr.z;rw [hr.ok] at q2;have q3:=AL l (jB hl);rw [hl] at q3;have q4:=Ja l (jB hl);rw [qm hl] at q4;have q5:=find_eq h (gX (fC l));have q6:=IL h;have dt:decide ((0:Int) ≤t∧t≤8589934592)=true:=decide_eq_true ht;have hlen:=h.len;have hsent:=h.sent;have hdue:=h.due;have hv:=(gy hl).1;have hw:=hr.wait;have hi:=hr.int;have hp:=hr.R6;have hx:=hr.max;have w1:aT (bR g+j3 r)=bR g+j3 r:=bO (by omega) (by omega);have w2:aT (t+lC r)=t+lC r:=bO (by omega) (by omega);have hple:=Mt (gX (fC l)) (aL g);obtain⟨rt,ky,ms,du,se,⟨⟩⟩:=g;obtain⟨pa,mt,po,gb,wa,ir,rp,co,⟨⟩⟩:=r;dsimp only [aL,fu,bR,lC,j3,uJ,cor] at *;unfold m73;simp only [q1,q2,q3,q4,q5,q6,zO,dt,Int.toNat_natCast,List.length_set,au,sS];unfold nS;dsimp only [aL,fu,bR,lC,j3,uJ,AZ,U6];have hx0:hit (gX (fC l)) ms=match ms[pos (gX (fC l)) ms]? with|some m=>decide (aK m=(gX (fC l)))|none=>false:=rfl
 generalize pos (gX (fC l)) ms=i at *;cases hh:hit (gX (fC l)) ms
 ·simp only [Bool.false_eq_true,if_false,au,sS];cases on
  ·have b0:((ms.length:Int)==0)=decide (ms.length=0):=by
    rw [dD];exact decide_eq_decide.2 (by omega)
   simp only [Dz,aL,fu,b0,eq_self,Bool.false_eq_true,if_false,au,sS];by_cases h0:ms.length=0
   ·simp only [h0,eq_self,if_true,au,sS]
   ·simp only [h0,eq_self,if_false,au,sS]
  ·by_cases h6:ms.length=256
   ·have b6:((ms.length:Int)==256)=true:=by rw [dD];exact decide_eq_true (by omega)
    simp only [b6,eq_self,if_true,au,sS];rw [if_pos h6]
   ·have b6:((ms.length:Int)==256)=false:=by rw [dD];exact decide_eq_false (by omega)
    have d1:decide (l.length≤4294967296)=true:=decide_eq_true (by omega);have d2:decide ((0:Int) ≤(i:Int) ∧(i:Int) ≤(ms.length:Int) ∧ms.length≤4294967295)=true:=decide_eq_true (by omega)
    have b0:((((ms.take i++ [(gX (fC l),l,t,t,true,false,())]++ms.drop i).length:Nat):Int)==0)=false:=by
     rw [dD];exact decide_eq_false (by simp only [List.length_append,List.length_singleton];omega)
    simp only [b6,h6,Uc,d1,d2,List.length_singleton,Int.toNat_natCast,eq_self,and_true,if_true,if_false,au,sS];by_cases hs:se= -1<;>by_cases hd:du= -1
    ·subst hs;subst hd;simp only [w1,w2,iA,lG,nA,b0,eq_self,if_true,if_false,au,sS]
    ·subst hs;have bd:(du != -1)=true:=bne_iff_ne.2 hd;simp only [w1,w2,bd,hd,iA,lG,nA,b0,eq_self,if_true,if_false,au,sS]
    ·subst hd;have bs:(se != -1)=true:=bne_iff_ne.2 hs;simp only [w1,w2,bs,hs,iA,lG,nA,b0,eq_self,if_true,if_false,au,sS]
    ·have bd:(du != -1)=true:=bne_iff_ne.2 hd;have bs:(se != -1)=true:=bne_iff_ne.2 hs;simp only [w1,w2,bd,bs,hd,hs,iA,lG,nA,b0,eq_self,if_true,if_false,au,sS]
 ·have hm:∃m,ms[i]?=some m:=by
   by_cases hil:i< ms.length
   ·exact getD_some hil
   ·rw [List.getElem?_eq_none (by omega)] at hx0;exact absurd hh (by rw [hx0];simp)
  obtain⟨m,hm⟩:=hm;have hlt:i< ms.length:=(List.getElem?_eq_some_iff.1 hm).1;have db:decide ((0:Int) ≤(i:Int) ∧(i:Int)< (ms.length:Int))=true:=decide_eq_true (by omega);have wi:aT ((i:Int)+1)=((i+1:Nat):Int):=aI (by omega);have dd:decide ((0:Int) ≤(i:Int) ∧(i:Int)< ((i+1:Nat):Int) ∧((i+1:Nat):Int) ≤(ms.length:Int) ∧ms.length≤4294967296)=true:=decide_eq_true (by omega);have sa:=YI hm;have b0:((ms.length:Int)==0)=false:=by rw [dD];exact decide_eq_false (by omega)
  obtain⟨mk,ml,mn,mh,mf,mt',⟨⟩⟩:=m;simp only [hm,sa,db,List.set_set,List.length_set,Int.toNat_natCast,sw,stepM,aK,bP,dX,cO,dI,eq_self,if_true,au,sS];have ft:(false==true)=false:=rfl;have tf:(true==false)=false:=rfl;cases mf<;>cases on
  ·simp only [b0,List.length_set,eq_self,if_true,au,sS]
  ·simp only [ft,b0,List.length_set,eq_self,if_true,if_false,Bool.false_eq_true,au,sS]
  ·cases mt'
   ·simp only [tf,wi,dd,wE,FQ,Dz,aL,fu,acg,List.length_set,Int.toNat_natCast,eq_self,if_true,if_false,Bool.true_eq_false,Bool.false_eq_true,au,sS];by_cases h0:(ms.take i++ms.drop (i+1)).length=0
    ·simp only [h0,eq_self,if_true,au,sS]
    ·simp only [h0,eq_self,if_false,au,sS]
   ·simp only [tf,if_true,if_false,Bool.true_eq_false,Bool.false_eq_true,au,sS];by_cases hs:se= -1<;>by_cases hd:du= -1
    ·subst hs;subst hd;simp only [w1,w2,iA,lG,nA,b0,List.length_set,eq_self,if_true,if_false,au,sS]
    ·subst hs;have bd:(du != -1)=true:=bne_iff_ne.2 hd;simp only [w1,w2,bd,hd,iA,lG,nA,b0,List.length_set,eq_self,if_true,if_false,au,sS]
    ·subst hd;have bs:(se != -1)=true:=bne_iff_ne.2 hs;simp only [w1,w2,bs,hs,iA,lG,nA,b0,List.length_set,eq_self,if_true,if_false,au,sS]
    ·have bd:(du != -1)=true:=bne_iff_ne.2 hd;have bs:(se != -1)=true:=bne_iff_ne.2 hs;simp only [w1,w2,bd,bs,hd,hs,iA,lG,nA,b0,List.length_set,eq_self,if_true,if_false,au,sS]
  ·simp only [b0,List.length_set,eq_self,if_true,au,sS]
theorem Zu{g:bC}(h:VG g):m88 ((g,()),())=some ((true,()),()):=by
 have:=Wx g ⟨by have:=h.len;unfold big;omega,fun m hm=>jB (h.mem m hm).lab⟩
 rwa [Pw.2 h] at this
def Vm(m:bJ)(t a:Int):Bool:=cO m&&decide (dX m≤t - a)
def lU(se wa ir t a:Int):List bJ→Int→List bJ→List bJ×Int
 |kept,du,[]=>(kept,du)
 |kept,du,m::r=>
  if Vm m t a=true then
   if dI m=true then lU se wa ir t a (kept++ [stepM m false t]) (iA du se wa ir t) r
   else lU se wa ir t a kept (if(kept++r).length=0 then -1 else du) r
  else lU se wa ir t a (kept++ [m]) du r
def J2(g:bC)(r:dz)(t a:Int):Int×Nl×List bJ:=
 if a=0 then(0,AZ g (fu g),aL g)
 else(0,AZ g (lU (bR g) (lC r) (j3 r) t a [] (fu g) (aL g)).2,(lU (bR g) (lC r) (j3 r) t a [] (fu g) (aL g)).1)
theorem Vt{A B:List bJ}{m:bJ}(h:((A++m::B).map aK).Pairwise Less):pos (aK m) (A++m::B)=A.length∧hit (aK m) (A++m::B)=true:=by
 rw [List.map_append,List.map_cons,List.pairwise_append] at h;obtain⟨h1,h2,h3⟩:=h;have h2:=List.pairwise_cons.1 h2
 have hp:pos (aK m) (A++m::B)=A.length:=by
  refine NR (by simp) (fun x hx=> ?_) (fun x hx=> ?_)
  ·rw [List.take_left' rfl] at hx;exact eZ.1 (h3 (aK x) (List.mem_map_of_mem hx) (aK m) (by simp))
  ·rw [List.drop_left' rfl] at hx;rcases List.mem_cons.1 hx with rfl|hx
   ·exact nL _
   ·exact fun hc=>nL _ (lt_trans (eZ.1 (h2.1 (aK x) (List.mem_map_of_mem hx))) hc)
 refine⟨hp,?_⟩;unfold hit;rw [hp,List.getElem?_append_right (Nat.le_refl _),Nat.sub_self];simp
theorem MG(A:List bJ)(m:bJ)(B:List bJ):(A++m::B)[A.length]?=some m:=by
 rw [List.getElem?_append_right (Nat.le_refl _),Nat.sub_self];rfl
theorem Pk(A:List bJ)(m x:bJ)(B:List bJ):(A++m::B).set A.length x=A++x::B:=by
 rw [List.set_append_right _ _ (Nat.le_refl _),Nat.sub_self];rfl
theorem RD(A:List bJ)(m:bJ)(B:List bJ):(A++m::B).take A.length=A:=List.take_left' rfl
theorem Rn(A:List bJ)(m:bJ)(B:List bJ):(A++m::B).drop (A.length+1)=B:=by
 rw [List.drop_append,List.drop_eq_nil_of_le (by omega),List.nil_append];simp
theorem Sq{du se wa ir t:Int}(h1:0≤t∧t≤8589934592)(h2:0≤wa)(h3: -1≤du∧du≤8589934592)(h4: -1≤se)(h5:0≤ir): -1≤iA du se wa ir t∧iA du se wa ir t≤8589934592:=by
 unfold iA lG MO;split<;>split<;>(repeat' split)<;>omega
theorem N9(rt:Int)(ky:ByteArray)(se t a:Int){r:dz}(hr:RR r)(gms:List bJ)(hse: -1≤se∧se≤8589934592)(ht:0≤t∧t≤8589934592)(ha:0≤a∧a≤604800)(hg:gms.length≤256):∀(rem:List bJ) (i:Nat) (kept:List bJ) (du:Int),gms.drop i=rem→i≤gms.length→
  ((kept++rem).map aK).Pairwise Less→kept.length≤i→ -1≤du∧du≤8589934592→
  aB pI (((i:Int),t,a,gms,(gms.length:Int),()),(((rt,ky,du,se,()),()),((r,()),((yM,()),(kept++rem,())))))=
   some ((),((yM,()),(((rt,ky,(lU se (lC r) (j3 r) t a kept du rem).2,se,()),()),((lU se (lC r) (j3 r) t a kept du rem).1,())))):=by
 intro rem
 induction rem with
 |nil=>
  intro i kept du hd hi hup hk hdu
  have:i=gms.length:=by
   have:=congrArg List.length hd;rw [List.length_drop] at this;simp at this;omega
  subst this;refine aF ?_;simp only [pI,dG,lU,List.append_nil,au,sS]
 |cons m rem ih=>
  intro i kept du hd hi hup hk hdu
  have hlt:i< gms.length:=by
   have:=congrArg List.length hd;rw [List.length_drop] at this;simp at this;omega
  obtain⟨e,he,hd2⟩:=drop_at hlt;rw [hd2] at hd;injection hd with hd0 hd1;subst hd0
  have hrl:rem.length+(i+1)=gms.length:=by
   rw [←hd1,List.length_drop];omega
  have hw:=aI (i:=i) (by omega);have hkl:(kept++e::rem).length≤256:=by simp;omega
  obtain⟨hp,hh⟩:=Vt hup;have q:=KC (g:=(rt,ky,kept++e::rem,du,se,())) hkl hup (aK e);dsimp only [aL] at q;rw [hp,hh] at q;have hup1:((kept++ [e]++rem).map aK).Pairwise Less:=by rw [List.append_assoc];exact hup
  have next:=fun x (hx:aK x=aK e) du' hdu'=>ih (i+1) (kept++ [x]) du' hd1 (by omega) (by
   rw [List.append_assoc];rw [List.map_append,List.map_append,List.map_cons,List.map_nil,hx];rw [List.map_append,List.map_cons] at hup;exact hup) (by simp;omega) hdu'
  have w3:aT (t - a)=t - a:=bO (by omega) (by omega);obtain⟨pa,mt,po,gb,wa,ir,rp,co,⟨⟩⟩:=r;have hwa:=hr.wait;have hir:=hr.int;have hrp:=hr.R6;have hmx:=hr.max;dsimp only [lC,j3,uJ] at *;obtain⟨mk,ml,mn,mh,mf,mt',⟨⟩⟩:=e;dsimp only [aK] at *;unfold lU;by_cases ho:Vm (mk,ml,mn,mh,mf,mt',()) t a=true
  ·rw [if_pos ho];unfold Vm at ho;dsimp only [cO,dX] at ho;rw [Bool.and_eq_true] at ho;obtain⟨rfl,ho⟩:=ho;have hkl2:kept.length+(rem.length+1) ≤256:=by simpa using hkl
   have db:decide ((0:Int) ≤(kept.length:Int) ∧(kept.length:Int)< ((kept.length+(rem.length+1):Nat):Int))=true:=decide_eq_true (by omega);have wk:aT ((kept.length:Int)+1)=((kept.length+1:Nat):Int):=aI (by omega);have dd:decide ((0:Int) ≤(kept.length:Int) ∧(kept.length:Int)< ((kept.length+1:Nat):Int) ∧((kept.length+1:Nat):Int) ≤((kept.length+(rem.length+1):Nat):Int) ∧kept.length+(rem.length+1) ≤4294967296)=true:=decide_eq_true (by omega);have tf:(true==false)=false:=rfl;have sl:∀x:bJ,(kept++x::rem).length=kept.length+(rem.length+1):=fun x=>by simp
   have sz:((((kept.length+(rem.length+1):Nat):Int))==0)=false:=by rw [dD];exact decide_eq_false (by omega)
   cases mt'
   ·have n0:(if dI ((mk,ml,mn,mh,true,false,()):bJ)=true then lU se wa ir t a (kept++ [stepM (mk,ml,mn,mh,true,false,()) false t]) (iA du se wa ir t) rem else lU se wa ir t a kept (if(kept++rem).length=0 then -1 else du) rem)=lU se wa ir t a kept (if(kept++rem).length=0 then -1 else du) rem:=rfl;rw [n0]
    have q2:=ih (i+1) kept (if(kept++rem).length=0 then -1 else du) hd1 (by omega) (by
     rw [List.map_append,List.map_cons] at hup;rw [List.map_append];exact hup.sublist (List.Sublist.append (List.Sublist.refl _) (List.sublist_cons_self _ _))) (by omega) (by split<;>omega)
    rw [←q2];refine aN ?_;simp only [pI,bV hlt,aH,aC he,q,w3,ho,au,sS];simp only [sl,db,Int.toNat_natCast,MG,tf,wk,dd,RD,Rn,acg,eq_self,au,sS];by_cases h0:(kept++rem).length=0
    ·simp only [h0,hw,eq_self,if_true,au,sS]
    ·simp only [h0,hw,eq_self,if_false,au,sS]
   ·have n0:(if dI ((mk,ml,mn,mh,true,true,()):bJ)=true then lU se wa ir t a (kept++ [stepM (mk,ml,mn,mh,true,true,()) false t]) (iA du se wa ir t) rem else lU se wa ir t a kept (if(kept++rem).length=0 then -1 else du) rem)=lU se wa ir t a (kept++ [stepM (mk,ml,mn,mh,true,true,()) false t]) (iA du se wa ir t) rem:=rfl;rw [n0,←next (stepM (mk,ml,mn,mh,true,true,()) false t) rfl (iA du se wa ir t) (Sq ht hwa hdu hse.1 (by omega)),List.append_assoc];refine aN ?_;have w1:aT (se+ir)=se+ir:=bO (by omega) (by omega);have w2:aT (t+wa)=t+wa:=bO (by omega) (by omega);simp only [pI,bV hlt,aH,aC he,q,w3,ho,au,sS];simp only [sl,db,Int.toNat_natCast,MG,Pk,tf,List.singleton_append,stepM,dX,eq_self,au,sS];by_cases hs:se= -1<;>by_cases hd:du= -1
    ·subst hs;subst hd;simp only [w1,w2,iA,lG,nA,sl,sz,hw,eq_self,if_true,if_false,au,sS]
    ·subst hs;have bd:(du != -1)=true:=bne_iff_ne.2 hd;simp only [w1,w2,bd,hd,iA,lG,nA,sl,sz,hw,eq_self,if_true,if_false,au,sS]
    ·subst hd;have bs:(se != -1)=true:=bne_iff_ne.2 hs;simp only [w1,w2,bs,hs,iA,lG,nA,sl,sz,hw,eq_self,if_true,if_false,au,sS]
    ·have bd:(du != -1)=true:=bne_iff_ne.2 hd;have bs:(se != -1)=true:=bne_iff_ne.2 hs;simp only [w1,w2,bd,bs,hd,hs,iA,lG,nA,sl,sz,hw,eq_self,if_true,if_false,au,sS]
  ·rw [if_neg ho];rw [←next _ rfl du hdu,List.append_assoc];refine aN ?_;unfold Vm at ho;dsimp only [cO,dX] at ho;simp only [pI,bV hlt,aH,aC he,q,w3,au,sS];cases mf
   ·simp only [hw,List.singleton_append,au,sS]
   ·have:decide (mh≤t - a)=false:=by simpa using ho
    simp only [this,hw,List.singleton_append,au,sS]
theorem acu{g:bC}(h:VG g){r:dz}(hr:RR r){t a:Int}(ht:0≤t∧t≤8589934592)(ha:0≤a∧a≤604800):UO ((g,r,t,a,()),())=RH (J2 g r t a):=by
 have q1:=H7 h;have q2:=JA r hr.z;rw [hr.ok] at q2;have q6:=IL h;have dt:decide ((0:Int) ≤t∧t≤8589934592)=true:=decide_eq_true ht;have da:decide ((0:Int) ≤a∧a≤604800)=true:=decide_eq_true ha;have hl:=N9 g.1 g.2.1 (bR g) t a hr (aL g) h.sent ht ha h.len (aL g) 0 [] (fu g) rfl (Nat.zero_le _) h.up (Nat.zero_le _) h.due;obtain⟨rt,ky,ms,du,se,⟨⟩⟩:=g;dsimp only [aL,fu,bR,cor] at *;unfold UO J2;simp only [q1,q2,q6,zO,dt,da,au,sS];by_cases h0:a=0
 ·subst h0;simp only [eq_self,if_true,beq_self_eq_true,au,sS]
 ·have b0:(a==0)=false:=beq_eq_false_iff_ne.2 h0;rw [if_neg h0,b0];simp only [au,sS];exact aQ _ hl rfl
abbrev Ri:=Int×Int×Int×ByteArray×Unit
abbrev pG:Ri:=(0,0,0,ByteArray.empty,())
def Eo(mu:List ByteArray)(k:ByteArray):Bool:=mu.any fun x=>decide (x=k)
def iR(mu:List ByteArray)(ms:List bJ):List ByteArray:=(ms.filter fun m=> !Eo mu (aK m)&&cO m).map aK
def kJ(mu:List ByteArray)(ms:List bJ):List ByteArray:=(ms.filter fun m=> !Eo mu (aK m)&& !cO m).map aK
def Fq(mu:List ByteArray)(ms:List bJ):Bool:=ms.any fun m=> !Eo mu (aK m)&&(cO m&& !dI m)
def l8(F:List ByteArray)(m:bJ):bJ:=(m.1,m.2.1,m.2.2.1,m.2.2.2.1,m.2.2.2.2.1,dI m||Eo F (aK m),())
def wQ(F R:List ByteArray)(ms:List bJ):List bJ:=(ms.filter fun m=> !Eo R (aK m)).map (l8 F)
def tu(ms:List bJ):Bool:=ms.any fun m=> !dI m
def Jv(se R6 t:Int)(F:List ByteArray):Bool:=decide (0< F.length)&&(se != -1)&&decide (se+R6≤t)
def JU(se R6 t:Int)(mu:List ByteArray)(ms:List bJ):Bool:=Fq mu ms||Jv se R6 t (iR mu ms)||decide (0< (kJ mu ms).length)
def uq(se int R6 t:Int)(o:Bool):Int:=MO (max (if o=true∨se+R6≤t then t+int else se+R6) (t+1))
abbrev Yi:=Bool×Nl×Ri×List bJ×List ByteArray×List ByteArray
def vV(g:bC)(r:dz)(t:Int)(mu:List ByteArray):Yi:=
 if fu g= -1∨fu g>t then(false,AZ g (fu g),pG,aL g,[],[])
 else
  let F:=iR mu (aL g)
  let R:=kJ mu (aL g)
  if JU (bR g) (uJ r) t mu (aL g)=true then
   (true,(g.1,g.2.1,(if(wQ F R (aL g)).length=0 then -1 else uq t (j3 r) (uJ r) t (tu (wQ F R (aL g)))),t,()),(t,g.1,r.2.2.1,g.2.1,()),wQ F R (aL g),F,R)
  else(false,AZ g (if(aL g).length=0 then -1 else uq (bR g) (j3 r) (uJ r) t (tu (aL g))),pG,aL g,[],[])
theorem gu{A:Type}{l:List A}{i:Nat}{e:A}(he:l[i]?=some e):l.take (i+1)=l.take i++ [e]:=by
 rw [List.take_add_one,he];rfl
theorem PK(mu:List ByteArray)(l:List bJ)(e:bJ):iR mu (l++ [e])=iR mu l++(if !Eo mu (aK e)&&cO e then [aK e] else []):=by
 unfold iR;rw [List.filter_append,List.map_append];cases h:(!Eo mu (aK e)&&cO e)<;>simp [h]
theorem Qz(mu:List ByteArray)(l:List bJ)(e:bJ):kJ mu (l++ [e])=kJ mu l++(if !Eo mu (aK e)&& !cO e then [aK e] else []):=by
 unfold kJ;rw [List.filter_append,List.map_append];cases h:(!Eo mu (aK e)&& !cO e)<;>simp [h]
theorem Qy(mu:List ByteArray)(l:List bJ)(e:bJ):Fq mu (l++ [e])=(Fq mu l||(!Eo mu (aK e)&&(cO e&& !dI e))):=by
 unfold Fq;rw [List.any_append];simp
theorem K6(mu:List ByteArray)(l:List bJ):(iR mu l).length≤l.length:=by
 unfold iR;rw [List.length_map];exact List.length_filter_le _ _
theorem KR(mu:List ByteArray)(l:List bJ):(kJ mu l).length≤l.length:=by
 unfold kJ;rw [List.length_map];exact List.length_filter_le _ _
theorem OB(mu:List ByteArray)(k:ByteArray)(h:mu.length≤big):JB ((mu,k,()),())=some ((Eo mu k,()),()):=Od mu k h
theorem Sr(ms:List bJ)(mu:List ByteArray)(t:Int)(nc:Ri)(r:dz)(c:Nl)(hl:ms.length≤256)(hm:mu.length≤big):
  aB tX (((0:Int),false,mu,t,((ms.length:Nat):Int),()),(ms,(nc,()),(pG,()),(r,()),(c,()),[],[],()))=
   some ((Fq mu ms,t,()),(ms,(pG,()),(nc,()),(r,()),(c,()),iR mu ms,kJ mu ms,())):=by
 have:=gB (f:=tX) ms (fun i=>(((i:Int),Fq mu (ms.take i),mu,t,((ms.length:Nat):Int),()),(ms,(nc,()),(pG,()),(r,()),(c,()),iR mu (ms.take i),kJ mu (ms.take i),())))
  ((Fq mu ms,t,()),(ms,(pG,()),(nc,()),(r,()),(c,()),iR mu ms,kJ mu ms,())) ?_ ?_
 ·exact this
 ·intro i e he hi;have hw:aT ((i:Int)+1)=((i+1:Nat):Int):=aI (by omega);have hb:decide ((0:Int) ≤(i:Int) ∧(i:Int)< (ms.length:Int))=true:=decide_eq_true (by omega);have f1:=K6 mu (ms.take i);have f2:=KR mu (ms.take i);rw [List.length_take] at f1 f2;have c1:decide ((iR mu (ms.take i)).length+ [aK e].length≤4294967296)=true:=decide_eq_true (by simp;omega);have c2:decide ((kJ mu (ms.take i)).length+ [aK e].length≤4294967296)=true:=decide_eq_true (by simp;omega);have q:=OB mu (aK e) hm;obtain⟨mk,ml,mn,mh,mf,mt',⟨⟩⟩:=e;dsimp only [aK] at q c1 c2;rw [gu he,PK,Qz,Qy];simp only [tX,bV hi,hb,Int.toNat_natCast,he,q,aK,cO,dI,au,sS];cases Eo mu mk
  ·cases mf
   ·simp only [c2,hw,List.append_nil,Bool.or_false,if_true,if_false,Bool.false_eq_true,au,sS]
   ·simp only [c1,hw,List.append_nil,Bool.or_false,if_true,if_false,Bool.false_eq_true,au,sS];cases Fq mu (ms.take i)<;>simp only [hw,Bool.true_or,Bool.false_or,au,sS]
  ·simp only [hw,List.append_nil,Bool.or_false,if_true,if_false,Bool.false_eq_true,au,sS]
 ·rw [List.take_length];simp only [tX,dG,au,sS]
abbrev oU(R:List ByteArray)(m:bJ):Bool:= !Eo R (aK m)
theorem WQ(ms:List bJ)(nc:Ri)(F R:List ByteArray)(hl:ms.length≤256)(hR:R.length≤big):
  (aB j6 (((0:Int),((ms.length:Nat):Int),()),(ms,(nc,()),F,R,()))=some (.inr ((),(ms,(nc,()),F,R,()))) ∧ms.filter (oU R)=ms) ∨
  ∃j,j< ms.length∧aB j6 (((0:Int),((ms.length:Nat):Int),()),(ms,(nc,()),F,R,()))=some (.inl (((j:Int),()),(ms,(nc,()),F,R,()))) ∧(ms.take (j+1)).filter (oU R)=ms.take j:=by
 have key:∀(d i:Nat),i+d=ms.length→(ms.take i).filter (oU R)=ms.take i→
   (aB j6 (((i:Int),((ms.length:Nat):Int),()),(ms,(nc,()),F,R,()))=some (.inr ((),(ms,(nc,()),F,R,()))) ∧ms.filter (oU R)=ms) ∨
   ∃j,j< ms.length∧aB j6 (((i:Int),((ms.length:Nat):Int),()),(ms,(nc,()),F,R,()))=some (.inl (((j:Int),()),(ms,(nc,()),F,R,()))) ∧(ms.take (j+1)).filter (oU R)=ms.take j:=by
  intro d
  induction d with
  |zero=>
   intro i h h2;obtain rfl:i=ms.length:=by omega
   rw [List.take_length] at h2;refine .inl ⟨aF ?_,h2⟩;simp only [j6,dG,au,sS]
  |succ d ih=>
   intro i h h2;obtain⟨e,he⟩:=getD_some (l:=ms) (i:=i) (by omega);have hi:i< ms.length:=by omega
   have hw:aT ((i:Int)+1)=((i+1:Nat):Int):=aI (by omega);have hb:decide ((0:Int) ≤(i:Int) ∧(i:Int)< (ms.length:Int))=true:=decide_eq_true (by omega);have q:=OB R (aK e) hR;dsimp only [aK] at q;cases hr:Eo R (aK e)
   ·dsimp only [aK] at hr
    have h3:(ms.take (i+1)).filter (oU R)=ms.take (i+1):=by
     rw [gu he,List.filter_append,h2];simp [oU,hr]
    have hs:j6 (((i:Int),((ms.length:Nat):Int),()),(ms,(nc,()),F,R,()))=some (.inl ((((i+1:Nat):Int),((ms.length:Nat):Int),()),(ms,(nc,()),F,R,()))):=by
     simp only [j6,bV hi,hb,Int.toNat_natCast,he,q,hr,hw,eq_self,au,sS]
    rw [aN hs];exact ih (i+1) (by omega) h3
   ·dsimp only [aK] at hr;refine .inr ⟨i,hi,aF ?_,?_⟩
    ·simp only [j6,bV hi,hb,Int.toNat_natCast,he,q,hr,hw,eq_self,au,sS]
    ·rw [gu he,List.filter_append,h2];simp [oU,hr]
 exact key ms.length 0 (by omega) rfl
theorem R9(ms:List bJ)(nc:Ri)(F R:List ByteArray)(hl:ms.length≤256)(hR:R.length≤big):∀(d src dst:Nat) (blk:List bJ),src+d=ms.length→dst< src→blk.length=ms.length→
  blk.take dst=(ms.take src).filter (oU R) →blk.drop src=ms.drop src→
  ∃(dst':Nat) (blk':List bJ),aB ni (((src:Int),(dst:Int),()),(blk,(nc,()),F,R,()))=some (((dst':Int),()),(blk',(nc,()),F,R,())) ∧dst'≤ms.length∧blk'.length=ms.length∧blk'.take dst'=ms.filter (oU R):=by
 intro d
 induction d with
 |zero=>
  intro src dst blk h1 h2 h3 h4 h5;obtain rfl:src=ms.length:=by omega
  rw [List.take_length] at h4;refine⟨dst,blk,aF ?_,by omega,h3,h4⟩;have:decide ((ms.length:Int)< ((blk.length:Nat):Int))=false:=decide_eq_false (by omega);simp only [ni,this,au,sS]
 |succ d ih=>
  intro src dst blk h1 h2 h3 h4 h5;obtain⟨e,he⟩:=getD_some (l:=ms) (i:=src) (by omega)
  have he':blk[src]?=some e:=by
   have:=congrArg (fun l=>l[0]?) h5;simp only [List.getElem?_drop,Nat.add_zero] at this;rw [this,he]
  have c1:decide ((src:Int)< ((blk.length:Nat):Int))=true:=decide_eq_true (by omega);have c2:decide ((0:Int) ≤(src:Int) ∧(src:Int)< (blk.length:Int))=true:=decide_eq_true (by omega);have c3:decide ((0:Int) ≤(dst:Int) ∧(dst:Int)< (blk.length:Int))=true:=decide_eq_true (by omega);have c4:decide (dst< blk.length)=true:=decide_eq_true (by omega);have w1:aT ((src:Int)+1)=((src+1:Nat):Int):=aI (by omega);have w2:aT ((dst:Int)+1)=((dst+1:Nat):Int):=aI (by omega);have q:=OB R (aK e) hR;dsimp only [aK] at q;cases hr:Eo R (aK e)
  ·dsimp only [aK] at hr
   have hs:ni (((src:Int),(dst:Int),()),(blk,(nc,()),F,R,()))=some (.inl ((((src+1:Nat):Int),((dst+1:Nat):Int),()),(blk.set dst e,(nc,()),F,R,()))):=by
    simp only [ni,c1,c2,Int.toNat_natCast,he',q,hr,c3,c4,w1,w2,eq_self,au,sS]
   rw [aN hs];refine ih (src+1) (dst+1) (blk.set dst e) (by omega) (by omega) (by rw [List.length_set,h3]) ?_ ?_
   ·rw [gu he,List.filter_append,←h4];rw [gu (e:=e) (by rw [List.getElem?_set_self (by omega)]),wE];simp [oU,hr]
   ·rw [List.drop_set,if_pos (by omega)];rw [←List.drop_drop,←List.drop_drop,h5]
  ·dsimp only [aK] at hr
   have hs:ni (((src:Int),(dst:Int),()),(blk,(nc,()),F,R,()))=some (.inl ((((src+1:Nat):Int),(dst:Int),()),(blk,(nc,()),F,R,()))):=by
    simp only [ni,c1,c2,Int.toNat_natCast,he',q,hr,w1,eq_self,au,sS]
   rw [aN hs];refine ih (src+1) dst blk (by omega) (by omega) h3 ?_ ?_
   ·rw [gu he,List.filter_append,←h4];simp [oU,hr]
   ·rw [←List.drop_drop,←List.drop_drop,h5]
abbrev PgT:=Int×ByteArray×(Nat×Nat)×Int×Int×Unit
theorem Zr(M T:List bJ)(nc:Ri)(g:PgT)(c0:Nl)(n0:Ri)(r:dz)(F R:List ByteArray)(ok:Bool)(t:Int)(hl:M.length≤256)(hF:F.length≤big)(hg:g.2.2.1=(0,M.length)):
  aB oW (((0:Int),(0,M.length),ok,t,((M.length:Nat):Int),()),((nc,()),(g,()),M++T,(c0,()),(n0,()),(r,()),F,R,()))=
   some ((ok,t,()),((c0,()),(n0,()),(nc,()),(g,()),(r,()),F,R,M.map (l8 F)++T,())):=by
 obtain⟨rt,ky,pt,du,se,⟨⟩⟩:=g;dsimp only at hg;subst hg;have:=gB (f:=oW) M (fun i=>(((i:Int),(0,M.length),ok,t,((M.length:Nat):Int),()),((nc,()),((rt,ky,(0,M.length),du,se,()),()),(M.take i).map (l8 F)++(M.drop i++T),(c0,()),(n0,()),(r,()),F,R,())))
  ((ok,t,()),((c0,()),(n0,()),(nc,()),((rt,ky,(0,M.length),du,se,()),()),(r,()),F,R,M.map (l8 F)++T,())) ?_ ?_
 ·exact this
 ·intro i e he hi;obtain⟨e',he',hd⟩:=drop_at hi;rw [he] at he';injection he' with he';subst he';have hw:aT ((i:Int)+1)=((i+1:Nat):Int):=aI (by omega);have hb:decide ((0:Int) ≤(i:Int) ∧(i:Int)< (M.length:Int))=true:=decide_eq_true (by omega);have hA:((M.take i).map (l8 F)).length=i:=by simp;omega
  rw [hd,List.cons_append]
  have at1:∀B:List bJ,((M.take i).map (l8 F)++e::B)[i]?=some e:=fun B=>by
   have:=MG ((M.take i).map (l8 F)) e B
   rwa [hA] at this
  have st1:∀(x:bJ) (B:List bJ),((M.take i).map (l8 F)++e::B).set i x=(M.take i).map (l8 F)++x::B:=fun x B=>by
   have:=Pk ((M.take i).map (l8 F)) e x B
   rwa [hA] at this
  have q:=OB F (aK e) hF;dsimp only [aK] at q
  have hx:(M.take (i+1)).map (l8 F)++(M.drop (i+1)++T)=(M.take i).map (l8 F)++l8 F e::(M.drop (i+1)++T):=by
   rw [gu he,List.map_append,List.append_assoc];rfl
  rw [hx];obtain⟨mk,ml,mn,mh,mf,mt',⟨⟩⟩:=e;dsimp only at q;simp only [oW,bV hi,hb,Int.toNat_natCast,Nat.zero_add,at1,st1,q,hw,au,sS];cases mt'<;>simp only [st1,hw,l8,dI,aK,Bool.true_or,Bool.false_or,au,sS]
 ·rw [List.take_length,List.drop_length,List.nil_append];simp only [oW,dG,au,sS]
theorem Yk(l:List bJ)(hl:l.length≤256):∃j:Nat,aB uQ (((0:Int),l,(l.length:Int),()),())=some (bif tu l then .inl (((j:Int),()),()) else .inr ((),())):=by
 have h:=dh (f:=uQ) l (fun i (_:Unit)=>(((i:Int),l,(l.length:Int),()),())) (fun i _ e=>bif !dI e then .inr (.inl (((i:Int),()),())) else .inl ()) (fun _=> .inr ((),())) ?_ ?_ ()
 ·obtain⟨j,_,hj⟩:=jC (fun e:bJ=> !dI e) (fun i:Nat=>(Sum.inl (((i:Int),()),()):((Int×Unit)×Unit) ⊕(Unit×Unit))) (.inr ((),())) l 0;exact⟨j,h.trans (congrArg some hj)⟩
 ·intro i e _ he hi;have hw:aT ((i:Int)+1)=((i+1:Nat):Int):=aI (by omega);have q:Zo ((e,()),())=some ((!dI e,()),()):=rfl;simp only [uQ,aH,aC he,bV hi,q,au,sS];cases dI e<;>simp only [au,sS,hw]
 ·intro _;simp only [uQ,dG,au,sS]
def EP(x:Yi)(o:Option ((Bool×Int×Unit)×((PgT×Unit)×(Ri×Unit)×List bJ×List ByteArray×List ByteArray×Unit))):Prop:=
 ∃(n:Nat) (blk:List bJ),o=some ((x.1,0,()),(((x.2.1.1,x.2.1.2.1,(0,n),x.2.1.2.2.1,x.2.1.2.2.2.1,()),()),(x.2.2.1,()),blk,x.2.2.2.2.1,x.2.2.2.2.2,())) ∧n≤blk.length∧blk.take n=x.2.2.2.1
theorem Ai{A:Type}{y:Yi}{o:Option A}{f:A→Option ((Bool×Int×Unit)×((PgT×Unit)×(Ri×Unit)×List bJ×List ByteArray×List ByteArray×Unit))}(x:A)(h:o=some x)(h2:EP y (f x)):EP y (o.bind f):=by
 rw [h];exact h2
theorem VY{A:Type}{y:Yi}{o:Option A}{f:A→Option ((Bool×Int×Unit)×((PgT×Unit)×(Ri×Unit)×List bJ×List ByteArray×List ByteArray×Unit))}(P:A→Prop)(h:∃x,o=some x∧P x)(h2:∀x,P x→EP y (f x)):EP y (o.bind f):=by
 obtain⟨x,rfl,hp⟩:=h;exact h2 x hp
theorem exb{A B:Type}{o:Option A}{f:A→Option B}{Q:B→Prop}(x:A)(h:o=some x)(h2:∃b,f x=some b∧Q b):∃b,o.bind f=some b∧Q b:=by
 rw [h];exact h2
theorem exP{A B:Type}{o:Option A}{f:A→Option B}{Q:B→Prop}(P:A→Prop)(h:∃x,o=some x∧P x)(h2:∀x,P x→∃b,f x=some b∧Q b):∃b,o.bind f=some b∧Q b:=by
 obtain⟨x,rfl,hp⟩:=h;exact h2 x hp
theorem UF(n:Nat):(((n:Nat):Int)==0)=decide (n=0):=by
 rw [dD];exact decide_eq_decide.2 (by omega)
theorem YU{g:bC}(h:VG g){r:dz}(hr:RR r){t:Int}(ht:0≤t∧t≤8589934592){mu:List ByteArray}(hm:mu.length≤big):EP (vV g r t mu) (Wy ((g,r,t,mu,()),())):=by
 have q1:=H7 h;have q2:=JA r hr.z;rw [hr.ok] at q2;have q6:=IL h;have dt:decide ((0:Int) ≤t∧t≤8589934592)=true:=decide_eq_true ht;have hlen:=h.len;have hsent:=h.sent;have hdue:=h.due;have hir:=hr.int;have hwa:=hr.wait;have hrp:=hr.R6;have hmx:=hr.max;obtain⟨rt,ky,ms,du,se,⟨⟩⟩:=g;obtain⟨pa,mt,po,gb,wa,ir,rp,co,⟨⟩⟩:=r;dsimp only [aL,fu,bR,lC,j3,uJ,cor] at *;have qn:=fun nc c=>Sr ms mu t nc (pa,mt,po,gb,wa,ir,rp,co,()) c hlen hm
 unfold Wy vV;dsimp only [aL,fu,bR,j3,uJ,AZ];simp only [q1,q2,q6,zO,dt,au,sS];have w1:aT (se+rp)=se+rp:=bO (by omega) (by omega);have w2:aT (t+1)=t+1:=bO (by omega) (by omega);have w3:aT (t+ir)=t+ir:=bO (by omega) (by omega);have w4:aT (t+rp)=t+rp:=bO (by omega) (by omega);by_cases h1:du= -1
 ·subst h1;rw [if_pos (.inl rfl)];simp only [beq_self_eq_true,au,sS];exact⟨ms.length,ms,rfl,Nat.le_refl _,List.take_length⟩
 have b1:(du== -1)=false:=beq_eq_false_iff_ne.2 h1;rw [b1];by_cases h2:du>t
 ·rw [if_pos (.inr h2)];simp only [decide_eq_true h2,au,sS];exact⟨ms.length,ms,rfl,Nat.le_refl _,List.take_length⟩
 rw [if_neg (by rintro(h|h)<;>contradiction)];simp only [decide_eq_false h2,qn,au,sS];have fl:=K6 mu ms;have rl:=KR mu ms;refine Ai ((Jv se rp t (iR mu ms),Fq mu ms,()),ms,(pG,()),((t,rt,po,ky,()),()),iR mu ms,kJ mu ms,()) ?_ ?_
 ·unfold Jv;rw [show decide (((iR mu ms).length:Int)>0)=decide (0< (iR mu ms).length) from decide_eq_decide.2 (by omega),w1];cases decide (0< (iR mu ms).length)<;>cases (se != -1)<;>simp only [au,sS]
 dsimp only;refine Ai ((JU se rp t mu ms,()),ms,((t,rt,po,ky,()),()),iR mu ms,kJ mu ms,()) ?_ ?_
 ·unfold JU;rw [show decide (((kJ mu ms).length:Int)>0)=decide (0< (kJ mu ms).length) from decide_eq_decide.2 (by omega)];cases Fq mu ms<;>cases Jv se rp t (iR mu ms)<;>simp only [Bool.true_or,Bool.false_or,au,sS]
 dsimp only;rw [show decide (ms.length=ms.length)=true from decide_eq_true rfl,cond_true]
 refine VY (fun x=>∃(ok:Bool) (se':Int) (n:Nat) (blk:List bJ) (F' R':List ByteArray) (nc:Ri) (c0:Nl) (n0:Ri),x=((ok,t,()),(c0,()),(n0,()),(nc,()),((rt,ky,(0,n),du,se',()),()),((pa,mt,po,gb,wa,ir,rp,co,()),()),F',R',blk,()) ∧
  n≤blk.length∧blk.length≤256∧(-1≤se'∧se'≤8589934592) ∧(if JU se rp t mu ms=true then
   ((true,(rt,ky,(if(wQ (iR mu ms) (kJ mu ms) ms).length=0 then -1 else uq t ir rp t (tu (wQ (iR mu ms) (kJ mu ms) ms))),t,()),(t,rt,po,ky,()),wQ (iR mu ms) (kJ mu ms) ms,iR mu ms,kJ mu ms):Yi)
   else(false,(rt,ky,(if ms.length=0 then -1 else uq se ir rp t (tu ms)),se,()),pG,ms,[],[]))=(ok,(rt,ky,(if(blk.take n).length=0 then -1 else uq se' ir rp t (tu (blk.take n))),se',()),nc,blk.take n,F',R')) ?_ ?_
 ·cases JU se rp t mu ms
  ·refine⟨_,rfl,false,se,ms.length,ms,[],[],pG,yM,pG,rfl,Nat.le_refl _,hlen,hsent,?_⟩;rw [List.take_length];rfl
  ·rw [cond_true];refine exP (fun x=>∃(n:Nat) (blk:List bJ),x=((true,t,()),((t,rt,po,ky,()),()),((rt,ky,(0,n),du,t,()),()),(yM,()),(pG,()),((pa,mt,po,gb,wa,ir,rp,co,()),()),iR mu ms,kJ mu ms,blk,()) ∧n≤blk.length∧blk.length=ms.length∧blk.take n=ms.filter (oU (kJ mu ms))) ?_ ?_
   ·rcases WQ ms (t,rt,po,ky,()) (iR mu ms) (kJ mu ms) hlen (by unfold big;omega) with⟨e,hf⟩|⟨j,hj,e,hf⟩
    ·rw [e];simp only [eq_self,beq_self_eq_true,au,sS];exact⟨_,rfl,ms.length,ms,rfl,Nat.le_refl _,rfl,by rw [List.take_length,hf]⟩
    ·have bj:((j:Int)== -1)=false:=beq_eq_false_iff_ne.2 (by omega);have wj:aT ((j:Int)+1)=((j+1:Nat):Int):=aI (by omega);rw [e];simp only [eq_self,bj,wj,au,sS];obtain⟨dst,blk,e2,h3,h4,h5⟩:=R9 ms (t,rt,po,ky,()) (iR mu ms) (kJ mu ms) hlen (by unfold big;omega) (ms.length -(j+1)) (j+1) j ms (by omega) (by omega) rfl hf.symm rfl;refine exb _ e2 ?_;have d1:decide ((0:Int) ≤(dst:Int))=true:=decide_eq_true (by omega);have d2:decide (dst≤blk.length∧True)=true:=decide_eq_true ⟨by omega,trivial⟩;have d3:decide (dst+(blk.length - dst) ≤blk.length)=true:=decide_eq_true (by omega);have d0:decide (dst≤blk.length∧blk.length≤blk.length)=true:=decide_eq_true (by omega)
     have sl:(bU blk dst (List.replicate (blk.length - dst) ((ByteArray.empty,[],0,0,false,false,()):bJ))).length=blk.length:=by
      unfold bU;simp;omega
     have st:(bU blk dst (List.replicate (blk.length - dst) ((ByteArray.empty,[],0,0,false,false,()):bJ))).take dst=blk.take dst:=by
      unfold bU;rw [List.append_assoc,List.take_append_of_le_length (by rw [List.length_take];omega),List.take_of_length_le (by rw [List.length_take];omega)]
     have d4:decide (0≤dst∧dst≤blk.length)=true:=decide_eq_true (by omega);have d5:decide (blk.length=ms.length)=true:=decide_eq_true h4;simp only [d1,d0,d3,d4,d5,sl,Int.toNat_natCast,eq_self,au,sS];exact⟨_,rfl,dst,_,rfl,by rw [sl];omega,by rw [sl,h4],by rw [st,h5]⟩
   ·rintro _ ⟨n,blk,rfl,h1,h2,h3⟩;dsimp only;have hMl:(blk.take n).length=n:=by rw [List.length_take];omega
    have q:=Zr (blk.take n) (blk.drop n) (t,rt,po,ky,()) (rt,ky,(0,n),du,t,()) yM pG (pa,mt,po,gb,wa,ir,rp,co,()) (iR mu ms) (kJ mu ms) true t (by rw [hMl];omega) (by unfold big;omega) (by rw [hMl]);rw [List.take_append_drop,hMl] at q;refine exb _ q ?_
    have ht2:(List.map (l8 (iR mu ms)) (List.take n blk)++List.drop n blk).take n=wQ (iR mu ms) (kJ mu ms) ms:=by
     rw [List.take_append_of_le_length (by rw [List.length_map,hMl];exact Nat.le_refl _),List.take_of_length_le (by rw [List.length_map,hMl];exact Nat.le_refl _),h3];rfl
    refine⟨_,rfl,true,t,n,_,iR mu ms,kJ mu ms,(t,rt,po,ky,()),yM,pG,rfl,by simp;omega,by simp;omega,by omega,?_⟩;rw [ht2];rfl
 ·rintro _ ⟨ok,se',n,blk,F',R',nc,c0,n0,rfl,h3,h4,h5,h6⟩;rw [h6];dsimp only;have w5:aT (se'+rp)=se'+rp:=bO (by omega) (by omega);have d1:decide (0+n≤blk.length)=true:=decide_eq_true (by omega);obtain⟨j,ho⟩:=Yk (blk.take n) (by rw [List.length_take];omega);have hl:(blk.take n).length=n:=by rw [List.length_take];omega
  rw [hl] at ho;simp only [d1,List.drop_zero,hl,w2,w3,w5,au,sS];refine Ai ((tu (blk.take n),()),()) ?_ ?_
  ·refine aQ _ ho ?_;have dj:decide ((j:Int) ≥0)=true:=decide_eq_true (by omega);cases tu (blk.take n)<;>simp only [dj,au,sS]
  dsimp only;have mx:∀d:Int,(if t+1>d then t+1 else d)=max d (t+1):=fun d=>by split<;>omega
  unfold uq;cases tu (blk.take n)
  ·by_cases hp:se'+rp≤t
   ·simp only [decide_eq_true hp,w3,w2,mx,nA,UF,hp,or_true,if_true,eq_self,au,sS];by_cases hn:n=0
    ·simp only [hn,eq_self,if_true,au,sS];exact⟨0,blk,rfl,Nat.zero_le _,rfl⟩
    ·simp only [hn,if_false,au,sS];exact⟨n,blk,rfl,h3,rfl⟩
   ·simp only [decide_eq_false hp,w3,w2,mx,nA,UF,hp,or_self,Bool.false_eq_true,if_false,eq_self,au,sS];by_cases hn:n=0
    ·simp only [hn,eq_self,if_true,au,sS];exact⟨0,blk,rfl,Nat.zero_le _,rfl⟩
    ·simp only [hn,if_false,au,sS];exact⟨n,blk,rfl,h3,rfl⟩
  ·simp only [w3,w2,mx,nA,UF,true_or,if_true,eq_self,au,sS];by_cases hn:n=0
   ·simp only [hn,eq_self,if_true,au,sS];exact⟨0,blk,rfl,Nat.zero_le _,rfl⟩
   ·simp only [hn,if_false,au,sS];exact⟨n,blk,rfl,h3,rfl⟩
theorem SX(F R:List ByteArray)(l:List bJ):(wQ F R l).length≤l.length:=by
 unfold wQ;rw [List.length_map];exact List.length_filter_le _ _
def vT(c:Nl)(ms:List bJ):bC:=(c.1,c.2.1,ms,c.2.2.1,c.2.2.2.1,())
theorem Xh:VG (vT yM []):=⟨by decide,by decide,by decide,by decide,fun m hm=>(by cases hm),List.Pairwise.nil⟩
theorem key_inj{ms:List bJ}(h:(ms.map aK).Pairwise Less){a b:bJ}(ha:a∈ms)(hb:b∈ms)(e:aK a=aK b):a=b:=by
 obtain⟨i,hi,rfl⟩:=List.mem_iff_getElem.1 ha;obtain⟨j,hj,rfl⟩:=List.mem_iff_getElem.1 hb;have hp:=List.pairwise_iff_getElem.1 h;rcases Nat.lt_trichotomy i j with hij|hij|hij
 ·have:=hp i j (by rwa [List.length_map]) (by rwa [List.length_map]) hij;rw [List.getElem_map,List.getElem_map,e] at this;exact absurd (eZ.1 this) (nL _)
 ·subst hij;rfl
 ·have:=hp j i (by rwa [List.length_map]) (by rwa [List.length_map]) hij;rw [List.getElem_map,List.getElem_map,e] at this;exact absurd (eZ.1 this) (nL _)
theorem U9{ms:List bJ}{i:Nat}{m x:bJ}(h:ms[i]?=some m)(e:aK x=aK m):(ms.set i x).map aK=ms.map aK:=by
 rw [List.map_set,e];obtain⟨hi,rfl⟩:=List.getElem?_eq_some_iff.1 h;have:aK ms[i]=(ms.map aK)[i]'(by rwa [List.length_map]):=by rw [List.getElem_map]
 rw [this,List.set_getElem_self]
theorem mem_set{A:Type}{l:List A}{i:Nat}{x y:A}(h:y∈l.set i x):y∈l∨y=x:=List.mem_or_eq_of_mem_set h
theorem DL{du se wa ir t:Int}(h1:0≤t∧t≤8589934592)(h2:0≤wa)(h3: -1≤du∧du≤8589934592)(h4: -1≤se)(h5:0≤ir): -1≤iA du se wa ir t∧iA du se wa ir t≤8589934592:=Sq h1 h2 h3 h4 h5
theorem Qb{t:Int}(h: -1≤t): -1≤MO t∧MO t≤8589934592:=by unfold MO;split<;>omega
theorem MW{se ir rp t:Int}{o:Bool}(h:0≤t): -1≤uq se ir rp t o∧uq se ir rp t o≤8589934592:=by
 unfold uq;exact Qb (by omega)
theorem Dj{m:bJ}(h:qI m){t:Int}(ht:0≤t∧t≤8589934592):qI (sw m t):=⟨h.lab,h.key,h.since,ht,h.told⟩
theorem step_ok{m:bJ}(h:qI m){t:Int}(ht:0≤t∧t≤8589934592)(on:Bool):qI (stepM m on t):=
 ⟨h.lab,h.key,ht,h.heard,by show on=true∨on=false;cases on<;>simp⟩
theorem RF{l:List LT}(hl:cB l=true){t:Int}(ht:0≤t∧t≤8589934592):qI (gX (fC l),l,t,t,true,false,()):=⟨hl,rfl,ht,ht,.inl rfl⟩
theorem ZL{g:bC}(h:VG g){r:dz}(hr:RR r){l:List LT}(hl:cB l=true)(on:Bool){t:Int}(ht:0≤t∧t≤8589934592):VG (vT (nS g r l on t).2.1 (nS g r l on t).2.2):=by
 have hw:=DL ht hr.wait h.due h.sent.1 (by have:=hr.wait;have:=hr.int;omega:(0:Int) ≤j3 r)
 have hrest:∀ms,-1≤Dz g ms∧Dz g ms≤8589934592:=fun ms=>by
  have:=h.due;unfold Dz;split<;>omega
 have hlen:=h.len;unfold nS;dsimp only;by_cases hh:hit (gX (fC l)) (aL g)=true
 ·rw [if_pos hh];obtain⟨m,hm,hk⟩:=yK hh;have hmo:=h.mem m (List.mem_of_getElem? hm);rw [hm];dsimp only
  have hset:∀(x:bJ) (d:Int),aK x=aK m→qI x→(-1≤d∧d≤8589934592) →VG (vT (AZ g d) ((aL g).set (pos (gX (fC l)) (aL g)) x)):=fun x d hx ho hd=>
   ⟨by show((aL g).set _ x).length≤256;rw [List.length_set];exact hlen,h.rt,hd,h.sent,fun y hy=>by
    rcases mem_set hy with hy|rfl
    ·exact h.mem y hy
    ·exact ho,by show(((aL g).set _ x).map aK).Pairwise Less;rw [U9 hm hx];exact h.up⟩
  split
  ·exact hset _ _ rfl (Dj hmo ht) h.due
  ·split
   ·exact hset _ _ rfl (step_ok (Dj hmo ht) ht true) h.due
   ·split
    ·exact hset _ _ rfl (step_ok (Dj hmo ht) ht false) hw
    ·have hsub:((aL g).take (pos (gX (fC l)) (aL g))++(aL g).drop (pos (gX (fC l)) (aL g)+1)).Sublist (aL g):=by
      conv=>rhs;rw [←List.take_append_drop (pos (gX (fC l)) (aL g)) (aL g)]
      exact(List.Sublist.refl _).append (List.drop_sublist_drop_left _ (by omega))
     exact⟨Nat.le_trans hsub.length_le hlen,h.rt,hrest _,h.sent,fun y hy=>h.mem y (hsub.subset hy),h.up.sublist (hsub.map aK)⟩
 ·rw [if_neg hh];split
  ·split
   ·exact Xh
   ·have hp:=Mt (gX (fC l)) (aL g);refine⟨?_,h.rt,hw,h.sent,fun y hy=> ?_,?_⟩
    ·show(List.take _ _++_++List.drop _ _).length≤256
     simp;omega
    ·have hy:y∈List.take _ _++ [_]++List.drop _ _:=hy;simp only [List.mem_append,List.mem_singleton] at hy;rcases hy with(hy|rfl)|hy
     ·exact h.mem y (List.mem_of_mem_take hy)
     ·exact RF hl ht
     ·exact h.mem y (List.mem_of_mem_drop hy)
    ·show((List.take (pos (gX (fC l)) (aL g)) (aL g)++ [(gX (fC l),l,t,t,true,false,())]++List.drop (pos (gX (fC l)) (aL g)) (aL g)).map aK).Pairwise Less
     rw [List.append_assoc,List.map_append,List.map_append,List.pairwise_append];have hup:=h.up;rw [←List.take_append_drop (pos (gX (fC l)) (aL g)) (aL g),List.map_append,List.pairwise_append] at hup;have ha:∀m∈(aL g).take (pos (gX (fC l)) (aL g)),Lt (aK m) (gX (fC l)):=yN;have hb:=DN h.up (by simpa using hh:hit (gX (fC l)) (aL g)=false);refine⟨hup.1,?_,fun a ha' b hb'=> ?_⟩
     ·rw [List.map_cons,List.map_nil,List.singleton_append];refine List.pairwise_cons.2 ⟨fun k hk=> ?_,hup.2.1⟩;obtain⟨m,hm,rfl⟩:=List.mem_map.1 hk;exact eZ.2 (hb m hm)
     ·obtain⟨m,hm,rfl⟩:=List.mem_map.1 ha';rw [List.map_cons,List.map_nil,List.singleton_append] at hb';rcases List.mem_cons.1 hb' with rfl|hb'
      ·exact eZ.2 (ha m hm)
      ·obtain⟨m',hm',rfl⟩:=List.mem_map.1 hb';exact eZ.2 (lt_trans (ha m hm) (hb m' hm'))
  ·exact⟨hlen,h.rt,hrest _,h.sent,h.mem,h.up⟩
theorem CU{se wa ir t a:Int}(ht:0≤t∧t≤8589934592)(hwa:0≤wa)(hir:0≤ir)(hse: -1≤se):∀(rem kept:List bJ) (du:Int),(∀m∈kept++rem,qI m) →((kept++rem).map aK).Pairwise Less→(-1≤du∧du≤8589934592) →
  (∀m∈(lU se wa ir t a kept du rem).1,qI m) ∧(((lU se wa ir t a kept du rem).1).map aK).Pairwise Less∧(-1≤(lU se wa ir t a kept du rem).2∧(lU se wa ir t a kept du rem).2≤8589934592) ∧(lU se wa ir t a kept du rem).1.length≤kept.length+rem.length
 | [],kept,du,h1,h2,h3=>by rw [List.append_nil] at h1 h2;exact⟨h1,h2,h3,Nat.le_refl _⟩
 |m::rem,kept,du,h1,h2,h3=>by
  have e:∀x:bJ,kept++ [x]++rem=kept++x::rem:=fun x=>by rw [List.append_assoc];rfl
  have hm:qI m:=h1 m (by simp)
  have put:∀x:bJ,aK x=aK m→qI x→(∀y∈kept++ [x]++rem,qI y) ∧((kept++ [x]++rem).map aK).Pairwise Less:=fun x hx ho=>by
   rw [e];refine⟨fun y hy=> ?_,?_⟩
   ·rcases List.mem_append.1 hy with hy|hy
    ·exact h1 y (List.mem_append_left _ hy)
    ·rcases List.mem_cons.1 hy with rfl|hy
     ·exact ho
     ·exact h1 y (List.mem_append_right _ (List.mem_cons_of_mem _ hy))
   ·rw [List.map_append,List.map_cons,hx];rw [List.map_append,List.map_cons] at h2;exact h2
  unfold lU;split
  ·split
   ·obtain⟨p1,p2⟩:=put (stepM m false t) rfl (step_ok hm ht false);obtain⟨a1,a2,a3,a4⟩:=CU ht hwa hir hse rem (kept++ [stepM m false t]) (iA du se wa ir t) p1 p2 (DL ht hwa h3 hse hir);exact⟨a1,a2,a3,by simp at a4 ⊢;omega⟩
   ·have hs:(kept++rem).Sublist (kept++m::rem):=(List.Sublist.refl _).append (List.sublist_cons_self _ _);obtain⟨a1,a2,a3,a4⟩:=CU (a:=a) ht hwa hir hse rem kept (if(kept++rem).length=0 then -1 else du) (fun y hy=>h1 y (hs.subset hy)) (h2.sublist (hs.map aK)) (by split<;>omega);exact⟨a1,a2,a3,by have:(m::rem).length=rem.length+1:=rfl;omega⟩
  ·obtain⟨p1,p2⟩:=put m rfl hm;obtain⟨a1,a2,a3,a4⟩:=CU (a:=a) ht hwa hir hse rem (kept++ [m]) du p1 p2 h3;exact⟨a1,a2,a3,by simp at a4 ⊢;omega⟩
theorem Ym{g:bC}(h:VG g){r:dz}(hr:RR r){t:Int}(a:Int)(ht:0≤t∧t≤8589934592):VG (vT (J2 g r t a).2.1 (J2 g r t a).2.2):=by
 have hlen:=h.len;unfold J2;split
 ·exact⟨hlen,h.rt,h.due,h.sent,h.mem,h.up⟩
 ·obtain⟨a1,a2,a3,a4⟩:=CU (a:=a) ht hr.wait (by have:=hr.wait;have:=hr.int;omega:(0:Int) ≤j3 r) h.sent.1 (aL g) [] (fu g) h.mem h.up h.due;exact⟨by simp only [List.length_nil,Nat.zero_add] at a4;exact Nat.le_trans a4 hlen,h.rt,a3,h.sent,a1,a2⟩
theorem yC{mu:List ByteArray}{k:ByteArray}:Eo mu k=true↔k∈mu:=by
 unfold Eo;rw [List.any_eq_true];constructor
 ·rintro⟨x,hx,e⟩;have:x=k:=by simpa using e
  exact this ▸ hx
 ·exact fun h=>⟨k,h,by simp⟩
theorem WJ{mu:List ByteArray}{k:ByteArray}(h:k∉mu):Eo mu k=false:=by
 cases hc:Eo mu k
 ·rfl
 ·exact absurd (yC.1 hc) h
theorem UZ{mu:List ByteArray}{ms:List bJ}{k:ByteArray}:k∈iR mu ms↔∃m∈ms,aK m=k∧k∉mu∧cO m=true:=by
 unfold iR;rw [List.mem_map];constructor
 ·rintro⟨m,hm,rfl⟩;rw [List.mem_filter,Bool.and_eq_true,Bool.not_eq_true'] at hm;exact⟨m,hm.1,rfl,fun hc=>by rw [yC.2 hc] at hm;exact absurd hm.2.1 (by simp),hm.2.2⟩
 ·rintro⟨m,hm,rfl,h1,h2⟩;refine⟨m,List.mem_filter.2 ⟨hm,?_⟩,rfl⟩;rw [Bool.and_eq_true,Bool.not_eq_true'];exact⟨WJ h1,h2⟩
theorem SA(F R:List ByteArray)(ms:List bJ):(wQ F R ms).map aK=(ms.filter fun m=> !Eo R (aK m)).map aK:=by
 unfold wQ;rw [List.map_map];rfl
theorem OX{F R:List ByteArray}{ms:List bJ}{x:bJ}:x∈wQ F R ms↔∃m∈ms,aK m∉R∧x=l8 F m:=by
 unfold wQ;rw [List.mem_map];constructor
 ·rintro⟨m,hm,rfl⟩;rw [List.mem_filter,Bool.not_eq_true'] at hm;exact⟨m,hm.1,fun hc=>by rw [yC.2 hc] at hm;exact absurd hm.2 (by simp),rfl⟩
 ·rintro⟨m,hm,h1,rfl⟩;refine⟨m,List.mem_filter.2 ⟨hm,?_⟩,rfl⟩;cases hc:Eo R (aK m)
  ·rfl
  ·exact absurd (yC.1 hc) h1
theorem Yv{g:bC}(h:VG g)(mu:List ByteArray)(R:List ByteArray)(du se:Int)(hd: -1≤du∧du≤8589934592)(hs: -1≤se∧se≤8589934592):VG (vT (g.1,g.2.1,du,se,()) (wQ (iR mu (aL g)) R (aL g))):=by
 refine⟨Nat.le_trans (SX _ _ _) h.len,h.rt,hd,hs,fun x hx=> ?_,?_⟩
 ·obtain⟨m,hm,_,rfl⟩:=OX.1 hx;have ho:=h.mem m hm;refine⟨ho.lab,ho.key,ho.since,ho.heard,?_⟩
  show cO m=true∨(dI m||Eo (iR mu (aL g)) (aK m))=false
  rcases ho.told with hf|hf
  ·exact .inl hf
  ·cases hc:Eo (iR mu (aL g)) (aK m)
   ·exact .inr (by rw [hf];rfl)
   ·obtain⟨m',hm',e,_,hf'⟩:=UZ.1 (yC.1 hc);rw [key_inj h.up hm' hm e] at hf';exact .inl hf'
 ·show((wQ _ _ _).map aK).Pairwise Less
  rw [SA];exact h.up.sublist ((List.filter_sublist).map aK)
theorem Vh{g:bC}(h:VG g)(r:dz){t:Int}(mu:List ByteArray)(ht:0≤t∧t≤8589934592):VG (vT (vV g r t mu).2.1 (vV g r t mu).2.2.2.1):=by
 have hn:∀(ms:List bJ) se o,-1≤(if ms.length=0 then -1 else uq se (j3 r) (uJ r) t o) ∧(if ms.length=0 then -1 else uq se (j3 r) (uJ r) t o) ≤8589934592:=fun ms se o=>by
  have:=MW (se:=se) (ir:=j3 r) (rp:=uJ r) (o:=o) ht.1;split<;>omega
 unfold vV;split
 ·exact⟨h.len,h.rt,h.due,h.sent,h.mem,h.up⟩
 ·dsimp only;split
  ·exact Yv h mu _ _ _ (hn _ _ _) (by omega)
  ·exact⟨h.len,h.rt,hn _ _ _,h.sent,h.mem,h.up⟩
theorem ZP(l:List LT)(h:l.length≤big):m49 ((l,l,()),())=some ((true,()),()):=by
 unfold big at h;have hl:=gB (f:=CY) l (fun i=>(((i:Int),l,l,()),())) (.inr ((),())) ?_ ?_
 ·unfold m49;have:(((l.length:Int):Int) !=(l.length:Int))=false:=bne_self_eq_false _;simp only [this,au,sS];exact aQ _ hl rfl
 ·intro i e he hi;have hw:aT ((i:Int)+1)=((i+1:Nat):Int):=aI (by omega)
  have h1:∀b:ByteArray,(b==b)=true:=fun b=>by
   show(b.data==b.data)=true
   exact beq_self_eq_true _
  simp only [CY,bV hi,aH,aC he,h1,Bool.and_self,Bool.not_true,hw,au,sS]
 ·simp only [CY,dG,au,sS]
theorem YH(g:bC)(h1:(aL g).length≤big)(h2:∀m∈aL g,(bP m).length≤big):m54 ((g,g,()),())=some ((true,()),()):=by
 unfold big at h1;obtain⟨rt,ky,ms,du,se,⟨⟩⟩:=g;dsimp only [aL] at h1 h2;have hl:=gB (f:=CB) ms (fun i=>(((i:Int),()),(((rt,ky,ms,du,se,()),()),((rt,ky,ms,du,se,()),()),()))) (.inr ((),())) ?_ ?_
 ·unfold m54;have bb:(!(ky.toList==ky.toList))=false:=by simp
  simp only [bb,au,sS];exact aQ _ hl rfl
 ·intro i e he hi;have hw:aT ((i:Int)+1)=((i+1:Nat):Int):=aI (by omega);have q:=ZP e.2.1 (h2 e (List.mem_of_getElem? he));have bb:(!(e.1.toList==e.1.toList))=false:=by simp
  have b2:(!(e.2.2.2.2.1==e.2.2.2.2.1))=false:=by simp
  have b3:(!(e.2.2.2.2.2.1==e.2.2.2.2.2.1))=false:=by simp
  simp only [CB,bV hi,aH,aC he,q,bb,b2,b3,hw,au,sS]
 ·simp only [CB,dG,au,sS]
end Go.Proofs.YtchnmpafhfjimaaGreatDoor
namespace Go.Proofs.YtchnmpafhfjimaaGreatDoor
open Go Go.Abs Go.Lab
end Go.Proofs.YtchnmpafhfjimaaGreatDoor
namespace Go.Proofs.YtchnmpafhfjimaaGreatDoor
open Go Go.Abs
abbrev cZ:Type:=List dz×List Ac×Int×Unit
abbrev InT:Type:=Int×List bC×List eP×Int×Unit
abbrev Gc:Type:=Int×List LT×Bool×Unit
abbrev cu(s:InT):Int:=s.1
abbrev bS(s:InT):List bC:=s.2.1
abbrev bX(s:InT):List eP:=s.2.2.1
abbrev bF(s:InT):Int:=s.2.2.2.1
structure vY(p:cZ):Prop where
 rt:Py p.1
 inl:p.2.1.length≤big
 inh:∀r∈p.2.1,TSz r
 rs:Ze p.2.1
def zK(p:cZ):Int:=if ko p.1≠0 then ko p.1 else if tq p.2.1≠0 then tq p.2.1 else if p.2.2.1< 0∨p.2.2.1>604800 then 1 else 0
theorem TS(p:cZ)(hp:vY p):ZV ((p,()),())=some ((zK p,()),()):=by
 unfold ZV zK;refine aQ _ (JD p.1 hp.rt) ?_;by_cases h1:ko p.1=0
 ·simp only [h1,bne_self_eq_false,cond_false,ne_eq,not_true_eq_false,if_false];refine aQ _ (YP p.2.1 hp.inl hp.inh) ?_;by_cases h2:tq p.2.1=0
  ·simp only [h2,bne_self_eq_false,cond_false,not_true_eq_false,if_false];by_cases h3:p.2.2.1< 0
   ·simp [h3]
   ·by_cases h4:p.2.2.1>604800<;>simp [h3,h4]
  ·simp only [bne_iff_ne.2 h2,cond_true,h2,not_false_eq_true,if_true]
 ·simp only [bne_iff_ne.2 h1,cond_true,ne_eq,h1,not_false_eq_true,if_true]
theorem Tn(p:cZ)(hp:vY p):m35 ((p,()),())=some ((zK p,()),()):=by
 unfold m35 zK;refine aQ _ (ZJ p.1 hp.rt) ?_;by_cases h1:ko p.1=0
 ·simp only [h1,bne_self_eq_false,cond_false,ne_eq,not_true_eq_false,if_false];refine aQ _ (Yz p.2.1 hp.inl hp.inh) ?_;by_cases h2:tq p.2.1=0
  ·simp only [h2,bne_self_eq_false,cond_false,not_true_eq_false,if_false];by_cases h3:p.2.2.1< 0
   ·simp [h3]
   ·by_cases h4:p.2.2.1>604800<;>simp [h3,h4]
  ·simp only [bne_iff_ne.2 h2,cond_true,h2,not_false_eq_true,if_true]
 ·simp only [bne_iff_ne.2 h1,cond_true,ne_eq,h1,not_false_eq_true,if_true]
theorem iU{p:cZ}(h:zK p=0):ko p.1=0∧tq p.2.1=0∧0≤p.2.2.1∧p.2.2.1≤604800:=by
 unfold zK at h;split at h
 ·rename_i h1;exact absurd h h1
 ·rename_i h1;split at h
  ·rename_i h2;exact absurd h h2
  ·rename_i h2;split at h
   ·cases h
   ·rename_i h3;exact⟨by simpa using h1,by simpa using h2,by omega,by omega⟩
theorem P8{r:dz}(h:fQ r=0):AR r=true:=by
 unfold AR
 have e:fQ (strip r)=0:=by
  unfold fQ strip at *;cases h1:(decide ((r.2.1.length:Int)>8)||decide ((r.2.2.2.1.length:Int)>12))
  ·rw [h1] at h;cases h2:(!r.2.1.all aX|| !jc r.2.2.2.1)
   ·rw [h2] at h;simp only [Bool.or_eq_false_iff] at h1 h2;simp only [h1.2,h2.2,List.length_nil,List.all_nil];exact h
   ·rw [h2] at h;cases h
  ·rw [h1] at h;cases h
 rw [e];rfl
theorem zq{l:List dz}(hl:Py l)(h:ko l=0):∀r∈l,RR r:=by
 intro r hr;refine ac6 (hl.2 r hr) (P8 ?_);unfold ko at h;cases h0:((l.length:Int)==0)
 ·rw [h0] at h;cases h1:decide ((l.length:Int)>24)
  ·rw [h1] at h
   have h2:Aa rF 0 l=0:=by
    cases h2:(Aa rF 0 l !=0)
    ·simpa using h2
    ·rw [h2] at h;simp only [cond_false,cond_true] at h;rw [h] at h2;cases h2
   obtain⟨k,hk,rfl⟩:=List.mem_iff_getElem.1 hr;have:=rW h2 k _ (List.getElem?_eq_getElem hk);unfold rF at this;cases hb:lu (0+k) l[k]
   ·rw [hb] at this;exact this
   ·rw [hb] at this;cases this
  ·rw [h1] at h;cases h
 ·rw [h0] at h;cases h
theorem pV{l:List dz}(h:ko l=0):l.length≤24:=by
 unfold ko at h;cases h0:((l.length:Int)==0)
 ·rw [h0] at h;cases h1:decide ((l.length:Int)>24)
  ·have:=of_decide_eq_false h1;omega
  ·rw [h1] at h;cases h
 ·rw [h0] at h;cases h
def iG(rs:List dz)(now:Int)(g:bC):Bool:=
 decide ((aL g).length=0)&&(decide (bR g= -1)||match rs[g.1.toNat]? with|some r=>decide (bR g+j3 r≤now)|none=>false)
theorem NA(p:cZ)(g:bC)(now:Int)(hg:VG g){r:dz}(h:p.1[g.1.toNat]?=some r)(hr:RR r):UX ((p,g,now,()),())=some ((iG p.1 now g,()),()):=by
 have h1:=hg.sent;have h2:=hg.rt;have h3:=hr.int;have h4:=hr.R6;have h5:=hr.max;have h6:=hr.wait;obtain⟨rt,ky,ms,du,se,⟨⟩⟩:=g;dsimp only [bR,j3,lC,uJ] at h h1 h2 h3 h4 h5 h6;have hw:aT (se+r.2.2.2.2.2.1)=se+r.2.2.2.2.2.1:=bO (by omega) (by omega);unfold UX YB iG;dsimp only [aL,bR];simp only [aH,jf h2 h,hw];rw [h]
 have e0:((ms.length:Int)==0)=decide (ms.length=0):=by
  by_cases h:ms.length=0
  ·simp [h]
  ·rw [beq_eq_false_iff_ne.2 (by omega),decide_eq_false h]
 simp only [e0,Option.bind_some,dD];cases decide (ms.length=0)<;>cases decide (se= -1)<;>rfl
theorem SI(p:cZ)(g:bC)(now:Int)(hg:VG g){r:dz}(h:p.1[g.1.toNat]?=some r)(hr:RR r):m89 ((p,g,now,()),())=some ((iG p.1 now g,()),()):=NA p g now hg h hr
def iY(a:bC)(rt:Int)(k:ByteArray):Bool:=decide (a.1< rt)||(decide (a.1=rt)&&Op.bytesLess a.2.1.toList k.toList)
def ql(a:bC)(rt:Int)(k:ByteArray):Int:=if a.1=rt then Cg a.2.1 k else a.1 - rt
theorem NM(a:bC)(rt:Int)(k:ByteArray)(h1:0≤a.1∧a.1≤1048576)(h2:0≤rt∧rt≤1048576):Zj ((a,rt,k,()),())=some ((ql a rt k,()),()):=by
 unfold Zj ql;by_cases h:a.1=rt
 ·simp only [h,bne_self_eq_false,cond_false,if_true];refine aQ _ (OP a.2.1 k) rfl
 ·simp only [bne_iff_ne.2 h,cond_true,if_neg h,bO (x:=a.1 - rt) (by omega) (by omega)]
theorem AY(a:bC)(rt:Int)(k:ByteArray):decide (ql a rt k< 0)=iY a rt k:=by
 unfold ql iY Cg;by_cases h:a.1=rt
 ·simp only [h,if_true,Int.lt_irrefl,decide_false,decide_true,Bool.true_and,Bool.false_or];cases Op.bytesLess a.2.1.toList k.toList
  ·simp only [Bool.false_eq_true,if_false];split<;>rfl
  ·rfl
 ·rw [if_neg h];simp only [h,decide_false,Bool.false_and,Bool.or_false];exact decide_eq_decide.2 (by omega)
theorem Zy(a:bC)(rt:Int)(k:ByteArray):m90 ((a,rt,k,()),())=some ((iY a rt k,()),()):=by
 unfold m90 iY;by_cases h1:a.1< rt
 ·simp [h1]
 ·by_cases h2:a.1=rt
  ·simp [h1,h2]
  ·simp [h1,h2,beq_eq_false_iff_ne.2 h2]
def Fw(now t:Int):Int:=if t< now then 6 else if t>8589934592 then 1 else 0
theorem qy{A B E:Type}{f:A→Option (A⊕B)}(l:List E)(st:Nat→A)(p:E→Bool)(no:Nat→B)(yes:B)
  (h1:∀i e,l[i]?=some e→i< l.length→f (st i)=some (bif p e then .inl (st (i+1)) else .inr (no i))) (h2:f (st l.length)=some (.inr yes)):
  ∃j:Nat,aB f (st 0)=some (bif l.all p then yes else no j):=by
 have key:∀(k i:Nat),i+k=l.length→∃j:Nat,aB f (st i)=some (bif (l.drop i).all p then yes else no j):=by
  intro k
  induction k with
  |zero=>
   intro i h;obtain rfl:i=l.length:=by omega
   rw [List.drop_length];exact⟨0,aF h2⟩
  |succ k ih=>
   intro i h;obtain⟨e,he,hd⟩:=drop_at (l:=l) (i:=i) (by omega);have q:=h1 i e he (by omega);rw [hd,List.all_cons];cases hb:p e
   ·rw [hb] at q;exact⟨i,aF q⟩
   ·rw [hb] at q;rw [Bool.true_and];obtain⟨j,hj⟩:=ih (i+1) (by omega);exact⟨j,(aN q).trans hj⟩
 have:=key l.length 0 (by omega);rw [List.drop_zero] at this;exact this
def wX(rs:List dz)(g:bC)(m:bJ):ByteArray:=match rs[g.1.toNat]? with|some r=>xP r (bP m)|none=>ByteArray.empty
def pK(p:cZ)(now:Int)(q:Option bC)(g:bC):Bool:=
 decide (g.1≥(p.1.length:Int))||(iG p.1 now g||((match q with|none=>false|some a=> !iY a g.1 g.2.1)|| !(aL g).all fun m=>decide (wX p.1 g m=g.2.1)))
def jb(p:cZ)(s:InT):Bool:=
 decide (zK p=0)&&(inst (cu s)&&(decide ((bS s).length≤64)&&(decide (jg (bX s)=0)&&(decide (1≤bF s)&&((bX s).all (fun x=>decide (x.1< bF s))&&qC (pK p (cu s)) none (bS s))))))
structure wD(s:InT):Prop where
 len:(bS s).length≤1048576
 vT:∀g∈bS s,VG g∧g.1≤1048576
 Cj:Ab (bX s)
theorem EX{l:List dz}{g:bC}(hg:VG g)(h:¬ g.1≥(l.length:Int)):∃r,l[g.1.toNat]?=some r:=by
 have:=hg.rt;exact⟨_,List.getElem?_eq_getElem (by omega)⟩
theorem YS(p:cZ){g:bC}(hg:VG g){r:dz}(h:p.1[g.1.toNat]?=some r)(hz:r.2.2.2.1.length≤big)(p0:Int):
  ∃j:Nat,aB yB (((0:Int),aL g,((aL g).length:Int),()),((p,()),((g,()),())))=
   some (bif (aL g).all (fun m=>decide (wX p.1 g m=g.2.1)) then .inr ((),((p,()),((g,()),()))) else .inl (((j:Int),()),((p,()),((g,()),())))):=by
 have hl:=hg.len;have h2:=hg.rt;refine qy (f:=yB) (aL g) (fun i=>(((i:Int),aL g,((aL g).length:Int),()),((p,()),((g,()),())))) (fun m=>decide (wX p.1 g m=g.2.1)) (fun i=> .inl (((i:Int),()),((p,()),((g,()),())))) _ ?_ ?_
 ·intro i e he hi;have hw:=aI (i:=i) (by omega);have q:=RU r (bP e) (jB (hg.mem e (List.mem_of_getElem? he)).lab) hz;have q2:wX p.1 g e=xP r (bP e):=by unfold wX;rw [h]
  dsimp only [bP] at q;rw [q2];simp only [yB,bV hi,aH,aC he,jf h2 h,q,bH,jZ,hw,au,sS];cases decide (xP r e.2.1=g.2.1)<;>simp only [hw,au,sS]
 ·simp only [yB,dG,au,sS]
theorem Tm(p:cZ)(hp:vY p)(h0:ko p.1=0)(s:InT)(hs:wD s):
  aB qO (((0:Int),bS s,((bS s).length:Int),()),((p,()),((s,()),())))=some (bif qC (pK p (cu s)) none (bS s) then .inr ((),()) else .inl ((false,()),())):=by
 have hlen:=hs.len;have hrl:=pV h0;refine jr (f:=qO) (bS s) (fun i=>(((i:Int),bS s,((bS s).length:Int),()),((p,()),((s,()),())))) (pK p (cu s)) (.inl ((false,()),())) (.inr ((),())) ?_ ?_
 ·intro i e he hi;obtain⟨hv,hv2⟩:=hs.vT e (List.mem_of_getElem? he);have hw:=aI (i:=i) (by omega);have q1:=H7 hv;have h2:=hv.rt;unfold pK;by_cases hr:e.1≥(p.1.length:Int)
  ·simp only [qO,bV hi,aH,aC he,q1,decide_eq_true hr,Bool.true_or,Bool.false_or,Bool.or_false,Bool.not_true,Bool.not_false,au,sS]
  ·obtain⟨r,hr2⟩:=EX hv hr;have hrr:=zq hp.rt h0 r (List.mem_of_getElem? hr2);have q2:=NA p e (cu s) hv hr2 hrr;obtain⟨j,q3⟩:=YS p hv hr2 hrr.z.2.1 0;dsimp only [cu,aL] at q2 q3;have hj:decide ((j:Int) ≥0)=true:=decide_eq_true (by omega);rcases iT hi with h0|⟨a,h0,ha,ha1⟩
   ·rw [if_pos h0];have hd:decide ((i:Int)>0)=false:=decide_eq_false (by omega);simp only [qO,bV hi,aH,aC he,q1,decide_eq_false hr,q2,hd,cu,aL,Bool.true_or,Bool.false_or,Bool.or_false,Bool.not_true,Bool.not_false,au,sS];cases iG p.1 s.1 e<;>simp only [Bool.true_or,Bool.false_or,Bool.or_false,Bool.not_true,Bool.not_false,au,sS];rw [q3];cases List.all e.2.2.1 (fun m=>decide (wX p.1 e m=e.2.1))<;>simp only [hj,hw,Bool.true_or,Bool.false_or,Bool.or_false,Bool.not_true,Bool.not_false,au,sS]
   ·rw [if_neg (by omega),ha];obtain⟨av,av2⟩:=hs.vT a (List.mem_of_getElem? ha);have hd:decide ((i:Int)>0)=true:=decide_eq_true (by omega);have q4:=NM a e.1 e.2.1 ⟨av.rt,av2⟩ ⟨h2,by omega⟩
    have q5:decide (ql a e.1 e.2.1≥0)= !iY a e.1 e.2.1:=by
     rw [←AY,←decide_not];exact decide_eq_decide.2 (by omega)
    simp only [qO,bV hi,aH,aC he,q1,decide_eq_false hr,q2,hd,ha1 (by omega),aC ha,q4,q5,cu,aL,Bool.true_or,Bool.false_or,Bool.or_false,Bool.not_true,Bool.not_false,au,sS];cases iG p.1 s.1 e<;>simp only [Bool.true_or,Bool.false_or,Bool.or_false,Bool.not_true,Bool.not_false,au,sS];cases iY a e.1 e.2.1<;>simp only [Bool.true_or,Bool.false_or,Bool.or_false,Bool.not_true,Bool.not_false,au,sS];rw [q3];cases List.all e.2.2.1 (fun m=>decide (wX p.1 e m=e.2.1))<;>simp only [hj,hw,Bool.true_or,Bool.false_or,Bool.or_false,Bool.not_true,Bool.not_false,au,sS]
 ·simp only [qO,dG,Bool.true_or,Bool.false_or,Bool.or_false,Bool.not_true,Bool.not_false,au,sS]
theorem Us:∀{l:List eP},r9 0 l=0→∀(n:Int),l≠ [] →∃x,l[l.length - 1]?=some x∧(l.all fun y=>decide (y.1< n))= !decide (x.1≥n):=by
 intro l h n hne;obtain⟨a,x,rfl⟩:∃a x,l=a++ [x]:=⟨l.dropLast,l.getLast hne,(List.dropLast_concat_getLast hne).symm⟩
 refine⟨x,by simp,?_⟩
 have hs:∀y∈a,y.1< x.1:=by
  intro y hy;obtain⟨b,c,rfl⟩:=List.mem_iff_append.1 hy;have:=Qg b 0 y (c++ [x]) (by simpa using h);exact this x (by simp)
 rw [List.all_append];by_cases hx:x.1≥n
 ·simp [hx,Int.not_lt.2 hx]
 ·have ha:(a.all fun y=>decide (y.1< n))=true:=List.all_eq_true.2 fun y hy=>decide_eq_true (by have:=hs y hy;omega)
  simp [ha,hx,Int.not_le.1 hx]
theorem E9(p:cZ)(hp:vY p)(s:InT)(hs:wD s):Un ((p,s,()),())=some ((jb p s,()),()):=by
 unfold Un;have hl:=hs.len;have q2:=DV (bX s) hs.Cj;have hsl:=hs.Cj.1;by_cases hc:zK p=0
 ·obtain⟨c1,c2,c3,c4⟩:=iU hc;have q3:=Tm p hp c1 s hs;obtain⟨now,gs,sl,nx,⟨⟩⟩:=s;dsimp only [bS,bX,cu,bF] at q2 q3 hl hsl;have q1:=TS p hp;unfold jb;rw [hc] at q1;simp only [q1,q2,hc,cu,bS,bX,bF,inst,bne_self_eq_false,decide_true,Bool.true_and,au,sS];by_cases h1:now< 0
  ·have e:decide (0≤now∧now≤8589934592)=false:=decide_eq_false (by omega);simp only [h1,e,decide_true,Bool.false_and,au,sS]
  by_cases h2:now>8589934592
  ·have e:decide (0≤now∧now≤8589934592)=false:=decide_eq_false (by omega);simp only [h1,h2,e,decide_true,decide_false,Bool.false_and,au,sS]
  have e:decide (0≤now∧now≤8589934592)=true:=decide_eq_true (by omega);by_cases h3:(gs.length:Int)>64
  ·have e3:decide (gs.length≤64)=false:=decide_eq_false (by omega);simp only [h1,h2,h3,e,e3,decide_true,decide_false,Bool.true_and,Bool.false_and,au,sS]
  have e3:decide (gs.length≤64)=true:=decide_eq_true (by omega);by_cases h4:jg sl=0
  ·by_cases h5:nx< 1
   ·have e5:decide (1≤nx)=false:=decide_eq_false (by omega);simp only [h1,h2,h3,h4,h5,e,e3,e5,bne_self_eq_false,decide_true,decide_false,Bool.true_and,Bool.false_and,au,sS]
   have e5:decide (1≤nx)=true:=decide_eq_true (by omega);simp only [h1,h2,h3,h4,h5,e,e3,e5,bne_self_eq_false,decide_true,decide_false,Bool.true_and,Bool.false_and,au,sS];by_cases hn:sl=[]
   ·subst hn;simp only [List.length_nil,List.all_nil,Bool.true_and];have e6:decide ((((0:Nat):Nat):Int)>0)=false:=by decide
    simp only [e6,q3,au,sS];cases qC (pK p now) none gs<;>rfl
   ·obtain⟨x,hx,hx2⟩:=Us (Dv h4).1 nx hn;have hpos:0< sl.length:=List.length_pos_iff.2 hn;have e6:decide (((sl.length:Nat):Int)>0)=true:=decide_eq_true (by omega);have e7:aT (((sl.length:Nat):Int) - 1)=((sl.length - 1:Nat):Int):=by rw [bO (by omega) (by omega)];omega
    rw [hx2];simp only [e6,e7,aH,aC hx,au,sS];cases decide (x.1≥nx)<;>simp only [q3,Bool.not_true,Bool.not_false,Bool.true_and,Bool.false_and,au,sS];cases qC (pK p now) none gs<;>rfl
  ·simp only [h1,h2,h3,h4,bne_iff_ne.2 h4,e,e3,decide_true,decide_false,Bool.true_and,Bool.false_and,au,sS]
 ·have q1:=TS p hp;unfold jb;simp only [q1,bne_iff_ne.2 hc,decide_eq_false hc,Bool.false_and,au,sS]
theorem Zh(p:cZ){g:bC}(hg:VG g){r:dz}(h:p.1[g.1.toNat]?=some r)(hz:r.2.2.2.1.length≤big)(i0:Int)(s:InT):
  ∃j:Nat,aB u7 (((0:Int),i0,()),((g,()),((p,()),((s,()),()))))=
   some (bif (aL g).all (fun m=>decide (wX p.1 g m=g.2.1)) then .inr ((i0,()),((p,()),((s,()),()))) else .inl ((false,()),())):=by
 have hl:=hg.len;have h2:=hg.rt;refine qy (f:=u7) (aL g) (fun i=>(((i:Int),i0,()),((g,()),((p,()),((s,()),()))))) (fun m=>decide (wX p.1 g m=g.2.1)) (fun _=> .inl ((false,()),())) _ ?_ ?_
 ·intro i e he hi;have hw:=aI (i:=i) (by omega);have q:=Uv r (bP e) (jB (hg.mem e (List.mem_of_getElem? he)).lab) hz;have q2:wX p.1 g e=xP r (bP e):=by unfold wX;rw [h]
  dsimp only [bP] at q;dsimp only [aL] at he hi;rw [q2];simp only [u7,bV hi,aH,aC he,jf h2 h,q,bH,jZ,hw,au,sS];cases decide (xP r e.2.1=g.2.1)<;>simp only [hw,au,sS]
 ·dsimp only [aL];simp only [u7,dG,au,sS]
theorem U5(p:cZ)(hp:vY p)(h0:ko p.1=0)(s:InT)(hs:wD s):
  aB q8 (((0:Int),()),((p,()),((s,()),())))=some (bif qC (pK p (cu s)) none (bS s) then .inr ((),((s,()),())) else .inl ((false,()),())):=by
 have hlen:=hs.len;have hrl:=pV h0;refine jr (f:=q8) (bS s) (fun i=>(((i:Int),()),((p,()),((s,()),())))) (pK p (cu s)) (.inl ((false,()),())) (.inr ((),((s,()),()))) ?_ ?_
 ·intro i e he hi;obtain⟨hv,hv2⟩:=hs.vT e (List.mem_of_getElem? he);have hw:=aI (i:=i) (by omega);have q1:=Zu hv;have h2:=hv.rt;unfold pK;dsimp only [bS] at he hi hlen;by_cases hr:e.1≥(p.1.length:Int)
  ·simp only [q8,bV hi,aH,aC he,q1,decide_eq_true hr,Bool.true_or,Bool.false_or,Bool.or_false,Bool.not_true,Bool.not_false,au,sS]
  ·obtain⟨r,hr2⟩:=EX hv hr;have hrr:=zq hp.rt h0 r (List.mem_of_getElem? hr2);have q2:=SI p e (cu s) hv hr2 hrr;obtain⟨j,q3⟩:=Zh p hv hr2 hrr.z.2.1 (i:Int) s;dsimp only [cu,aL] at q2 q3;rcases iT hi with h0|⟨a,h0,ha,ha1⟩
   ·rw [if_pos h0];have hd:decide ((i:Int)>0)=false:=decide_eq_false (by omega);simp only [q8,bV hi,aH,aC he,q1,decide_eq_false hr,q2,hd,cu,aL,Bool.true_or,Bool.false_or,Bool.or_false,Bool.not_true,Bool.not_false,au,sS];cases iG p.1 s.1 e<;>simp only [Bool.true_or,Bool.false_or,Bool.or_false,Bool.not_true,Bool.not_false,au,sS];rw [q3];cases List.all e.2.2.1 (fun m=>decide (wX p.1 e m=e.2.1))<;>simp only [hw,Bool.true_or,Bool.false_or,Bool.or_false,Bool.not_true,Bool.not_false,au,sS]
   ·rw [if_neg (by omega),ha];have hd:decide ((i:Int)>0)=true:=decide_eq_true (by omega);have q4:=Zy a e.1 e.2.1;simp only [q8,bV hi,aH,aC he,q1,decide_eq_false hr,q2,hd,ha1 (by omega),aC ha,q4,cu,aL,Bool.true_or,Bool.false_or,Bool.or_false,Bool.not_true,Bool.not_false,au,sS];cases iG p.1 s.1 e<;>simp only [Bool.true_or,Bool.false_or,Bool.or_false,Bool.not_true,Bool.not_false,au,sS];cases iY a e.1 e.2.1<;>simp only [Bool.true_or,Bool.false_or,Bool.or_false,Bool.not_true,Bool.not_false,au,sS];rw [q3];cases List.all e.2.2.1 (fun m=>decide (wX p.1 e m=e.2.1))<;>simp only [hw,Bool.true_or,Bool.false_or,Bool.or_false,Bool.not_true,Bool.not_false,au,sS]
 ·dsimp only [bS];simp only [q8,dG,au,sS]
theorem acd(s:InT)(hs:wD s):∃j:Nat,aB rU (((0:Int),()),((s,()),()))=some (bif (bX s).all (fun x=>decide (x.1< bF s)) then .inr ((),()) else .inl ((false,()),())):=by
 have hl:=hs.Cj.1;refine qy (f:=rU) (bX s) (fun i=>(((i:Int),()),((s,()),()))) (fun x=>decide (x.1< bF s)) (fun _=> .inl ((false,()),())) _ ?_ ?_
 ·intro i e he hi;have hw:=aI (i:=i) (by omega);have hd:decide (e.1≥s.2.2.2.1)= !decide (e.1< s.2.2.2.1):=by rw [←decide_not];exact decide_eq_decide.2 (by omega)
  dsimp only [bX,bF] at he hi ⊢;simp only [rU,bV hi,aH,aC he,hd,au,sS];cases decide (e.1< s.2.2.2.1)<;>simp only [hw,Bool.not_true,Bool.not_false,au,sS]
 ·dsimp only [bX];simp only [rU,dG,au,sS]
theorem YC(p:cZ)(hp:vY p)(s:InT)(hs:wD s):ZQ ((p,s,()),())=some ((jb p s,()),()):=by
 unfold ZQ;have hl:=hs.len;have q2:=YZ (bX s) hs.Cj;have hsl:=hs.Cj.1;by_cases hc:zK p=0
 ·obtain⟨c1,c2,c3,c4⟩:=iU hc;have q3:=U5 p hp c1 s hs;obtain⟨j,q4⟩:=acd s hs;obtain⟨now,gs,sl,nx,⟨⟩⟩:=s;dsimp only [bS,bX,cu,bF] at q2 q3 q4 hl hsl;have q1:=Tn p hp;unfold jb;rw [hc] at q1;simp only [q1,q2,hc,cu,bS,bX,bF,inst,bne_self_eq_false,decide_true,Bool.true_and,au,sS];by_cases h1:now< 0
  ·have e:decide (0≤now∧now≤8589934592)=false:=decide_eq_false (by omega);simp only [h1,e,decide_true,Bool.false_and,au,sS]
  by_cases h2:now>8589934592
  ·have e:decide (0≤now∧now≤8589934592)=false:=decide_eq_false (by omega);simp only [h1,h2,e,decide_true,decide_false,Bool.false_and,au,sS]
  have e:decide (0≤now∧now≤8589934592)=true:=decide_eq_true (by omega);by_cases h3:(gs.length:Int)>64
  ·have e3:decide (gs.length≤64)=false:=decide_eq_false (by omega);simp only [h1,h2,h3,e,e3,decide_true,decide_false,Bool.true_and,Bool.false_and,au,sS]
  have e3:decide (gs.length≤64)=true:=decide_eq_true (by omega);by_cases h4:jg sl=0
  ·by_cases h5:nx< 1
   ·have e5:decide (1≤nx)=false:=decide_eq_false (by omega);simp only [h1,h2,h3,h4,h5,e,e3,e5,bne_self_eq_false,decide_true,decide_false,Bool.true_and,Bool.false_and,au,sS]
   have e5:decide (1≤nx)=true:=decide_eq_true (by omega);simp only [h1,h2,h3,h4,h5,e,e3,e5,q3,bne_self_eq_false,decide_true,decide_false,Bool.true_and,Bool.false_and,au,sS];cases qC (pK p now) none gs<;>simp only [q4,Bool.and_false,Bool.and_true,au,sS];cases List.all sl (fun x=>decide (x.1< nx))<;>simp only [au,sS]
  ·simp only [h1,h2,h3,h4,bne_iff_ne.2 h4,e,e3,decide_true,decide_false,Bool.true_and,Bool.false_and,au,sS]
 ·have q1:=Tn p hp;unfold jb;simp only [q1,bne_iff_ne.2 hc,decide_eq_false hc,Bool.false_and,au,sS]
end Go.Proofs.YtchnmpafhfjimaaGreatDoor
namespace Go.Proofs.YtchnmpafhfjimaaGreatDoor
open Go Go.Abs Go.Lab
theorem QI{m:bJ}(h:qI m):(aK m).size+1≤4294967296:=by
 have h1:=vH h.lab ((bP m).map dL).length;rw [List.take_length] at h1;rw [h.key,size_mk];unfold fC;simp;omega
end Go.Proofs.YtchnmpafhfjimaaGreatDoor
namespace Go.Proofs.YtchnmpafhfjimaaGreatDoor
open Go Go.Abs
def JJ(p:cZ)(l:List bC):Prop:=∀g∈l,VG g∧∃r,p.1[g.1.toNat]?=some r∧RR r
def jk(p:cZ)(now:Int)(l:List bC):List bC:=l.filter fun g=> !iG p.1 now g
theorem JJ.idle{p:cZ}{l:List bC}(h:JJ p l){g:bC}(hg:g∈l)(now:Int):UX ((p,g,now,()),())=some ((iG p.1 now g,()),()) ∧m89 ((p,g,now,()),())=some ((iG p.1 now g,()),()):=by
 obtain⟨hv,r,hr,rr⟩:=h g hg;exact⟨NA p g now hv hr rr,SI p g now hv hr rr⟩
theorem Pf{A:Type}{a:List A}{n:Nat}(h:a.length+1≤n)(x:A):decide (a.length+ [x].length≤n)=true:=decide_eq_true (by simpa using h)
theorem Qe{A B E F:Type}{f:A→Option (A⊕B)}(l:List E)(st:Nat→List F→A)(g:E→List F)(fin:List F→B)(hlen:l.length≤1048576)
  (hg:∀e,(g e).length≤1)
  (h1:∀i e a,l[i]?=some e→i< l.length→a.length≤i→f (st i a)=some (.inl (st (i+1) (a++g e)))) (h2:∀a,f (st l.length a)=some (.inr (fin a))):
  aB f (st 0 [])=some (fin (l.flatMap g)):=by
 have key:∀(k i:Nat) (a:List F),i+k=l.length→a.length≤i→aB f (st i a)=some (fin (a++(l.drop i).flatMap g)):=by
  intro k
  induction k with
  |zero=>
   intro i a h ha;obtain rfl:i=l.length:=by omega
   rw [List.drop_length,List.flatMap_nil,List.append_nil];exact aF (h2 a)
  |succ k ih=>
   intro i a h ha;obtain⟨e,he,hd⟩:=drop_at (l:=l) (i:=i) (by omega);rw [hd,List.flatMap_cons,←List.append_assoc,←ih (i+1) (a++g e) (by omega) (by have:=hg e;rw [List.length_append];omega)];exact aN (h1 i e a he (by omega) ha)
 have:=key l.length 0 [] (by omega) (Nat.le_refl _)
 rwa [List.drop_zero,List.nil_append] at this
theorem Qn{A B E:Type}{f:A→Option (A⊕B)}(ms:List E)(keep:E→Bool)(st:Nat→A)(no:B)(yes:Nat→B)
  (h1:∀i e,ms[i]?=some e→i< ms.length→f (st i)=some (bif keep e then .inl (st (i+1)) else .inr (yes i))) (h2:f (st ms.length)=some (.inr no)):
  (aB f (st 0)=some no∧ms.filter keep=ms) ∨∃j,j< ms.length∧aB f (st 0)=some (yes j) ∧(ms.take (j+1)).filter keep=ms.take j:=by
 have key:∀(d i:Nat),i+d=ms.length→(ms.take i).filter keep=ms.take i→
   (aB f (st i)=some no∧ms.filter keep=ms) ∨∃j,j< ms.length∧aB f (st i)=some (yes j) ∧(ms.take (j+1)).filter keep=ms.take j:=by
  intro d
  induction d with
  |zero=>
   intro i h h3;obtain rfl:i=ms.length:=by omega
   rw [List.take_length] at h3;exact .inl ⟨aF h2,h3⟩
  |succ d ih=>
   intro i h h3;obtain⟨e,he⟩:=getD_some (l:=ms) (i:=i) (by omega);have q:=h1 i e he (by omega);cases hr:keep e
   ·rw [hr] at q;refine .inr ⟨i,by omega,aF q,?_⟩;rw [gu he,List.filter_append,h3];simp [hr]
   ·rw [hr] at q;rw [aN q];refine ih (i+1) (by omega) ?_;rw [gu he,List.filter_append,h3];simp [hr]
 exact key ms.length 0 (by omega) rfl
theorem Mk{A B E:Type}{f:A→Option (A⊕B)}(ms:List E)(keep:E→Bool)(st:Nat→Nat→List E→A)(fin:Nat→List E→B)
  (h1:∀src dst blk e,src< ms.length→dst< src→blk.length=ms.length→blk[src]?=some e→e∈ms→f (st src dst blk)=some (.inl (bif keep e then st (src+1) (dst+1) (blk.set dst e) else st (src+1) dst blk)))
  (h2:∀dst blk,blk.length=ms.length→f (st ms.length dst blk)=some (.inr (fin dst blk))):∀(d src dst:Nat) (blk:List E),src+d=ms.length→dst< src→blk.length=ms.length→
  blk.take dst=(ms.take src).filter keep→blk.drop src=ms.drop src→
  ∃(dst':Nat) (blk':List E),aB f (st src dst blk)=some (fin dst' blk') ∧dst'≤ms.length∧blk'.length=ms.length∧blk'.take dst'=ms.filter keep:=by
 intro d
 induction d with
 |zero=>
  intro src dst blk a1 a2 a3 a4 a5;obtain rfl:src=ms.length:=by omega
  rw [List.take_length] at a4;exact⟨dst,blk,aF (h2 dst blk a3),by omega,a3,a4⟩
 |succ d ih=>
  intro src dst blk a1 a2 a3 a4 a5;obtain⟨e,he⟩:=getD_some (l:=ms) (i:=src) (by omega)
  have he':blk[src]?=some e:=by
   have:=congrArg (fun l=>l[0]?) a5;simp only [List.getElem?_drop,Nat.add_zero] at this;rw [this,he]
  have q:=h1 src dst blk e (by omega) a2 a3 he' (List.mem_of_getElem? he);cases hr:keep e
  ·rw [hr] at q;rw [aN q];refine ih (src+1) dst blk (by omega) (by omega) a3 ?_ ?_
   ·rw [gu he,List.filter_append,←a4];simp [hr]
   ·rw [←List.drop_drop,←List.drop_drop,a5]
  ·rw [hr] at q;rw [aN q];refine ih (src+1) (dst+1) (blk.set dst e) (by omega) (by omega) (by rw [List.length_set,a3]) ?_ ?_
   ·rw [gu he,List.filter_append,←a4];rw [gu (e:=e) (by rw [List.getElem?_set_self (by omega)])];rw [show(blk.set dst e).take dst=blk.take dst from by rw [List.take_set,List.set_eq_of_length_le (by rw [List.length_take];omega)]];simp [hr]
   ·rw [List.drop_set,if_pos (by omega)];rw [←List.drop_drop,←List.drop_drop,a5]
def p8(acc:List bJ)(m:bJ):List bJ:=if cO m=true∧hit (aK m) acc=false then acc.take (pos (aK m) acc)++ [m]++acc.drop (pos (aK m) acc) else acc
def Hl(gs:List bC)(acc:List bJ):List bJ:=gs.foldl (fun a g=>(aL g).foldl p8 a) acc
def xS(gs:List bC):List bJ:=Hl gs []
theorem U7(acc:List bJ)(m:bJ):(p8 acc m).length≤acc.length+1:=by
 unfold p8;split
 ·simp;omega
 ·omega
theorem PW:∀(ms:List bJ) (acc:List bJ),(ms.foldl p8 acc).length≤acc.length+ms.length:=by
 intro ms
 induction ms with
 |nil=>intro acc;exact Nat.le_refl _
 |cons m r ih=>intro acc;have:=ih (p8 acc m);have:=U7 acc m;simp only [List.foldl_cons,List.length_cons];omega
theorem Vq{a b:ByteArray}(h:Lt a b):bl a< bl b:=by
 unfold Lt at h;rw [bH,bH,Go.Proofs.bytesLess_eq] at h;exact of_decide_eq_true h
theorem Jf{k:ByteArray}{l:List bJ}(h:(l.map aK).Pairwise Less):hit k l=true↔k∈l.map aK:=by
 constructor
 ·intro hh;obtain⟨m,hm,rfl⟩:=yK hh;exact List.mem_map.2 ⟨m,List.mem_of_getElem? hm,rfl⟩
 ·intro hk;obtain⟨m,hm,rfl⟩:=List.mem_map.1 hk;cases hh:hit (aK m) l
  ·exfalso
   rw [←List.take_append_drop (pos (aK m) l) l,List.mem_append] at hm;rcases hm with hm|hm
   ·exact nL _ (yN m hm)
   ·exact nL _ (DN h hh m hm)
  ·rfl
theorem YL{m:bJ}{l:List bJ}(h:(l.map aK).Pairwise Less)(hh:hit (aK m) l=false):((l.take (pos (aK m) l)++ [m]++l.drop (pos (aK m) l)).map aK).Pairwise Less:=by
 rw [List.append_assoc,List.map_append,List.map_append,List.pairwise_append];have hup:=h;rw [←List.take_append_drop (pos (aK m) l) l,List.map_append,List.pairwise_append] at hup;have ha:∀x∈l.take (pos (aK m) l),Lt (aK x) (aK m):=yN;have hb:=DN h hh;refine⟨hup.1,?_,fun a ha' b hb'=> ?_⟩
 ·rw [List.map_cons,List.map_nil,List.singleton_append];refine List.pairwise_cons.2 ⟨fun k hk=> ?_,hup.2.1⟩;obtain⟨x,hx,rfl⟩:=List.mem_map.1 hk;exact eZ.2 (hb x hx)
 ·obtain⟨x,hx,rfl⟩:=List.mem_map.1 ha';rw [List.map_cons,List.map_nil,List.singleton_append] at hb';rcases List.mem_cons.1 hb' with rfl|hb'
  ·exact eZ.2 (ha x hx)
  ·obtain⟨x',hx',rfl⟩:=List.mem_map.1 hb';exact eZ.2 (lt_trans (ha x hx) (hb x' hx'))
structure Kc(pre acc:List bJ)(ks:List ByteArray):Prop where
 up:(acc.map aK).Pairwise Less
 perm:ks.Perm (acc.map aK)
 lab:∀a∈acc,pre.find? (fun m=>decide (m.1=aK a))=some a
 all:∀m∈pre,aK m∈acc.map aK
theorem Kc.step{pre acc:List bJ}{ks:List ByteArray}(h:Kc pre acc ks){m:bJ}(hm:cO m=true):
  Kc (pre++ [m]) (p8 acc m) (if ks.any (fun x=>decide (x=aK m)) then ks else ks++ [aK m]):=by
 have hc:ks.any (fun x=>decide (x=aK m))=hit (aK m) acc:=by
  rw [Bool.eq_iff_iff,Jf h.up,List.any_eq_true,←h.perm.mem_iff];constructor
  ·rintro⟨x,hx,e⟩;rw [←of_decide_eq_true e];exact hx
  ·intro hx;exact⟨_,hx,decide_eq_true rfl⟩
 rw [hc]
 have old:∀a∈acc,(pre++ [m]).find? (fun x=>decide (x.1=aK a))=some a:=fun a ha=>by
  rw [List.find?_append,h.lab a ha];rfl
 cases hh:hit (aK m) acc
 ·have e:p8 acc m=acc.take (pos (aK m) acc)++ [m]++acc.drop (pos (aK m) acc):=by unfold p8;rw [if_pos ⟨hm,hh⟩]
  have hnot:aK m∉acc.map aK:=fun hk=>by rw [(Jf h.up).2 hk] at hh;cases hh
  rw [e];refine⟨YL h.up hh,?_,fun a ha=> ?_,fun x hx=> ?_⟩
  ·simp only [Bool.false_eq_true,if_false,List.map_append,List.map_take,List.map_drop,List.map_cons,List.map_nil];have p1:(ks++ [aK m]).Perm (acc.map aK++ [aK m]):=h.perm.append_right _;refine p1.trans ?_
   conv=>lhs;rw [←List.take_append_drop (pos (aK m) acc) (acc.map aK)]
   rw [List.append_assoc,List.append_assoc];exact(List.perm_append_comm).append_left _
  ·simp only [List.mem_append,List.mem_singleton] at ha;rcases ha with(ha|rfl)|ha
   ·exact old a (List.mem_of_mem_take ha)
   ·rw [List.find?_append]
    have:pre.find? (fun x=>decide (x.1=aK a))=none:=List.find?_eq_none.2 fun x hx=>by
     have:=h.all x hx;intro e;exact hnot (by rwa [show aK x=aK a from of_decide_eq_true e] at this)
    rw [this];simp
   ·exact old a (List.mem_of_mem_drop ha)
  ·have hx':aK x∈acc.map aK∨x=m:=by
    rcases List.mem_append.1 hx with hx|hx
    ·exact .inl (h.all x hx)
    ·exact .inr (List.mem_singleton.1 hx)
   rcases hx' with hx'|rfl
   ·obtain⟨y,hy,e⟩:=List.mem_map.1 hx';rw [←List.take_append_drop (pos (aK m) acc) acc,List.mem_append] at hy;refine List.mem_map.2 ⟨y,?_,e⟩;simp only [List.mem_append,List.mem_singleton];rcases hy with hy|hy
    ·exact .inl (.inl hy)
    ·exact .inr hy
   ·exact List.mem_map.2 ⟨x,by simp,rfl⟩
 ·have e:p8 acc m=acc:=by unfold p8;rw [if_neg (by rw [hh];simp)]
  rw [e];refine⟨h.up,by simpa using h.perm,old,fun x hx=> ?_⟩;rcases List.mem_append.1 hx with hx|hx
  ·exact h.all x hx
  ·rw [List.mem_singleton.1 hx];exact(Jf h.up).1 hh
theorem Kc.run:∀(ms pre acc:List bJ) (ks:List ByteArray),Kc pre acc ks→(∀m∈ms,cO m=true) →Kc (pre++ms) (ms.foldl p8 acc) (bL ms ks):=by
 intro ms
 induction ms with
 |nil=>intro pre acc ks h _;rw [List.append_nil];exact h
 |cons m r ih=>
  intro pre acc ks h hf;have:=ih (pre++ [m]) _ _ (h.step (hf m (by simp))) (fun x hx=>hf x (by simp [hx]));rw [List.append_assoc] at this;exact this
theorem Qh:∀(ms acc:List bJ),(ms.filter fun m=>cO m).foldl p8 acc=ms.foldl p8 acc:=by
 intro ms
 induction ms with
 |nil=>intro acc;rfl
 |cons m r ih=>
  intro acc;rw [List.filter_cons];by_cases h:cO m=true
  ·rw [if_pos h];exact ih _
  ·rw [if_neg h,ih];have e:p8 acc m=acc:=by unfold p8;rw [if_neg (fun c=>h c.1)]
   show _=r.foldl p8 (p8 acc m)
   rw [e]
theorem TN:∀(gs:List bC) (acc:List bJ),(bM gs).foldl p8 acc=Hl gs acc:=by
 intro gs
 induction gs with
 |nil=>intro acc;rfl
 |cons g r ih=>
  intro acc;unfold bM Hl;rw [List.flatMap_cons,List.foldl_append,List.foldl_cons];have:=Qh (aL g) acc;dsimp only [cO,aL] at this ⊢;rw [this];exact ih _
theorem KO(gs:List bC):Kc (bM gs) (xS gs) (bL (bM gs) []):=by
 have:=Kc.run (bM gs) [] [] [] ⟨List.Pairwise.nil,List.Perm.nil,fun a ha=>(by cases ha),fun m hm=>(by cases hm)⟩ (fun m hm=>by
  unfold bM at hm;obtain⟨g,_,hm⟩:=List.mem_flatMap.1 hm;exact(List.mem_filter.1 hm).2)
 rw [List.nil_append,TN] at this;exact this
theorem Qr(gs:List bC):o6 gs=(xS gs).map bP:=by
 have h:=KO gs;unfold o6
 have p:((bL (bM gs) []).map (·.data.toList)).mergeSort (fun x y=>decide (x≤y))=((xS gs).map aK).map (·.data.toList):=by
  have e:=mergeSort_of_perm (h.perm.map (·.data.toList));refine e.trans (List.mergeSort_of_pairwise ?_)
  have:((xS gs).map aK).Pairwise (fun a b=>(Go.leB a.data.toList b.data.toList)=true):=h.up.imp fun {a b} hab=>by
   have:=Vq (eZ.1 hab);simp only [Go.leB,decide_eq_true_eq];exact List.le_of_lt this
  exact List.pairwise_map.2 this
 rw [p,List.map_map,List.map_map];refine List.map_congr_left fun a ha=> ?_
 show jd (bM gs) ⟨(aK a).data.toList.toArray⟩=bP a
 have e:(⟨(aK a).data.toList.toArray⟩:ByteArray)=aK a:=rfl;rw [e];unfold jd;rw [h.lab a ha];rfl
abbrev Br:=Int×Int×Int×ByteArray×List ByteArray×List ByteArray×Unit
def Dm(p:cZ)(n:Int):dz:=(p.1[n.toNat]?).getD (0,[],0,[],0,0,0,false,())
theorem xH{p:cZ}{n:Int}{r:dz}(h:p.1[n.toNat]?=some r):Dm p n=r:=by unfold Dm;rw [h];rfl
def IE(p:cZ)(now:Int)(g:bC):bC:=vT (J2 g (Dm p g.1) now p.2.2.1).2.1 (J2 g (Dm p g.1) now p.2.2.1).2.2
def Dx(p:cZ)(sl:List eP)(now:Int)(fs:List (List LT))(ms:List bJ):List ByteArray:=ms.flatMap fun m=>bif (FU (bP m) now sl).2||xR p.2.1 (bP m) fs then [aK m] else []
def yO(p:cZ)(sl:List eP)(now:Int)(fs:List (List LT))(g:bC):Yi:=vV g (Dm p g.1) now (Dx p sl now fs (aL g))
def wh(p:cZ)(sl:List eP)(now:Int)(fs:List (List LT))(g:bC):bC:=vT (yO p sl now fs g).2.1 (yO p sl now fs g).2.2.2.1
def Yd(x:Yi):Br:=(x.2.2.1.1,x.2.2.1.2.1,x.2.2.1.2.2.1,x.2.2.1.2.2.2.1,x.2.2.2.2.1,x.2.2.2.2.2,())
def G9(p:cZ)(sl:List eP)(now:Int)(fs:List (List LT))(g:bC):List Br:=bif (yO p sl now fs g).1 then [Yd (yO p sl now fs g)] else []
def rC(p:cZ)(s:InT)(now:Int):List bC:=(bS s).map (IE p now)
def Gy(p:cZ)(s:InT)(now:Int):List (List LT):=(xS (rC p s now)).map bP
def y7(p:cZ)(s:InT)(now:Int):List bC:=(rC p s now).map (wh p (bX s) now (Gy p s now))
def TH(p:cZ)(s:InT)(now:Int):List Br:=(rC p s now).flatMap (G9 p (bX s) now (Gy p s now))
def Pd(p:cZ)(s:InT)(now:Int):InT:=(now,jk p now (y7 p s now),bX s,bF s,())
theorem Jr(p:cZ)(now:Int)(g:bC):(IE p now g).1=g.1∧(IE p now g).2.1=g.2.1:=by
 unfold IE J2;split<;>exact⟨rfl,rfl⟩
theorem Cw(p:cZ)(sl:List eP)(now:Int)(fs:List (List LT))(g:bC):(wh p sl now fs g).1=g.1∧(wh p sl now fs g).2.1=g.2.1:=by
 unfold wh yO vV;split
 ·exact⟨rfl,rfl⟩
 ·dsimp only;split<;>exact⟨rfl,rfl⟩
theorem zo{A B E F:Type}{f:A→Option (A⊕B)}(l:List E)(st:Nat→List E→List F→A)(h:E→E)(g:E→List F)(fin:List E→List F→B)(hg:∀e,(g e).length≤1)
  (h1:∀(i:Nat) (a:List E) (n:List F) (e:E),i< l.length→a.length=l.length→n.length≤i→e∈l→l[i]?=some e→a[i]?=some e→f (st i a n)=some (.inl (st (i+1) (a.set i (h e)) (n++g e))))
  (h2:∀(a:List E) (n:List F),a.length=l.length→f (st l.length a n)=some (.inr (fin a n))):aB f (st 0 l [])=some (fin (l.map h) (l.flatMap g)):=by
 have key:∀(d i:Nat) (a:List E) (n:List F),i+d=l.length→a=(l.take i).map h++l.drop i→n.length≤i→aB f (st i a n)=some (fin (l.map h) (n++(l.drop i).flatMap g)):=by
  intro d
  induction d with
  |zero=>
   intro i a n hi ha hn;obtain rfl:i=l.length:=by omega
   rw [List.take_length,List.drop_length,List.append_nil] at ha;rw [List.drop_length,List.flatMap_nil,List.append_nil];subst ha;exact aF (h2 _ n (by simp))
  |succ d ih=>
   intro i a n hi ha hn;obtain⟨e,he,hd⟩:=drop_at (l:=l) (i:=i) (by omega);have hal:a.length=l.length:=by rw [ha];simp;omega
   have hml:((l.take i).map h).length=i:=by rw [List.length_map,List.length_take];omega
   have hae:a[i]?=some e:=by
    rw [ha,List.getElem?_append_right (by omega),hml,Nat.sub_self,hd];rfl
   rw [hd,List.flatMap_cons,←List.append_assoc,←ih (i+1) (a.set i (h e)) (n++g e) (by omega) ?_ (by have:=hg e;rw [List.length_append];omega)]
   ·exact aN (h1 i a n e (by omega) hal hn (List.mem_of_getElem? he) he hae)
   ·rw [ha,hd,List.set_append_right _ _ (by omega),hml,Nat.sub_self,gu he,List.map_append,List.append_assoc];rfl
 have:=key l.length 0 l [] (by omega) (by simp) (Nat.le_refl _);rw [List.drop_zero,List.nil_append] at this;exact this
structure SH(p:cZ)(s:InT)(now:Int):Prop where
 len:(bS s).length≤65
 nT:JJ p (bS s)
 Cj:Ab (bX s)
 rs:Ze p.2.1
 exp:0≤p.2.2.1∧p.2.2.1≤604800
 now:0≤now∧now≤8589934592
theorem vz(s:InT)(hl:(bS s).length≤1048576)(hs:∀g∈bS s,VG g)(hz:Ab (bX s)):m64 ((s,()),())=some ((),(((cu s,bF s,()),()),bS s,bX s,())):=by
 have hc:WZ ((bS s,()),())=some ((),(bS s,())):=by
  unfold WZ;rw [show decide ((bS s).length≤4294967296)=true from decide_eq_true (by omega)];rfl
 have q:=CS (bX s) hz;have h:=zo (F:=Unit) (f:=CZ) (bS s) (fun i a _=>(((i:Int),((bS s).length:Int),()),((cu s,bF s,()),()),a,((0,0,()),()),bX s,())) id (fun _=> [])
  (fun a _=>((),((0,0,()),()),((cu s,bF s,()),()),a,bX s,())) (fun _=>Nat.zero_le _) ?_ ?_
 ·rw [List.map_id] at h;unfold m64;refine aQ _ hc ?_;refine aQ _ q ?_;refine aQ _ h rfl
 ·intro i a n e hi ha _ hm he hae;have hw:=aI (i:=i) (by omega);have c:=IL (hs e hm);have hb:decide ((0:Int) ≤(i:Int) ∧(i:Int)< (a.length:Int))=true:=decide_eq_true (by omega);have hb2:decide (i< a.length)=true:=decide_eq_true (by omega);simp only [CZ,bV hi,hb,hb2,Int.toNat_natCast,hae,c,hw,cor,au,sS];rfl
 ·intro a n ha;simp only [CZ,dG,au,sS]
theorem KW(p:cZ)(s:InT)(now:Int)(h:SH p s now)(x1 x2 z1 z2:Int):
  aB zh (((0:Int),now,((bS s).length:Int),()),(p,()),((x1,x2,()),()),bS s,((z1,z2,()),()),bX s,())=
   some ((now,()),((x1,x2,()),()),(p,()),((z1,z2,()),()),rC p s now,bX s,()):=by
 have hl:=h.len;refine zo (F:=Unit) (f:=zh) (bS s) (fun i a _=>(((i:Int),now,((bS s).length:Int),()),(p,()),((x1,x2,()),()),a,((z1,z2,()),()),bX s,())) (IE p now) (fun _=> [])
  (fun a _=>((now,()),((x1,x2,()),()),(p,()),((z1,z2,()),()),a,bX s,())) (fun _=>Nat.zero_le _) ?_ ?_
 ·intro i a n e hi ha _ hm he hae;have hw:=aI (i:=i) (by omega);obtain⟨hv,r,hr,rr⟩:=h.nT e hm;have q:=acu hv rr h.now h.exp;have hb:decide ((0:Int) ≤(i:Int) ∧(i:Int)< (a.length:Int))=true:=decide_eq_true (by omega);have hb2:decide (i< a.length)=true:=decide_eq_true (by omega);have hai:a[((i:Int)).toNat]?=some e:=by rw [Int.toNat_natCast];exact hae
  unfold IE;rw [xH hr];simp only [zh,bV hi,hb,hai,aH,jf hv.rt hr,q,hw,au,sS];simp only [Int.toNat_natCast,hb2,vT,au,sS]
 ·intro a n ha;simp only [zh,dG,au,sS]
theorem Md(p:cZ)(sl:List eP)(hsl:Ab sl)(hrs:Ze p.2.1)(now:Int)(fs:List (List LT))(hf:Yo fs)(ms:List bJ)(hl:ms.length≤256)(hm:∀m∈ms,qI m)(blk:List bC)(x2:Int):
  aB xW (((0:Int),fs,ms,(ms.length:Int),()),blk,sl,[],((now,x2,()),()),(p,()),())=some ((),blk,sl,Dx p sl now fs ms,()):=by
 refine Qe (f:=xW) ms (fun i a=>(((i:Int),fs,ms,(ms.length:Int),()),blk,sl,a,((now,x2,()),()),(p,()),())) (fun m=>bif (FU (bP m) now sl).2||xR p.2.1 (bP m) fs then [aK m] else []) (fun a=>((),blk,sl,a,())) (by omega) (fun e=>by cases ((FU (bP e) now sl).2||xR p.2.1 (bP e) fs)<;>simp) ?_ ?_
 ·intro i e a he hi ha;have hw:=aI (i:=i) (by omega);have q:=V6 p.2.1 hrs sl hsl (bP e) (Ic (hm e (List.mem_of_getElem? he)).lab) fs hf now;have hs:∀x:ByteArray,decide (a.length+ [x].length≤4294967296)=true:=fun x=>Pf (by omega) x
  dsimp only [bP,aK] at q ⊢;simp only [xW,aH,aC he,bV hi,q,au,sS];cases ((FU e.2.1 now sl).2||xR p.2.1 e.2.1 fs)<;>simp only [hs,hw,List.append_nil,au,sS]
 ·intro a;simp only [xW,dG,au,sS]
theorem UD{p:cZ}{l:List bC}(h:JJ p l)(f:bC→bC)(h1:∀g,(f g).1=g.1)(h2:∀g∈l,VG (f g)):JJ p (l.map f):=by
 intro g hg;obtain⟨x,hx,rfl⟩:=List.mem_map.1 hg;obtain⟨_,r,hr,rr⟩:=h x hx;exact⟨h2 x hx,r,by rw [h1];exact hr,rr⟩
theorem Dl{p:cZ}{s:InT}{now:Int}(h:SH p s now):JJ p (rC p s now):=
 UD h.nT _ (fun g=>(Jr p now g).1) (fun g hg=>by
  obtain⟨hv,r,hr,rr⟩:=h.nT g hg;unfold IE;rw [xH hr];exact Ym hv rr _ h.now)
theorem ET{p:cZ}{s:InT}{now:Int}(h:SH p s now):JJ p (y7 p s now):=
 UD (Dl h) _ (fun g=>(Cw p _ now _ g).1) (fun g hg=>Vh (Dl h g hg).1 _ _ h.now)
theorem U0{gs:List bC}{m:bJ}(h:m∈xS gs):∃g∈gs,m∈aL g∧cO m=true:=by
 have:=(KO gs).lab m h;have hm:=List.mem_of_find?_eq_some this;unfold bM at hm;obtain⟨g,hg,hm⟩:=List.mem_flatMap.1 hm;exact⟨g,hg,(List.mem_filter.1 hm).1,(List.mem_filter.1 hm).2⟩
theorem Q7(gs:List bC)(h:∀g∈gs,VG g):(xS gs).length≤gs.length * 256:=by
 have key:∀(gs:List bC) (acc:List bJ),(∀g∈gs,VG g) →(Hl gs acc).length≤acc.length+gs.length * 256:=by
  intro gs
  induction gs with
  |nil=>intro acc _;simp [Hl]
  |cons g r ih=>
   intro acc h;have h1:=PW (aL g) acc;have h2:=ih ((aL g).foldl p8 acc) (fun x hx=>h x (by simp [hx]));have h3:=(h g (by simp)).len
   show(Hl r ((aL g).foldl p8 acc)).length≤_
   rw [List.length_cons];omega
 have:=key gs [] h;simpa [xS] using this
theorem X3{gs:List bC}(h:∀g∈gs,VG g)(hl:gs.length≤1000):Yo ((xS gs).map bP):=by
 refine⟨?_,fun l hl=> ?_⟩
 ·have:=Q7 gs h;rw [List.length_map];unfold big;omega
 ·obtain⟨m,hm,rfl⟩:=List.mem_map.1 hl;obtain⟨g,hg,hm,_⟩:=U0 hm;exact Ic ((h g hg).mem m hm).lab
theorem TU{gs:List bC}(h:∀g∈gs,VG g)(hl:gs.length≤1000):vW gs=true:=by
 unfold vW
 have h1:(gs.flatMap fun g=>g.2.2.1).length≤gs.length * 256:=by
  clear hl
  induction gs with
  |nil=>simp
  |cons g r ih=>
   have:=ih (fun x hx=>h x (by simp [hx]));have h3:=(h g (by simp)).len;dsimp only [aL] at h3;rw [List.flatMap_cons,List.length_append,List.length_cons];omega
 simp only [Bool.and_eq_true,decide_eq_true_eq,List.all_eq_true];refine⟨by omega,Nat.le_trans h1 (by omega),fun g hg=>⟨?_,fun m hm=>⟨?_,?_⟩⟩⟩
 ·have:=(h g hg).len;dsimp only [aL] at this;omega
 ·have:=QI ((h g hg).mem m hm);dsimp only [aK] at this;omega
 ·have:=(gy ((h g hg).mem m hm).lab).1;dsimp only [bP] at this;omega
theorem Qv(p:cZ)(sl:List eP)(now:Int)(fs:List (List LT))(ms:List bJ):(Dx p sl now fs ms).length≤ms.length:=by
 unfold Dx
 induction ms with
 |nil=>simp
 |cons m r ih=>
  rw [List.flatMap_cons,List.length_append,List.length_cons]
  have:(bif (FU (bP m) now sl).2||xR p.2.1 (bP m) fs then [aK m] else []).length≤1:=by
   cases ((FU (bP m) now sl).2||xR p.2.1 (bP m) fs)<;>simp
  omega
theorem QY(p:cZ)(sl:List eP)(hsl:Ab sl)(hrs:Ze p.2.1)(now:Int)(hn:0≤now∧now≤8589934592)(fs:List (List LT))(hf:Yo fs)(gs:List bC)(hl:gs.length≤1000)(h:JJ p gs)(x2 z1 z2:Int):
  aB rT (((0:Int),fs,now,(gs.length:Int),()),[],((now,x2,()),()),(p,()),gs,((z1,z2,()),()),sl,())=
   some ((),((z1,z2,()),()),gs.flatMap (G9 p sl now fs),((now,x2,()),()),(p,()),gs.map (wh p sl now fs),sl,()):=by
 refine zo (f:=rT) gs (fun i a n=>(((i:Int),fs,now,(gs.length:Int),()),n,((now,x2,()),()),(p,()),a,((z1,z2,()),()),sl,())) (wh p sl now fs) (G9 p sl now fs)
  (fun a n=>((),((z1,z2,()),()),n,((now,x2,()),()),(p,()),a,sl,())) (fun e=>by unfold G9;cases (yO p sl now fs e).1<;>simp) ?_ ?_
 ·intro i a n e hi ha hni hm he hae;have hw:=aI (i:=i) (by omega);obtain⟨hv,r,hr,rr⟩:=h e hm;have q:=Md p sl hsl hrs now fs hf (aL e) hv.len hv.mem a x2;obtain⟨k,blk,q2,q3,q4⟩:=YU hv rr hn (mu:=Dx p sl now fs (aL e)) (by have:=Qv p sl now fs (aL e);have:=hv.len;unfold big;omega);have hb:decide ((0:Int) ≤(i:Int) ∧(i:Int)< (a.length:Int))=true:=decide_eq_true (by omega);have hb2:decide (i< a.length)=true:=decide_eq_true (by omega);have hb3:decide (0+k≤blk.length)=true:=decide_eq_true (by omega);have hai:a[((i:Int)).toNat]?=some e:=by rw [Int.toNat_natCast];exact hae
  have hs:∀x:Br,decide (n.length+ [x].length≤4294967296)=true:=fun x=>Pf (by omega) x
  have e1:yO p sl now fs e=vV e r now (Dx p sl now fs (aL e)):=by unfold yO;rw [xH hr]
  unfold wh G9 Yd;rw [e1];generalize vV e r now (Dx p sl now fs (aL e))=L at q2 q4 ⊢;dsimp only [aL] at q q2;have hrow:∀{B:Type} (F:dz→Option B),qK p.1 e.1 F=F r:=fun F=>jf hv.rt hr F
  simp only [rT,bV hi,hb,hai,aH,au,sS];rw [hrow,q];simp only [eq_self,q2,hb,hb3,au,sS];cases hk:L.1<;>simp only [hs,hb2,hw,Int.toNat_natCast,List.drop_zero,q4,vT,List.append_nil,au,sS]
 ·intro a n ha;simp only [rT,dG,au,sS]
theorem Eb(p:cZ)(sl:List eP)(now x2:Int)(gs:List bC)(hl:gs.length≤1000)(h:JJ p gs):
  (aB qH (((0:Int),(gs.length:Int),()),gs,(p,()),((now,x2,()),()),sl,())=some (.inr ((),gs,(p,()),((now,x2,()),()),sl,())) ∧jk p now gs=gs) ∨
  ∃j,j< gs.length∧aB qH (((0:Int),(gs.length:Int),()),gs,(p,()),((now,x2,()),()),sl,())=some (.inl (((j:Int),()),gs,(p,()),((now,x2,()),()),sl,())) ∧(gs.take (j+1)).filter (fun g=> !iG p.1 now g)=gs.take j:=by
 refine Qn (f:=qH) gs (fun g=> !iG p.1 now g) (fun i=>(((i:Int),(gs.length:Int),()),gs,(p,()),((now,x2,()),()),sl,())) (.inr ((),gs,(p,()),((now,x2,()),()),sl,())) (fun i=> .inl (((i:Int),()),gs,(p,()),((now,x2,()),()),sl,())) ?_ ?_
 ·intro i e he hi;have hw:=aI (i:=i) (by omega);have hb:decide ((0:Int) ≤(i:Int) ∧(i:Int)< (gs.length:Int))=true:=decide_eq_true (by omega);have q:=(h.idle (List.mem_of_getElem? he) now).1;simp only [qH,bV hi,hb,Int.toNat_natCast,he,q,eq_self,au,sS];cases iG p.1 now e<;>simp only [hw,Bool.not_true,Bool.not_false,au,sS]
 ·simp only [qH,dG,au,sS]
theorem BS(p:cZ)(sl:List eP)(now x2:Int)(gs:List bC)(hl:gs.length≤1000)(h:JJ p gs):∀(d src dst:Nat) (blk:List bC),src+d=gs.length→dst< src→blk.length=gs.length→
  blk.take dst=(gs.take src).filter (fun g=> !iG p.1 now g) →blk.drop src=gs.drop src→
  ∃(dst':Nat) (blk':List bC),aB vD (((src:Int),(dst:Int),()),blk,(p,()),((now,x2,()),()),sl,())=some (((dst':Int),()),blk',(p,()),((now,x2,()),()),sl,()) ∧dst'≤gs.length∧blk'.length=gs.length∧blk'.take dst'=jk p now gs:=by
 refine Mk (f:=vD) gs (fun g=> !iG p.1 now g) (fun src dst blk=>(((src:Int),(dst:Int),()),blk,(p,()),((now,x2,()),()),sl,())) (fun dst blk=>(((dst:Int),()),blk,(p,()),((now,x2,()),()),sl,())) ?_ ?_
 ·intro src dst blk e h1 h2 h3 he hm;have c1:decide ((src:Int)< ((blk.length:Nat):Int))=true:=decide_eq_true (by omega);have c2:decide ((0:Int) ≤(src:Int) ∧(src:Int)< (blk.length:Int))=true:=decide_eq_true (by omega);have c3:decide ((0:Int) ≤(dst:Int) ∧(dst:Int)< (blk.length:Int))=true:=decide_eq_true (by omega);have c4:decide (dst< blk.length)=true:=decide_eq_true (by omega);have w1:aT ((src:Int)+1)=((src+1:Nat):Int):=aI (by omega);have w2:aT ((dst:Int)+1)=((dst+1:Nat):Int):=aI (by omega);have q:=(h.idle hm now).1;simp only [vD,c1,c2,Int.toNat_natCast,he,q,eq_self,au,sS];cases iG p.1 now e<;>simp only [c3,c4,w1,w2,Bool.not_true,Bool.not_false,au,sS]
 ·intro dst blk h3;have:decide ((gs.length:Int)< ((blk.length:Nat):Int))=false:=decide_eq_false (by omega);simp only [vD,this,au,sS]
theorem BF{A:Type}(l x:List A)(k:Nat)(h:k≤l.length):(bU l k x).take k=l.take k:=by
 unfold bU;rw [List.append_assoc,List.take_append_of_le_length (by rw [List.length_take];omega),List.take_take,Nat.min_self]
theorem DY{A:Type}(l:List A)(z:A)(k:Nat)(h:k≤l.length):(bU l k (List.replicate (l.length - k) z)).length=l.length:=by
 unfold bU;simp;omega
def Iz(p:cZ)(s:InT)(now:Int)(o:Option (Unit×((Int×(Nat×Nat)×Int×Unit)×Unit)×List Br×List bC×List eP×Unit)):Prop:=
 ∃(n:Nat) (blk:List bC),o=some ((),((now,(0,n),bF s,()),()),TH p s now,blk,bX s,()) ∧n≤blk.length∧blk.take n=jk p now (y7 p s now)
theorem Jy{p:cZ}{s:InT}{now:Int}{A:Type}{o:Option A}{f:A→Option (Unit×((Int×(Nat×Nat)×Int×Unit)×Unit)×List Br×List bC×List eP×Unit)}(x:A)(h:o=some x)(h2:Iz p s now (f x)):Iz p s now (o.bind f):=by
 rw [h];exact h2
theorem ZF{p:cZ}{s:InT}{now:Int}(h:SH p s now):Iz p s now (ZX ((p,s,now,()),())):=by
 have hl:=h.len;have hv:∀g∈bS s,VG g:=fun g hg=>(h.nT g hg).1
 have g1:=Dl h;have g2:=ET h;have l1:(rC p s now).length=(bS s).length:=List.length_map ..;have l2:(y7 p s now).length=(bS s).length:=(List.length_map ..).trans l1;have hv1:∀g∈rC p s now,VG g:=fun g hg=>(g1 g hg).1
 have q1:=vz s (by omega) hv h.Cj;have q2:=KW p s now h now (bF s) 0 0;have q3:=QY p (bX s) h.Cj h.rs now h.now (Gy p s now) (X3 hv1 (by omega)) (rC p s now) (by omega) g1 (bF s) 0 0;have hfe:o6 (rC p s now)=Gy p s now:=Qr _;have hfb:=TU hv1 (by omega);unfold ZX;refine Jy _ q1 ?_;refine Jy _ q2 ?_;simp only [hfb,hfe,eq_self,au,sS];refine Jy _ q3 ?_;have t2:(rC p s now).map (wh p (bX s) now (Gy p s now))=y7 p s now:=rfl;have tn:(rC p s now).flatMap (G9 p (bX s) now (Gy p s now))=TH p s now:=rfl;rw [t2,tn];unfold Iz;generalize y7 p s now=G at g2 l2 ⊢;rcases Eb p (bX s) now (bF s) G (by omega) g2 with⟨e,hf⟩|⟨j,hj,e,hf⟩
 ·rw [e];simp only [eq_self,beq_self_eq_true,au,sS];exact⟨G.length,G,rfl,Nat.le_refl _,by rw [List.take_length,hf]⟩
 ·have bj:((j:Int)== -1)=false:=beq_eq_false_iff_ne.2 (by omega);have wj:aT ((j:Int)+1)=((j+1:Nat):Int):=aI (by omega);rw [e];simp only [eq_self,bj,wj,au,sS];obtain⟨dst,blk,e2,h3,h4,h5⟩:=BS p (bX s) now (bF s) G (by omega) g2 (G.length -(j+1)) (j+1) j G (by omega) (by omega) rfl hf.symm rfl;rw [e2];have c1:decide ((0:Int) ≤(dst:Int))=true:=decide_eq_true (by omega);have c2:decide (dst≤blk.length∧blk.length≤blk.length)=true:=decide_eq_true ⟨by omega,Nat.le_refl _⟩;have c3:decide (dst+(blk.length - dst) ≤blk.length)=true:=decide_eq_true (by omega);have hz:∀z:bC,(bU blk dst (List.replicate (blk.length - dst) z)).length=blk.length:=fun z=>DY blk z dst (by omega)
  have c4:∀z:bC,decide (0≤dst∧dst≤(bU blk dst (List.replicate (blk.length - dst) z)).length)=true:=fun z=>decide_eq_true ⟨Nat.zero_le _,by rw [hz];omega⟩
  have c5:∀z:bC,decide ((bU blk dst (List.replicate (blk.length - dst) z)).length=G.length)=true:=fun z=>decide_eq_true (by rw [hz];omega)
  simp only [c1,c2,c3,c4,c5,Int.toNat_natCast,eq_self,au,sS];exact⟨dst,_,rfl,by rw [hz];omega,(BF blk _ dst (by omega)).trans h5⟩
def jO(p:cZ)(s:InT)(now:Int):Int×InT×List Br:=
 if jb p s=false then(8,(0,[],[],0,()),[]) else if Fw (cu s) now≠0 then(Fw (cu s) now,(0,[],[],0,()),[]) else(0,Pd p s now,TH p s now)
structure VI(p:cZ)(s:InT):Prop where
 gZ:zK p=0
 now:0≤cu s∧cu s≤8589934592
 len:(bS s).length≤64
 Cj:jg (bX s)=0
 next:1≤bF s
 ids:∀x∈bX s,x.1< bF s
 vT:qC (pK p (cu s)) none (bS s)=true
theorem l5{p:cZ}{s:InT}:jb p s=true↔VI p s:=by
 unfold jb inst;simp only [Bool.and_eq_true,decide_eq_true_eq,List.all_eq_true];exact⟨fun⟨a,b,c,d,e,f,g⟩=>⟨a,b,c,d,e,f,g⟩,fun h=>⟨h.gZ,h.now,h.len,h.Cj,h.next,h.ids,h.vT⟩⟩
theorem VI.nT{p:cZ}{s:InT}(h:VI p s)(hp:vY p)(hs:wD s):JJ p (bS s):=by
 intro g hg;obtain⟨hv,_⟩:=hs.vT g hg;obtain⟨q,hb⟩:=yJ h.vT g hg;unfold pK at hb;simp only [Bool.or_eq_false_iff,decide_eq_false_iff_not] at hb;obtain⟨r,hr⟩:=EX hv hb.1;exact⟨hv,r,hr,zq hp.rt (iU h.gZ).1 r (List.mem_of_getElem? hr)⟩
theorem VI.tk{p:cZ}{s:InT}(h:VI p s)(hp:vY p)(hs:wD s){now:Int}(hn:0≤now∧now≤8589934592):SH p s now:=
 ⟨by have:=h.len;omega,h.nT hp hs,hs.Cj,hp.rs,⟨(iU h.gZ).2.2.1,(iU h.gZ).2.2.2⟩,hn⟩
theorem Rx(s:InT)(t:Int):m67 ((s,t,()),())=some ((Fw (cu s) t,()),()):=by
 unfold m67 Fw;by_cases h1:t< s.1
 ·simp [h1]
 ·by_cases h2:t>8589934592<;>simp [h1,h2]
theorem mK{now t:Int}(h:Fw now t=0)(h0:0≤now):0≤t∧t≤8589934592∧now≤t:=by
 unfold Fw at h;split at h
 ·cases h
 ·split at h
  ·cases h
  ·omega
abbrev LG(a:bC)(rt:Int)(k:ByteArray):Prop:=a.1< rt∨(a.1=rt∧Lt a.2.1 k)
theorem wM{a:bC}{rt:Int}{k:ByteArray}:iY a rt k=true↔LG a rt k:=by
 unfold iY LG Lt;simp
theorem EC{a b:bC}{rt:Int}{k:ByteArray}(h:LG a b.1 b.2.1)(h2:LG b rt k):LG a rt k:=by
 rcases h with h|⟨h,h'⟩<;>rcases h2 with h2|⟨h2,h2'⟩
 ·exact .inl (by omega)
 ·exact .inl (by omega)
 ·exact .inl (by omega)
 ·exact .inr ⟨by omega,lt_trans h' h2'⟩
def JM(gs:List bC):Prop:=gs.Pairwise fun a b=>LG a b.1 b.2.1
theorem wJ{p:cZ}{now:Int}:∀{gs:List bC} {q:Option bC},qC (pK p now) q gs=true→JM gs∧∀a,q=some a→∀b∈gs,LG a b.1 b.2.1
 | [],_,_=>⟨List.Pairwise.nil,fun _ _ b hb=>by cases hb⟩
 |g::r,q,h=>by
  unfold qC at h;rw [Bool.and_eq_true] at h;obtain⟨h1,h2⟩:=h;obtain⟨u1,u2⟩:=wJ h2;have h1:pK p now q g=false:=by simpa using h1
  refine⟨List.pairwise_cons.2 ⟨u2 g rfl,u1⟩,fun a ha b hb=> ?_⟩;subst ha;unfold pK at h1;simp only [Bool.or_eq_false_iff,Bool.not_eq_false'] at h1;have hag:=wM.1 h1.2.2.1;rcases List.mem_cons.1 hb with rfl|hb
  ·exact hag
  ·exact EC hag (u2 g rfl b hb)
def ja(rt:Int)(k:ByteArray):List bC→Nat
 | []=>0
 |g::r=>if iY g rt k=true then ja rt k r+1 else 0
def Cm(rt:Int)(k:ByteArray)(gs:List bC):Bool:=match gs[ja rt k gs]? with|some g=>decide (g.1=rt)&&decide (g.2.1=k)|none=>false
theorem Jd(rt:Int)(k:ByteArray):∀gs:List bC,ja rt k gs≤gs.length
 | []=>Nat.le_refl _
 |g::r=>by
  unfold ja;split
  ·have:=Jd rt k r;simp;omega
  ·exact Nat.zero_le _
theorem Jb{rt:Int}{k:ByteArray}:∀{gs:List bC} {i:Nat},i≤gs.length→(∀(j:Nat) g,j< i→gs[j]?=some g→iY g rt k=true) →(∀(j:Nat) g,i≤j→gs[j]?=some g→iY g rt k=false) →ja rt k gs=i
 | [],i,h,_,_=>by simp at h;subst h;rfl
 |g::r,0,_,_,h2=>by
  unfold ja;rw [if_neg (by rw [h2 0 g (Nat.le_refl _) rfl];simp)]
 |g::r,i+1,h,h1,h2=>by
  unfold ja;rw [if_pos (h1 0 g (by omega) rfl),Jb (i:=i) (by simpa using h) (fun j x hj hx=>h1 (j+1) x (by omega) (by simpa using hx)) (fun j x hj hx=>h2 (j+1) x (by omega) (by simpa using hx))]
theorem Gt{rt:Int}{k:ByteArray}:∀{gs:List bC} {j:Nat} {g:bC},j< ja rt k gs→gs[j]?=some g→iY g rt k=true
 | [],j,g,h,_=>by simp [ja] at h
 |x::r,j,g,h,hg=>by
  unfold ja at h;split at h
  ·rename_i hx
   cases j with
   |zero=>simp at hg;subst hg;exact hx
   |succ j=>exact Gt (gs:=r) (j:=j) (by omega) (by simpa using hg)
  ·omega
theorem OD{rt:Int}{k:ByteArray}:∀{gs:List bC} {g:bC},gs[ja rt k gs]?=some g→iY g rt k=false
 | [],g,h=>by simp at h
 |x::r,g,h=>by
  unfold ja at h;split at h
  ·exact OD (gs:=r) (by simpa using h)
  ·rename_i hx;simp at h;subst h;simpa using hx
theorem NU(a:bC)(rt:Int)(k:ByteArray):(ql a rt k==0)=(decide (a.1=rt)&&decide (a.2.1=k)):=by
 unfold ql;by_cases h:a.1=rt
 ·rw [if_pos h,decide_eq_true h,Bool.true_and];by_cases hk:a.2.1=k
  ·rw [uU.2 hk,decide_eq_true hk];rfl
  ·rw [decide_eq_false hk];exact beq_eq_false_iff_ne.2 (fun e=>hk (uU.1 e))
 ·rw [if_neg h,decide_eq_false h,Bool.false_and];exact beq_eq_false_iff_ne.2 (by omega)
def GSm(gs:List bC):Prop:=∀g∈gs,0≤g.1∧g.1≤1048576
theorem bsearch(gs:List bC)(hl:gs.length≤1000)(hs:GSm gs)(hu:JM gs)(rt:Int)(hr:0≤rt∧rt≤1048576)(k:ByteArray):
  aB qX ((k,(gs.length:Int),0,(gs.length:Int),()),gs,(rt,()),())=some ((k,(ja rt k gs:Int),(gs.length:Int),()),gs,(rt,()),()):=by
 have hup:=List.pairwise_iff_getElem.1 hu
 have mono:∀(a b:Nat) (x y:bC),gs[a]?=some x→gs[b]?=some y→a≤b→iY x rt k=false→iY y rt k=false:=by
  intro a b x y ha hb hab hx;by_cases e:a=b
  ·subst e;rw [ha] at hb;injection hb with hb;subst hb;exact hx
  ·obtain⟨h1,h1'⟩:=List.getElem?_eq_some_iff.1 ha;obtain⟨h2,h2'⟩:=List.getElem?_eq_some_iff.1 hb;have:=hup a b h1 h2 (by omega);rw [h1',h2'] at this;cases hy:iY y rt k
   ·rfl
   ·rw [wM.2 (EC this (wM.1 hy))] at hx;cases hx
 have go:∀(d lo hi:Nat),hi - lo≤d→lo≤hi→hi≤gs.length→(∀(j:Nat) g,j< lo→gs[j]?=some g→iY g rt k=true) →(∀(j:Nat) g,hi≤j→gs[j]?=some g→iY g rt k=false) →
   aB qX ((k,(hi:Int),(lo:Int),(gs.length:Int),()),gs,(rt,()),())=some ((k,(ja rt k gs:Int),(gs.length:Int),()),gs,(rt,()),()):=by
  intro d
  induction d with
  |zero=>
   intro lo hi h0 h1 h2 h3 h4;have:lo=hi:=by omega
   subst this;rw [Jb h2 h3 h4];refine aF ?_;simp only [qX,dG,au,sS]
  |succ d ih=>
   intro lo hi h0 h1 h2 h3 h4;by_cases hlt:lo< hi
   ·have hm:=half lo hi (by omega);have hmid:(lo+hi)/ 2< gs.length:=by omega
    obtain⟨e,he⟩:=getD_some hmid;have dl:decide ((lo:Int)< (hi:Int))=true:=decide_eq_true (by omega);have d1:decide ((0:Int) ≤1)=true:=rfl;have d2:decide ((0:Int) ≤(((lo+hi)/ 2:Nat):Int) ∧(((lo+hi)/ 2:Nat):Int)< (gs.length:Int))=true:=decide_eq_true (by omega);have hw:aT ((((lo+hi)/ 2:Nat):Int)+1)=(((lo+hi)/ 2+1:Nat):Int):=aI (by omega);have q:=NM e rt k (hs e (List.mem_of_getElem? he)) hr;cases hc:iY e rt k
    ·have dc:decide (ql e rt k< 0)=false:=by rw [AY,hc]
     rw [←ih lo ((lo+hi)/ 2) (by omega) (by omega) (by omega) h3 (fun j m hj hjm=>mono _ j e m he hjm hj hc)];refine aN ?_;simp only [qX,dl,d1,hm,d2,Int.toNat_natCast,he,q,dc,au,sS]
    ·have dc:decide (ql e rt k< 0)=true:=by rw [AY,hc]
     rw [←ih ((lo+hi)/ 2+1) hi (by omega) (by omega) h2 (fun j m hj hjm=>by
      cases hx:iY m rt k
      ·exact absurd (mono j _ m e hjm he (by omega) hx) (by rw [hc];simp)
      ·rfl) h4]
     refine aN ?_;simp only [qX,dl,d1,hm,d2,Int.toNat_natCast,he,q,dc,hw,au,sS]
   ·have:lo=hi:=by omega
    subst this;rw [Jb h2 h3 h4];refine aF ?_;simp only [qX,dG,au,sS]
 exact go _ 0 gs.length (Nat.le_refl _) (Nat.zero_le _) (Nat.le_refl _) (fun j m hj=>by omega) (fun j m hj hjm=>by
  have:=(List.getElem?_eq_some_iff.1 hjm).1;omega)
def newG(rt:Int)(k:ByteArray):bC:=(rt,k,[],-1,-1,())
def BD(p:cZ)(a:Gc)(i:Nat):ByteArray:=xP (Dm p i) a.2.1
def XL(p:cZ)(a:Gc)(gs:List bC)(i:Nat):List bC:=
 if Cm i (BD p a i) gs=true then gs else gs.take (ja i (BD p a i) gs)++ [newG i (BD p a i)]++gs.drop (ja i (BD p a i) gs)
def VU(p:cZ)(a:Gc)(gs:List bC)(i:Nat):Int×Nl×List bJ:=
 nS (((XL p a gs i)[ja i (BD p a i) gs]?).getD (newG 0 ByteArray.empty)) (Dm p i) a.2.1 a.2.2.1 a.1
def Bz(p:cZ)(a:Gc)(gs:List bC)(i:Nat):Option (List bC):=
 if Cm i (BD p a i) gs=false∧a.2.2.1=false then some gs
 else if(VU p a gs i).1≠0 then none else some ((XL p a gs i).set (ja i (BD p a i) gs) (vT (VU p a gs i).2.1 (VU p a gs i).2.2))
theorem Mi{rt:Int}(k:ByteArray)(h:0≤rt):VG (newG rt k):=⟨Nat.zero_le _,h,⟨by show(-1:Int) ≤ -1;omega,by show(-1:Int) ≤8589934592;omega⟩,⟨by show(-1:Int) ≤ -1;omega,by show(-1:Int) ≤8589934592;omega⟩,fun m hm=>(by cases hm),List.Pairwise.nil⟩
structure Af(p:cZ)(gs:List bC)(n:Nat):Prop where
 nT:JJ p gs
 up:JM gs
 len:gs.length≤n
theorem Af.small{p:cZ}{gs:List bC}{n:Nat}(h:Af p gs n)(hp:p.1.length≤24):GSm gs:=by
 intro g hg;obtain⟨hv,r,hr,_⟩:=h.nT g hg;have h1:=hv.rt;have:=(List.getElem?_eq_some_iff.1 hr).1;exact⟨h1,by omega⟩
theorem MB(p:cZ)(a:Gc)(gs:List bC)(i:Nat):∃g,(XL p a gs i)[ja i (BD p a i) gs]?=some g∧g.1=i∧g.2.1=BD p a i∧(g∈gs∨g=newG i (BD p a i)):=by
 unfold XL;cases hh:Cm i (BD p a i) gs
 ·rw [if_neg (by simp)];refine⟨newG i (BD p a i),?_,rfl,rfl,.inr rfl⟩;have hle:=Jd i (BD p a i) gs;rw [List.append_assoc,List.getElem?_append_right (by rw [List.length_take];omega),List.length_take,show ja i (BD p a i) gs - min (ja i (BD p a i) gs) gs.length=0 by omega];rfl
 ·rw [if_pos rfl];unfold Cm at hh
  cases hg:gs[ja i (BD p a i) gs]? with
  |none=>rw [hg] at hh;cases hh
  |some g=>
   rw [hg] at hh;simp only [Bool.and_eq_true,decide_eq_true_eq] at hh;exact⟨g,rfl,hh.1,hh.2,.inl (List.mem_of_getElem? hg)⟩
theorem LF{g:bC}{r:dz}{l:List LT}{on:Bool}{t:Int}(h:(nS g r l on t).1=0):(nS g r l on t).2.1.1=g.1∧(nS g r l on t).2.1.2.1=g.2.1:=by
 unfold nS at h ⊢;dsimp only at h ⊢;by_cases hh:hit (gX (fC l)) (aL g)=true
 ·rw [if_pos hh] at h ⊢;obtain⟨m,hm,_⟩:=yK hh;rw [hm] at h ⊢;dsimp only at h ⊢;split
  ·exact⟨rfl,rfl⟩
  ·split
   ·exact⟨rfl,rfl⟩
   ·split<;>exact⟨rfl,rfl⟩
 ·rw [if_neg hh] at h ⊢;split
  ·rename_i hon;rw [if_pos hon] at h;split
   ·rename_i hl;rw [if_pos hl] at h;cases h
   ·exact⟨rfl,rfl⟩
  ·exact⟨rfl,rfl⟩
theorem Zm{gs:List bC}(hu:JM gs)(rt:Int)(k:ByteArray)(hh:Cm rt k gs=false):JM (gs.take (ja rt k gs)++ [newG rt k]++gs.drop (ja rt k gs)):=by
 have hu':=hu;unfold JM at hu' ⊢;rw [List.append_assoc,List.pairwise_append];rw [←List.take_append_drop (ja rt k gs) gs,List.pairwise_append] at hu'
 have ha:∀x∈gs.take (ja rt k gs),LG x rt k:=fun x hx=>by
  obtain⟨j,hj,rfl⟩:=List.mem_take_iff_getElem.1 hx;exact wM.1 (Gt (j:=j) (by omega) (List.getElem?_eq_getElem _))
 have hb:∀x∈gs.drop (ja rt k gs),LG (newG rt k) x.1 x.2.1:=fun x hx=>by
  have hnot:∀y,gs[ja rt k gs]?=some y→LG (newG rt k) y.1 y.2.1:=fun y hy=>by
   have h1:=OD hy;unfold Cm at hh;rw [hy] at hh;simp only [Bool.and_eq_false_iff,decide_eq_false_iff_not] at hh;have h2:¬ LG y rt k:=fun h=>by rw [wM.2 h] at h1;cases h1
   unfold LG at h2 ⊢
   show rt< y.1∨(rt=y.1∧Lt k y.2.1)
   by_cases e:y.1=rt
   ·rcases hh with hh|hh
    ·exact absurd e hh
    ·rcases IU k y.2.1 with h|h|h
     ·exact .inr ⟨e.symm,h⟩
     ·exact absurd h.symm hh
     ·exact absurd (.inr ⟨e,h⟩) h2
   ·exact .inl (by
     have:¬ y.1< rt:=fun h=>h2 (.inl h)
     omega)
  obtain⟨j,hj,rfl⟩:=List.mem_drop_iff_getElem.1 hx;have hil:ja rt k gs< gs.length:=by omega
  have h0:=hnot _ (List.getElem?_eq_getElem hil);by_cases e:j=0
  ·subst e;exact h0
  ·have:=(List.pairwise_iff_getElem.1 hu) (ja rt k gs) (ja rt k gs+j) hil (by omega) (by omega);exact EC h0 this
 refine⟨hu'.1,?_,fun x hx y hy=> ?_⟩
 ·rw [List.singleton_append];exact List.pairwise_cons.2 ⟨hb,hu'.2.1⟩
 ·rw [List.singleton_append] at hy;rcases List.mem_cons.1 hy with rfl|hy
  ·exact ha x hx
  ·exact hu'.2.2 x hx y hy
theorem Zf{gs:List bC}(hu:JM gs){i:Nat}{g x:bC}(hg:gs[i]?=some g)(h1:x.1=g.1)(h2:x.2.1=g.2.1):JM (gs.set i x):=by
 unfold JM at hu ⊢;rw [List.pairwise_iff_getElem] at hu ⊢;obtain⟨hil,hig⟩:=List.getElem?_eq_some_iff.1 hg
 have rd:∀(j:Nat) (hj:j< (gs.set i x).length),(gs.set i x)[j].1=(gs[j]'(by simpa using hj)).1∧(gs.set i x)[j].2.1=(gs[j]'(by simpa using hj)).2.1:=by
  intro j hj;rw [List.getElem_set];split
  ·rename_i e;subst e;rw [hig];exact⟨h1,h2⟩
  ·exact⟨rfl,rfl⟩
 intro a b ha hb hab;have:=hu a b (by simpa using ha) (by simpa using hb) hab;unfold LG at this ⊢;rw [(rd a ha).1,(rd a ha).2,(rd b hb).1,(rd b hb).2];exact this
theorem Gq{p:cZ}{a:Gc}{gs gs':List bC}{n i:Nat}(h:Af p gs n)(hi:∃r,p.1[i]?=some r∧RR r)(hl:cB a.2.1=true)(ht:0≤a.1∧a.1≤8589934592)(e:Bz p a gs i=some gs'):Af p gs' (n+1):=by
 obtain⟨r,hr,rr⟩:=hi;unfold Bz at e;split at e
 ·cases e;exact⟨h.nT,h.up,Nat.le_trans h.len (Nat.le_succ n)⟩
 ·split at e
  ·cases e
  ·rename_i h0;simp only [ne_eq,Decidable.not_not] at h0;cases e;obtain⟨g,hg,g1,g2,hm⟩:=MB p a gs i;have hre:Dm p ((i:Nat):Int)=r:=xH (by rw [Int.toNat_natCast];exact hr)
   have hv:VG g:=by
    rcases hm with hm|rfl
    ·exact(h.nT g hm).1
    ·exact Mi _ (by omega)
   have ha:VU p a gs i=nS g r a.2.1 a.2.2.1 a.1:=by unfold VU;rw [hg,hre];rfl
   rw [ha] at h0 ⊢;obtain⟨k1,k2⟩:=LF h0;have hx:VG (vT (nS g r a.2.1 a.2.2.1 a.1).2.1 (nS g r a.2.1 a.2.2.1 a.1).2.2):=ZL hv rr hl _ ht
   have inv:Af p (XL p a gs i) (n+1):=by
    unfold XL;cases hh:Cm i (BD p a i) gs
    ·rw [if_neg (by simp)];refine⟨fun x hx=> ?_,Zm h.up _ _ hh,?_⟩
     ·simp only [List.mem_append,List.mem_singleton] at hx;rcases hx with(hx|rfl)|hx
      ·exact h.nT x (List.mem_of_mem_take hx)
      ·exact⟨Mi _ (by omega),r,by show p.1[((i:Nat):Int).toNat]?=some r;rw [Int.toNat_natCast];exact hr,rr⟩
      ·exact h.nT x (List.mem_of_mem_drop hx)
     ·have:=h.len;simp only [List.length_append,List.length_take,List.length_drop,List.length_singleton];omega
    ·rw [if_pos rfl];exact⟨h.nT,h.up,Nat.le_trans h.len (Nat.le_succ n)⟩
   refine⟨fun x hx'=> ?_,Zf inv.up hg k1 k2,by rw [List.length_set];exact inv.len⟩;rcases mem_set hx' with hx'|rfl
   ·exact inv.nT x hx'
   ·exact⟨hx,r,by
     show p.1[((nS g r a.2.1 a.2.2.1 a.1).2.1.1).toNat]?=some r
     rw [k1,g1,Int.toNat_natCast];exact hr,rr⟩
end Go.Proofs.YtchnmpafhfjimaaGreatDoor
