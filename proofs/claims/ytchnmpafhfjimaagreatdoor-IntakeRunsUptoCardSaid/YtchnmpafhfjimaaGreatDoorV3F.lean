/- Lemmas for the statement of the last text of this claim. -/
import Derived.Test.YtchnmpafhfjimaaGreatDoorV3E
set_option linter.unusedSimpArgs false
set_option linter.unusedVariables false
namespace Go.Proofs.YtchnmpafhfjimaaGreatDoor
open Go Go.Abs Go.Lab
def tK(c:JD)(ms:List bL):bG:=(c.1,c.2.1,ms,c.2.2.1,c.2.2.2.1,())
theorem acg:VG (tK jJ []):=⟨by decide,by decide,by decide,by decide,fun m hm=>(by cases hm),List.Pairwise.nil⟩
theorem key_inj{ms:List bL}(h:(ms.map aL).Pairwise Less){a b:bL}(ha:a∈ms)(hb:b∈ms)(e:aL a=aL b):a=b:=by
 obtain⟨i,hi,rfl⟩:=List.mem_iff_getElem.1 ha;obtain⟨j,hj,rfl⟩:=List.mem_iff_getElem.1 hb;have hp:=List.pairwise_iff_getElem.1 h;rcases Nat.lt_trichotomy i j with hij|hij|hij
 ·have:=hp i j (by rwa [aoY]) (by rwa [aoY]) hij;rw[List.getElem_map,List.getElem_map,e]at this;exact absurd (fH.1 this) (nX _)
 ·subst hij;rfl
 ·have:=hp j i (by rwa [aoY]) (by rwa [aoY]) hij;rw[List.getElem_map,List.getElem_map,e]at this;exact absurd (fH.1 this) (nX _)
theorem XB{ms:List bL}{i:Nat}{m x:bL}(h:ms[i]?=some m)(e:aL x=aL m):(ms.set i x).map aL=ms.map aL:=by
 rw[List.map_set,e];obtain⟨hi,rfl⟩:=aoT.1 h;have:aL ms[i]=(ms.map aL)[i]'(by rwa [aoY]):=by rw[List.getElem_map]
 rw[this,List.set_getElem_self]
theorem mem_set{A:Type}{l:List A}{i:Nat}{x y:A}(h:y∈l.set i x):y∈l∨y=x:=List.mem_or_eq_of_mem_set h
theorem Hy{du se wa ir t:Int}(h1:0≤t∧t≤8589934592)(h2:0≤wa)(h3: -1≤du∧du≤8589934592)(h4: -1≤se)(h5:0≤ir): -1≤gB du se wa ir t∧gB du se wa ir t≤8589934592:=Rw h1 h2 h3 h4 h5
theorem Ui{t:Int}(h: -1≤t): -1≤Ey t∧Ey t≤8589934592:=by unfold Ey;split<;>omega
theorem Rh{se ir rp t:Int}{o:Bool}(h:0≤t): -1≤nU se ir rp t o∧nU se ir rp t o≤8589934592:=by
 unfold nU;exact Ui (by omega)
theorem Im{m:bL}(h:rM m){t:Int}(ht:0≤t∧t≤8589934592):rM (rD m t):=⟨h.lab,h.key,h.since,ht,h.told⟩
theorem step_ok{m:bL}(h:rM m){t:Int}(ht:0≤t∧t≤8589934592)(on:Bool):rM (stepM m on t):=
 ⟨h.lab,h.key,ht,h.heard,by show on=true∨on=false;cases on<;>simp⟩
theorem WO{l:List LT}(hl:dh l=true){t:Int}(ht:0≤t∧t≤8589934592):rM (gL (dU l),l,t,t,true,false,()):=⟨hl,rfl,ht,ht,.inl rfl⟩
theorem af9{g:bG}(h:VG g){r:dw}(hr:RR r){l:List LT}(hl:dh l=true)(on:Bool){t:Int}(ht:0≤t∧t≤8589934592):VG (tK (kW g r l on t).2.1 (kW g r l on t).2.2):=by
 have hw:=Hy ht hr.wait h.due h.sent.1 (by have:=hr.wait;have:=hr.int;omega:(0:Int)≤iH r)
 have hrest:∀ms,-1≤Cc g ms∧Cc g ms≤8589934592:=fun ms=>by
  have:=h.due;unfold Cc;split<;>omega
 have hlen:=h.len;unfold kW;dsimp only;by_cases hh:hit (gL (dU l)) (aN g)=true
 ·rw[if_pos hh];obtain⟨m,hm,hk⟩:=Bw hh;have hmo:=h.mem m (aoX hm);rw[hm];dsimp only
  have hset:∀(x:bL) (d:Int),aL x=aL m→rM x→(-1≤d∧d≤8589934592)→VG (tK (zl g d) ((aN g).set (pos (gL (dU l)) (aN g)) x)):=fun x d hx ho hd=>
   ⟨by show((aN g).set _ x).length≤256;rw[apK];exact hlen,h.rt,hd,h.sent,fun y hy=>by
    rcases mem_set hy with hy|rfl
    ·exact h.mem y hy
    ·exact ho,by show(((aN g).set _ x).map aL).Pairwise Less;rw[XB hm hx];exact h.up⟩
  split
  ·exact hset _ _ rfl (Im hmo ht) h.due
  ·split
   ·exact hset _ _ rfl (step_ok (Im hmo ht) ht true) h.due
   ·split
    ·exact hset _ _ rfl (step_ok (Im hmo ht) ht false) hw
    ·have hsub:((aN g).take (pos (gL (dU l)) (aN g))++(aN g).drop (pos (gL (dU l)) (aN g)+1)).Sublist (aN g):=by
      conv=>rhs;rw[←aqj (pos (gL (dU l)) (aN g)) (aN g)]
      exact(List.Sublist.refl _).append (List.drop_sublist_drop_left _ (by omega))
     exact⟨apI hsub.length_le hlen,h.rt,hrest _,h.sent,fun y hy=>h.mem y (hsub.subset hy),h.up.sublist (hsub.map aL)⟩
 ·rw[if_neg hh];split
  ·split
   ·exact acg
   ·have hp:=FX (gL (dU l)) (aN g);refine⟨?_,h.rt,hw,h.sent,fun y hy=> ?_,?_⟩
    ·show(List.take _ _++_++List.drop _ _).length≤256
     simp;omega
    ·have hy:y∈List.take _ _++ [_]++List.drop _ _:=hy;simp only[apr,apL]at hy;rcases hy with(hy|rfl)|hy
     ·exact h.mem y (List.mem_of_mem_take hy)
     ·exact WO hl ht
     ·exact h.mem y (List.mem_of_mem_drop hy)
    ·show((List.take (pos (gL (dU l)) (aN g)) (aN g)++ [(gL (dU l),l,t,t,true,false,())]++List.drop (pos (gL (dU l)) (aN g)) (aN g)).map aL).Pairwise Less
     rw[ap0,ap3,ap3,List.pairwise_append];have hup:=h.up;rw[←aqj (pos (gL (dU l)) (aN g)) (aN g),ap3,List.pairwise_append]at hup;have ha:∀m∈(aN g).take (pos (gL (dU l)) (aN g)),Lt (aL m) (gL (dU l)):=AJ;have hb:=Il h.up (by simpa using hh:hit (gL (dU l)) (aN g)=false);refine⟨hup.1,?_,fun a ha' b hb'=> ?_⟩
     ·rw[apw,apA,aqk];refine aqm.2 ⟨fun k hk=> ?_,hup.2.1⟩;obtain⟨m,hm,rfl⟩:=apR.1 hk;exact fH.2 (hb m hm)
     ·obtain⟨m,hm,rfl⟩:=apR.1 ha';rw[apw,apA,aqk]at hb';rcases apD.1 hb' with rfl|hb'
      ·exact fH.2 (ha m hm)
      ·obtain⟨m',hm',rfl⟩:=apR.1 hb';exact fH.2 (lt_trans (ha m hm) (hb m' hm'))
  ·exact⟨hlen,h.rt,hrest _,h.sent,h.mem,h.up⟩
theorem F6{se wa ir t a:Int}(ht:0≤t∧t≤8589934592)(hwa:0≤wa)(hir:0≤ir)(hse: -1≤se):∀(rem kept:List bL) (du:Int),(∀m∈kept++rem,rM m)→((kept++rem).map aL).Pairwise Less→(-1≤du∧du≤8589934592)→
  (∀m∈(j4 se wa ir t a kept du rem).1,rM m)∧(((j4 se wa ir t a kept du rem).1).map aL).Pairwise Less∧(-1≤(j4 se wa ir t a kept du rem).2∧(j4 se wa ir t a kept du rem).2≤8589934592)∧(j4 se wa ir t a kept du rem).1.length≤kept.length+rem.length
 | [],kept,du,h1,h2,h3=>by rw[ap6]at h1 h2;exact⟨h1,h2,h3,ape _⟩
 |m::rem,kept,du,h1,h2,h3=>by
  have e:∀x:bL,kept++ [x]++rem=kept++x::rem:=fun x=>by rw[ap0];rfl
  have hm:rM m:=h1 m (by simp)
  have put:∀x:bL,aL x=aL m→rM x→(∀y∈kept++ [x]++rem,rM y)∧((kept++ [x]++rem).map aL).Pairwise Less:=fun x hx ho=>by
   rw[e];refine⟨fun y hy=> ?_,?_⟩
   ·rcases apr.1 hy with hy|hy
    ·exact h1 y (List.mem_append_left _ hy)
    ·rcases apD.1 hy with rfl|hy
     ·exact ho
     ·exact h1 y (List.mem_append_right _ (aqc _ hy))
   ·rw[ap3,apw,hx];rw[ap3,apw]at h2;exact h2
  unfold j4;split
  ·split
   ·obtain⟨p1,p2⟩:=put (stepM m false t) rfl (step_ok hm ht false);obtain⟨a1,a2,a3,a4⟩:=F6 ht hwa hir hse rem (kept++ [stepM m false t]) (gB du se wa ir t) p1 p2 (Hy ht hwa h3 hse hir);exact⟨a1,a2,a3,by simp at a4 ⊢;omega⟩
   ·have hs:(kept++rem).Sublist (kept++m::rem):=(List.Sublist.refl _).append (List.sublist_cons_self _ _);obtain⟨a1,a2,a3,a4⟩:=F6 (a:=a) ht hwa hir hse rem kept (if(kept++rem).length=0 then -1 else du) (fun y hy=>h1 y (hs.subset hy)) (h2.sublist (hs.map aL)) (by split<;>omega);exact⟨a1,a2,a3,by have:(m::rem).length=rem.length+1:=rfl;omega⟩
  ·obtain⟨p1,p2⟩:=put m rfl hm;obtain⟨a1,a2,a3,a4⟩:=F6 (a:=a) ht hwa hir hse rem (kept++ [m]) du p1 p2 h3;exact⟨a1,a2,a3,by simp at a4 ⊢;omega⟩
theorem afW{g:bG}(h:VG g){r:dw}(hr:RR r){t:Int}(a:Int)(ht:0≤t∧t≤8589934592):VG (tK (yw g r t a).2.1 (yw g r t a).2.2):=by
 have hlen:=h.len;unfold yw;split
 ·exact⟨hlen,h.rt,h.due,h.sent,h.mem,h.up⟩
 ·obtain⟨a1,a2,a3,a4⟩:=F6 (a:=a) ht hr.wait (by have:=hr.wait;have:=hr.int;omega:(0:Int)≤iH r) h.sent.1 (aN g) [] (dZ g) h.mem h.up h.due;exact⟨by simp only[List.length_nil,apG]at a4;exact apI a4 hlen,h.rt,a3,h.sent,a1,a2⟩
theorem Ay{mu:List ByteArray}{k:ByteArray}:Bj mu k=true↔k∈mu:=by
 unfold Bj;rw[List.any_eq_true];constructor
 ·rintro⟨x,hx,e⟩;have:x=k:=by simpa using e
  exact this ▸ hx
 ·exact fun h=>⟨k,h,by simp⟩
theorem ach{mu:List ByteArray}{k:ByteArray}(h:k∉mu):Bj mu k=false:=by
 cases hc:Bj mu k
 ·rfl
 ·exact absurd (Ay.1 hc) h
theorem ab0{mu:List ByteArray}{ms:List bL}{k:ByteArray}:k∈fF mu ms↔∃m∈ms,aL m=k∧k∉mu∧cK m=true:=by
 unfold fF;rw[apR];constructor
 ·rintro⟨m,hm,rfl⟩;rw[aqt,apo,aqv]at hm;exact⟨m,hm.1,rfl,fun hc=>by rw[Ay.2 hc]at hm;exact absurd hm.2.1 (by simp),hm.2.2⟩
 ·rintro⟨m,hm,rfl,h1,h2⟩;refine⟨m,aqt.2 ⟨hm,?_⟩,rfl⟩;rw[apo,aqv];exact⟨ach h1,h2⟩
theorem Yk(F R:List ByteArray)(ms:List bL):(lK F R ms).map aL=(ms.filter fun m=> !Bj R (aL m)).map aL:=by
 unfold lK;rw[aqd];rfl
theorem RL{F R:List ByteArray}{ms:List bL}{x:bL}:x∈lK F R ms↔∃m∈ms,aL m∉R∧x=kK F m:=by
 unfold lK;rw[apR];constructor
 ·rintro⟨m,hm,rfl⟩;rw[aqt,aqv]at hm;exact⟨m,hm.1,fun hc=>by rw[Ay.2 hc]at hm;exact absurd hm.2 (by simp),rfl⟩
 ·rintro⟨m,hm,h1,rfl⟩;refine⟨m,aqt.2 ⟨hm,?_⟩,rfl⟩;cases hc:Bj R (aL m)
  ·rfl
  ·exact absurd (Ay.1 hc) h1
theorem afc{g:bG}(h:VG g)(mu:List ByteArray)(R:List ByteArray)(du se:Int)(hd: -1≤du∧du≤8589934592)(hs: -1≤se∧se≤8589934592):VG (tK (g.1,g.2.1,du,se,()) (lK (fF mu (aN g)) R (aN g))):=by
 refine⟨apI (Gs _ _ _) h.len,h.rt,hd,hs,fun x hx=> ?_,?_⟩
 ·obtain⟨m,hm,_,rfl⟩:=RL.1 hx;have ho:=h.mem m hm;refine⟨ho.lab,ho.key,ho.since,ho.heard,?_⟩
  show cK m=true∨(dY m||Bj (fF mu (aN g)) (aL m))=false
  rcases ho.told with hf|hf
  ·exact .inl hf
  ·cases hc:Bj (fF mu (aN g)) (aL m)
   ·exact .inr (by rw[hf];rfl)
   ·obtain⟨m',hm',e,_,hf'⟩:=ab0.1 (Ay.1 hc);rw[key_inj h.up hm' hm e]at hf';exact .inl hf'
 ·show((lK _ _ _).map aL).Pairwise Less
  rw[Yk];exact h.up.sublist ((List.filter_sublist).map aL)
theorem aaJ{g:bG}(h:VG g)(r:dw){t:Int}(mu:List ByteArray)(ht:0≤t∧t≤8589934592):VG (tK (j6 g r t mu).2.1 (j6 g r t mu).2.2.2.1):=by
 have hn:∀(ms:List bL) se o,-1≤(if ms.length=0 then -1 else nU se (iH r) (oM r) t o)∧(if ms.length=0 then -1 else nU se (iH r) (oM r) t o)≤8589934592:=fun ms se o=>by
  have:=Rh (se:=se) (ir:=iH r) (rp:=oM r) (o:=o) ht.1;split<;>omega
 unfold j6;split
 ·exact⟨h.len,h.rt,h.due,h.sent,h.mem,h.up⟩
 ·dsimp only;split
  ·exact afc h mu _ _ _ (hn _ _ _) (by omega)
  ·exact⟨h.len,h.rt,hn _ _ _,h.sent,h.mem,h.up⟩
theorem afr(l:List LT)(h:l.length≤big):m49 ((l,l,()),())=some ((true,()),()):=by
 unfold big at h;have hl:=dL (f:=F7) l (fun i=>(((i:Int),l,l,()),())) (.inr ((),())) ?_ ?_
 ·unfold m49;have:(((l.length:Int):Int) !=(l.length:Int))=false:=ap4 _;simp only[this,aA,sS];exact aM _ hl rfl
 ·intro i e he hi;have hw:aP ((i:Int)+1)=((i+1:Nat):Int):=aI (by omega)
  have h1:∀b:ByteArray,(b==b)=true:=fun b=>by
   show(b.data==b.data)=true
   exact apW _
  simp only[F7,bQ hi,aJ,aG he,h1,Bool.and_self,apv,hw,aA,sS]
 ·simp only[F7,cO,aA,sS]
theorem afS(g:bG)(h1:(aN g).length≤big)(h2:∀m∈aN g,(bK m).length≤big):m54 ((g,g,()),())=some ((true,()),()):=by
 unfold big at h1;obtain⟨rt,ky,ms,du,se,⟨⟩⟩:=g;dsimp only[aN]at h1 h2;have hl:=dL (f:=F5) ms (fun i=>(((i:Int),()),(((rt,ky,ms,du,se,()),()),((rt,ky,ms,du,se,()),()),()))) (.inr ((),())) ?_ ?_
 ·unfold m54;have bb:(!(ky.toList==ky.toList))=false:=by simp
  simp only[bb,aA,sS];exact aM _ hl rfl
 ·intro i e he hi;have hw:aP ((i:Int)+1)=((i+1:Nat):Int):=aI (by omega);have q:=afr e.2.1 (h2 e (aoX he));have bb:(!(e.1.toList==e.1.toList))=false:=by simp
  have b2:(!(e.2.2.2.2.1==e.2.2.2.2.1))=false:=by simp
  have b3:(!(e.2.2.2.2.2.1==e.2.2.2.2.2.1))=false:=by simp
  simp only[F5,bQ hi,aJ,aG he,q,bb,b2,b3,hw,aA,sS]
 ·simp only[F5,cO,aA,sS]
theorem agD(n:Ji)(F R:List ByteArray)(h1:F.length≤big)(h2:R.length≤big):m55 (((n.1,n.2.1,n.2.2.1,n.2.2.2.1,F,R,()),(n.1,n.2.1,n.2.2.1,n.2.2.2.1,F,R,()),()),())=some ((true,()),()):=by
 unfold big at h1 h2;obtain⟨a,b,c,d,⟨⟩⟩:=n;dsimp only;have hl:=dL (f:=Fa) F (fun i=>(((i:Int),()),(((a,b,c,d,F,R,()),()),((a,b,c,d,F,R,()),()),()))) (.inr ((),(((a,b,c,d,F,R,()),()),((a,b,c,d,F,R,()),()),()))) ?_ ?_
 ·have hl2:=dL (f:=Fe) R (fun i=>(((i:Int),()),(((a,b,c,d,F,R,()),()),((a,b,c,d,F,R,()),()),()))) (.inr ((),())) ?_ ?_
  ·unfold m55;have bb:(!(d.toList==d.toList))=false:=by simp
   simp only[bb,aA,sS];refine aM _ hl ?_;simp only[aA,sS];exact aM _ hl2 rfl
  ·intro i e he hi;have hw:aP ((i:Int)+1)=((i+1:Nat):Int):=aI (by omega);have bb:(!(e.toList==e.toList))=false:=by simp
   simp only[Fe,bQ hi,aJ,aG he,bb,hw,aA,sS]
  ·simp only[Fe,cO,aA,sS]
 ·intro i e he hi;have hw:aP ((i:Int)+1)=((i+1:Nat):Int):=aI (by omega);have bb:(!(e.toList==e.toList))=false:=by simp
  simp only[Fa,bQ hi,aJ,aG he,bb,hw,aA,sS]
 ·simp only[Fa,cO,aA,sS]
end Go.Proofs.YtchnmpafhfjimaaGreatDoor
namespace Go.Proofs.YtchnmpafhfjimaaGreatDoor
open Go Go.Abs Go.Lab
end Go.Proofs.YtchnmpafhfjimaaGreatDoor
namespace Go.Proofs.YtchnmpafhfjimaaGreatDoor
open Go Go.Abs
abbrev dI:Type:=List dw×List y8×Int×Unit
abbrev InT:Type:=Int×List bG×List jD×Int×Unit
abbrev nk:Type:=Int×List LT×Bool×Unit
abbrev bV(s:InT):Int:=s.1
abbrev aY(s:InT):List bG:=s.2.1
abbrev bP(s:InT):List jD:=s.2.2.1
abbrev dD(s:InT):Int:=s.2.2.2.1
structure yF(p:dI):Prop where
 rt:Q0 p.1
 inl:p.2.1.length≤big
 inh:∀r∈p.2.1,TSz r
 rs:VU p.2.1
def uN(p:dI):Int:=if jU p.1≠0 then jU p.1 else if wR p.2.1≠0 then wR p.2.1 else if p.2.2.1<0∨p.2.2.1>604800 then 1 else 0
theorem Rz(p:dI)(hp:yF p):m34 ((p,()),())=some ((uN p,()),()):=by
 unfold m34 uN;refine aM _ (Le p.1 hp.rt) ?_;by_cases h1:jU p.1=0
 ·simp only[h1,ap4,apY,ne_eq,not_true_eq_false,if_false];refine aM _ (aeD p.2.1 hp.inl hp.inh) ?_;by_cases h2:wR p.2.1=0
  ·simp only[h2,ap4,apY,not_true_eq_false,if_false];by_cases h3:p.2.2.1<0
   ·simp[h3]
   ·by_cases h4:p.2.2.1>604800<;>simp[h3,h4]
  ·simp only[apO.2 h2,cond_true,h2,aq5,if_true]
 ·simp only[apO.2 h1,cond_true,ne_eq,h1,aq5,if_true]
theorem PL(p:dI)(hp:yF p):m35 ((p,()),())=some ((uN p,()),()):=by
 unfold m35 uN;refine aM _ (KZ p.1 hp.rt) ?_;by_cases h1:jU p.1=0
 ·simp only[h1,ap4,apY,ne_eq,not_true_eq_false,if_false];refine aM _ (agw p.2.1 hp.inl hp.inh) ?_;by_cases h2:wR p.2.1=0
  ·simp only[h2,ap4,apY,not_true_eq_false,if_false];by_cases h3:p.2.2.1<0
   ·simp[h3]
   ·by_cases h4:p.2.2.1>604800<;>simp[h3,h4]
  ·simp only[apO.2 h2,cond_true,h2,aq5,if_true]
 ·simp only[apO.2 h1,cond_true,ne_eq,h1,aq5,if_true]
theorem iP{p:dI}(h:uN p=0):jU p.1=0∧wR p.2.1=0∧0≤p.2.2.1∧p.2.2.1≤604800:=by
 unfold uN at h;split at h
 ·rename_i h1;exact absurd h h1
 ·rename_i h1;split at h
  ·rename_i h2;exact absurd h h2
  ·rename_i h2;split at h
   ·cases h
   ·rename_i h3;exact⟨by simpa using h1,by simpa using h2,by omega,by omega⟩
theorem VL{r:dw}(h:gM r=0):yY r=true:=by
 unfold yY
 have e:gM (strip r)=0:=by
  unfold gM strip at *;cases h1:(decide ((r.2.1.length:Int)>8)||decide ((r.2.2.2.1.length:Int)>12))
  ·rw[h1]at h;cases h2:(!r.2.1.all bB|| !jB r.2.2.2.1)
   ·rw[h2]at h;simp only[apM]at h1 h2;simp only[h1.2,h2.2,List.length_nil,List.all_nil];exact h
   ·rw[h2]at h;cases h
  ·rw[h1]at h;cases h
 rw[e];rfl
theorem Bc{l:List dw}(hl:Q0 l)(h:jU l=0):∀r∈l,RR r:=by
 intro r hr;refine ajw (hl.2 r hr) (VL ?_);unfold jU at h;cases h0:((l.length:Int)==0)
 ·rw[h0]at h;cases h1:decide ((l.length:Int)>24)
  ·rw[h1]at h
   have h2:Cm tJ 0 l=0:=by
    cases h2:(Cm tJ 0 l !=0)
    ·simpa using h2
    ·rw[h2]at h;simp only[apY,cond_true]at h;rw[h]at h2;cases h2
   obtain⟨k,hk,rfl⟩:=List.mem_iff_getElem.1 hr;have:=vN h2 k _ (apc hk);unfold tJ at this;cases hb:lY (0+k) l[k]
   ·rw[hb]at this;exact this
   ·rw[hb]at this;cases this
  ·rw[h1]at h;cases h
 ·rw[h0]at h;cases h
theorem nG{l:List dw}(h:jU l=0):l.length≤24:=by
 unfold jU at h;cases h0:((l.length:Int)==0)
 ·rw[h0]at h;cases h1:decide ((l.length:Int)>24)
  ·have:=aqs h1;omega
  ·rw[h1]at h;cases h
 ·rw[h0]at h;cases h
def jh(rs:List dw)(now:Int)(g:bG):Bool:=
 decide ((aN g).length=0)&&(decide (bU g= -1)||match rs[g.1.toNat]? with|some r=>decide (bU g+iH r≤now)|none=>false)
theorem Ql(p:dI)(g:bG)(now:Int)(hg:VG g){r:dw}(h:p.1[g.1.toNat]?=some r)(hr:RR r):m83 ((p,g,now,()),())=some ((jh p.1 now g,()),()):=by
 have h1:=hg.sent;have h2:=hg.rt;have h3:=hr.int;have h4:=hr.RS;have h5:=hr.max;have h6:=hr.wait;obtain⟨rt,ky,ms,du,se,⟨⟩⟩:=g;dsimp only[bU,iH,iW,oM]at h h1 h2 h3 h4 h5 h6;have hw:aP (se+r.2.2.2.2.2.1)=se+r.2.2.2.2.2.1:=bH (by omega) (by omega);unfold m83 af6 jh;dsimp only[aN,bU];simp only[aJ,gV h2 h,hw];rw[h]
 have e0:((ms.length:Int)==0)=decide (ms.length=0):=by
  by_cases h:ms.length=0
  ·simp[h]
  ·rw[apn.2 (by omega),aoU h]
 simp only[e0,apH,dX];cases decide (ms.length=0)<;>cases decide (se= -1)<;>rfl
theorem Xv(p:dI)(g:bG)(now:Int)(hg:VG g){r:dw}(h:p.1[g.1.toNat]?=some r)(hr:RR r):m89 ((p,g,now,()),())=some ((jh p.1 now g,()),()):=Ql p g now hg h hr
def iV(a:bG)(rt:Int)(k:ByteArray):Bool:=decide (a.1<rt)||(decide (a.1=rt)&&Op.bytesLess a.2.1.toList k.toList)
def rG(a:bG)(rt:Int)(k:ByteArray):Int:=if a.1=rt then EF a.2.1 k else a.1-rt
theorem RA(a:bG)(rt:Int)(k:ByteArray)(h1:0≤a.1∧a.1≤1048576)(h2:0≤rt∧rt≤1048576):m84 ((a,rt,k,()),())=some ((rG a rt k,()),()):=by
 unfold m84 rG;by_cases h:a.1=rt
 ·simp only[h,ap4,apY,if_true];refine aM _ (TU a.2.1 k) rfl
 ·simp only[apO.2 h,cond_true,if_neg h,bH (x:=a.1-rt) (by omega) (by omega)]
theorem Cu(a:bG)(rt:Int)(k:ByteArray):decide (rG a rt k<0)=iV a rt k:=by
 unfold rG iV EF;by_cases h:a.1=rt
 ·simp only[h,if_true,Int.lt_irrefl,aqn,aqg,apB,apf];cases Op.bytesLess a.2.1.toList k.toList
  ·simp only[apj,if_false];split<;>rfl
  ·rfl
 ·rw[if_neg h];simp only[h,aqn,apX,aph];exact aqb.2 (by omega)
theorem YK(a:bG)(rt:Int)(k:ByteArray):m90 ((a,rt,k,()),())=some ((iV a rt k,()),()):=by
 unfold m90 iV;by_cases h1:a.1<rt
 ·simp[h1]
 ·by_cases h2:a.1=rt
  ·simp[h1,h2]
  ·simp[h1,h2,apn.2 h2]
def zB(now t:Int):Int:=if t<now then 6 else if t>8589934592 then 1 else 0
theorem yT{A B E:Type}{f:A→Option (A⊕B)}(l:List E)(st:Nat→A)(p:E→Bool)(no:Nat→B)(yes:B)
  (h1:∀i e,l[i]?=some e→i<l.length→f (st i)=some (bif p e then .inl (st (i+1))else .inr (no i))) (h2:f (st l.length)=some (.inr yes)):
  ∃j:Nat,aC f (st 0)=some (bif l.all p then yes else no j):=by
 have key:∀(k i:Nat),i+k=l.length→∃j:Nat,aC f (st i)=some (bif (l.drop i).all p then yes else no j):=by
  intro k
  induction k with
  |zero=>
   intro i h;obtain rfl:i=l.length:=by omega
   rw[apP];exact⟨0,aD h2⟩
  |succ k ih=>
   intro i h;obtain⟨e,he,hd⟩:=drop_at (l:=l) (i:=i) (by omega);have q:=h1 i e he (by omega);rw[hd,List.all_cons];cases hb:p e
   ·rw[hb]at q;exact⟨i,aD q⟩
   ·rw[hb]at q;rw[apB];obtain⟨j,hj⟩:=ih (i+1) (by omega);exact⟨j,(aK q).trans hj⟩
 have:=key l.length 0 (by omega);rw[ap2]at this;exact this
def zy(rs:List dw)(g:bG)(m:bL):ByteArray:=match rs[g.1.toNat]? with|some r=>AL r (bK m)|none=>ByteArray.empty
def rT(p:dI)(now:Int)(q:Option bG)(g:bG):Bool:=
 decide (g.1≥(p.1.length:Int))||(jh p.1 now g||((match q with|none=>false|some a=> !iV a g.1 g.2.1)|| !(aN g).all fun m=>decide (zy p.1 g m=g.2.1)))
def kR(p:dI)(s:InT):Bool:=
 decide (uN p=0)&&(inst (bV s)&&(decide ((aY s).length≤64)&&(decide (Et (bP s)=0)&&(decide (1≤dD s)&&((bP s).all (fun x=>decide (x.1<dD s))&&sP (rT p (bV s)) none (aY s))))))
structure ve(s:InT):Prop where
 len:(aY s).length≤1048576
 tK:∀g∈aY s,VG g∧g.1≤1048576
 M9:Jm (bP s)
theorem H9{l:List dw}{g:bG}(hg:VG g)(h:¬ g.1≥(l.length:Int)):∃r,l[g.1.toNat]?=some r:=by
 have:=hg.rt;exact⟨_,apc (by omega)⟩
theorem afb(p:dI){g:bG}(hg:VG g){r:dw}(h:p.1[g.1.toNat]?=some r)(hz:r.2.2.2.1.length≤big)(p0:Int):
  ∃j:Nat,aC Bf (((0:Int),aN g,((aN g).length:Int),()),((p,()),((g,()),())))=
   some (bif (aN g).all (fun m=>decide (zy p.1 g m=g.2.1))then .inr ((),((p,()),((g,()),())))else .inl (((j:Int),()),((p,()),((g,()),())))):=by
 have hl:=hg.len;have h2:=hg.rt;refine yT (f:=Bf) (aN g) (fun i=>(((i:Int),aN g,((aN g).length:Int),()),((p,()),((g,()),())))) (fun m=>decide (zy p.1 g m=g.2.1)) (fun i=>.inl (((i:Int),()),((p,()),((g,()),())))) _ ?_ ?_
 ·intro i e he hi;have hw:=aI (i:=i) (by omega);have q:=Zu r (bK e) (jc (hg.mem e (aoX he)).lab) hz;have q2:zy p.1 g e=AL r (bK e):=by unfold zy;rw[h]
  dsimp only[bK]at q;rw[q2];simp only[Bf,bQ hi,aJ,aG he,gV h2 h,q,bD,gF,hw,aA,sS];cases decide (AL r e.2.1=g.2.1)<;>simp only[hw,aA,sS]
 ·simp only[Bf,cO,aA,sS]
theorem WH(p:dI)(hp:yF p)(h0:jU p.1=0)(s:InT)(hs:ve s):
  aC rH (((0:Int),aY s,((aY s).length:Int),()),((p,()),((s,()),())))=some (bif sP (rT p (bV s)) none (aY s)then .inr ((),())else .inl ((false,()),())):=by
 have hlen:=hs.len;have hrl:=nG h0;refine jR (f:=rH) (aY s) (fun i=>(((i:Int),aY s,((aY s).length:Int),()),((p,()),((s,()),())))) (rT p (bV s)) (.inl ((false,()),())) (.inr ((),())) ?_ ?_
 ·intro i e he hi;obtain⟨hv,hv2⟩:=hs.tK e (aoX he);have hw:=aI (i:=i) (by omega);have q1:=KX hv;have h2:=hv.rt;unfold rT;by_cases hr:e.1≥(p.1.length:Int)
  ·simp only[rH,bQ hi,aJ,aG he,q1,aoS hr,apm,apf,aph,apv,aps,aA,sS]
  ·obtain⟨r,hr2⟩:=H9 hv hr;have hrr:=Bc hp.rt h0 r (aoX hr2);have q2:=Ql p e (bV s) hv hr2 hrr;obtain⟨j,q3⟩:=afb p hv hr2 hrr.z.2.1 0;dsimp only[bV,aN]at q2 q3;have hj:decide ((j:Int)≥0)=true:=aoS (by omega);rcases jv hi with h0|⟨a,h0,ha,ha1⟩
   ·rw[if_pos h0];have hd:decide ((i:Int)>0)=false:=aoU (by omega);simp only[rH,bQ hi,aJ,aG he,q1,aoU hr,q2,hd,bV,aN,apm,apf,aph,apv,aps,aA,sS];cases jh p.1 s.1 e<;>simp only[apm,apf,aph,apv,aps,aA,sS];rw[q3];cases List.all e.2.2.1 (fun m=>decide (zy p.1 e m=e.2.1))<;>simp only[hj,hw,apm,apf,aph,apv,aps,aA,sS]
   ·rw[if_neg (by omega),ha];obtain⟨av,av2⟩:=hs.tK a (aoX ha);have hd:decide ((i:Int)>0)=true:=aoS (by omega);have q4:=RA a e.1 e.2.1 ⟨av.rt,av2⟩ ⟨h2,by omega⟩
    have q5:decide (rG a e.1 e.2.1≥0)= !iV a e.1 e.2.1:=by
     rw[←Cu,←decide_not];exact aqb.2 (by omega)
    simp only[rH,bQ hi,aJ,aG he,q1,aoU hr,q2,hd,ha1 (by omega),aG ha,q4,q5,bV,aN,apm,apf,aph,apv,aps,aA,sS];cases jh p.1 s.1 e<;>simp only[apm,apf,aph,apv,aps,aA,sS];cases iV a e.1 e.2.1<;>simp only[apm,apf,aph,apv,aps,aA,sS];rw[q3];cases List.all e.2.2.1 (fun m=>decide (zy p.1 e m=e.2.1))<;>simp only[hj,hw,apm,apf,aph,apv,aps,aA,sS]
 ·simp only[rH,cO,apm,apf,aph,apv,aps,aA,sS]
theorem XZ:∀{l:List jD},P5 0 l=0→∀(n:Int),l≠ []→∃x,l[l.length-1]?=some x∧(l.all fun y=>decide (y.1<n))= !decide (x.1≥n):=by
 intro l h n hne;obtain⟨a,x,rfl⟩:∃a x,l=a++ [x]:=⟨l.dropLast,l.getLast hne,(List.dropLast_concat_getLast hne).symm⟩
 refine⟨x,by simp,?_⟩
 have hs:∀y∈a,y.1<x.1:=by
  intro y hy;obtain⟨b,c,rfl⟩:=List.mem_iff_append.1 hy;have:=UN b 0 y (c++ [x]) (by simpa using h);exact this x (by simp)
 rw[List.all_append];by_cases hx:x.1≥n
 ·simp[hx,Int.not_lt.2 hx]
 ·have ha:(a.all fun y=>decide (y.1<n))=true:=ap7.2 fun y hy=>aoS (by have:=hs y hy;omega)
  simp[ha,hx,Int.not_le.1 hx]
theorem Y7(p:dI)(hp:yF p)(s:InT)(hs:ve s):m36 ((p,s,()),())=some ((kR p s,()),()):=by
 unfold m36;have hl:=hs.len;have q2:=afQ (bP s) hs.M9;have hsl:=hs.M9.1;by_cases hc:uN p=0
 ·obtain⟨c1,c2,c3,c4⟩:=iP hc;have q3:=WH p hp c1 s hs;obtain⟨now,gs,sl,nx,⟨⟩⟩:=s;dsimp only[aY,bP,bV,dD]at q2 q3 hl hsl;have q1:=Rz p hp;unfold kR;rw[hc]at q1;simp only[q1,q2,hc,bV,aY,bP,dD,inst,ap4,aqg,apB,aA,sS];by_cases h1:now<0
  ·have e:decide (0≤now∧now≤8589934592)=false:=aoU (by omega);simp only[h1,e,aqg,apX,aA,sS]
  by_cases h2:now>8589934592
  ·have e:decide (0≤now∧now≤8589934592)=false:=aoU (by omega);simp only[h1,h2,e,aqg,aqn,apX,aA,sS]
  have e:decide (0≤now∧now≤8589934592)=true:=aoS (by omega);by_cases h3:(gs.length:Int)>64
  ·have e3:decide (gs.length≤64)=false:=aoU (by omega);simp only[h1,h2,h3,e,e3,aqg,aqn,apB,apX,aA,sS]
  have e3:decide (gs.length≤64)=true:=aoS (by omega);by_cases h4:Et sl=0
  ·by_cases h5:nx<1
   ·have e5:decide (1≤nx)=false:=aoU (by omega);simp only[h1,h2,h3,h4,h5,e,e3,e5,ap4,aqg,aqn,apB,apX,aA,sS]
   have e5:decide (1≤nx)=true:=aoS (by omega);simp only[h1,h2,h3,h4,h5,e,e3,e5,ap4,aqg,aqn,apB,apX,aA,sS];by_cases hn:sl=[]
   ·subst hn;simp only[List.length_nil,List.all_nil,apB];have e6:decide ((((0:Nat):Nat):Int)>0)=false:=by decide
    simp only[e6,q3,aA,sS];cases sP (rT p now) none gs<;>rfl
   ·obtain⟨x,hx,hx2⟩:=XZ (afd h4).1 nx hn;have hpos:0<sl.length:=List.length_pos_iff.2 hn;have e6:decide (((sl.length:Nat):Int)>0)=true:=aoS (by omega);have e7:aP (((sl.length:Nat):Int)-1)=((sl.length-1:Nat):Int):=by rw[bH (by omega) (by omega)];omega
    rw[hx2];simp only[e6,e7,aJ,aG hx,aA,sS];cases decide (x.1≥nx)<;>simp only[q3,apv,aps,apB,apX,aA,sS];cases sP (rT p now) none gs<;>rfl
  ·simp only[h1,h2,h3,h4,apO.2 h4,e,e3,aqg,aqn,apB,apX,aA,sS]
 ·have q1:=Rz p hp;unfold kR;simp only[q1,apO.2 hc,aoU hc,apX,aA,sS]
theorem agb(p:dI){g:bG}(hg:VG g){r:dw}(h:p.1[g.1.toNat]?=some r)(hz:r.2.2.2.1.length≤big)(i0:Int)(s:InT):
  ∃j:Nat,aC wS (((0:Int),i0,()),((g,()),((p,()),((s,()),()))))=
   some (bif (aN g).all (fun m=>decide (zy p.1 g m=g.2.1))then .inr ((i0,()),((p,()),((s,()),())))else .inl ((false,()),())):=by
 have hl:=hg.len;have h2:=hg.rt;refine yT (f:=wS) (aN g) (fun i=>(((i:Int),i0,()),((g,()),((p,()),((s,()),()))))) (fun m=>decide (zy p.1 g m=g.2.1)) (fun _=>.inl ((false,()),())) _ ?_ ?_
 ·intro i e he hi;have hw:=aI (i:=i) (by omega);have q:=Yi r (bK e) (jc (hg.mem e (aoX he)).lab) hz;have q2:zy p.1 g e=AL r (bK e):=by unfold zy;rw[h]
  dsimp only[bK]at q;dsimp only[aN]at he hi;rw[q2];simp only[wS,bQ hi,aJ,aG he,gV h2 h,q,bD,gF,hw,aA,sS];cases decide (AL r e.2.1=g.2.1)<;>simp only[hw,aA,sS]
 ·dsimp only[aN];simp only[wS,cO,aA,sS]
theorem YG(p:dI)(hp:yF p)(h0:jU p.1=0)(s:InT)(hs:ve s):
  aC sO (((0:Int),()),((p,()),((s,()),())))=some (bif sP (rT p (bV s)) none (aY s)then .inr ((),((s,()),()))else .inl ((false,()),())):=by
 have hlen:=hs.len;have hrl:=nG h0;refine jR (f:=sO) (aY s) (fun i=>(((i:Int),()),((p,()),((s,()),())))) (rT p (bV s)) (.inl ((false,()),())) (.inr ((),((s,()),()))) ?_ ?_
 ·intro i e he hi;obtain⟨hv,hv2⟩:=hs.tK e (aoX he);have hw:=aI (i:=i) (by omega);have q1:=Kv hv;have h2:=hv.rt;unfold rT;dsimp only[aY]at he hi hlen;by_cases hr:e.1≥(p.1.length:Int)
  ·simp only[sO,bQ hi,aJ,aG he,q1,aoS hr,apm,apf,aph,apv,aps,aA,sS]
  ·obtain⟨r,hr2⟩:=H9 hv hr;have hrr:=Bc hp.rt h0 r (aoX hr2);have q2:=Xv p e (bV s) hv hr2 hrr;obtain⟨j,q3⟩:=agb p hv hr2 hrr.z.2.1 (i:Int) s;dsimp only[bV,aN]at q2 q3;rcases jv hi with h0|⟨a,h0,ha,ha1⟩
   ·rw[if_pos h0];have hd:decide ((i:Int)>0)=false:=aoU (by omega);simp only[sO,bQ hi,aJ,aG he,q1,aoU hr,q2,hd,bV,aN,apm,apf,aph,apv,aps,aA,sS];cases jh p.1 s.1 e<;>simp only[apm,apf,aph,apv,aps,aA,sS];rw[q3];cases List.all e.2.2.1 (fun m=>decide (zy p.1 e m=e.2.1))<;>simp only[hw,apm,apf,aph,apv,aps,aA,sS]
   ·rw[if_neg (by omega),ha];have hd:decide ((i:Int)>0)=true:=aoS (by omega);have q4:=YK a e.1 e.2.1;simp only[sO,bQ hi,aJ,aG he,q1,aoU hr,q2,hd,ha1 (by omega),aG ha,q4,bV,aN,apm,apf,aph,apv,aps,aA,sS];cases jh p.1 s.1 e<;>simp only[apm,apf,aph,apv,aps,aA,sS];cases iV a e.1 e.2.1<;>simp only[apm,apf,aph,apv,aps,aA,sS];rw[q3];cases List.all e.2.2.1 (fun m=>decide (zy p.1 e m=e.2.1))<;>simp only[hw,apm,apf,aph,apv,aps,aA,sS]
 ·dsimp only[aY];simp only[sO,cO,aA,sS]
theorem aiw(s:InT)(hs:ve s):∃j:Nat,aC u6 (((0:Int),()),((s,()),()))=some (bif (bP s).all (fun x=>decide (x.1<dD s))then .inr ((),())else .inl ((false,()),())):=by
 have hl:=hs.M9.1;refine yT (f:=u6) (bP s) (fun i=>(((i:Int),()),((s,()),()))) (fun x=>decide (x.1<dD s)) (fun _=>.inl ((false,()),())) _ ?_ ?_
 ·intro i e he hi;have hw:=aI (i:=i) (by omega);have hd:decide (e.1≥s.2.2.2.1)= !decide (e.1<s.2.2.2.1):=by rw[←decide_not];exact aqb.2 (by omega)
  dsimp only[bP,dD]at he hi ⊢;simp only[u6,bQ hi,aJ,aG he,hd,aA,sS];cases decide (e.1<s.2.2.2.1)<;>simp only[hw,apv,aps,aA,sS]
 ·dsimp only[bP];simp only[u6,cO,aA,sS]
theorem Xl(p:dI)(hp:yF p)(s:InT)(hs:ve s):m37 ((p,s,()),())=some ((kR p s,()),()):=by
 unfold m37;have hl:=hs.len;have q2:=afH (bP s) hs.M9;have hsl:=hs.M9.1;by_cases hc:uN p=0
 ·obtain⟨c1,c2,c3,c4⟩:=iP hc;have q3:=YG p hp c1 s hs;obtain⟨j,q4⟩:=aiw s hs;obtain⟨now,gs,sl,nx,⟨⟩⟩:=s;dsimp only[aY,bP,bV,dD]at q2 q3 q4 hl hsl;have q1:=PL p hp;unfold kR;rw[hc]at q1;simp only[q1,q2,hc,bV,aY,bP,dD,inst,ap4,aqg,apB,aA,sS];by_cases h1:now<0
  ·have e:decide (0≤now∧now≤8589934592)=false:=aoU (by omega);simp only[h1,e,aqg,apX,aA,sS]
  by_cases h2:now>8589934592
  ·have e:decide (0≤now∧now≤8589934592)=false:=aoU (by omega);simp only[h1,h2,e,aqg,aqn,apX,aA,sS]
  have e:decide (0≤now∧now≤8589934592)=true:=aoS (by omega);by_cases h3:(gs.length:Int)>64
  ·have e3:decide (gs.length≤64)=false:=aoU (by omega);simp only[h1,h2,h3,e,e3,aqg,aqn,apB,apX,aA,sS]
  have e3:decide (gs.length≤64)=true:=aoS (by omega);by_cases h4:Et sl=0
  ·by_cases h5:nx<1
   ·have e5:decide (1≤nx)=false:=aoU (by omega);simp only[h1,h2,h3,h4,h5,e,e3,e5,ap4,aqg,aqn,apB,apX,aA,sS]
   have e5:decide (1≤nx)=true:=aoS (by omega);simp only[h1,h2,h3,h4,h5,e,e3,e5,q3,ap4,aqg,aqn,apB,apX,aA,sS];cases sP (rT p now) none gs<;>simp only[q4,Bool.and_false,Bool.and_true,aA,sS];cases List.all sl (fun x=>decide (x.1<nx))<;>simp only[aA,sS]
  ·simp only[h1,h2,h3,h4,apO.2 h4,e,e3,aqg,aqn,apB,apX,aA,sS]
 ·have q1:=PL p hp;unfold kR;simp only[q1,apO.2 hc,aoU hc,apX,aA,sS]
end Go.Proofs.YtchnmpafhfjimaaGreatDoor
namespace Go.Proofs.YtchnmpafhfjimaaGreatDoor
open Go Go.Abs Go.Lab
theorem Ua{m:bL}(h:rM m):(aL m).size+1≤4294967296:=by
 have h1:=xI h.lab ((bK m).map eO).length;rw[apT]at h1;rw[h.key,size_mk];unfold dU;simp;omega
end Go.Proofs.YtchnmpafhfjimaaGreatDoor
namespace Go.Proofs.YtchnmpafhfjimaaGreatDoor
open Go Go.Abs
def Eg(a:Int×Bool)(g:bG):Int×Bool:=bif (dZ g != -1)&&(!a.2||decide (dZ g<a.1))then(dZ g,true)else a
def fU(l:List bG):Int×Bool:=l.foldl Eg (0,false)
theorem YB(s:InT)(hl:(aY s).length≤1048576):m30 ((s,()),())=some (((fU (aY s)).1,(fU (aY s)).2,()),()):=by
 have h:=cB (f:=EP) (aY s) (fun i (a:Int×Bool)=>(((i:Int),a.1,a.2,aY s,((aY s).length:Int),()),())) (fun _ a e=>.inl (Eg a e)) (fun a=>((a.2,a.1,()),())) ?_ ?_ (0,false)
 ·rw[kL]at h;unfold m30;exact aM _ h rfl
 ·intro i e ⟨a1,a2⟩ he hi;have hw:aP ((i:Int)+1)=((i+1:Nat):Int):=aI (by omega);unfold Eg;dsimp only[dZ];simp only[EP,aJ,aG he,bQ hi,aA,sS];cases (e.2.2.2.1 != -1)<;>cases a2<;>cases decide (e.2.2.2.1<a1)<;>simp only[aA,sS,hw,apv,aps,apy,apm,aph,apf,apB,apX]
 ·intro a;simp only[EP,cO,aA,sS]
theorem Yl(s:InT)(hl:(aY s).length≤1048576):m46 ((s,()),())=some (((fU (aY s)).1,(fU (aY s)).2,()),()):=by
 have h:=cB (f:=Fp) (aY s) (fun i (a:Int×Bool)=>(((i:Int),a.1,a.2,()),((s,()),()))) (fun _ a e=>.inl (Eg a e)) (fun a=>((a.2,a.1,()),())) ?_ ?_ (0,false)
 ·rw[kL]at h;unfold m46;exact aM _ h rfl
 ·intro i e ⟨a1,a2⟩ he hi;have hw:aP ((i:Int)+1)=((i+1:Nat):Int):=aI (by omega);unfold Eg;dsimp only[dZ,aY]at he hi ⊢;simp only[Fp,aJ,aG he,bQ hi,aA,sS];cases (e.2.2.2.1 != -1)<;>cases a2<;>cases decide (e.2.2.2.1<a1)<;>simp only[aA,sS,hw,apv,aps,apy,apm,aph,apf,apB,apX]
 ·intro a;dsimp only[aY];simp only[Fp,cO,aA,sS]
def Jz(p:dI)(l:List bG):Prop:=∀g∈l,VG g∧∃r,p.1[g.1.toNat]?=some r∧RR r
def iI(p:dI)(now:Int)(l:List bG):List bG:=l.filter fun g=> !jh p.1 now g
theorem Jz.idle{p:dI}{l:List bG}(h:Jz p l){g:bG}(hg:g∈l)(now:Int):m83 ((p,g,now,()),())=some ((jh p.1 now g,()),()):=by
 obtain⟨hv,r,hr,rr⟩:=h g hg;exact Ql p g now hv hr rr
theorem Jz.ajP{p:dI}{l:List bG}(h:Jz p l){g:bG}(hg:g∈l)(now:Int):m89 ((p,g,now,()),())=some ((jh p.1 now g,()),()):=by
 obtain⟨hv,r,hr,rr⟩:=h g hg;exact Xv p g now hv hr rr
theorem xA{A:Type}{a:List A}{n:Nat}(h:a.length+1≤n)(x:A):decide (a.length+ [x].length≤n)=true:=aoS (by simpa using h)
theorem xC{A B E F:Type}{f:A→Option (A⊕B)}(l:List E)(st:Nat→List F→A)(g:E→List F)(fin:List F→B)(hlen:l.length≤1048576)
  (hg:∀e,(g e).length≤1)
  (h1:∀i e a,l[i]?=some e→i<l.length→a.length≤i→f (st i a)=some (.inl (st (i+1) (a++g e)))) (h2:∀a,f (st l.length a)=some (.inr (fin a))):
  aC f (st 0 [])=some (fin (l.flatMap g)):=by
 have key:∀(k i:Nat) (a:List F),i+k=l.length→a.length≤i→aC f (st i a)=some (fin (a++(l.drop i).flatMap g)):=by
  intro k
  induction k with
  |zero=>
   intro i a h ha;obtain rfl:i=l.length:=by omega
   rw[apP,List.flatMap_nil,ap6];exact aD (h2 a)
  |succ k ih=>
   intro i a h ha;obtain⟨e,he,hd⟩:=drop_at (l:=l) (i:=i) (by omega);rw[hd,aqh,←ap0,←ih (i+1) (a++g e) (by omega) (by have:=hg e;rw[apt];omega)];exact aK (h1 i e a he (by omega) ha)
 have:=key l.length 0 [] (by omega) (ape _)
 rwa [ap2,aq3]at this
theorem MV{E:Type}(p:E→Bool)(l:List E):l.flatMap (fun e=>bif p e then [e]else [])=l.filter p:=by
 induction l with
 |nil=>rfl
 |cons e r ih=>
  rw[aqh,ih,List.filter_cons];cases p e<;>rfl
theorem Vl{A B E:Type}{f:A→Option (A⊕B)}(ms:List E)(keep:E→Bool)(st:Nat→A)(no:B)(yes:Nat→B)
  (h1:∀i e,ms[i]?=some e→i<ms.length→f (st i)=some (bif keep e then .inl (st (i+1))else .inr (yes i))) (h2:f (st ms.length)=some (.inr no)):
  (aC f (st 0)=some no∧ms.filter keep=ms)∨∃j,j<ms.length∧aC f (st 0)=some (yes j)∧(ms.take (j+1)).filter keep=ms.take j:=by
 have key:∀(d i:Nat),i+d=ms.length→(ms.take i).filter keep=ms.take i→
   (aC f (st i)=some no∧ms.filter keep=ms)∨∃j,j<ms.length∧aC f (st i)=some (yes j)∧(ms.take (j+1)).filter keep=ms.take j:=by
  intro d
  induction d with
  |zero=>
   intro i h h3;obtain rfl:i=ms.length:=by omega
   rw[apT]at h3;exact .inl ⟨aD h2,h3⟩
  |succ d ih=>
   intro i h h3;obtain⟨e,he⟩:=getD_some (l:=ms) (i:=i) (by omega);have q:=h1 i e he (by omega);cases hr:keep e
   ·rw[hr]at q;refine .inr ⟨i,by omega,aD q,?_⟩;rw[fE he,aqe,h3];simp[hr]
   ·rw[hr]at q;rw[aK q];refine ih (i+1) (by omega) ?_;rw[fE he,aqe,h3];simp[hr]
 exact key ms.length 0 (by omega) rfl
theorem PE{A B E:Type}{f:A→Option (A⊕B)}(ms:List E)(keep:E→Bool)(st:Nat→Nat→List E→A)(fin:Nat→List E→B)
  (h1:∀src dst blk e,src<ms.length→dst<src→blk.length=ms.length→blk[src]?=some e→e∈ms→f (st src dst blk)=some (.inl (bif keep e then st (src+1) (dst+1) (blk.set dst e)else st (src+1) dst blk)))
  (h2:∀dst blk,blk.length=ms.length→f (st ms.length dst blk)=some (.inr (fin dst blk))):∀(d src dst:Nat) (blk:List E),src+d=ms.length→dst<src→blk.length=ms.length→
  blk.take dst=(ms.take src).filter keep→blk.drop src=ms.drop src→
  ∃(dst':Nat) (blk':List E),aC f (st src dst blk)=some (fin dst' blk')∧dst'≤ms.length∧blk'.length=ms.length∧blk'.take dst'=ms.filter keep:=by
 intro d
 induction d with
 |zero=>
  intro src dst blk a1 a2 a3 a4 a5;obtain rfl:src=ms.length:=by omega
  rw[apT]at a4;exact⟨dst,blk,aD (h2 dst blk a3),by omega,a3,a4⟩
 |succ d ih=>
  intro src dst blk a1 a2 a3 a4 a5;obtain⟨e,he⟩:=getD_some (l:=ms) (i:=src) (by omega)
  have he':blk[src]?=some e:=by
   have:=congrArg (fun l=>l[0]?) a5;simp only[aql,aq2]at this;rw[this,he]
  have q:=h1 src dst blk e (by omega) a2 a3 he' (aoX he);cases hr:keep e
  ·rw[hr]at q;rw[aK q];refine ih (src+1) dst blk (by omega) (by omega) a3 ?_ ?_
   ·rw[fE he,aqe,←a4];simp[hr]
   ·rw[←aqy,←aqy,a5]
  ·rw[hr]at q;rw[aK q];refine ih (src+1) (dst+1) (blk.set dst e) (by omega) (by omega) (by rw[apK,a3]) ?_ ?_
   ·rw[fE he,aqe,←a4];rw[fE (e:=e) (by rw[List.getElem?_set_self (by omega)])];rw[show(blk.set dst e).take dst=blk.take dst from by rw[List.take_set,List.set_eq_of_length_le (by rw[apq];omega)]];simp[hr]
   ·rw[List.drop_set,if_pos (by omega)];rw[←aqy,←aqy,a5]
theorem aar{A:Type}(ms:List A)(i:Nat)(z x:A)(hi:i≤ms.length):
  (bM (ms++ [z]) (i+1) (((((ms++ [z]).drop i).take ((ms++ [z]).length-i))).take ((ms++ [z]).length-(i+1)))).set i x=ms.take i++ [x]++ms.drop i:=by
 have hl:(ms++ [z]).length=ms.length+1:=by simp
 have a1:((ms++ [z]).drop i).take ((ms++ [z]).length-i)=ms.drop i++ [z]:=by
  rw[apF (by rw[ap8];exact ape _),List.drop_append_of_le_length hi]
 have e1:(ms.drop i++ [z]).take ((ms++ [z]).length-(i+1))=ms.drop i:=by
  rw[hl,aqw (by rw[ap8];omega),apF (by rw[ap8];omega)]
 have a3:(ms++ [z]).drop (i+1+(ms.drop i).length)=[]:=apz (by rw[hl,ap8];omega)
 have e2:(ms++ [z]).take (i+1)=ms.take i++ [(ms++ [z])[i]'(by rw[hl];omega)]:=by
  rw[List.take_succ_eq_append_getElem (by rw[hl];omega),aqw hi]
 rw[a1,e1];unfold bM;rw[a3,ap6,e2,ap0,List.set_append_right _ _ (by rw[apq];omega)];rw[show i-(ms.take i).length=0 by rw[apq];omega];simp
theorem GX{A:Type}(ms:List A)(i:Nat)(z:A)(hi:i≤ms.length):
  (bM (ms++ [z]) (i+1) (((((ms++ [z]).drop i).take ((ms++ [z]).length-i))).take ((ms++ [z]).length-(i+1)))).length=ms.length+1:=by
 have:=congrArg List.length (aar ms i z z hi);rw[apK]at this;rw[this];simp;omega
def kE(acc:List bL)(m:bL):List bL:=if cK m=true∧hit (aL m) acc=false then acc.take (pos (aL m) acc)++ [m]++acc.drop (pos (aL m) acc)else acc
def Az(gs:List bG)(acc:List bL):List bL:=gs.foldl (fun a g=>(aN g).foldl kE a) acc
def AX(gs:List bG):List bL:=Az gs []
theorem Nq(acc:List bL)(m:bL):(kE acc m).length≤acc.length+1:=by
 unfold kE;split
 ·simp;omega
 ·omega
theorem Js:∀(ms:List bL) (acc:List bL),(ms.foldl kE acc).length≤acc.length+ms.length:=by
 intro ms
 induction ms with
 |nil=>intro acc;exact ape _
 |cons m r ih=>intro acc;have:=ih (kE acc m);have:=Nq acc m;simp only[List.foldl_cons,ap9];omega
theorem ahL(gs:List bG)(ca:Int)(cb:List jD)(cc:Int)(m:bL)(i j:Int)(acc:List bL)(hl:acc.length≤1000000):
  aC qy (((0:Int),i,j,()),(gs,acc.map bK,acc.map aL,((ca,cb,cc,()),()),(m,()),()))=some ((i,j,(pos (aL m) acc:Int),()),(gs,acc.map bK,acc.map aL,((ca,cb,cc,()),()),(m,()),())):=by
 have key:∀(d k:Nat),k+d=acc.length→pos (aL m) acc=k+pos (aL m) (acc.drop k)→aC qy (((k:Int),i,j,()),(gs,acc.map bK,acc.map aL,((ca,cb,cc,()),()),(m,()),()))=some ((i,j,(pos (aL m) acc:Int),()),(gs,acc.map bK,acc.map aL,((ca,cb,cc,()),()),(m,()),())):=by
  intro d
  induction d with
  |zero=>
   intro k hk hp;rw[apz (by omega)]at hp;have:pos (aL m) acc=k:=hp;rw[this];refine aD ?_;have:decide ((k:Int)<(((acc.map aL).length:Nat):Int))=false:=aoU (by rw[aoY];omega);simp only[qy,this,aA,sS]
  |succ d ih=>
   intro k hk hp;obtain⟨e,he,hd⟩:=drop_at (l:=acc) (i:=k) (by omega);rw[hd]at hp;have he':(acc.map aL)[k]?=some (aL e):=by rw[aoZ,he];rfl
   have h1:decide ((k:Int)<(((acc.map aL).length:Nat):Int))=true:=aoS (by rw[aoY];omega);have h2:decide ((0:Int)≤(k:Int)∧(k:Int)<((acc.map aL).length:Int))=true:=aoS (by rw[aoY];omega);have hw:aP ((k:Int)+1)=((k+1:Nat):Int):=aI (by omega);rw[Oj]at hp;by_cases hlt:Op.bytesLess (aL e).toList (aL m).toList=true
   ·rw[if_pos hlt]at hp;have q:=ih (k+1) (by omega) (by omega);rw[←q];refine aK ?_;simp only[aL]at hlt he' h1 h2;simp only[qy,aL,h1,h2,aoV,he',hlt,hw,aA,sS]
   ·rw[if_neg hlt]at hp;rw[show pos (aL m) acc=k from hp];refine aD ?_;simp only[aL,Bool.not_eq_true]at hlt he' h1 h2;simp only[qy,aL,h1,h2,aoV,he',hlt,aA,sS]
 exact key acc.length 0 (by omega) (by rw[ap2];omega)
theorem afA(gs:List bG)(ca:Int)(cb:List jD)(cc:Int){g:bG}(hv:VG g)(i:Nat)(hg:gs[i]?=some g)(j:Nat){m:bL}(hm:(aN g)[j]?=some m)(acc:List bL)(hl:acc.length+1≤1000000):
  Ce (((j:Int),(i:Int),()),(gs,acc.map bK,acc.map aL,((ca,cb,cc,()),()),()))=some (.inl ((((j+1:Nat):Int),(i:Int),()),(gs,(kE acc m).map bK,(kE acc m).map aL,((ca,cb,cc,()),()),()))):=by
 have hj:=(aoT.1 hm).1;have hglen:=hv.len;have hw:aP ((j:Int)+1)=((j+1:Nat):Int):=aI (by omega);have hp:=ahL gs ca cb cc m (i:Int) (j:Int) acc (by omega);have hx0:hit (aL m) acc=match acc[pos (aL m) acc]? with|some e=>decide (aL e=aL m)|none=>false:=rfl
 have hple:=FX (aL m) acc;have hlab:decide (0+(bK m).length≤4294967296)=true:=aoS (by have:=(fQ (hv.mem m (aoX hm)).lab).1;omega);have hil':=(aoT.1 hg).1;have hb:decide ((0:Int)≤(i:Int)∧(i:Int)<(gs.length:Int))=true:=aoS (by omega);have hgi:gs[((i:Int)).toNat]?=some g:=by rw[aoV];exact hg
 dsimp only[aN]at hm hj;unfold Ce;simp only[hb,hgi,bQ hj,aJ,aG hm,aA,sS];rw[aM _ hp rfl];unfold kE;generalize hq:pos (aL m) acc=q at *;cases hf:m.2.2.2.2.1
 ·rw[if_neg (by dsimp only[cK];rw[hf];simp)];simp only[hf,hw,aA,sS]
 ·have hkl:(acc.map aL).length=acc.length:=aoY ..;have hol:(acc.map bK).length=acc.length:=aoY ..;dsimp only[aL,bK]at hkl hol hlab;have c1:decide ((acc.map (fun m=>m.1)).length+ [ByteArray.empty].length≤4294967296)=true:=aoS (by rw[hkl];simp;omega);have c1':decide ((acc.map (fun m=>m.2.1)).length+([[]]:List (List LT)).length≤4294967296)=true:=aoS (by rw[hol];simp;omega);have w1:aP ((q:Int)+1)=((q+1:Nat):Int):=aI (by omega);have c2:decide ((0:Int)≤((q+1:Nat):Int))=true:=aoS (by omega);have c3:∀{A:Type} (l:List A),l.length=acc.length+1→decide (q+1≤l.length∧l.length≤l.length)=true:=fun l h=>aoS ⟨by omega,ape _⟩
  have c4:decide ((0:Int)≤(q:Int))=true:=aoS (by omega);have c5:∀{A:Type} (l:List A),l.length=acc.length+1→decide (q≤l.length∧l.length≤l.length)=true:=fun l h=>aoS ⟨by omega,ape _⟩
  have c6:∀{A:Type} (l:List A),l.length=acc.length+1→decide (q+(l.length-q)≤l.length)=true:=fun l h=>aoS (by omega)
  have c7:∀{A:Type} (l:List A),l.length=acc.length+1→decide (q+1+(l.length-(q+1))≤l.length)=true:=fun l h=>aoS (by omega)
  have c8:∀{A:Type} (l:List A),l.length=acc.length+1→decide ((0:Int)≤(q:Int)∧(q:Int)<(l.length:Int))=true:=fun l h=>aoS (by omega)
  have c9:∀{A:Type} (l:List A),l.length=acc.length+1→decide (q<l.length)=true:=fun l h=>aoS (by omega)
  have la:(acc.map (fun m=>m.1)++ [ByteArray.empty]).length=acc.length+1:=by simp
  have lb:(acc.map (fun m=>m.2.1)++([[]]:List (List LT))).length=acc.length+1:=by simp
  have lc:=GX (acc.map (fun m=>m.1)) q ByteArray.empty (by rw[hkl];exact hple);have ld:=GX (acc.map (fun m=>m.2.1)) q ([]:List LT) (by rw[hol];exact hple);rw[hkl]at lc;rw[hol]at ld;have e1:=aar (acc.map (fun m=>m.1)) q ByteArray.empty m.1 (by rw[hkl];exact hple);have e2:=aar (acc.map (fun m=>m.2.1)) q ([]:List LT) m.2.1 (by rw[hol];exact hple)
  have fin:some (Sum.inl ((((j+1:Nat):Int),(i:Int),()),(gs,(acc.take q++ [m]++acc.drop q).map bK,(acc.take q++ [m]++acc.drop q).map aL,((ca,cb,cc,()),()),())))=
    (some (Sum.inl ((((j+1:Nat):Int),(i:Int),()),(gs,(acc.map (fun m=>m.2.1)).take q++ [m.2.1]++(acc.map (fun m=>m.2.1)).drop q,(acc.map (fun m=>m.1)).take q++ [m.1]++(acc.map (fun m=>m.1)).drop q,((ca,cb,cc,()),()),()))):Option (((Int×Int×Unit)×(List bG×List (List LT)×List ByteArray×((Int×List jD×Int×Unit)×Unit)×Unit))⊕((Int×Unit)×(List bG×List (List LT)×List ByteArray×((Int×List jD×Int×Unit)×Unit)×Unit)))):=by
   simp only[ap3,List.map_take,List.map_drop,apw,apA]
  by_cases hil:q<acc.length
  ·obtain⟨e,he⟩:=getD_some hil;have he':(acc.map (fun m=>m.1))[q]?=some e.1:=by rw[aoZ,he];rfl
   have h1:decide ((q:Int)<(((acc.map (fun m=>m.1)).length:Nat):Int))=true:=aoS (by rw[hkl];omega);have h2:decide ((0:Int)≤(q:Int)∧(q:Int)<((acc.map (fun m=>m.1)).length:Int))=true:=aoS (by rw[hkl];omega);rw[he]at hx0;simp only[aL]at hx0;dsimp only[aL,bK,cK]at *;rw[hx0];simp only[hf,h1,h2,aoV,he',bD,gF,aA,sS];cases decide (e.1=m.1)
   ·rw[if_pos (by simp)];simp only[c1,c1',w1,c2,c3 _ la,c4,c5 _ la,c6 _ la,c7 _ la,c8 _ lc,c9 _ lc,c3 _ lb,c5 _ lb,c6 _ lb,c7 _ lb,c8 _ ld,c9 _ ld,hlab,hw,e1,e2,aoV,aA,sS];exact fin.symm
   ·rw[if_neg (by simp)];simp only[hw,aA,sS]
  ·have h1:decide ((q:Int)<(((acc.map (fun m=>m.1)).length:Nat):Int))=false:=aoU (by rw[hkl];omega);rw[apQ (by omega)]at hx0;simp only at hx0;dsimp only[aL,bK,cK]at *;rw[hx0];simp only[hf,h1,aA,sS];rw[if_pos (by simp)];simp only[c1,c1',w1,c2,c3 _ la,c4,c5 _ la,c6 _ la,c7 _ la,c8 _ lc,c9 _ lc,c3 _ lb,c5 _ lb,c6 _ lb,c7 _ lb,c8 _ ld,c9 _ ld,hlab,hw,e1,e2,aoV,aA,sS];exact fin.symm
theorem afl(gs:List bG)(ca:Int)(cb:List jD)(cc:Int){g:bG}(hv:VG g)(i:Nat)(hg:gs[i]?=some g):∀(d j:Nat) (acc:List bL),j+d=(aN g).length→acc.length+d≤1000000→
  aC Ce (((j:Int),(i:Int),()),(gs,acc.map bK,acc.map aL,((ca,cb,cc,()),()),()))=some (((i:Int),()),(gs,(((aN g).drop j).foldl kE acc).map bK,(((aN g).drop j).foldl kE acc).map aL,((ca,cb,cc,()),()),())):=by
 have hil':=(aoT.1 hg).1;have hb:decide ((0:Int)≤(i:Int)∧(i:Int)<(gs.length:Int))=true:=aoS (by omega);have hgi:gs[((i:Int)).toNat]?=some g:=by rw[aoV];exact hg
 intro d
 induction d with
 |zero=>
  intro j acc hj hl;obtain rfl:j=(aN g).length:=by omega
  rw[apP];refine aD ?_;dsimp only[aN];simp only[Ce,hb,hgi,aJ,cO,List.foldl_nil,aA,sS]
 |succ d ih=>
  intro j acc hj hl;obtain⟨m,hm,hd⟩:=drop_at (l:=aN g) (i:=j) (by omega);rw[hd,List.foldl_cons,←ih (j+1) (kE acc m) (by omega) (by have:=Nq acc m;omega)];exact aK (afA gs ca cb cc hv i hg j hm acc (by omega))
theorem Zg(gs:List bG)(ca:Int)(cb:List jD)(cc:Int)(hs:∀g∈gs,VG g)(hl:gs.length≤1000):∀(d i:Nat) (acc:List bL),i+d=gs.length→acc.length+d*256≤1000000→
  aC EL (((i:Int),()),(gs,acc.map bK,acc.map aL,((ca,cb,cc,()),()),()))=some ((),(gs,(Az (gs.drop i) acc).map bK,())):=by
 intro d
 induction d with
 |zero=>
  intro i acc hi ha;obtain rfl:i=gs.length:=by omega
  rw[apP];refine aD ?_;simp only[EL,cO,Az,List.foldl_nil,aA,sS]
 |succ d ih=>
  intro i acc hi ha;obtain⟨g,hg,hd⟩:=drop_at (l:=gs) (i:=i) (by omega);have hw:aP ((i:Int)+1)=((i+1:Nat):Int):=aI (by omega);have hi':i<gs.length:=by omega
  have hv:=hs g (aoX hg);have hgl:=hv.len;have hfl:=Js (aN g) acc;have q:=afl gs ca cb cc hv i hg (aN g).length 0 acc (by omega) (by omega);rw[ap2]at q;rw[hd]
  show _=some ((),(gs,(Az (gs.drop (i+1)) ((aN g).foldl kE acc)).map bK,()))
  rw[←ih (i+1) ((aN g).foldl kE acc) (by omega) (by omega)];refine aK ?_;unfold EL;simp only[bQ hi',aA,sS];refine aM _ q ?_;simp only[hw,aA,sS]
theorem aaW{a b:ByteArray}(h:Lt a b):bl a<bl b:=by
 unfold Lt at h;rw[bD,bD,Go.Proofs.bytesLess_eq]at h;exact apd h
theorem L6{k:ByteArray}{l:List bL}(h:(l.map aL).Pairwise Less):hit k l=true↔k∈l.map aL:=by
 constructor
 ·intro hh;obtain⟨m,hm,rfl⟩:=Bw hh;exact apR.2 ⟨m,aoX hm,rfl⟩
 ·intro hk;obtain⟨m,hm,rfl⟩:=apR.1 hk;cases hh:hit (aL m) l
  ·exfalso
   rw[←aqj (pos (aL m) l) l,apr]at hm;rcases hm with hm|hm
   ·exact nX _ (AJ m hm)
   ·exact nX _ (Il h hh m hm)
  ·rfl
theorem ae9{m:bL}{l:List bL}(h:(l.map aL).Pairwise Less)(hh:hit (aL m) l=false):((l.take (pos (aL m) l)++ [m]++l.drop (pos (aL m) l)).map aL).Pairwise Less:=by
 rw[ap0,ap3,ap3,List.pairwise_append];have hup:=h;rw[←aqj (pos (aL m) l) l,ap3,List.pairwise_append]at hup;have ha:∀x∈l.take (pos (aL m) l),Lt (aL x) (aL m):=AJ;have hb:=Il h hh;refine⟨hup.1,?_,fun a ha' b hb'=> ?_⟩
 ·rw[apw,apA,aqk];refine aqm.2 ⟨fun k hk=> ?_,hup.2.1⟩;obtain⟨x,hx,rfl⟩:=apR.1 hk;exact fH.2 (hb x hx)
 ·obtain⟨x,hx,rfl⟩:=apR.1 ha';rw[apw,apA,aqk]at hb';rcases apD.1 hb' with rfl|hb'
  ·exact fH.2 (ha x hx)
  ·obtain⟨x',hx',rfl⟩:=apR.1 hb';exact fH.2 (lt_trans (ha x hx) (hb x' hx'))
structure O9(pre acc:List bL)(ks:List ByteArray):Prop where
 up:(acc.map aL).Pairwise Less
 perm:ks.Perm (acc.map aL)
 lab:∀a∈acc,pre.find? (fun m=>decide (m.1=aL a))=some a
 all:∀m∈pre,aL m∈acc.map aL
theorem O9.step{pre acc:List bL}{ks:List ByteArray}(h:O9 pre acc ks){m:bL}(hm:cK m=true):
  O9 (pre++ [m]) (kE acc m) (if ks.any (fun x=>decide (x=aL m))then ks else ks++ [aL m]):=by
 have hc:ks.any (fun x=>decide (x=aL m))=hit (aL m) acc:=by
  rw[Bool.eq_iff_iff,L6 h.up,List.any_eq_true,←h.perm.mem_iff];constructor
  ·rintro⟨x,hx,e⟩;rw[←apd e];exact hx
  ·intro hx;exact⟨_,hx,aoS rfl⟩
 rw[hc]
 have old:∀a∈acc,(pre++ [m]).find? (fun x=>decide (x.1=aL a))=some a:=fun a ha=>by
  rw[List.find?_append,h.lab a ha];rfl
 cases hh:hit (aL m) acc
 ·have e:kE acc m=acc.take (pos (aL m) acc)++ [m]++acc.drop (pos (aL m) acc):=by unfold kE;rw[if_pos ⟨hm,hh⟩]
  have hnot:aL m∉acc.map aL:=fun hk=>by rw[(L6 h.up).2 hk]at hh;cases hh
  rw[e];refine⟨ae9 h.up hh,?_,fun a ha=> ?_,fun x hx=> ?_⟩
  ·simp only[apj,if_false,ap3,List.map_take,List.map_drop,apw,apA];have p1:(ks++ [aL m]).Perm (acc.map aL++ [aL m]):=h.perm.append_right _;refine p1.trans ?_
   conv=>lhs;rw[←aqj (pos (aL m) acc) (acc.map aL)]
   rw[ap0,ap0];exact(List.perm_append_comm).append_left _
  ·simp only[apr,apL]at ha;rcases ha with(ha|rfl)|ha
   ·exact old a (List.mem_of_mem_take ha)
   ·rw[List.find?_append]
    have:pre.find? (fun x=>decide (x.1=aL a))=none:=List.find?_eq_none.2 fun x hx=>by
     have:=h.all x hx;intro e;exact hnot (by rwa [show aL x=aL a from apd e]at this)
    rw[this];simp
   ·exact old a (List.mem_of_mem_drop ha)
  ·have hx':aL x∈acc.map aL∨x=m:=by
    rcases apr.1 hx with hx|hx
    ·exact .inl (h.all x hx)
    ·exact .inr (apL.1 hx)
   rcases hx' with hx'|rfl
   ·obtain⟨y,hy,e⟩:=apR.1 hx';rw[←aqj (pos (aL m) acc) acc,apr]at hy;refine apR.2 ⟨y,?_,e⟩;simp only[apr,apL];rcases hy with hy|hy
    ·exact .inl (.inl hy)
    ·exact .inr hy
   ·exact apR.2 ⟨x,by simp,rfl⟩
 ·have e:kE acc m=acc:=by unfold kE;rw[if_neg (by rw[hh];simp)]
  rw[e];refine⟨h.up,by simpa using h.perm,old,fun x hx=> ?_⟩;rcases apr.1 hx with hx|hx
  ·exact h.all x hx
  ·rw[apL.1 hx];exact(L6 h.up).1 hh
theorem O9.run:∀(ms pre acc:List bL) (ks:List ByteArray),O9 pre acc ks→(∀m∈ms,cK m=true)→O9 (pre++ms) (ms.foldl kE acc) (bY ms ks):=by
 intro ms
 induction ms with
 |nil=>intro pre acc ks h _;rw[ap6];exact h
 |cons m r ih=>
  intro pre acc ks h hf;have:=ih (pre++ [m]) _ _ (h.step (hf m (by simp))) (fun x hx=>hf x (by simp[hx]));rw[ap0]at this;exact this
theorem VB:∀(ms acc:List bL),(ms.filter fun m=>cK m).foldl kE acc=ms.foldl kE acc:=by
 intro ms
 induction ms with
 |nil=>intro acc;rfl
 |cons m r ih=>
  intro acc;rw[List.filter_cons];by_cases h:cK m=true
  ·rw[if_pos h];exact ih _
  ·rw[if_neg h,ih];have e:kE acc m=acc:=by unfold kE;rw[if_neg (fun c=>h c.1)]
   show _=r.foldl kE (kE acc m)
   rw[e]
theorem Ww:∀(gs:List bG) (acc:List bL),(bZ gs).foldl kE acc=Az gs acc:=by
 intro gs
 induction gs with
 |nil=>intro acc;rfl
 |cons g r ih=>
  intro acc;unfold bZ Az;rw[aqh,List.foldl_append,List.foldl_cons];have:=VB (aN g) acc;dsimp only[cK,aN]at this ⊢;rw[this];exact ih _
theorem OQ(gs:List bG):O9 (bZ gs) (AX gs) (bY (bZ gs) []):=by
 have:=O9.run (bZ gs) [] [] [] ⟨List.Pairwise.nil,List.Perm.nil,fun a ha=>(by cases ha),fun m hm=>(by cases hm)⟩ (fun m hm=>by
  unfold bZ at hm;obtain⟨g,_,hm⟩:=List.mem_flatMap.1 hm;exact(aqt.1 hm).2)
 rw[aq3,Ww]at this;exact this
theorem Us(gs:List bG):pV gs=(AX gs).map bK:=by
 have h:=OQ gs;unfold pV
 have p:((bY (bZ gs) []).map (·.data.toList)).mergeSort (fun x y=>decide (x≤y))=((AX gs).map aL).map (·.data.toList):=by
  have e:=mergeSort_of_perm (h.perm.map (·.data.toList));refine e.trans (List.mergeSort_of_pairwise ?_)
  have:((AX gs).map aL).Pairwise (fun a b=>(Go.leB a.data.toList b.data.toList)=true):=h.up.imp fun {a b} hab=>by
   have:=aaW (fH.1 hab);simp only[Go.leB,apC];exact List.le_of_lt this
  exact List.pairwise_map.2 this
 rw[p,aqd,aqd];refine apE fun a ha=> ?_
 show jC (bZ gs) ⟨(aL a).data.toList.toArray⟩=bK a
 have e:(⟨(aL a).data.toList.toArray⟩:ByteArray)=aL a:=rfl;rw[e];unfold jC;rw[h.lab a ha];rfl
abbrev pI:=Int×Int×Int×ByteArray×List ByteArray×List ByteArray×Unit
def EZ(p:dI)(n:Int):dw:=(p.1[n.toNat]?).getD (0,[],0,[],0,0,0,false,())
theorem qg{p:dI}{n:Int}{r:dw}(h:p.1[n.toNat]?=some r):EZ p n=r:=by unfold EZ;rw[h];rfl
def G7(p:dI)(now:Int)(g:bG):bG:=tK (yw g (EZ p g.1) now p.2.2.1).2.1 (yw g (EZ p g.1) now p.2.2.1).2.2
def vJ(p:dI)(sl:List jD)(now:Int)(fs:List (List LT))(ms:List bL):List ByteArray:=ms.flatMap fun m=>bif (vT (bK m) now sl).2||ou p.2.1 (bK m) fs then [aL m]else []
def pO(p:dI)(sl:List jD)(now:Int)(fs:List (List LT))(g:bG):LkT:=j6 g (EZ p g.1) now (vJ p sl now fs (aN g))
def pG(p:dI)(sl:List jD)(now:Int)(fs:List (List LT))(g:bG):bG:=tK (pO p sl now fs g).2.1 (pO p sl now fs g).2.2.2.1
def Ym(x:LkT):pI:=(x.2.2.1.1,x.2.2.1.2.1,x.2.2.1.2.2.1,x.2.2.1.2.2.2.1,x.2.2.2.2.1,x.2.2.2.2.2,())
def pR(p:dI)(sl:List jD)(now:Int)(fs:List (List LT))(g:bG):List pI:=bif (pO p sl now fs g).1 then [Ym (pO p sl now fs g)]else []
def jI(p:dI)(s:InT)(now:Int):List bG:=(aY s).map (G7 p now)
def sW(p:dI)(s:InT)(now:Int):List (List LT):=(AX (jI p s now)).map bK
def tu(p:dI)(s:InT)(now:Int):List bG:=(jI p s now).map (pG p (bP s) now (sW p s now))
def oq(p:dI)(s:InT)(now:Int):List pI:=(jI p s now).flatMap (pR p (bP s) now (sW p s now))
def yG(p:dI)(s:InT)(now:Int):InT:=(now,iI p now (tu p s now),bP s,dD s,())
theorem LD(p:dI)(now:Int)(g:bG):(G7 p now g).1=g.1∧(G7 p now g).2.1=g.2.1:=by
 unfold G7 yw;split<;>exact⟨rfl,rfl⟩
theorem EM(p:dI)(sl:List jD)(now:Int)(fs:List (List LT))(g:bG):(pG p sl now fs g).1=g.1∧(pG p sl now fs g).2.1=g.2.1:=by
 unfold pG pO j6;split
 ·exact⟨rfl,rfl⟩
 ·dsimp only;split<;>exact⟨rfl,rfl⟩
theorem Bq{A B E F:Type}{f:A→Option (A⊕B)}(l:List E)(st:Nat→List E→List F→A)(h:E→E)(g:E→List F)(fin:List E→List F→B)(hg:∀e,(g e).length≤1)
  (h1:∀(i:Nat) (a:List E) (n:List F) (e:E),i<l.length→a.length=l.length→n.length≤i→e∈l→l[i]?=some e→a[i]?=some e→f (st i a n)=some (.inl (st (i+1) (a.set i (h e)) (n++g e))))
  (h2:∀(a:List E) (n:List F),a.length=l.length→f (st l.length a n)=some (.inr (fin a n))):aC f (st 0 l [])=some (fin (l.map h) (l.flatMap g)):=by
 have key:∀(d i:Nat) (a:List E) (n:List F),i+d=l.length→a=(l.take i).map h++l.drop i→n.length≤i→aC f (st i a n)=some (fin (l.map h) (n++(l.drop i).flatMap g)):=by
  intro d
  induction d with
  |zero=>
   intro i a n hi ha hn;obtain rfl:i=l.length:=by omega
   rw[apT,apP,ap6]at ha;rw[apP,List.flatMap_nil,ap6];subst ha;exact aD (h2 _ n (by simp))
  |succ d ih=>
   intro i a n hi ha hn;obtain⟨e,he,hd⟩:=drop_at (l:=l) (i:=i) (by omega);have hal:a.length=l.length:=by rw[ha];simp;omega
   have hml:((l.take i).map h).length=i:=by rw[aoY,apq];omega
   have hae:a[i]?=some e:=by
    rw[ha,apg (by omega),hml,Nat.sub_self,hd];rfl
   rw[hd,aqh,←ap0,←ih (i+1) (a.set i (h e)) (n++g e) (by omega) ?_ (by have:=hg e;rw[apt];omega)]
   ·exact aK (h1 i a n e (by omega) hal hn (aoX he) he hae)
   ·rw[ha,hd,List.set_append_right _ _ (by omega),hml,Nat.sub_self,fE he,ap3,ap0];rfl
 have:=key l.length 0 l [] (by omega) (by simp) (ape _);rw[ap2,aq3]at this;exact this
structure Qm(p:dI)(s:InT)(now:Int):Prop where
 len:(aY s).length≤65
 lq:Jz p (aY s)
 M9:Jm (bP s)
 rs:VU p.2.1
 exp:0≤p.2.2.1∧p.2.2.1≤604800
 now:0≤now∧now≤8589934592
theorem JQ(s:InT)(hl:(aY s).length≤1048576)(hs:∀g∈aY s,VG g)(hz:Jm (bP s)):m64 ((s,()),())=some ((),(((bV s,dD s,()),()),aY s,bP s,())):=by
 have hc:ab7 ((aY s,()),())=some ((),(aY s,())):=by
  unfold ab7;rw[show decide ((aY s).length≤4294967296)=true from aoS (by omega)];rfl
 have q:=ack (bP s) hz;have h:=Bq (F:=Unit) (f:=Fy) (aY s) (fun i a _=>(((i:Int),((aY s).length:Int),()),((bV s,dD s,()),()),a,((0,0,()),()),bP s,())) id (fun _=> [])
  (fun a _=>((),((0,0,()),()),((bV s,dD s,()),()),a,bP s,())) (fun _=>ap5 _) ?_ ?_
 ·rw[List.map_id]at h;unfold m64;refine aM _ hc ?_;refine aM _ q ?_;refine aM _ h rfl
 ·intro i a n e hi ha _ hm he hae;have hw:=aI (i:=i) (by omega);have c:=LZ (hs e hm);have hb:decide ((0:Int)≤(i:Int)∧(i:Int)<(a.length:Int))=true:=aoS (by omega);have hb2:decide (i<a.length)=true:=aoS (by omega);simp only[Fy,bQ hi,hb,hb2,aoV,hae,c,hw,cor,aA,sS];rfl
 ·intro a n ha;simp only[Fy,cO,aA,sS]
theorem MQ(p:dI)(s:InT)(now:Int)(h:Qm p s now)(x1 x2 z1 z2:Int):
  aC BZ (((0:Int),now,((aY s).length:Int),()),(p,()),((x1,x2,()),()),aY s,((z1,z2,()),()),bP s,())=
   some ((now,()),((x1,x2,()),()),(p,()),((z1,z2,()),()),jI p s now,bP s,()):=by
 have hl:=h.len;refine Bq (F:=Unit) (f:=BZ) (aY s) (fun i a _=>(((i:Int),now,((aY s).length:Int),()),(p,()),((x1,x2,()),()),a,((z1,z2,()),()),bP s,())) (G7 p now) (fun _=> [])
  (fun a _=>((now,()),((x1,x2,()),()),(p,()),((z1,z2,()),()),a,bP s,())) (fun _=>ap5 _) ?_ ?_
 ·intro i a n e hi ha _ hm he hae;have hw:=aI (i:=i) (by omega);obtain⟨hv,r,hr,rr⟩:=h.lq e hm;have q:=ahG hv rr h.now h.exp;have hb:decide ((0:Int)≤(i:Int)∧(i:Int)<(a.length:Int))=true:=aoS (by omega);have hb2:decide (i<a.length)=true:=aoS (by omega);have hai:a[((i:Int)).toNat]?=some e:=by rw[aoV];exact hae
  unfold G7;rw[qg hr];simp only[BZ,bQ hi,hb,hai,aJ,gV hv.rt hr,q,hw,aA,sS];simp only[aoV,hb2,tK,aA,sS]
 ·intro a n ha;simp only[BZ,cO,aA,sS]
theorem R8(p:dI)(sl:List jD)(hsl:Jm sl)(hrs:VU p.2.1)(now:Int)(fs:List (List LT))(hf:Vw fs)(ms:List bL)(hl:ms.length≤256)(hm:∀m∈ms,rM m)(blk:List bG)(x2:Int):
  aC Bn (((0:Int),fs,ms,(ms.length:Int),()),blk,sl,[],((now,x2,()),()),(p,()),())=some ((),blk,sl,vJ p sl now fs ms,()):=by
 refine xC (f:=Bn) ms (fun i a=>(((i:Int),fs,ms,(ms.length:Int),()),blk,sl,a,((now,x2,()),()),(p,()),())) (fun m=>bif (vT (bK m) now sl).2||ou p.2.1 (bK m) fs then [aL m]else []) (fun a=>((),blk,sl,a,())) (by omega) (fun e=>by cases ((vT (bK e) now sl).2||ou p.2.1 (bK e) fs)<;>simp) ?_ ?_
 ·intro i e a he hi ha;have hw:=aI (i:=i) (by omega);have q:=ac7 p.2.1 hrs sl hsl (bK e) (BS (hm e (aoX he)).lab) fs hf now;have hs:∀x:ByteArray,decide (a.length+ [x].length≤4294967296)=true:=fun x=>xA (by omega) x
  dsimp only[bK,aL]at q ⊢;simp only[Bn,aJ,aG he,bQ hi,q,aA,sS];cases ((vT e.2.1 now sl).2||ou p.2.1 e.2.1 fs)<;>simp only[hs,hw,ap6,aA,sS]
 ·intro a;simp only[Bn,cO,aA,sS]
theorem aem{p:dI}{l:List bG}(h:Jz p l)(f:bG→bG)(h1:∀g,(f g).1=g.1)(h2:∀g∈l,VG (f g)):Jz p (l.map f):=by
 intro g hg;obtain⟨x,hx,rfl⟩:=apR.1 hg;obtain⟨_,r,hr,rr⟩:=h x hx;exact⟨h2 x hx,r,by rw[h1];exact hr,rr⟩
theorem wF{p:dI}{s:InT}{now:Int}(h:Qm p s now):Jz p (jI p s now):=
 aem h.lq _ (fun g=>(LD p now g).1) (fun g hg=>by
  obtain⟨hv,r,hr,rr⟩:=h.lq g hg;unfold G7;rw[qg hr];exact afW hv rr _ h.now)
theorem BL{p:dI}{s:InT}{now:Int}(h:Qm p s now):Jz p (tu p s now):=
 aem (wF h) _ (fun g=>(EM p _ now _ g).1) (fun g hg=>aaJ (wF h g hg).1 _ _ h.now)
theorem YJ{gs:List bG}{m:bL}(h:m∈AX gs):∃g∈gs,m∈aN g∧cK m=true:=by
 have:=(OQ gs).lab m h;have hm:=List.mem_of_find?_eq_some this;unfold bZ at hm;obtain⟨g,hg,hm⟩:=List.mem_flatMap.1 hm;exact⟨g,hg,(aqt.1 hm).1,(aqt.1 hm).2⟩
theorem VF(gs:List bG)(h:∀g∈gs,VG g):(AX gs).length≤gs.length*256:=by
 have key:∀(gs:List bG) (acc:List bL),(∀g∈gs,VG g)→(Az gs acc).length≤acc.length+gs.length*256:=by
  intro gs
  induction gs with
  |nil=>intro acc _;simp[Az]
  |cons g r ih=>
   intro acc h;have h1:=Js (aN g) acc;have h2:=ih ((aN g).foldl kE acc) (fun x hx=>h x (by simp[hx]));have h3:=(h g (by simp)).len
   show(Az r ((aN g).foldl kE acc)).length≤_
   rw[ap9];omega
 have:=key gs [] h;simpa[AX]using this
theorem Tk{gs:List bG}(h:∀g∈gs,VG g)(hl:gs.length≤1000):Vw ((AX gs).map bK):=by
 refine⟨?_,fun l hl=> ?_⟩
 ·have:=VF gs h;rw[aoY];unfold big;omega
 ·obtain⟨m,hm,rfl⟩:=apR.1 hl;obtain⟨g,hg,hm,_⟩:=YJ hm;exact BS ((h g hg).mem m hm).lab
theorem Zo{gs:List bG}(h:∀g∈gs,VG g)(hl:gs.length≤1000):yH gs=true:=by
 unfold yH
 have h1:(gs.flatMap fun g=>g.2.2.1).length≤gs.length*256:=by
  clear hl
  induction gs with
  |nil=>simp
  |cons g r ih=>
   have:=ih (fun x hx=>h x (by simp[hx]));have h3:=(h g (by simp)).len;dsimp only[aN]at h3;rw[aqh,apt,ap9];omega
 simp only[apo,apC,ap7];refine⟨by omega,apI h1 (by omega),fun g hg=>⟨?_,fun m hm=>⟨?_,?_⟩⟩⟩
 ·have:=(h g hg).len;dsimp only[aN]at this;omega
 ·have:=Ua ((h g hg).mem m hm);dsimp only[aL]at this;omega
 ·have:=(fQ ((h g hg).mem m hm).lab).1;dsimp only[bK]at this;omega
theorem JF(p:dI)(sl:List jD)(now:Int)(fs:List (List LT))(ms:List bL):(vJ p sl now fs ms).length≤ms.length:=by
 unfold vJ
 induction ms with
 |nil=>simp
 |cons m r ih=>
  rw[aqh,apt,ap9]
  have:(bif (vT (bK m) now sl).2||ou p.2.1 (bK m) fs then [aL m]else []).length≤1:=by
   cases ((vT (bK m) now sl).2||ou p.2.1 (bK m) fs)<;>simp
  omega
theorem UA(p:dI)(sl:List jD)(hsl:Jm sl)(hrs:VU p.2.1)(now:Int)(hn:0≤now∧now≤8589934592)(fs:List (List LT))(hf:Vw fs)(gs:List bG)(hl:gs.length≤1000)(h:Jz p gs)(x2 z1 z2:Int):
  aC wJ (((0:Int),fs,now,(gs.length:Int),()),[],((now,x2,()),()),(p,()),gs,((z1,z2,()),()),sl,())=
   some ((),((z1,z2,()),()),gs.flatMap (pR p sl now fs),((now,x2,()),()),(p,()),gs.map (pG p sl now fs),sl,()):=by
 refine Bq (f:=wJ) gs (fun i a n=>(((i:Int),fs,now,(gs.length:Int),()),n,((now,x2,()),()),(p,()),a,((z1,z2,()),()),sl,())) (pG p sl now fs) (pR p sl now fs)
  (fun a n=>((),((z1,z2,()),()),n,((now,x2,()),()),(p,()),a,sl,())) (fun e=>by unfold pR;cases (pO p sl now fs e).1<;>simp) ?_ ?_
 ·intro i a n e hi ha hni hm he hae;have hw:=aI (i:=i) (by omega);obtain⟨hv,r,hr,rr⟩:=h e hm;have q:=R8 p sl hsl hrs now fs hf (aN e) hv.len hv.mem a x2;obtain⟨k,blk,q2,q3,q4⟩:=ag1 hv rr hn (mu:=vJ p sl now fs (aN e)) (by have:=JF p sl now fs (aN e);have:=hv.len;unfold big;omega);have hb:decide ((0:Int)≤(i:Int)∧(i:Int)<(a.length:Int))=true:=aoS (by omega);have hb2:decide (i<a.length)=true:=aoS (by omega);have hb3:decide (0+k≤blk.length)=true:=aoS (by omega);have hai:a[((i:Int)).toNat]?=some e:=by rw[aoV];exact hae
  have hs:∀x:pI,decide (n.length+ [x].length≤4294967296)=true:=fun x=>xA (by omega) x
  have e1:pO p sl now fs e=j6 e r now (vJ p sl now fs (aN e)):=by unfold pO;rw[qg hr]
  unfold pG pR Ym;rw[e1];generalize j6 e r now (vJ p sl now fs (aN e))=L at q2 q4 ⊢;dsimp only[aN]at q q2;have hrow:∀{B:Type} (F:dw→Option B),pX p.1 e.1 F=F r:=fun F=>gV hv.rt hr F
  simp only[wJ,bQ hi,hb,hai,aJ,aA,sS];rw[hrow,q];simp only[eq_self,q2,hb,hb3,aA,sS];cases hk:L.1<;>simp only[hs,hb2,hw,aoV,ap2,q4,tK,ap6,aA,sS]
 ·intro a n ha;simp only[wJ,cO,aA,sS]
theorem He(p:dI)(sl:List jD)(now x2:Int)(gs:List bG)(hl:gs.length≤1000)(h:Jz p gs):
  (aC rO (((0:Int),(gs.length:Int),()),gs,(p,()),((now,x2,()),()),sl,())=some (.inr ((),gs,(p,()),((now,x2,()),()),sl,()))∧iI p now gs=gs)∨
  ∃j,j<gs.length∧aC rO (((0:Int),(gs.length:Int),()),gs,(p,()),((now,x2,()),()),sl,())=some (.inl (((j:Int),()),gs,(p,()),((now,x2,()),()),sl,()))∧(gs.take (j+1)).filter (fun g=> !jh p.1 now g)=gs.take j:=by
 refine Vl (f:=rO) gs (fun g=> !jh p.1 now g) (fun i=>(((i:Int),(gs.length:Int),()),gs,(p,()),((now,x2,()),()),sl,())) (.inr ((),gs,(p,()),((now,x2,()),()),sl,())) (fun i=>.inl (((i:Int),()),gs,(p,()),((now,x2,()),()),sl,())) ?_ ?_
 ·intro i e he hi;have hw:=aI (i:=i) (by omega);have hb:decide ((0:Int)≤(i:Int)∧(i:Int)<(gs.length:Int))=true:=aoS (by omega);have q:=h.idle (aoX he) now;simp only[rO,bQ hi,hb,aoV,he,q,eq_self,aA,sS];cases jh p.1 now e<;>simp only[hw,apv,aps,aA,sS]
 ·simp only[rO,cO,aA,sS]
theorem Dx(p:dI)(sl:List jD)(now x2:Int)(gs:List bG)(hl:gs.length≤1000)(h:Jz p gs):∀(d src dst:Nat) (blk:List bG),src+d=gs.length→dst<src→blk.length=gs.length→
  blk.take dst=(gs.take src).filter (fun g=> !jh p.1 now g)→blk.drop src=gs.drop src→
  ∃(dst':Nat) (blk':List bG),aC xS (((src:Int),(dst:Int),()),blk,(p,()),((now,x2,()),()),sl,())=some (((dst':Int),()),blk',(p,()),((now,x2,()),()),sl,())∧dst'≤gs.length∧blk'.length=gs.length∧blk'.take dst'=iI p now gs:=by
 refine PE (f:=xS) gs (fun g=> !jh p.1 now g) (fun src dst blk=>(((src:Int),(dst:Int),()),blk,(p,()),((now,x2,()),()),sl,())) (fun dst blk=>(((dst:Int),()),blk,(p,()),((now,x2,()),()),sl,())) ?_ ?_
 ·intro src dst blk e h1 h2 h3 he hm;have c1:decide ((src:Int)<((blk.length:Nat):Int))=true:=aoS (by omega);have c2:decide ((0:Int)≤(src:Int)∧(src:Int)<(blk.length:Int))=true:=aoS (by omega);have c3:decide ((0:Int)≤(dst:Int)∧(dst:Int)<(blk.length:Int))=true:=aoS (by omega);have c4:decide (dst<blk.length)=true:=aoS (by omega);have w1:aP ((src:Int)+1)=((src+1:Nat):Int):=aI (by omega);have w2:aP ((dst:Int)+1)=((dst+1:Nat):Int):=aI (by omega);have q:=h.idle hm now;simp only[xS,c1,c2,aoV,he,q,eq_self,aA,sS];cases jh p.1 now e<;>simp only[c3,c4,w1,w2,apv,aps,aA,sS]
 ·intro dst blk h3;have:decide ((gs.length:Int)<((blk.length:Nat):Int))=false:=aoU (by omega);simp only[xS,this,aA,sS]
theorem DF{A:Type}(l x:List A)(k:Nat)(h:k≤l.length):(bM l k x).take k=l.take k:=by
 unfold bM;rw[ap0,aqw (by rw[apq];omega),List.take_take,Nat.min_self]
theorem Gq{A:Type}(l:List A)(z:A)(k:Nat)(h:k≤l.length):(bM l k (List.replicate (l.length-k) z)).length=l.length:=by
 unfold bM;simp;omega
def FE(p:dI)(s:InT)(now:Int)(o:Option (Unit×((Int×(Nat×Nat)×Int×Unit)×Unit)×List pI×List bG×List jD×Unit)):Prop:=
 ∃(n:Nat) (blk:List bG),o=some ((),((now,(0,n),dD s,()),()),oq p s now,blk,bP s,())∧n≤blk.length∧blk.take n=iI p now (tu p s now)
theorem Mv{p:dI}{s:InT}{now:Int}{A:Type}{o:Option A}{f:A→Option (Unit×((Int×(Nat×Nat)×Int×Unit)×Unit)×List pI×List bG×List jD×Unit)}(x:A)(h:o=some x)(h2:FE p s now (f x)):FE p s now (o.bind f):=by
 rw[h];exact h2
theorem Yq{p:dI}{s:InT}{now:Int}(h:Qm p s now):FE p s now (m75 ((p,s,now,()),())):=by
 have hl:=h.len;have hv:∀g∈aY s,VG g:=fun g hg=>(h.lq g hg).1
 have g1:=wF h;have g2:=BL h;have l1:(jI p s now).length=(aY s).length:=aoY ..;have l2:(tu p s now).length=(aY s).length:=(aoY ..).trans l1;have hv1:∀g∈jI p s now,VG g:=fun g hg=>(g1 g hg).1
 have q1:=JQ s (by omega) hv h.M9;have q2:=MQ p s now h now (dD s) 0 0;have q3:=UA p (bP s) h.M9 h.rs now h.now (sW p s now) (Tk hv1 (by omega)) (jI p s now) (by omega) g1 (dD s) 0 0;have hfe:pV (jI p s now)=sW p s now:=Us _;have hfb:=Zo hv1 (by omega);unfold m75;refine Mv _ q1 ?_;refine Mv _ q2 ?_;simp only[hfb,hfe,eq_self,aA,sS];refine Mv _ q3 ?_;have t2:(jI p s now).map (pG p (bP s) now (sW p s now))=tu p s now:=rfl;have tn:(jI p s now).flatMap (pR p (bP s) now (sW p s now))=oq p s now:=rfl;rw[t2,tn];unfold FE;generalize tu p s now=G at g2 l2 ⊢;rcases He p (bP s) now (dD s) G (by omega) g2 with⟨e,hf⟩|⟨j,hj,e,hf⟩
 ·rw[e];simp only[eq_self,apW,aA,sS];exact⟨G.length,G,rfl,ape _,by rw[apT,hf]⟩
 ·have bj:((j:Int)== -1)=false:=apn.2 (by omega);have wj:aP ((j:Int)+1)=((j+1:Nat):Int):=aI (by omega);rw[e];simp only[eq_self,bj,wj,aA,sS];obtain⟨dst,blk,e2,h3,h4,h5⟩:=Dx p (bP s) now (dD s) G (by omega) g2 (G.length-(j+1)) (j+1) j G (by omega) (by omega) rfl hf.symm rfl;rw[e2];have c1:decide ((0:Int)≤(dst:Int))=true:=aoS (by omega);have c2:decide (dst≤blk.length∧blk.length≤blk.length)=true:=aoS ⟨by omega,ape _⟩;have c3:decide (dst+(blk.length-dst)≤blk.length)=true:=aoS (by omega);have hz:∀z:bG,(bM blk dst (List.replicate (blk.length-dst) z)).length=blk.length:=fun z=>Gq blk z dst (by omega)
  have c4:∀z:bG,decide (0≤dst∧dst≤(bM blk dst (List.replicate (blk.length-dst) z)).length)=true:=fun z=>aoS ⟨ap5 _,by rw[hz];omega⟩
  have c5:∀z:bG,decide ((bM blk dst (List.replicate (blk.length-dst) z)).length=G.length)=true:=fun z=>aoS (by rw[hz];omega)
  simp only[c1,c2,c3,c4,c5,aoV,eq_self,aA,sS];exact⟨dst,_,rfl,by rw[hz];omega,(DF blk _ dst (by omega)).trans h5⟩
theorem XH{A B:Type}(f:A→B)(l:List A):l.flatMap (fun e=> [f e])=l.map f:=by
 induction l with
 |nil=>rfl
 |cons e r ih=>rw[aqh,ih];rfl
theorem Zd(p:dI)(s:InT)(now:Int)(h:Qm p s now)(ca:Int)(cb:List jD)(cc z1 z2:Int):
  aC uS (((0:Int),now,()),((ca,cb,cc,()),()),(p,()),(s,()),((z1,z2,()),()),[],())=some ((now,()),(s,()),(p,()),((ca,cb,cc,()),()),((z1,z2,()),()),jI p s now,()):=by
 have hl:=h.len;have q:=xC (f:=uS) (aY s) (fun i a=>(((i:Int),now,()),((ca,cb,cc,()),()),(p,()),(s,()),((z1,z2,()),()),a,())) (fun g=> [G7 p now g]) (fun a=>((now,()),(s,()),(p,()),((ca,cb,cc,()),()),((z1,z2,()),()),a,())) (by omega) (fun e=>ape _) ?_ ?_
 ·rw[XH]at q;exact q
 ·intro i e a he hi ha;have hw:=aI (i:=i) (by omega);obtain⟨hv,r,hr,rr⟩:=h.lq e (aoX he);have q:=aib hv rr h.now h.exp;have hs:∀x:bG,decide (a.length+ [x].length≤4294967296)=true:=fun x=>xA (by omega) x
  dsimp only[aY]at he hi ⊢;unfold G7;rw[qg hr];simp only[uS,bQ hi,aJ,aG he,gV hv.rt hr,q,hs,hw,tK,aA,sS]
 ·intro a;dsimp only[aY];simp only[uS,cO,aA,sS]
theorem abk(p:dI)(s:InT)(hsl:Jm (bP s))(hrs:VU p.2.1)(now:Int)(fs:List (List LT))(hf:Vw fs)(g:bG)(hv:VG g)(i:Int)(ca:Int)(cb:List jD)(cc z1 z2:Int)(nt:List pI)(blk:List bG):
  aC uF (((0:Int),now,i,()),(g,()),[],fs,(s,()),(p,()),((ca,cb,cc,()),()),((z1,z2,()),()),nt,blk,())=
   some ((now,i,()),fs,(s,()),(p,()),((ca,cb,cc,()),()),((z1,z2,()),()),nt,vJ p (bP s) now fs (aN g),(g,()),blk,()):=by
 have hl:=hv.len;refine xC (f:=uF) (aN g) (fun k a=>(((k:Int),now,i,()),(g,()),a,fs,(s,()),(p,()),((ca,cb,cc,()),()),((z1,z2,()),()),nt,blk,())) (fun m=>bif (vT (bK m) now (bP s)).2||ou p.2.1 (bK m) fs then [aL m]else [])
  (fun a=>((now,i,()),fs,(s,()),(p,()),((ca,cb,cc,()),()),((z1,z2,()),()),nt,a,(g,()),blk,())) (by omega) (fun e=>by cases ((vT (bK e) now (bP s)).2||ou p.2.1 (bK e) fs)<;>simp) ?_ ?_
 ·intro k e a he hi ha;have hw:=aI (i:=k) (by omega);have q:=aft p.2.1 hrs (bP s) hsl (bK e) (BS (hv.mem e (aoX he)).lab) fs hf now;have hs:∀x:ByteArray,decide (a.length+ [x].length≤4294967296)=true:=fun x=>xA (by omega) x
  dsimp only[bK,aL,aN,bP]at q he hi ⊢;simp only[uF,aJ,aG he,bQ hi,q,aA,sS];cases ((vT e.2.1 now s.2.2.1).2||ou p.2.1 e.2.1 fs)<;>simp only[aG he,hs,hw,ap6,aA,sS]
 ·intro a;dsimp only[aN];simp only[uF,cO,aA,sS]
theorem ML(p:dI)(s:InT)(hsl:Jm (bP s))(hrs:VU p.2.1)(now:Int)(hn:0≤now∧now≤8589934592)(fs:List (List LT))(hf:Vw fs)(gs:List bG)(hl:gs.length≤1000)(h:Jz p gs)(ca:Int)(cb:List jD)(cc z1 z2:Int):
  aC uQ ((now,(0:Int),()),fs,(s,()),(p,()),[],((ca,cb,cc,()),()),((z1,z2,()),()),gs,())=
   some ((now,()),((z1,z2,()),()),gs.flatMap (pR p (bP s) now fs),((ca,cb,cc,()),()),(p,()),gs.map (pG p (bP s) now fs),()):=by
 refine Bq (f:=uQ) gs (fun i a n=>((now,(i:Int),()),fs,(s,()),(p,()),n,((ca,cb,cc,()),()),((z1,z2,()),()),a,())) (pG p (bP s) now fs) (pR p (bP s) now fs)
  (fun a n=>((now,()),((z1,z2,()),()),n,((ca,cb,cc,()),()),(p,()),a,())) (fun e=>by unfold pR;cases (pO p (bP s) now fs e).1<;>simp) ?_ ?_
 ·intro i a n e hi ha hni hm he hae;have hw:=aI (i:=i) (by omega);obtain⟨hv,r,hr,rr⟩:=h e hm;have q:=abk p s hsl hrs now fs hf e hv (i:Int) ca cb cc z1 z2 n a;have q2:=afe hv rr hn (mu:=vJ p (bP s) now fs (aN e)) (by have:=JF p (bP s) now fs (aN e);have:=hv.len;unfold big;omega);have hlt:decide ((i:Int)<((a.length:Nat):Int))=true:=aoS (by omega);have hb:decide ((0:Int)≤(i:Int)∧(i:Int)<(a.length:Int))=true:=aoS (by omega);have hb2:decide (i<a.length)=true:=aoS (by omega);have hai:a[((i:Int)).toNat]?=some e:=by rw[aoV];exact hae
  have hs:∀x:pI,decide (n.length+ [x].length≤4294967296)=true:=fun x=>xA (by omega) x
  have e1:pO p (bP s) now fs e=j6 e r now (vJ p (bP s) now fs (aN e)):=by unfold pO;rw[qg hr]
  unfold pG pR Ym;rw[e1];generalize j6 e r now (vJ p (bP s) now fs (aN e))=L at q2 ⊢;dsimp only[aN]at q q2;have hrow:∀{B:Type} (F:dw→Option B),pX p.1 e.1 F=F r:=fun F=>gV hv.rt hr F
  simp only[uQ,hlt,hb,hai,aJ,aA,sS];rw[q];simp only[hrow,q2,hb,aA,sS];cases hk:L.1<;>simp only[hs,hb2,hw,aoV,tK,ap6,aA,sS]
 ·intro a n ha;have:decide ((gs.length:Int)<((a.length:Nat):Int))=false:=aoU (by omega);simp only[uQ,this,aA,sS]
theorem Tm(p:dI)(l:List bG)(hl:l.length≤1048576)(h:Jz p l)(now:Int):aC wX (((0:Int),now,()),l,[],(p,()),())=some ((),l,iI p now l,()):=by
 have q:=xC (f:=wX) l (fun i a=>(((i:Int),now,()),l,a,(p,()),())) (fun g=>bif !jh p.1 now g then [g]else []) (fun a=>((),l,a,())) hl (fun e=>by cases (!jh p.1 now e)<;>simp) ?_ ?_
 ·rw[MV]at q;exact q
 ·intro i e a he hi ha;have hw:aP ((i:Int)+1)=((i+1:Nat):Int):=aI (by omega);have q:=h.ajP (aoX he) now;have hs:∀x:bG,decide (a.length+ [x].length≤4294967296)=true:=fun x=>xA (by omega) x
  have hb:decide ((0:Int)≤(i:Int)∧(i:Int)<(l.length:Int))=true:=aoS (by omega);simp only[wX,bQ hi,hb,aoV,he,q,aA,sS];cases jh p.1 now e<;>simp only[hs,hw,hb,aoV,he,ap6,apv,aps,aA,sS]
 ·intro a;simp only[wX,cO,aA,sS]
def oK(p:dI)(s:InT)(now:Int):Int×InT×List pI:=
 if kR p s=false then(8,(0,[],[],0,()),[])else if zB (bV s) now≠0 then(zB (bV s) now,(0,[],[],0,()),[])else(0,yG p s now,oq p s now)
structure VI(p:dI)(s:InT):Prop where
 iQ:uN p=0
 now:0≤bV s∧bV s≤8589934592
 len:(aY s).length≤64
 M9:Et (bP s)=0
 next:1≤dD s
 ids:∀x∈bP s,x.1<dD s
 tK:sP (rT p (bV s)) none (aY s)=true
theorem GN{p:dI}{s:InT}:kR p s=true↔VI p s:=by
 unfold kR inst;simp only[apo,apC,ap7];exact⟨fun⟨a,b,c,d,e,f,g⟩=>⟨a,b,c,d,e,f,g⟩,fun h=>⟨h.iQ,h.now,h.len,h.M9,h.next,h.ids,h.tK⟩⟩
theorem VI.lq{p:dI}{s:InT}(h:VI p s)(hp:yF p)(hs:ve s):Jz p (aY s):=by
 intro g hg;obtain⟨hv,_⟩:=hs.tK g hg;obtain⟨q,hb⟩:=EQ h.tK g hg;unfold rT at hb;simp only[apM,aqa]at hb;obtain⟨r,hr⟩:=H9 hv hb.1;exact⟨hv,r,hr,Bc hp.rt (iP h.iQ).1 r (aoX hr)⟩
theorem VI.tk{p:dI}{s:InT}(h:VI p s)(hp:yF p)(hs:ve s){now:Int}(hn:0≤now∧now≤8589934592):Qm p s now:=
 ⟨by have:=h.len;omega,h.lq hp hs,hs.M9,hp.rs,⟨(iP h.iQ).2.2.1,(iP h.iQ).2.2.2⟩,hn⟩
theorem Xp(s:InT)(t:Int):m67 ((s,t,()),())=some ((zB (bV s) t,()),()):=by
 unfold m67 zB;by_cases h1:t<s.1
 ·simp[h1]
 ·by_cases h2:t>8589934592<;>simp[h1,h2]
theorem qQ{now t:Int}(h:zB now t=0)(h0:0≤now):0≤t∧t≤8589934592∧now≤t:=by
 unfold zB at h;split at h
 ·cases h
 ·split at h
  ·cases h
  ·omega
theorem U2{p:dI}(hp:yF p){s:InT}(hs:ve s)(now:Int):
  (∃(n:Nat) (blk:List bG),m28 ((p,s,now,()),())=some (((oK p s now).1,()),(((oK p s now).2.1.1,(0,n),(oK p s now).2.1.2.2.2.1,()),()),(oK p s now).2.2,blk,(oK p s now).2.1.2.2.1,())∧n≤blk.length∧blk.take n=(oK p s now).2.1.2.1)∧
  m42 ((p,s,now,()),())=some (((oK p s now).1,()),(((oK p s now).2.1.1,(oK p s now).2.1.2.2.1,(oK p s now).2.1.2.2.2.1,()),()),(oK p s now).2.2,(oK p s now).2.1.2.1,()):=by
 have q1:=Y7 p hp s hs;have q2:=Xl p hp s hs;have q3:=Xp s now;unfold oK;cases hv:kR p s
 ·rw[if_pos rfl];rw[hv]at q1 q2;constructor
  ·unfold m28;simp only[q1,aA,sS];exact⟨0,[],rfl,ape _,rfl⟩
  ·unfold m42;simp only[q2,aA,sS]
 ·rw[if_neg (by simp)];rw[hv]at q1 q2;have h:=GN.1 hv;by_cases hc:zB (bV s) now=0
  ·rw[if_neg (by simpa using hc)];rw[hc]at q3;obtain⟨n0,n1,n2⟩:=qQ hc h.now.1;have tk:=h.tk hp hs ⟨n0,n1⟩;constructor
   ·obtain⟨n,blk,e,e1,e2⟩:=Yq tk;refine⟨n,blk,?_,e1,e2⟩;unfold m28;simp only[q1,q3,e,ap4,aA,sS];rfl
   ·have g1:=wF tk;have g2:=BL tk;have l1:(jI p s now).length=(aY s).length:=aoY ..;have l2:(tu p s now).length=(aY s).length:=(aoY ..).trans l1;have hl:=h.len;have hv1:∀g∈jI p s now,VG g:=fun g hg=>(g1 g hg).1
    have e1:=Zd p s now tk now (bP s) (dD s) 0 0;have e2:=Zg (jI p s now) now (bP s) (dD s) hv1 (by omega) (jI p s now).length 0 [] (by omega) (by simp;omega);rw[ap2]at e2;have e3:=ML p s hs.M9 hp.rs now ⟨n0,n1⟩ (sW p s now) (Tk hv1 (by omega)) (jI p s now) (by omega) g1 now (bP s) (dD s) 0 0;have e4:=Tm p (tu p s now) (by omega) g2 now;have c1:decide (now<s.1)=false:=aoU (by have:=n2;dsimp only[bV]at this;omega);have c2:decide (now>8589934592)=false:=aoU (by omega);unfold m42;simp only[q2,c1,c2,aA,sS];refine aM _ e1 ?_;refine aM _ e2 ?_;simp only[eq_self,aA,sS];refine aM _ e3 ?_;refine aM _ e4 ?_;simp only[aA,sS];have t2:(jI p s now).map (pG p (bP s) now (sW p s now))=tu p s now:=rfl;rw[t2];simp only[eq_self,aA,sS];rfl
  ·rw[if_pos hc];constructor
   ·unfold m28;simp only[q1,q3,apO.2 hc,aA,sS];exact⟨0,[],rfl,ape _,rfl⟩
   ·have hc':=hc;unfold zB at hc' ⊢;dsimp only[bV]at hc' ⊢;unfold m42;by_cases h1:now<s.1
    ·simp only[q2,h1,aqg,if_true,aA,sS]
    ·by_cases h2:now>8589934592
     ·simp only[q2,h1,h2,aqg,aqn,if_true,if_false,aA,sS]
     ·rw[if_neg h1,if_neg h2]at hc';exact absurd rfl hc'
abbrev LG(a:bG)(rt:Int)(k:ByteArray):Prop:=a.1<rt∨(a.1=rt∧Lt a.2.1 k)
theorem zF{a:bG}{rt:Int}{k:ByteArray}:iV a rt k=true↔LG a rt k:=by
 unfold iV LG Lt;simp
theorem FQ{a b:bG}{rt:Int}{k:ByteArray}(h:LG a b.1 b.2.1)(h2:LG b rt k):LG a rt k:=by
 rcases h with h|⟨h,h'⟩<;>rcases h2 with h2|⟨h2,h2'⟩
 ·exact .inl (by omega)
 ·exact .inl (by omega)
 ·exact .inl (by omega)
 ·exact .inr ⟨by omega,lt_trans h' h2'⟩
def MB(gs:List bG):Prop:=gs.Pairwise fun a b=>LG a b.1 b.2.1
theorem w9{p:dI}{now:Int}:∀{gs:List bG} {q:Option bG},sP (rT p now) q gs=true→MB gs∧∀a,q=some a→∀b∈gs,LG a b.1 b.2.1
 | [],_,_=>⟨List.Pairwise.nil,fun _ _ b hb=>by cases hb⟩
 |g::r,q,h=>by
  unfold sP at h;rw[apo]at h;obtain⟨h1,h2⟩:=h;obtain⟨u1,u2⟩:=w9 h2;have h1:rT p now q g=false:=by simpa using h1
  refine⟨aqm.2 ⟨u2 g rfl,u1⟩,fun a ha b hb=> ?_⟩;subst ha;unfold rT at h1;simp only[apM,Bool.not_eq_false']at h1;have hag:=zF.1 h1.2.2.1;rcases apD.1 hb with rfl|hb
  ·exact hag
  ·exact FQ hag (u2 g rfl b hb)
def gP(rt:Int)(k:ByteArray):List bG→Nat
 | []=>0
 |g::r=>if iV g rt k=true then gP rt k r+1 else 0
def yZ(rt:Int)(k:ByteArray)(gs:List bG):Bool:=match gs[gP rt k gs]? with|some g=>decide (g.1=rt)&&decide (g.2.1=k)|none=>false
theorem Fh(rt:Int)(k:ByteArray):∀gs:List bG,gP rt k gs≤gs.length
 | []=>ape _
 |g::r=>by
  unfold gP;split
  ·have:=Fh rt k r;simp;omega
  ·exact ap5 _
theorem KU{rt:Int}{k:ByteArray}:∀{gs:List bG} {i:Nat},i≤gs.length→(∀(j:Nat) g,j<i→gs[j]?=some g→iV g rt k=true)→(∀(j:Nat) g,i≤j→gs[j]?=some g→iV g rt k=false)→gP rt k gs=i
 | [],i,h,_,_=>by simp at h;subst h;rfl
 |g::r,0,_,_,h2=>by
  unfold gP;rw[if_neg (by rw[h2 0 g (ape _) rfl];simp)]
 |g::r,i+1,h,h1,h2=>by
  unfold gP;rw[if_pos (h1 0 g (by omega) rfl),KU (i:=i) (by simpa using h) (fun j x hj hx=>h1 (j+1) x (by omega) (by simpa using hx)) (fun j x hj hx=>h2 (j+1) x (by omega) (by simpa using hx))]
theorem Jq{rt:Int}{k:ByteArray}:∀{gs:List bG} {j:Nat} {g:bG},j<gP rt k gs→gs[j]?=some g→iV g rt k=true
 | [],j,g,h,_=>by simp[gP]at h
 |x::r,j,g,h,hg=>by
  unfold gP at h;split at h
  ·rename_i hx
   cases j with
   |zero=>simp at hg;subst hg;exact hx
   |succ j=>exact Jq (gs:=r) (j:=j) (by omega) (by simpa using hg)
  ·omega
theorem Sl{rt:Int}{k:ByteArray}:∀{gs:List bG} {g:bG},gs[gP rt k gs]?=some g→iV g rt k=false
 | [],g,h=>by simp at h
 |x::r,g,h=>by
  unfold gP at h;split at h
  ·exact Sl (gs:=r) (by simpa using h)
  ·rename_i hx;simp at h;subst h;simpa using hx
theorem PX(a:bG)(rt:Int)(k:ByteArray):(rG a rt k==0)=(decide (a.1=rt)&&decide (a.2.1=k)):=by
 unfold rG;by_cases h:a.1=rt
 ·rw[if_pos h,aoS h,apB];by_cases hk:a.2.1=k
  ·rw[xX.2 hk,aoS hk];rfl
  ·rw[aoU hk];exact apn.2 (fun e=>hk (xX.1 e))
 ·rw[if_neg h,aoU h,apX];exact apn.2 (by omega)
def GSm(gs:List bG):Prop:=∀g∈gs,0≤g.1∧g.1≤1048576
theorem bsearch(gs:List bG)(hl:gs.length≤1000)(hs:GSm gs)(hu:MB gs)(rt:Int)(hr:0≤rt∧rt≤1048576)(k:ByteArray):
  aC rY ((k,(gs.length:Int),0,(gs.length:Int),()),gs,(rt,()),())=some ((k,(gP rt k gs:Int),(gs.length:Int),()),gs,(rt,()),()):=by
 have hup:=List.pairwise_iff_getElem.1 hu
 have mono:∀(a b:Nat) (x y:bG),gs[a]?=some x→gs[b]?=some y→a≤b→iV x rt k=false→iV y rt k=false:=by
  intro a b x y ha hb hab hx;by_cases e:a=b
  ·subst e;rw[ha]at hb;injection hb with hb;subst hb;exact hx
  ·obtain⟨h1,h1'⟩:=aoT.1 ha;obtain⟨h2,h2'⟩:=aoT.1 hb;have:=hup a b h1 h2 (by omega);rw[h1',h2']at this;cases hy:iV y rt k
   ·rfl
   ·rw[zF.2 (FQ this (zF.1 hy))]at hx;cases hx
 have go:∀(d lo hi:Nat),hi-lo≤d→lo≤hi→hi≤gs.length→(∀(j:Nat) g,j<lo→gs[j]?=some g→iV g rt k=true)→(∀(j:Nat) g,hi≤j→gs[j]?=some g→iV g rt k=false)→
   aC rY ((k,(hi:Int),(lo:Int),(gs.length:Int),()),gs,(rt,()),())=some ((k,(gP rt k gs:Int),(gs.length:Int),()),gs,(rt,()),()):=by
  intro d
  induction d with
  |zero=>
   intro lo hi h0 h1 h2 h3 h4;have:lo=hi:=by omega
   subst this;rw[KU h2 h3 h4];refine aD ?_;simp only[rY,cO,aA,sS]
  |succ d ih=>
   intro lo hi h0 h1 h2 h3 h4;by_cases hlt:lo<hi
   ·have hm:=half lo hi (by omega);have hmid:(lo+hi)/ 2<gs.length:=by omega
    obtain⟨e,he⟩:=getD_some hmid;have dl:decide ((lo:Int)<(hi:Int))=true:=aoS (by omega);have d1:decide ((0:Int)≤1)=true:=rfl;have d2:decide ((0:Int)≤(((lo+hi)/ 2:Nat):Int)∧(((lo+hi)/ 2:Nat):Int)<(gs.length:Int))=true:=aoS (by omega);have hw:aP ((((lo+hi)/ 2:Nat):Int)+1)=(((lo+hi)/ 2+1:Nat):Int):=aI (by omega);have q:=RA e rt k (hs e (aoX he)) hr;cases hc:iV e rt k
    ·have dc:decide (rG e rt k<0)=false:=by rw[Cu,hc]
     rw[←ih lo ((lo+hi)/ 2) (by omega) (by omega) (by omega) h3 (fun j m hj hjm=>mono _ j e m he hjm hj hc)];refine aK ?_;simp only[rY,dl,d1,hm,d2,aoV,he,q,dc,aA,sS]
    ·have dc:decide (rG e rt k<0)=true:=by rw[Cu,hc]
     rw[←ih ((lo+hi)/ 2+1) hi (by omega) (by omega) h2 (fun j m hj hjm=>by
      cases hx:iV m rt k
      ·exact absurd (mono j _ m e hjm he (by omega) hx) (by rw[hc];simp)
      ·rfl) h4]
     refine aK ?_;simp only[rY,dl,d1,hm,d2,aoV,he,q,dc,hw,aA,sS]
   ·have:lo=hi:=by omega
    subst this;rw[KU h2 h3 h4];refine aD ?_;simp only[rY,cO,aA,sS]
 exact go _ 0 gs.length (ape _) (ap5 _) (ape _) (fun j m hj=>by omega) (fun j m hj hjm=>by
  have:=(aoT.1 hjm).1;omega)
def newG(rt:Int)(k:ByteArray):bG:=(rt,k,[],-1,-1,())
def yD(p:dI)(a:nk)(i:Nat):ByteArray:=AL (EZ p i) a.2.1
def alG(p:dI)(a:nk)(gs:List bG)(i:Nat):List bG:=
 if yZ i (yD p a i) gs=true then gs else gs.take (gP i (yD p a i) gs)++ [newG i (yD p a i)]++gs.drop (gP i (yD p a i) gs)
def Yn(p:dI)(a:nk)(gs:List bG)(i:Nat):Int×JD×List bL:=
 kW (((alG p a gs i)[gP i (yD p a i) gs]?).getD (newG 0 ByteArray.empty)) (EZ p i) a.2.1 a.2.2.1 a.1
def uP(p:dI)(a:nk)(gs:List bG)(i:Nat):Option (List bG):=
 if yZ i (yD p a i) gs=false∧a.2.2.1=false then some gs
 else if(Yn p a gs i).1≠0 then none else some ((alG p a gs i).set (gP i (yD p a i) gs) (tK (Yn p a gs i).2.1 (Yn p a gs i).2.2))
theorem Ms{rt:Int}(k:ByteArray)(h:0≤rt):VG (newG rt k):=⟨ap5 _,h,⟨by show(-1:Int)≤ -1;omega,by show(-1:Int)≤8589934592;omega⟩,⟨by show(-1:Int)≤ -1;omega,by show(-1:Int)≤8589934592;omega⟩,fun m hm=>(by cases hm),List.Pairwise.nil⟩
structure yu(p:dI)(gs:List bG)(n:Nat):Prop where
 lq:Jz p gs
 up:MB gs
 len:gs.length≤n
theorem yu.small{p:dI}{gs:List bG}{n:Nat}(h:yu p gs n)(hp:p.1.length≤24):GSm gs:=by
 intro g hg;obtain⟨hv,r,hr,_⟩:=h.lq g hg;have h1:=hv.rt;have:=(aoT.1 hr).1;exact⟨h1,by omega⟩
theorem L9(p:dI)(a:nk)(gs:List bG)(i:Nat):∃g,(alG p a gs i)[gP i (yD p a i) gs]?=some g∧g.1=i∧g.2.1=yD p a i∧(g∈gs∨g=newG i (yD p a i)):=by
 unfold alG;cases hh:yZ i (yD p a i) gs
 ·rw[if_neg (by simp)];refine⟨newG i (yD p a i),?_,rfl,rfl,.inr rfl⟩;have hle:=Fh i (yD p a i) gs;rw[ap0,apg (by rw[apq];omega),apq,show gP i (yD p a i) gs-min (gP i (yD p a i) gs) gs.length=0 by omega];rfl
 ·rw[if_pos rfl];unfold yZ at hh
  cases hg:gs[gP i (yD p a i) gs]? with
  |none=>rw[hg]at hh;cases hh
  |some g=>
   rw[hg]at hh;simp only[apo,apC]at hh;exact⟨g,rfl,hh.1,hh.2,.inl (aoX hg)⟩
theorem O3{g:bG}{r:dw}{l:List LT}{on:Bool}{t:Int}(h:(kW g r l on t).1=0):(kW g r l on t).2.1.1=g.1∧(kW g r l on t).2.1.2.1=g.2.1:=by
 unfold kW at h ⊢;dsimp only at h ⊢;by_cases hh:hit (gL (dU l)) (aN g)=true
 ·rw[if_pos hh]at h ⊢;obtain⟨m,hm,_⟩:=Bw hh;rw[hm]at h ⊢;dsimp only at h ⊢;split
  ·exact⟨rfl,rfl⟩
  ·split
   ·exact⟨rfl,rfl⟩
   ·split<;>exact⟨rfl,rfl⟩
 ·rw[if_neg hh]at h ⊢;split
  ·rename_i hon;rw[if_pos hon]at h;split
   ·rename_i hl;rw[if_pos hl]at h;cases h
   ·exact⟨rfl,rfl⟩
  ·exact⟨rfl,rfl⟩
theorem agn{gs:List bG}(hu:MB gs)(rt:Int)(k:ByteArray)(hh:yZ rt k gs=false):MB (gs.take (gP rt k gs)++ [newG rt k]++gs.drop (gP rt k gs)):=by
 have hu':=hu;unfold MB at hu' ⊢;rw[ap0,List.pairwise_append];rw[←aqj (gP rt k gs) gs,List.pairwise_append]at hu'
 have ha:∀x∈gs.take (gP rt k gs),LG x rt k:=fun x hx=>by
  obtain⟨j,hj,rfl⟩:=List.mem_take_iff_getElem.1 hx;exact zF.1 (Jq (j:=j) (by omega) (apc _))
 have hb:∀x∈gs.drop (gP rt k gs),LG (newG rt k) x.1 x.2.1:=fun x hx=>by
  have hnot:∀y,gs[gP rt k gs]?=some y→LG (newG rt k) y.1 y.2.1:=fun y hy=>by
   have h1:=Sl hy;unfold yZ at hh;rw[hy]at hh;simp only[Bool.and_eq_false_iff,aqa]at hh;have h2:¬ LG y rt k:=fun h=>by rw[zF.2 h]at h1;cases h1
   unfold LG at h2 ⊢
   show rt<y.1∨(rt=y.1∧Lt k y.2.1)
   by_cases e:y.1=rt
   ·rcases hh with hh|hh
    ·exact absurd e hh
    ·rcases La k y.2.1 with h|h|h
     ·exact .inr ⟨e.symm,h⟩
     ·exact absurd h.symm hh
     ·exact absurd (.inr ⟨e,h⟩) h2
   ·exact .inl (by
     have:¬ y.1<rt:=fun h=>h2 (.inl h)
     omega)
  obtain⟨j,hj,rfl⟩:=List.mem_drop_iff_getElem.1 hx;have hil:gP rt k gs<gs.length:=by omega
  have h0:=hnot _ (apc hil);by_cases e:j=0
  ·subst e;exact h0
  ·have:=(List.pairwise_iff_getElem.1 hu) (gP rt k gs) (gP rt k gs+j) hil (by omega) (by omega);exact FQ h0 this
 refine⟨hu'.1,?_,fun x hx y hy=> ?_⟩
 ·rw[aqk];exact aqm.2 ⟨hb,hu'.2.1⟩
 ·rw[aqk]at hy;rcases apD.1 hy with rfl|hy
  ·exact ha x hx
  ·exact hu'.2.2 x hx y hy
theorem afC{gs:List bG}(hu:MB gs){i:Nat}{g x:bG}(hg:gs[i]?=some g)(h1:x.1=g.1)(h2:x.2.1=g.2.1):MB (gs.set i x):=by
 unfold MB at hu ⊢;rw[List.pairwise_iff_getElem]at hu ⊢;obtain⟨hil,hig⟩:=aoT.1 hg
 have rd:∀(j:Nat) (hj:j<(gs.set i x).length),(gs.set i x)[j].1=(gs[j]'(by simpa using hj)).1∧(gs.set i x)[j].2.1=(gs[j]'(by simpa using hj)).2.1:=by
  intro j hj;rw[List.getElem_set];split
  ·rename_i e;subst e;rw[hig];exact⟨h1,h2⟩
  ·exact⟨rfl,rfl⟩
 intro a b ha hb hab;have:=hu a b (by simpa using ha) (by simpa using hb) hab;unfold LG at this ⊢;rw[(rd a ha).1,(rd a ha).2,(rd b hb).1,(rd b hb).2];exact this
theorem CS{p:dI}{a:nk}{gs gs':List bG}{n i:Nat}(h:yu p gs n)(hi:∃r,p.1[i]?=some r∧RR r)(hl:dh a.2.1=true)(ht:0≤a.1∧a.1≤8589934592)(e:uP p a gs i=some gs'):yu p gs' (n+1):=by
 obtain⟨r,hr,rr⟩:=hi;unfold uP at e;split at e
 ·cases e;exact⟨h.lq,h.up,apI h.len (Nat.le_succ n)⟩
 ·split at e
  ·cases e
  ·rename_i h0;simp only[ne_eq,Decidable.not_not]at h0;cases e;obtain⟨g,hg,g1,g2,hm⟩:=L9 p a gs i;have hre:EZ p ((i:Nat):Int)=r:=qg (by rw[aoV];exact hr)
   have hv:VG g:=by
    rcases hm with hm|rfl
    ·exact(h.lq g hm).1
    ·exact Ms _ (by omega)
   have ha:Yn p a gs i=kW g r a.2.1 a.2.2.1 a.1:=by unfold Yn;rw[hg,hre];rfl
   rw[ha]at h0 ⊢;obtain⟨k1,k2⟩:=O3 h0;have hx:VG (tK (kW g r a.2.1 a.2.2.1 a.1).2.1 (kW g r a.2.1 a.2.2.1 a.1).2.2):=af9 hv rr hl _ ht
   have inv:yu p (alG p a gs i) (n+1):=by
    unfold alG;cases hh:yZ i (yD p a i) gs
    ·rw[if_neg (by simp)];refine⟨fun x hx=> ?_,agn h.up _ _ hh,?_⟩
     ·simp only[apr,apL]at hx;rcases hx with(hx|rfl)|hx
      ·exact h.lq x (List.mem_of_mem_take hx)
      ·exact⟨Ms _ (by omega),r,by show p.1[((i:Nat):Int).toNat]?=some r;rw[aoV];exact hr,rr⟩
      ·exact h.lq x (List.mem_of_mem_drop hx)
     ·have:=h.len;simp only[apt,apq,ap8,List.length_singleton];omega
    ·rw[if_pos rfl];exact⟨h.lq,h.up,apI h.len (Nat.le_succ n)⟩
   refine⟨fun x hx'=> ?_,afC inv.up hg k1 k2,by rw[apK];exact inv.len⟩;rcases mem_set hx' with hx'|rfl
   ·exact inv.lq x hx'
   ·exact⟨hx,r,by
     show p.1[((kW g r a.2.1 a.2.2.1 a.1).2.1.1).toNat]?=some r
     rw[k1,g1,aoV];exact hr,rr⟩
structure Ls(p:dI)(a:nk)(gs:List bG)(i:Nat):Prop where
 inv:yu p gs 1000
 rl:p.1.length≤24
 rt:∃r,p.1[i]?=some r∧RR r
 lab:dh a.2.1=true
 at':0≤a.1∧a.1≤8589934592
theorem Ls.key{p:dI}{a:nk}{gs:List bG}{i:Nat}(h:Ls p a gs i){r:dw}(hr:p.1[i]?=some r)(rr:RR r):
  m69 ((r,a.2.1,()),())=some ((yD p a i,()),())∧m20 ((r,a.2.1,()),())=some ((yD p a i,()),()):=by
 have hre:EZ p ((i:Nat):Int)=r:=qg (by rw[aoV];exact hr);unfold yD;rw[hre];exact⟨Zu r a.2.1 (jc h.lab) rr.z.2.1,Yi r a.2.1 (jc h.lab) rr.z.2.1⟩
theorem QB{p:dI}{a:nk}{gs:List bG}{i:Nat}(h:Ls p a gs i)(hl:gs.length≤900)(l:List Nat)(q:Nat)(hq:l[q]?=some i)(hll:l.length≤1000)(now next:Int)(sl:List jD):
  xJ (((q:Int),(l.length:Int),()),((0,0,()),()),((now,next,()),()),(a,()),(p,()),ints l,gs,sl,())=
   some (match uP p a gs i with
    |some gs'=>.inl ((((q+1:Nat):Int),(l.length:Int),()),((0,0,()),()),((now,next,()),()),(a,()),(p,()),ints l,gs',sl,())
    |none=>.inr (.inl ((5,()),((0,0,()),()),()))):=by
 obtain⟨r,hr,rr⟩:=h.rt;have hql:=(aoT.1 hq).1;have hil:=(aoT.1 hr).1;have hrl:=h.rl;have il:(ints l).length=l.length:=by simp[ints]
 have hqi:(ints l)[((q:Int)).toNat]?=some (i:Int):=by rw[aoV];simp[ints,hq]
 have b1:decide ((0:Int)≤(q:Int)∧(q:Int)<((ints l).length:Int))=true:=aoS (by rw[il];omega);have hw:=aI (i:=q) (by omega);have hk:=(h.key hr rr).1;have hbs:=bsearch gs (by omega) (h.inv.small h.rl) h.inv.up (i:Int) ⟨by omega,by omega⟩ (yD p a i);obtain⟨g,hg,g1,g2,hm⟩:=L9 p a gs i;have hre:EZ p ((i:Nat):Int)=r:=qg (by rw[aoV];exact hr)
 have hv:VG g:=by
  rcases hm with hm|rfl
  ·exact(h.inv.lq g hm).1
  ·exact Ms _ (by omega)
 have hadd:=ahl hv rr h.lab a.2.2.1 h.at';have ha:Yn p a gs i=kW g r a.2.1 a.2.2.1 a.1:=by unfold Yn;rw[hg,hre];rfl
 have hri:p.1[((i:Int)).toNat]?=some r:=by rw[aoV];exact hr
 have hrow:∀{B:Type} (F:dw→Option B),pX p.1 (i:Int) F=F r:=fun F=>gV (by omega) hri F
 have hple:=Fh (i:Int) (yD p a i) gs;have hx0:yZ i (yD p a i) gs=match gs[gP i (yD p a i) gs]? with|some g=>decide (g.1=(i:Int))&&decide (g.2.1=yD p a i)|none=>false:=rfl
 have hsm:=h.inv.small h.rl;unfold uP;rw[ha];unfold alG at hg ⊢;generalize yD p a i=k at *;generalize hP:gP (i:Int) k gs=P at *;unfold xJ;simp only[bQ hql,b1,hqi,aJ,hrow,aA,sS];simp only[hk,hbs,aA,sS]
 have key:∀{B:Type} (F:((Int×Bool×Unit)×(List bG×(Int×Unit)×Unit))→Option B),
   ((bif decide ((P:Int)<(gs.length:Int))then(bif decide ((0:Int)≤(P:Int)∧(P:Int)<(gs.length:Int))then
     (gs[((P:Int)).toNat]?).bind fun e285=>(m84 ((e285,(i:Int),k,()),())).bind fun u286=>some (((P:Int),(u286.1.1==0),()),(gs,((i:Int),()),()))
     else none)else some (((P:Int),false,()),(gs,((i:Int),()),())):Option ((Int×Bool×Unit)×(List bG×(Int×Unit)×Unit))).bind F)=F (((P:Int),yZ i k gs,()),(gs,((i:Int),()),())):=by
  intro B F;rw[hx0];by_cases hpl:P<gs.length
  ·obtain⟨e,he⟩:=getD_some hpl;have d1:decide ((P:Int)<(gs.length:Int))=true:=aoS (by omega);have d2:decide ((0:Int)≤(P:Int)∧(P:Int)<(gs.length:Int))=true:=aoS (by omega);have q84:=RA e (i:Int) k (hsm e (aoX he)) ⟨by omega,by omega⟩;simp only[d1,d2,aoV,he,q84,PX,aA,sS]
  ·have d1:decide ((P:Int)<(gs.length:Int))=false:=aoU (by omega);rw[show gs[P]?=none from apQ (by omega)];simp only[d1,aA,sS]
 rw[key];simp only[eq_self,aA,sS];have hgP:(if yZ (i:Int) k gs=true then gs else List.take P gs++ [newG (i:Int) k]++List.drop P gs)[((P:Int)).toNat]?=some g:=by rw[aoV];exact hg
 have hlenG:P<(if yZ (i:Int) k gs=true then gs else List.take P gs++ [newG (i:Int) k]++List.drop P gs).length:=(aoT.1 hg).1;have c1:∀z:bG,decide ((0:Int)≤(P:Int)∧(P:Int)≤(gs.length:Int)∧gs.length≤4294967295∧ [z].length=1)=true:=fun z=>aoS ⟨by omega,by omega,by omega,rfl⟩
 cases hh:yZ (i:Int) k gs
 ·cases hf:a.2.2.1
  ·simp only[hw,if_true,and_self,aps,aA,sS]
  ·rw[hh]at hgP hlenG;simp only[apj,if_false]at hgP hlenG;have c2:decide ((0:Int)≤(P:Int)∧(P:Int)<((List.take P gs++ [newG (i:Int) k]++List.drop P gs).length:Int))=true:=aoS (by omega);have c3:decide (P<(List.take P gs++ [newG (i:Int) k]++List.drop P gs).length)=true:=aoS hlenG;rw[hf]at hadd;unfold newG at hgP c2 c3;rw[aoV]at hgP;simp only[m72,c1,eq_self,aps,apv,Bool.true_eq_false,apj,and_false,if_false,KM,aA,sS];simp only[aoV,c2,c3,hgP,hrow,hf,hadd,KM,aA,sS];generalize kW g r a.2.1 true a.1=X;by_cases hX:X.1=0
   ·simp only[hX,ap4,ne_eq,not_true_eq_false,if_false,hw,tK,newG,aA,sS]
   ·simp only[apO.2 hX,ne_eq,hX,aq5,if_true,aA,sS]
 ·rw[hh]at hgP hlenG;simp only[if_true]at hgP hlenG;have c2:decide ((0:Int)≤(P:Int)∧(P:Int)<(gs.length:Int))=true:=aoS (by omega);have c3:decide (P<gs.length)=true:=aoS hlenG;simp only[eq_self,c2,hgP,hrow,hadd,aps,apv,Bool.true_eq_false,apj,false_and,if_false,if_true,KM,aA,sS];generalize kW g r a.2.1 a.2.2.1 a.1=X;by_cases hX:X.1=0
  ·simp only[hX,ap4,ne_eq,not_true_eq_false,if_false,hw,c3,aoV,tK,aA,sS]
  ·simp only[apO.2 hX,ne_eq,hX,aq5,if_true,aA,sS]
def yx(p:dI)(a:nk):List Nat→List bG→Option (List bG)
 | [],gs=>some gs
 |i::r,gs=>(uP p a gs i).bind (yx p a r)
theorem uZ{p:dI}{a:nk}(hlab:dh a.2.1=true)(ht:0≤a.1∧a.1≤8589934592):∀{l:List Nat} {gs gs':List bG} {n:Nat},(∀i∈l,∃r,p.1[i]?=some r∧RR r)→yu p gs n→yx p a l gs=some gs'→yu p gs' (n+l.length)
 | [],gs,gs',n,_,h,e=>by cases e;exact h
 |i::r,gs,gs',n,hl,h,e=>by
  obtain⟨g1,e1,e2⟩:=apU.1 e;have:=uZ hlab ht (fun j hj=>hl j (by simp[hj])) (CS h (hl i (by simp)) hlab ht e1) e2;rw[ap9]
  rwa [show n+1+r.length=n+(r.length+1) by omega]at this
theorem Q7{p:dI}{a:nk}(hlab:dh a.2.1=true)(ht:0≤a.1∧a.1≤8589934592)(hrl:p.1.length≤24)(l:List Nat)(hl:∀i∈l,∃r,p.1[i]?=some r∧RR r)(hll:l.length≤100)(now next:Int)(sl:List jD)(gs:List bG)(hgs:yu p gs 100):
  aC xJ (((0:Int),(l.length:Int),()),((0,0,()),()),((now,next,()),()),(a,()),(p,()),ints l,gs,sl,())=
   some (match yx p a l gs with
    |some gs'=>.inr ((),((0,0,()),()),((now,next,()),()),(p,()),gs',sl,())
    |none=>.inl ((5,()),((0,0,()),()),())):=by
 have key:∀(d q:Nat) (gs:List bG),q+d=l.length→yu p gs (100+q)→
   aC xJ (((q:Int),(l.length:Int),()),((0,0,()),()),((now,next,()),()),(a,()),(p,()),ints l,gs,sl,())=
    some (match yx p a (l.drop q) gs with
     |some gs'=>.inr ((),((0,0,()),()),((now,next,()),()),(p,()),gs',sl,())
     |none=>.inl ((5,()),((0,0,()),()),())):=by
  intro d
  induction d with
  |zero=>
   intro q gs hq h;obtain rfl:q=l.length:=by omega
   rw[apP];refine aD ?_;simp only[xJ,cO,yx,aA,sS]
  |succ d ih=>
   intro q gs hq h;obtain⟨i,hi,hd⟩:=drop_at (l:=l) (i:=q) (by omega);have hir:=hl i (aoX hi);have hlen:=h.len;have st:=QB (p:=p) (a:=a) (gs:=gs) (i:=i) ⟨⟨h.lq,h.up,by omega⟩,hrl,hir,hlab,ht⟩ (by omega) l q hi (by omega) now next sl;rw[hd];unfold yx
   cases hs:uP p a gs i with
   |none=>
    rw[hs]at st;exact aD st
   |some gs'=>
    rw[hs]at st;rw[aK st];exact ih (q+1) gs' (by omega) (by have:=CS h hir hlab ht hs;rwa [show 100+q+1=100+(q+1) by omega]at this)
 have:=key l.length 0 gs (by omega) hgs;rw[ap2]at this;exact this
theorem QW:Sy=rO:=rfl
theorem NV:RY=xS:=rfl
abbrev lM:InT:=(0,[],[],0,())
def dP(p:dI)(s:InT)(a:nk):Int×InT:=
 if kR p s=false∨dh a.2.1=false then(8,lM)else if zB (bV s) a.1≠0 then(zB (bV s) a.1,lM)
 else match yx p a (kI p.1 a.2.1) (aY s)with
  |none=>(5,lM)
  |some gs=>if(iI p a.1 gs).length>64 then(5,lM)else(0,(a.1,iI p a.1 gs,bP s,dD s,()))
theorem F4{p:dI}(hp:yF p)(h:jU p.1=0)(x:List LT):(∀i∈kI p.1 x,∃r,p.1[i]?=some r∧RR r)∧(kI p.1 x).length≤24:=by
 have hl:=nG h;have tok:=Qb h;unfold kI;split
 ·have hf:=fun j (hj:j∈dK p.1 x 400 0)=>(found tok hj).1
  refine⟨fun i hi=> ?_,?_⟩
  ·have:=hf i hi;exact⟨p.1[i],apc this,Bc hp.rt h _ (List.getElem_mem this)⟩
  ·have hnd:=El tok x 400 0 (by omega) tok.pos
   have hp2:(dK p.1 x 400 0).Perm ((List.range p.1.length).filter fun j=>decide (j∈dK p.1 x 400 0)):=
    (List.perm_ext_iff_of_nodup hnd (List.nodup_range.filter _)).2 fun j=>by
     simp only[aqt,aq7,apC];exact⟨fun hj=>⟨hf j hj,hj⟩,fun hj=>hj.2⟩
   have h1:=hp2.length_eq;have h2:=aqo (fun j=>decide (j∈dK p.1 x 400 0)) (List.range p.1.length);rw[List.length_range]at h2;omega
 ·exact⟨fun i hi=>(by cases hi),ap5 _⟩
def ahQ(V:Int×InT)(o:Option ((Int×Unit)×((Int×(Nat×Nat)×Int×Unit)×Unit)×List bG×List jD×Unit)):Prop:=
 ∃(n:Nat) (blk:List bG),o=some ((V.1,()),((V.2.1,(0,n),V.2.2.2.2.1,()),()),blk,V.2.2.2.1,())∧n≤blk.length∧blk.take n=V.2.2.1
theorem ac9{p:dI}(hp:yF p){s:InT}(hs:ve s)(a:nk)(ha:Eu a.2.1):ahQ (dP p s a) (m27 ((p,s,a,()),())):=by
 have q1:=Y7 p hp s hs;have q2:=CP a.2.1 ha;have q3:=Xp s a.1;unfold dP;cases hv:kR p s
 ·rw[if_pos (.inl rfl)];rw[hv]at q1;unfold m27;simp only[q1,aA,sS];exact⟨0,[],rfl,ape _,rfl⟩
 cases hlab:dh a.2.1
 ·rw[if_pos (.inr rfl)];rw[hv]at q1;rw[hlab]at q2;unfold m27;simp only[q1,q2,aA,sS];exact⟨0,[],rfl,ape _,rfl⟩
 rw[if_neg (by simp)];rw[hv]at q1;rw[hlab]at q2;have h:=GN.1 hv;by_cases hc:zB (bV s) a.1=0
 ·rw[if_neg (by simpa using hc)];rw[hc]at q3;obtain⟨n0,n1,n2⟩:=qQ hc h.now.1;have hck:=(iP h.iQ).1;have lq:=h.lq hp hs;obtain⟨f1,f2⟩:=F4 hp hck a.2.1;have hl:=h.len;have q4:=JQ s (by omega) (fun g hg=>(lq g hg).1) hs.M9;have q5:=afI p.1 hp.rt a.2.1 ha;have inv0:yu p (aY s) 64:=⟨lq,(w9 h.tK).1,hl⟩
  have q6:=Q7 hlab ⟨n0,n1⟩ (nG hck) (kI p.1 a.2.1) f1 (by omega) a.1 (dD s) (bP s) (aY s) ⟨lq,(w9 h.tK).1,by omega⟩;have il:((ints (kI p.1 a.2.1)).length:Int)=((kI p.1 a.2.1).length:Int):=by simp[ints]
  unfold m27;simp only[q1,q2,q3,q4,q5,ap4,il,aA,sS];rw[q6]
  cases hr:yx p a (kI p.1 a.2.1) (aY s)with
  |none=>exact⟨0,[],rfl,ape _,rfl⟩
  |some gs=>
   have inv:=uZ hlab ⟨n0,n1⟩ f1 inv0 hr;have g2:=inv.lq;have l2:=inv.len;simp only[QW,NV,aA,sS];have big64:∀n:Nat,n=(iI p a.1 gs).length→decide (((n:Nat):Int)>64)=decide ((iI p a.1 gs).length>64):=fun n hn=>aqb.2 (by omega)
   rcases He p (bP s) a.1 (dD s) gs (by omega) g2 with⟨e,hf⟩|⟨j,hj,e,hf⟩
   ·rw[e];simp only[eq_self,apW,big64 gs.length (by rw[hf]),aA,sS];by_cases hb:(iI p a.1 gs).length>64
    ·rw[if_pos hb];simp only[hb,aqg,aA,sS];exact⟨0,[],rfl,ape _,rfl⟩
    ·rw[if_neg hb];simp only[hb,aqn,aA,sS];exact⟨gs.length,gs,rfl,ape _,by rw[apT];exact hf.symm⟩
   ·have bj:((j:Int)== -1)=false:=apn.2 (by omega);have wj:aP ((j:Int)+1)=((j+1:Nat):Int):=aI (by omega);rw[e];simp only[eq_self,bj,wj,aA,sS];obtain⟨dst,blk,e2,h3,h4,h5⟩:=Dx p (bP s) a.1 (dD s) gs (by omega) g2 (gs.length-(j+1)) (j+1) j gs (by omega) (by omega) rfl hf.symm rfl;rw[e2];have c1:decide ((0:Int)≤(dst:Int))=true:=aoS (by omega);have c2:decide (dst≤blk.length∧blk.length≤blk.length)=true:=aoS ⟨by omega,ape _⟩;have c3:decide (dst+(blk.length-dst)≤blk.length)=true:=aoS (by omega);have hz:∀z:bG,(bM blk dst (List.replicate (blk.length-dst) z)).length=blk.length:=fun z=>Gq blk z dst (by omega)
    have c4:∀z:bG,decide (0≤dst∧dst≤(bM blk dst (List.replicate (blk.length-dst) z)).length)=true:=fun z=>aoS ⟨ap5 _,by rw[hz];omega⟩
    have c5:∀z:bG,decide ((bM blk dst (List.replicate (blk.length-dst) z)).length=gs.length)=true:=fun z=>aoS (by rw[hz];omega)
    have hd:dst=(iI p a.1 gs).length:=by
     have:=congrArg List.length h5;rw[apq]at this;omega
    simp only[c1,c2,c3,c4,c5,aoV,eq_self,big64 dst hd,aA,sS];by_cases hb:(iI p a.1 gs).length>64
    ·rw[if_pos hb];simp only[hb,aqg,aA,sS];exact⟨0,[],rfl,ape _,rfl⟩
    ·rw[if_neg hb];simp only[hb,aqn,aA,sS];exact⟨dst,_,rfl,by rw[hz];omega,(DF blk _ dst (by omega)).trans h5⟩
 ·rw[if_pos hc];unfold m27;simp only[q1,q2,q3,apO.2 hc,aA,sS];exact⟨0,[],rfl,ape _,rfl⟩
theorem UR(rt:Int)(k:ByteArray)(g:bG)(r:List bG):gP rt k (g::r)=if iV g rt k=true then gP rt k r+1 else 0:=rfl
theorem agW(p:dI)(a:nk)(l:List Nat)(q i:Nat)(hq:l[q]?=some i)(k:ByteArray)(r:dw)(ca:Int)(cb:List jD)(cc:Int)(gs:List bG)(hl:gs.length≤1000):
  aC qx (((0:Int),(q:Int),k,()),((0,0,()),()),((ca,cb,cc,()),()),(a,()),ints l,(p,()),(r,()),gs,())=
   some (((q:Int),(gP (i:Int) k gs:Int),k,()),((0,0,()),()),((ca,cb,cc,()),()),(a,()),ints l,(p,()),(r,()),gs,()):=by
 have hql:=(aoT.1 hq).1;have il:(ints l).length=l.length:=by simp[ints]
 have hqi:(ints l)[((q:Int)).toNat]?=some (i:Int):=by rw[aoV];simp[ints,hq]
 have b1:decide ((0:Int)≤(q:Int)∧(q:Int)<((ints l).length:Int))=true:=aoS (by rw[il];omega)
 have key:∀(d j:Nat),j+d=gs.length→gP (i:Int) k gs=j+gP (i:Int) k (gs.drop j)→
   aC qx (((j:Int),(q:Int),k,()),((0,0,()),()),((ca,cb,cc,()),()),(a,()),ints l,(p,()),(r,()),gs,())=
    some (((q:Int),(gP (i:Int) k gs:Int),k,()),((0,0,()),()),((ca,cb,cc,()),()),(a,()),ints l,(p,()),(r,()),gs,()):=by
  intro d
  induction d with
  |zero=>
   intro j hj hp;rw[apz (by omega)]at hp;have:gP (i:Int) k gs=j:=hp;rw[this];refine aD ?_;have:decide ((j:Int)<((gs.length:Nat):Int))=false:=aoU (by omega);simp only[qx,this,aA,sS]
  |succ d ih=>
   intro j hj hp;obtain⟨e,he,hd⟩:=drop_at (l:=gs) (i:=j) (by omega);rw[hd,UR]at hp;have h1:decide ((j:Int)<((gs.length:Nat):Int))=true:=aoS (by omega);have h2:decide ((0:Int)≤(j:Int)∧(j:Int)<(gs.length:Int))=true:=aoS (by omega);have he':gs[((j:Int)).toNat]?=some e:=by rw[aoV];exact he
   have hw:aP ((j:Int)+1)=((j+1:Nat):Int):=aI (by omega);have q90:=YK e (i:Int) k;cases hlt:iV e (i:Int) k
   ·rw[if_neg (by rw[hlt];simp)]at hp;rw[show gP (i:Int) k gs=j from hp];refine aD ?_;rw[hlt]at q90;simp only[qx,h1,h2,he',b1,hqi,q90,aA,sS]
   ·rw[if_pos hlt]at hp;rw[←ih (j+1) (by omega) (by omega)];refine aK ?_;rw[hlt]at q90;simp only[qx,h1,h2,he',b1,hqi,q90,hw,aA,sS]
 exact key gs.length 0 (by omega) (by rw[ap2];omega)
theorem Kq{p:dI}{a:nk}{gs:List bG}{i:Nat}(h:Ls p a gs i)(hl:gs.length≤900)(l:List Nat)(q:Nat)(hq:l[q]?=some i)(hll:l.length≤1000)(now next:Int)(sl:List jD):
  q8 (((q:Int),()),((0,0,()),()),((now,sl,next,()),()),(a,()),ints l,(p,()),gs,())=
   some (match uP p a gs i with
    |some gs'=>.inl ((((q+1:Nat):Int),()),((0,0,()),()),((now,sl,next,()),()),(a,()),ints l,(p,()),gs',())
    |none=>.inr (.inl ((5,()),((0,0,()),()),()))):=by
 obtain⟨r,hr,rr⟩:=h.rt;have hql:=(aoT.1 hq).1;have hil:=(aoT.1 hr).1;have hrl:=h.rl;have il:(ints l).length=l.length:=by simp[ints]
 have hqi:(ints l)[((q:Int)).toNat]?=some (i:Int):=by rw[aoV];simp[ints,hq]
 have b0:decide ((q:Int)<(((ints l).length:Nat):Int))=true:=aoS (by rw[il];omega);have b1:decide ((0:Int)≤(q:Int)∧(q:Int)<((ints l).length:Int))=true:=aoS (by rw[il];omega);have hw:=aI (i:=q) (by omega);have hk:=(h.key hr rr).2;have hbs:=fun k=>agW p a l q i hq k r now sl next gs (by omega)
 obtain⟨g,hg,g1,g2,hm⟩:=L9 p a gs i;have hre:EZ p ((i:Nat):Int)=r:=qg (by rw[aoV];exact hr)
 have hv:VG g:=by
  rcases hm with hm|rfl
  ·exact(h.inv.lq g hm).1
  ·exact Ms _ (by omega)
 have hadd:=aj8 hv rr h.lab a.2.2.1 h.at';have ha:Yn p a gs i=kW g r a.2.1 a.2.2.1 a.1:=by unfold Yn;rw[hg,hre];rfl
 have hri:p.1[((i:Int)).toNat]?=some r:=by rw[aoV];exact hr
 have hrow:∀{B:Type} (F:dw→Option B),pX p.1 (i:Int) F=F r:=fun F=>gV (by omega) hri F
 have hple:=Fh (i:Int) (yD p a i) gs;have hx0:yZ i (yD p a i) gs=match gs[gP i (yD p a i) gs]? with|some g=>decide (g.1=(i:Int))&&decide (g.2.1=yD p a i)|none=>false:=rfl
 have hbs:=hbs (yD p a i);unfold uP;rw[ha];unfold alG at hg ⊢;generalize yD p a i=k at *;generalize hP:gP (i:Int) k gs=P at *;unfold q8;simp only[b0,b1,hqi,aJ,hrow,hk,hbs,aA,sS];have hw1:aP ((P:Int)+1)=((P+1:Nat):Int):=aI (by omega)
 have key:∀{B:Type} (F:((Bool×Int×Int×ByteArray×Unit)×((Int×Int×Unit)×Unit)×((Int×List jD×Int×Unit)×Unit)×(nk×Unit)×List Int×(dI×Unit)×(dw×Unit)×List bG×Unit)→Option B),
   ((bif ((P:Int)==((gs.length:Nat):Int))then some ((true,(q:Int),(P:Int),k,()),((0,0,()),()),((now,sl,next,()),()),(a,()),ints l,(p,()),(r,()),gs,())
     else (bif decide ((0:Int)≤(P:Int)∧(P:Int)<(gs.length:Int))then
      (gs[((P:Int)).toNat]?).bind fun e253=>bif e253.1 !=(i:Int)then some ((true,(q:Int),(P:Int),k,()),((0,0,()),()),((now,sl,next,()),()),(a,()),ints l,(p,()),(r,()),gs,())
       else(bif decide ((0:Int)≤(P:Int)∧(P:Int)<(gs.length:Int))then
        (gs[((P:Int)).toNat]?).bind fun e255=>some ((!(e255.2.1.toList==k.toList),(q:Int),(P:Int),k,()),((0,0,()),()),((now,sl,next,()),()),(a,()),ints l,(p,()),(r,()),gs,())else none)
      else none):Option ((Bool×Int×Int×ByteArray×Unit)×((Int×Int×Unit)×Unit)×((Int×List jD×Int×Unit)×Unit)×(nk×Unit)×List Int×(dI×Unit)×(dw×Unit)×List bG×Unit)).bind F)=F ((!yZ i k gs,(q:Int),(P:Int),k,()),((0,0,()),()),((now,sl,next,()),()),(a,()),ints l,(p,()),(r,()),gs,()):=by
  intro B F;rw[hx0];by_cases hpl:P<gs.length
  ·obtain⟨e,he⟩:=getD_some hpl;have d1:((P:Int)==((gs.length:Nat):Int))=false:=apn.2 (by omega);have d2:decide ((0:Int)≤(P:Int)∧(P:Int)<(gs.length:Int))=true:=aoS (by omega);simp only[d1,d2,aoV,he,bD,gF,aA,sS];by_cases h1:e.1=(i:Int)
   ·simp only[h1,ap4,aqg,apB,aA,sS]
   ·simp only[apO.2 h1,aoU h1,apX,aps,aA,sS]
  ·have d1:((P:Int)==((gs.length:Nat):Int))=true:=beq_iff_eq.2 (by omega);rw[show gs[P]?=none from apQ (by omega)];simp only[d1,aps,aA,sS]
 rw[key];simp only[eq_self,aA,sS];cases hh:yZ (i:Int) k gs
 ·rw[hh]at hg;simp only[apj,if_false]at hg;have hlenG:P<(List.take P gs++ [newG (i:Int) k]++List.drop P gs).length:=(aoT.1 hg).1;cases hf:a.2.2.1
  ·simp only[hf,hw,if_true,and_self,aps,aA,sS]
  ·rw[hf]at hadd;have lg1:(gs++ [((0,ByteArray.empty,[],0,0,()):bG)]).length=gs.length+1:=by simp
   have e1:=aar gs P ((0,ByteArray.empty,[],0,0,()):bG) (newG (i:Int) k) hple;have e2:=GX gs P ((0,ByteArray.empty,[],0,0,()):bG) hple;have a0:decide (gs.length+ [((0,ByteArray.empty,[],0,0,()):bG)].length≤4294967296)=true:=aoS (by simp;omega);have a1:decide ((0:Int)≤((P+1:Nat):Int))=true:=aoS (by omega);have a2:decide (P+1≤(gs++ [((0,ByteArray.empty,[],0,0,()):bG)]).length∧(gs++ [((0,ByteArray.empty,[],0,0,()):bG)]).length≤(gs++ [((0,ByteArray.empty,[],0,0,()):bG)]).length)=true:=aoS ⟨by omega,ape _⟩;have a3:decide ((0:Int)≤(P:Int))=true:=aoS (by omega);have a4:decide (P≤(gs++ [((0,ByteArray.empty,[],0,0,()):bG)]).length∧(gs++ [((0,ByteArray.empty,[],0,0,()):bG)]).length≤(gs++ [((0,ByteArray.empty,[],0,0,()):bG)]).length)=true:=aoS ⟨by omega,ape _⟩
   have a5:decide (P+((gs++ [((0,ByteArray.empty,[],0,0,()):bG)]).length-P)≤(gs++ [((0,ByteArray.empty,[],0,0,()):bG)]).length)=true:=aoS (by omega);have a6:decide (P+1+((gs++ [((0,ByteArray.empty,[],0,0,()):bG)]).length-(P+1))≤(gs++ [((0,ByteArray.empty,[],0,0,()):bG)]).length)=true:=aoS (by omega);have a7:∀L:List bG,L.length=gs.length+1→decide ((0:Int)≤(P:Int)∧(P:Int)<(L.length:Int))=true∧decide (P<L.length)=true:=fun L hL=>⟨aoS (by omega),aoS (by omega)⟩
   obtain⟨a8,a9⟩:=a7 _ e2;have c2:decide ((0:Int)≤(P:Int)∧(P:Int)<((List.take P gs++ [newG (i:Int) k]++List.drop P gs).length:Int))=true:=aoS (by omega);have c3:decide (P<(List.take P gs++ [newG (i:Int) k]++List.drop P gs).length)=true:=aoS hlenG;unfold newG at e1 c2 c3 hg;rw[aoV]at hqi;simp only[hf,a0,hw1,a1,a2,a3,a4,a5,a6,a8,a9,b1,hqi,m91,aoV,e1,c2,c3,hg,hadd,aps,apv,Bool.true_eq_false,and_false,if_false,KM,aA,sS];generalize kW g r a.2.1 true a.1=X;by_cases hX:X.1=0
   ·simp only[hX,ap4,ne_eq,not_true_eq_false,if_false,hw,tK,newG,apj,aA,sS]
   ·simp only[apO.2 hX,ne_eq,hX,aq5,if_true,apj,if_false,aA,sS]
 ·rw[hh]at hg;simp only[if_true]at hg;have hlenG:P<gs.length:=(aoT.1 hg).1;have c2:decide ((0:Int)≤(P:Int)∧(P:Int)<(gs.length:Int))=true:=aoS (by omega);have c3:decide (P<gs.length)=true:=aoS hlenG;simp only[c2,c3,aoV,hg,hadd,apv,Bool.true_eq_false,false_and,if_false,if_true,KM,aA,sS];generalize kW g r a.2.1 a.2.2.1 a.1=X;by_cases hX:X.1=0
  ·simp only[hX,ap4,ne_eq,not_true_eq_false,if_false,hw,tK,aA,sS]
  ·simp only[apO.2 hX,ne_eq,hX,aq5,if_true,aA,sS]
theorem Kr{p:dI}{a:nk}(hlab:dh a.2.1=true)(ht:0≤a.1∧a.1≤8589934592)(hrl:p.1.length≤24)(l:List Nat)(hl:∀i∈l,∃r,p.1[i]?=some r∧RR r)(hll:l.length≤100)(now next:Int)(sl:List jD)(gs:List bG)(hgs:yu p gs 100):
  aC q8 (((0:Int),()),((0,0,()),()),((now,sl,next,()),()),(a,()),ints l,(p,()),gs,())=
   some (match yx p a l gs with
    |some gs'=>.inr ((),((0,0,()),()),((now,sl,next,()),()),(p,()),gs',())
    |none=>.inl ((5,()),((0,0,()),()),())):=by
 have key:∀(d q:Nat) (gs:List bG),q+d=l.length→yu p gs (100+q)→
   aC q8 (((q:Int),()),((0,0,()),()),((now,sl,next,()),()),(a,()),ints l,(p,()),gs,())=
    some (match yx p a (l.drop q) gs with
     |some gs'=>.inr ((),((0,0,()),()),((now,sl,next,()),()),(p,()),gs',())
     |none=>.inl ((5,()),((0,0,()),()),())):=by
  intro d
  induction d with
  |zero=>
   intro q gs hq h;obtain rfl:q=l.length:=by omega
   rw[apP];refine aD ?_;have:decide ((l.length:Int)<(((ints l).length:Nat):Int))=false:=aoU (by simp[ints]);simp only[q8,this,yx,aA,sS]
  |succ d ih=>
   intro q gs hq h;obtain⟨i,hi,hd⟩:=drop_at (l:=l) (i:=q) (by omega);have hir:=hl i (aoX hi);have hlen:=h.len;have st:=Kq (p:=p) (a:=a) (gs:=gs) (i:=i) ⟨⟨h.lq,h.up,by omega⟩,hrl,hir,hlab,ht⟩ (by omega) l q hi (by omega) now next sl;rw[hd];unfold yx
   cases hs:uP p a gs i with
   |none=>
    rw[hs]at st;exact aD st
   |some gs'=>
    rw[hs]at st;rw[aK st];exact ih (q+1) gs' (by omega) (by have:=CS h hir hlab ht hs;rwa [show 100+q+1=100+(q+1) by omega]at this)
 have:=key l.length 0 gs (by omega) hgs;rw[ap2]at this;exact this
theorem Qx:TM=wX:=rfl
theorem abA{p:dI}(hp:yF p){s:InT}(hs:ve s)(a:nk)(ha:Eu a.2.1):
  m41 ((p,s,a,()),())=some (((dP p s a).1,()),(((dP p s a).2.1,(dP p s a).2.2.2.1,(dP p s a).2.2.2.2.1,()),()),(dP p s a).2.2.1,()):=by
 have q1:=Xl p hp s hs;have q2:=Db a.2.1 ha;unfold dP;cases hv:kR p s
 ·rw[if_pos (.inl rfl)];rw[hv]at q1;unfold m41;simp only[q1,aA,sS]
 cases hlab:dh a.2.1
 ·rw[if_pos (.inr rfl)];rw[hv]at q1;rw[hlab]at q2;unfold m41;simp only[q1,q2,aA,sS]
 rw[if_neg (by simp)];rw[hv]at q1;rw[hlab]at q2;have h:=GN.1 hv;by_cases hc:zB (bV s) a.1=0
 ·rw[if_neg (by simpa using hc)];obtain⟨n0,n1,n2⟩:=qQ hc h.now.1;have hck:=(iP h.iQ).1;have lq:=h.lq hp hs;obtain⟨f1,f2⟩:=F4 hp hck a.2.1;have hl:=h.len;have q5:=agt p.1 hp.rt a.2.1 ha;have inv0:yu p (aY s) 64:=⟨lq,(w9 h.tK).1,hl⟩
  have q6:=Kr hlab ⟨n0,n1⟩ (nG hck) (kI p.1 a.2.1) f1 (by omega) a.1 (dD s) (bP s) (aY s) ⟨lq,(w9 h.tK).1,by omega⟩;have c1:decide (a.1<s.1)=false:=aoU (by have:=n2;dsimp only[bV]at this;omega);have c2:decide (a.1>8589934592)=false:=aoU (by omega);have c3:decide (0+s.2.1.length≤4294967296)=true:=aoS (by dsimp only[aY]at hl;omega);unfold m41;simp only[q1,q2,q5,c1,c2,c3,aA,sS];rw[q6]
  cases hr:yx p a (kI p.1 a.2.1) (aY s)with
  |none=>rfl
  |some gs=>
   have inv:=uZ hlab ⟨n0,n1⟩ f1 inv0 hr;have l2:=inv.len;have q7:=Tm p gs (by omega) inv.lq a.1;rw[←Qx]at q7;simp only[aA,sS];refine aM _ q7 ?_;simp only[eq_self,aA,sS];by_cases hb:(iI p a.1 gs).length>64
   ·have:decide ((((iI p a.1 gs).length:Nat):Int)>64)=true:=aoS (by omega);rw[if_pos hb];simp only[this,aA,sS]
   ·have:decide ((((iI p a.1 gs).length:Nat):Int)>64)=false:=aoU (by omega);rw[if_neg hb];simp only[this,aA,sS]
 ·rw[if_pos hc];have hc':=hc;unfold zB at hc' ⊢;dsimp only[bV]at hc' ⊢;unfold m41;by_cases h1:a.1<s.1
  ·simp only[q1,q2,h1,aqg,if_true,aA,sS]
  ·by_cases h2:a.1>8589934592
   ·simp only[q1,q2,h1,h2,aqg,aqn,if_true,if_false,aA,sS]
   ·rw[if_neg h1,if_neg h2]at hc';exact absurd rfl hc'
end Go.Proofs.YtchnmpafhfjimaaGreatDoor
namespace Go.Proofs.YtchnmpafhfjimaaGreatDoor
open Go Go.Abs
end Go.Proofs.YtchnmpafhfjimaaGreatDoor
namespace Go.Proofs.YtchnmpafhfjimaaGreatDoor
open Go Go.Abs
def sU(p:dI)(g:bG):Prop:=∀m∈aN g,AL (EZ p g.1) (bK m)=g.2.1
theorem Sw{p:dI}{g:bG}{r:dw}(h:p.1[g.1.toNat]?=some r)(m:bL):zy p.1 g m=AL (EZ p g.1) (bK m):=by
 unfold zy;rw[h,qg h]
theorem TG{p:dI}{now:Int}{q:Option bG}{g:bG}{r:dw}(h:p.1[g.1.toNat]?=some r):rT p now q g=false↔g.1<(p.1.length:Int)∧jh p.1 now g=false∧(∀a,q=some a→LG a g.1 g.2.1)∧sU p g:=by
 unfold rT
 cases q with
 |none=>
  simp only[apM,aqa,Bool.not_eq_false',ap7,apC,Sw h];exact⟨fun⟨a,b,_,d⟩=>⟨by omega,b,fun _ e=>(by cases e),d⟩,fun⟨a,b,_,d⟩=>⟨by omega,b,trivial,d⟩⟩
 |some x=>
  simp only[apM,aqa,Bool.not_eq_false',ap7,apC,Sw h];exact⟨fun⟨a,b,c,d⟩=>⟨by omega,b,fun _ e=>(by cases e;exact zF.1 c),d⟩,fun⟨a,b,c,d⟩=>⟨by omega,b,zF.2 (c x rfl),d⟩⟩
theorem YP{p:dI}{now:Int}:∀{gs:List bG} {q:Option bG},Jz p gs→MB gs→(∀a,q=some a→∀b∈gs,LG a b.1 b.2.1)→(∀g∈gs,jh p.1 now g=false∧sU p g)→sP (rT p now) q gs=true
 | [],_,_,_,_,_=>rfl
 |g::r,q,h,hu,hq,hk=>by
  obtain⟨u1,u2⟩:=aqm.1 hu;obtain⟨hv,rt,hr,rr⟩:=h g (by simp);have hlt:=(aoT.1 hr).1;have h1:=hv.rt;unfold sP;rw[apo];refine⟨?_,YP (fun x hx=>h x (by simp[hx])) u2 (fun a ha b hb=>by cases ha;exact u1 b hb) (fun x hx=>hk x (by simp[hx]))⟩;rw[aqv,TG hr];exact⟨by omega,(hk g (by simp)).1,fun a ha=>hq a ha g (by simp),(hk g (by simp)).2⟩
theorem Oe{p:dI}{now:Int}{gs:List bG}(hg:Jz p gs)(h:sP (rT p now) none gs=true):∀g∈gs,sU p g:=by
 intro g hg';obtain⟨q,hb⟩:=EQ h g hg';obtain⟨_,r,hr,_⟩:=hg g hg';exact((TG hr).1 hb).2.2.2
theorem MB.map{gs:List bG}(h:MB gs)(f:bG→bG)(hf:∀g,(f g).1=g.1∧(f g).2.1=g.2.1):MB (gs.map f):=by
 unfold MB at h ⊢;refine List.pairwise_map.2 (h.imp fun {a b} hab=> ?_);unfold LG at hab ⊢;rw[(hf a).1,(hf a).2,(hf b).1,(hf b).2];exact hab
theorem MB.sub{gs l:List bG}(h:MB gs)(hs:l.Sublist gs):MB l:=List.Pairwise.sublist hs h
theorem JO(p:dI)(now:Int)(gs:List bG):(iI p now gs).Sublist gs:=List.filter_sublist
theorem qB{p:dI}{now:Int}{gs:List bG}{g:bG}(h:g∈iI p now gs):g∈gs∧jh p.1 now g=false:=by
 obtain⟨a,b⟩:=aqt.1 h;exact⟨a,by simpa using b⟩
theorem Ny{p:dI}{s:InT}(h:VI p s){now:Int}(hn:0≤now∧now≤8589934592){gs:List bG}(hg:Jz p gs)(hu:MB gs)(hk:∀g∈gs,sU p g)(hl:(iI p now gs).length≤64):
  VI p (now,iI p now gs,bP s,dD s,()):=
 ⟨h.iQ,hn,hl,h.M9,h.next,h.ids,YP (fun g hg'=>hg g (qB hg').1) (hu.sub (JO p now gs)) (fun _ ha=>by cases ha) (fun g hg'=>⟨(qB hg').2,hk g (qB hg').1⟩)⟩
theorem AB(se wa ir t a:Int):∀(rem kept:List bL) (du:Int),∀m∈(j4 se wa ir t a kept du rem).1,∃x∈kept++rem,bK x=bK m
 | [],kept,du,m,hm=>⟨m,by simpa[j4]using hm,rfl⟩
 |y::r,kept,du,m,hm=>by
  unfold j4 at hm;split at hm
  ·split at hm
   ·obtain⟨x,hx,e⟩:=AB se wa ir t a r _ _ m hm;simp only[apr,apL]at hx;rcases hx with(hx|rfl)|hx
    ·exact⟨x,by simp[hx],e⟩
    ·exact⟨y,by simp,e⟩
    ·exact⟨x,by simp[hx],e⟩
   ·obtain⟨x,hx,e⟩:=AB se wa ir t a r _ _ m hm;simp only[apr]at hx;rcases hx with hx|hx
    ·exact⟨x,by simp[hx],e⟩
    ·exact⟨x,by simp[hx],e⟩
  ·obtain⟨x,hx,e⟩:=AB se wa ir t a r _ _ m hm;simp only[apr,apL]at hx;rcases hx with(hx|rfl)|hx
   ·exact⟨x,by simp[hx],e⟩
   ·exact⟨x,by simp,e⟩
   ·exact⟨x,by simp[hx],e⟩
theorem sU.of{p:dI}{g g':bG}(h:sU p g)(h1:g'.1=g.1)(h2:g'.2.1=g.2.1)(hm:∀m∈aN g',∃x∈aN g,bK x=bK m):sU p g':=by
 intro m hm';obtain⟨x,hx,e⟩:=hm m hm';rw[h1,h2,←e];exact h x hx
theorem aag(p:dI)(now:Int)(g:bG):∀m∈aN (G7 p now g),∃x∈aN g,bK x=bK m:=by
 intro m hm;unfold G7 yw at hm;split at hm
 ·exact⟨m,hm,rfl⟩
 ·obtain⟨x,hx,e⟩:=AB _ _ _ _ _ _ _ _ m hm;exact⟨x,by simpa using hx,e⟩
theorem YQ(p:dI)(sl:List jD)(now:Int)(fs:List (List LT))(g:bG):∀m∈aN (pG p sl now fs g),∃x∈aN g,bK x=bK m:=by
 intro m hm;unfold pG pO j6 at hm;split at hm
 ·exact⟨m,hm,rfl⟩
 ·dsimp only at hm;split at hm
  ·obtain⟨x,hx,_,e⟩:=RL.1 hm;exact⟨x,hx,by rw[e];rfl⟩
  ·exact⟨m,hm,rfl⟩
theorem abv{p:dI}(hp:yF p){s:InT}(hs:ve s)(h:VI p s){now:Int}(hn:0≤now∧now≤8589934592):VI p (yG p s now):=by
 have tk:=h.tk hp hs hn;have lq:=h.lq hp hs;have hk:=Oe lq h.tK;have g2:=BL tk;refine Ny h hn g2 (((w9 h.tK).1.map _ (LD p now)).map _ (EM p _ now _)) (fun g hg=> ?_) ?_
 ·unfold tu jI at hg;simp only[apR]at hg;obtain⟨g1,⟨g0,hg0,rfl⟩,rfl⟩:=hg;exact((hk g0 hg0).of (LD p now g0).1 (LD p now g0).2 (aag p now g0)).of (EM p _ now _ _).1 (EM p _ now _ _).2 (YQ p _ now _ _)
 ·have h1:=(JO p now (tu p s now)).length_le;have h2:(tu p s now).length=(aY s).length:=(aoY ..).trans (aoY ..);have:=h.len;omega
theorem acd(g:bG)(r:dw)(l:List LT)(on:Bool)(t:Int):∀m∈(kW g r l on t).2.2,(∃x∈aN g,bK x=bK m)∨bK m=l:=by
 intro m hm;unfold kW at hm;dsimp only at hm;by_cases hh:hit (gL (dU l)) (aN g)=true
 ·rw[if_pos hh]at hm;obtain⟨y,hy,_⟩:=Bw hh;rw[hy]at hm;dsimp only at hm;have hym:=aoX hy
  have set_case:∀z:bL,bK z=bK y→m∈(aN g).set (pos (gL (dU l)) (aN g)) z→(∃x∈aN g,bK x=bK m)∨bK m=l:=by
   intro z hz hmz;rcases mem_set hmz with hmz|rfl
   ·exact .inl ⟨m,hmz,rfl⟩
   ·exact .inl ⟨y,hym,hz.symm⟩
  split at hm
  ·exact set_case (rD y t) rfl hm
  ·split at hm
   ·exact set_case (stepM (rD y t) true t) rfl hm
   ·split at hm
    ·exact set_case (stepM (rD y t) false t) rfl hm
    ·rcases apr.1 hm with hm|hm
     ·exact .inl ⟨m,List.mem_of_mem_take hm,rfl⟩
     ·exact .inl ⟨m,List.mem_of_mem_drop hm,rfl⟩
 ·rw[if_neg hh]at hm;split at hm
  ·split at hm
   ·cases hm
   ·simp only[apr,apL]at hm;rcases hm with(hm|rfl)|hm
    ·exact .inl ⟨m,List.mem_of_mem_take hm,rfl⟩
    ·exact .inr rfl
    ·exact .inl ⟨m,List.mem_of_mem_drop hm,rfl⟩
  ·exact .inl ⟨m,hm,rfl⟩
theorem Vi{p:dI}{a:nk}{gs gs':List bG}{i:Nat}(hk:∀g∈gs,sU p g)(e:uP p a gs i=some gs'):∀g∈gs',sU p g:=by
 unfold uP at e;split at e
 ·cases e;exact hk
 ·split at e
  ·cases e
  ·rename_i h0;simp only[ne_eq,Decidable.not_not]at h0;cases e;obtain⟨g,hg,g1,g2,hm⟩:=L9 p a gs i;have ha:Yn p a gs i=kW g (EZ p (i:Int)) a.2.1 a.2.2.1 a.1:=by unfold Yn;rw[hg];rfl
   have hg0:sU p g:=by
    rcases hm with hm|rfl
    ·exact hk g hm
    ·exact fun m hm'=>by cases hm'
   rw[ha]at h0 ⊢;obtain⟨k1,k2⟩:=O3 h0;intro x hx;rcases mem_set hx with hx|rfl
   ·unfold alG at hx;split at hx
    ·exact hk x hx
    ·simp only[apr,apL]at hx;rcases hx with(hx|rfl)|hx
     ·exact hk x (List.mem_of_mem_take hx)
     ·exact fun m hm'=>by cases hm'
     ·exact hk x (List.mem_of_mem_drop hx)
   ·intro m hm'
    show AL (EZ p (kW g (EZ p (i:Int)) a.2.1 a.2.2.1 a.1).2.1.1) (bK m)=(kW g (EZ p (i:Int)) a.2.1 a.2.2.1 a.1).2.1.2.1
    rw[k1,k2];rcases acd _ _ _ _ _ m hm' with⟨y,hy,e⟩|e
    ·rw[←e];exact hg0 y hy
    ·rw[e,g1,g2];rfl
theorem Ou{p:dI}{a:nk}:∀{l:List Nat} {gs gs':List bG},(∀g∈gs,sU p g)→yx p a l gs=some gs'→∀g∈gs',sU p g
 | [],gs,gs',h,e=>by cases e;exact h
 |i::r,gs,gs',h,e=>by
  obtain⟨g1,e1,e2⟩:=apU.1 e;exact Ou (Vi h e1) e2
theorem Zr{p:dI}(hp:yF p){s:InT}(hs:ve s)(a:nk)(h0:(dP p s a).1=0):VI p (dP p s a).2:=by
 unfold dP at h0 ⊢;split at h0
 ·cases h0
 rename_i hv;rw[if_neg hv];simp only[not_or,Bool.not_eq_false]at hv;have h:=GN.1 hv.1;split at h0
 ·rename_i hc;exact absurd h0 hc
 rename_i hc;rw[if_neg hc];simp only[ne_eq,Decidable.not_not]at hc;obtain⟨n0,n1,n2⟩:=qQ hc h.now.1;have hck:=(iP h.iQ).1;have lq:=h.lq hp hs;obtain⟨f1,f2⟩:=F4 hp hck a.2.1
 cases hr:yx p a (kI p.1 a.2.1) (aY s)with
 |none=>rw[hr]at h0;cases h0
 |some gs=>
  rw[hr]at h0;simp only at h0 ⊢;have inv:=uZ hv.2 ⟨n0,n1⟩ f1 (⟨lq,(w9 h.tK).1,h.len⟩:yu p (aY s) 64) hr;split at h0
  ·cases h0
  ·rename_i hl;rw[if_neg hl];exact Ny h ⟨n0,n1⟩ inv.lq inv.up (Ou (Oe lq h.tK) hr) (by omega)
theorem afz(s:InT)(hs:ve s):m17 ((s,s,()),())=some ((true,()),()):=by
 have hl:=hs.len;have q1:=Xa (bP s) hs.M9
 have q2:=dL (f:=Fw) (aY s) (fun i=>(((i:Int),()),((s,()),((s,()),())))) (.inr ((),())) (fun i e he hi=>by
  have hw:=aI (i:=i) (by omega);have hv:=(hs.tK e (aoX he)).1;have q:=afS e (by have:=hv.len;unfold big;omega) (fun m hm=>by have:=(fQ (hv.mem m hm).lab).1;unfold big;omega);dsimp only[aY]at he hi;simp only[Fw,bQ hi,aJ,aG he,q,hw,apv,aA,sS]) (by dsimp only[aY];simp only[Fw,cO,aA,sS])
 unfold m17;dsimp only[bP]at q1;simp only[ap4,q1,apv,aA,sS];refine aM _ q2 ?_;simp only[aA,sS]
theorem aa3(l:List pI)(hl:l.length≤1048576)(hn:∀n∈l,n.2.2.2.2.1.length≤big∧n.2.2.2.2.2.1.length≤big):m18 ((l,l,()),())=some ((true,()),()):=by
 have q2:=dL (f:=ER) l (fun i=>(((i:Int),l,l,()),())) (.inr ((),())) (fun i e he hi=>by
  have hw:=aI (i:=i) (by omega);obtain⟨h1,h2⟩:=hn e (aoX he);have q:=agD (e.1,e.2.1,e.2.2.1,e.2.2.2.1,()) e.2.2.2.2.1 e.2.2.2.2.2.1 h1 h2;simp only[ER,bQ hi,aJ,aG he,hw,aA,sS];refine aM _ q ?_;simp only[apv,aA,sS]) (by simp only[ER,cO,aA,sS])
 unfold m18;simp only[ap4,aA,sS];refine aM _ q2 ?_;simp only[aA,sS]
def aV(p:dI)(t:Int):Nat→InT→List pI→Int×InT×List pI×Nat
 |0,s,nt=>if(fU (aY s)).2=false∨(fU (aY s)).1≥t then(0,s,nt,0)else(5,s,nt,0)
 |k+1,s,nt=>if(fU (aY s)).2=false∨(fU (aY s)).1≥t then(0,s,nt,k+1)
  else aV p t k (yG p s (max (fU (aY s)).1 (bV s))) (nt++oq p s (max (fU (aY s)).1 (bV s)))
theorem Ba{gs:List bG}(h:∀g∈gs,VG g): -1≤(fU gs).1∧(fU gs).1≤8589934592:=by
 unfold fU
 have key:∀(l:List bG) (a:Int×Bool),(∀g∈l,VG g)→(-1≤a.1∧a.1≤8589934592)→ -1≤(l.foldl Eg a).1∧(l.foldl Eg a).1≤8589934592:=by
  intro l
  induction l with
  |nil=>intro a _ ha;exact ha
  |cons g r ih=>
   intro a hl ha;refine ih _ (fun x hx=>hl x (by simp[hx])) ?_;unfold Eg;cases (dZ g != -1&&(!a.2||decide (dZ g<a.1)))
   ·exact ha
   ·exact(hl g (by simp)).due
 exact key gs (0,false) h (by decide)
theorem GK(p:dI)(s:InT)(now:Int):(oq p s now).length≤(aY s).length:=by
 unfold oq
 have key:∀l:List bG,(l.flatMap (pR p (bP s) now (sW p s now))).length≤l.length:=by
  intro l
  induction l with
  |nil=>simp
  |cons g r ih=>
   rw[aqh,apt,ap9]
   have:(pR p (bP s) now (sW p s now) g).length≤1:=by
    unfold pR;cases (pO p (bP s) now (sW p s now) g).1<;>simp
   omega
 have:=key (jI p s now);rw[show(jI p s now).length=(aY s).length from aoY ..]at this;exact this
theorem VI.z{p:dI}(hp:yF p){s:InT}(h:VI p s)(hg:Jz p (aY s))(hs:Jm (bP s)):ve s:=
 ⟨by have:=h.len;omega,fun g hg'=>by
  obtain⟨hv,r,hr,_⟩:=hg g hg';have h1:=(aoT.1 hr).1;have h2:=nG (iP h.iQ).1;have h3:=hv.rt;exact⟨hv,by omega⟩,hs⟩
theorem xD{p:dI}(hp:yF p){s:InT}(hs:ve s)(h:VI p s){now:Int}(hn:0≤now∧now≤8589934592):VI p (yG p s now)∧ve (yG p s now):=by
 have hv:=abv hp hs h hn;have g2:=BL (h.tk hp hs hn);exact⟨hv,hv.z hp (fun g hg=>g2 g (qB hg).1) hs.M9⟩
theorem X5(a b:Int):(if a>b then a else b)=max b a:=by
 rw[Int.max_def];by_cases h:a>b
 ·rw[if_pos h,if_pos (by omega)]
 ·rw[if_neg h];by_cases h2:b≤a
  ·rw[if_pos h2];omega
  ·rw[if_neg h2]
theorem SX{p:dI}(hp:yF p)(t:Int):∀(k:Nat) (s:InT) (nt:List pI),VI p s→ve s→k≤1000→nt.length+k*64≤4000000→∀(o n:Nat) (blk:List bG),o+n≤blk.length→(blk.drop o).take n=aY s→
  ∃(o' n':Nat) (blk':List bG) (tk:Int),aC mU ((t,()),((p.1,p.2.1,p.2.2.1,bV s,(o,n),dD s,((1000-k:Nat):Int),()),()),blk,bP s,nt,())=
   some (((aV p t k s nt).1,()),((p.1,p.2.1,p.2.2.1,bV (aV p t k s nt).2.1,(o',n'),dD (aV p t k s nt).2.1,tk,()),()),blk',bP (aV p t k s nt).2.1,(aV p t k s nt).2.2.1,())∧
   o'+n'≤blk'.length∧(blk'.drop o').take n'=aY (aV p t k s nt).2.1∧((aV p t k s nt).1=0→tk=((1000-(aV p t k s nt).2.2.2:Nat):Int)):=by
 intro k
 induction k with
 |zero=>
  intro s nt h hs hk hnt o n blk ho hb;have q:=YB s hs.len;have c1:decide (o+n≤blk.length)=true:=aoS ho;have w1:aP (((1000-0:Nat):Int)+1)=1001:=bH (by decide) (by decide);unfold aV;have hs4:((bV s,aY s,bP s,dD s,()):InT)=s:=rfl;by_cases h1:(fU (aY s)).2=false
  ·rw[if_pos (.inl h1)];refine⟨o,n,blk,_,aD ?_,ho,hb,fun _=>rfl⟩;simp only[mU,c1,hb,hs4,q,h1,aps,aA,sS]
  ·have h1':(fU (aY s)).2=true:=by simpa using h1
   by_cases h2:(fU (aY s)).1≥t
   ·rw[if_pos (.inr h2)];refine⟨o,n,blk,_,aD ?_,ho,hb,fun _=>rfl⟩;simp only[mU,c1,hb,hs4,q,h1',h2,aqg,apv,aA,sS]
   ·rw[if_neg (by simp[h1',h2])];refine⟨o,n,blk,1001,aD ?_,ho,hb,fun e=>by cases e⟩;have c2:decide ((1001:Int)>1000)=true:=by decide
    simp only[mU,c1,hb,hs4,q,h1',h2,w1,c2,aqn,apv,aA,sS]
 |succ k ih=>
  intro s nt h hs hk hnt o n blk ho hb;have q:=YB s hs.len;have c1:decide (o+n≤blk.length)=true:=aoS ho;have w1:aP (((1000-(k+1):Nat):Int)+1)=((1000-k:Nat):Int):=by rw[bH (by omega) (by omega)];omega
  have c2:decide (((1000-k:Nat):Int)>1000)=false:=aoU (by omega);have hs4:((bV s,aY s,bP s,dD s,()):InT)=s:=rfl;have hp4:((p.1,p.2.1,p.2.2.1,()):dI)=p:=rfl;have lq:=h.lq hp hs;have hd:=Ba (fun g hg=>(lq g hg).1);have hnow:=h.now;have hl:=h.len;unfold aV;by_cases h1:(fU (aY s)).2=false
  ·rw[if_pos (.inl h1)];refine⟨o,n,blk,_,aD ?_,ho,hb,fun _=>rfl⟩;simp only[mU,c1,hb,hs4,q,h1,aps,aA,sS]
  ·have h1':(fU (aY s)).2=true:=by simpa using h1
   by_cases h2:(fU (aY s)).1≥t
   ·rw[if_pos (.inr h2)];refine⟨o,n,blk,_,aD ?_,ho,hb,fun _=>rfl⟩;simp only[mU,c1,hb,hs4,q,h1',h2,aqg,apv,aA,sS]
   ·rw[if_neg (by simp[h1',h2])];have hn:0≤max (fU (aY s)).1 (bV s)∧max (fU (aY s)).1 (bV s)≤8589934592:=⟨by omega,by omega⟩
    obtain⟨v1,z1⟩:=xD hp hs h hn;have hnl:=GK p s (max (fU (aY s)).1 (bV s));have tp:=Yq (h.tk hp hs hn);unfold FE at tp;obtain⟨n',blk',e,e1,e2⟩:=tp;have mx:=X5 (bV s) (fU (aY s)).1;obtain⟨o2,n2,b2,tk,r1,r2,r3,r4⟩:=ih (yG p s (max (fU (aY s)).1 (bV s))) (nt++oq p s (max (fU (aY s)).1 (bV s))) v1 z1 (by omega) (by rw[apt];omega) 0 n' blk' (by omega) (by rw[ap2];exact e2);refine⟨o2,n2,b2,tk,(aK ?_).trans r1,r2,r3,r4⟩;have c3:decide (nt.length+(oq p s (max (fU (aY s)).1 (bV s))).length≤4294967296)=true:=aoS (by omega);simp only[mU,c1,hb,hs4,hp4,q,h1',h2,w1,c2,mx,aqn,apv,aA,sS];refine aM _ e ?_;simp only[c3,aA,sS];rfl
theorem QN:SE=mU:=rfl
theorem Xj{p:dI}{s:InT}(h:VI p s){now:Int}(h1:bV s≤now)(h2:now≤8589934592):oK p s now=(0,yG p s now,oq p s now):=by
 have e:zB (bV s) now=0:=by unfold zB;rw[if_neg (by omega),if_neg (by omega)]
 unfold oK;rw[GN.2 h,if_neg (by simp),e,if_neg (by simp)]
theorem Ta{p:dI}(hp:yF p)(al:List nk)(un i t:Int):∀(k:Nat) (s:InT) (nt:List pI),VI p s→ve s→k≤1000→nt.length+k*64≤4000000→
  aC lF ((al,((1000-k:Nat):Int),un,i,t,()),((0,0,()),()),nt,((bV s,bP s,dD s,()),()),(p,()),aY s,())=
   some (if(aV p t k s nt).1=0 then .inl ((al,((1000-(aV p t k s nt).2.2.2:Nat):Int),un,i,()),((0,0,()),()),(aV p t k s nt).2.2.1,((bV (aV p t k s nt).2.1,bP (aV p t k s nt).2.1,dD (aV p t k s nt).2.1,()),()),(p,()),aY (aV p t k s nt).2.1,())
    else .inr (((aV p t k s nt).1,()),((0,0,()),()),[],())):=by
 intro k
 induction k with
 |zero=>
  intro s nt h hs hk hnt;have q:=Yl s hs.len;have hs4:((bV s,aY s,bP s,dD s,()):InT)=s:=rfl;by_cases h1:(fU (aY s)).2=false
  ·have hu:aV p t 0 s nt=(0,s,nt,0):=by unfold aV;rw[if_pos (.inl h1)]
   rw[hu,if_pos rfl];refine aD ?_;simp only[lF,hs4,q,h1,aps,aA,sS]
  ·have h1':(fU (aY s)).2=true:=by simpa using h1
   by_cases h2:(fU (aY s)).1≥t
   ·have hu:aV p t 0 s nt=(0,s,nt,0):=by unfold aV;rw[if_pos (.inr h2)]
    rw[hu,if_pos rfl];refine aD ?_;simp only[lF,hs4,q,h1',h2,aqg,apv,aA,sS]
   ·have hu:aV p t 0 s nt=(5,s,nt,0):=by unfold aV;rw[if_neg (by simp[h1',h2])]
    rw[hu,if_neg (by simp)];refine aD ?_;have c:(((1000-0:Nat):Int)==1000)=true:=rfl;simp only[lF,hs4,q,h1',h2,c,aqn,apv,aA,sS]
 |succ k ih=>
  intro s nt h hs hk hnt;have q:=Yl s hs.len;have hs4:((bV s,aY s,bP s,dD s,()):InT)=s:=rfl;have w1:aP (((1000-(k+1):Nat):Int)+1)=((1000-k:Nat):Int):=by rw[bH (by omega) (by omega)];omega
  have c:(((1000-(k+1):Nat):Int)==1000)=false:=apn.2 (by omega);have lq:=h.lq hp hs;have hd:=Ba (fun g hg=>(lq g hg).1);have hnow:=h.now;have hl:=h.len;by_cases h1:(fU (aY s)).2=false
  ·have hu:aV p t (k+1) s nt=(0,s,nt,k+1):=by unfold aV;rw[if_pos (.inl h1)]
   rw[hu,if_pos rfl];refine aD ?_;simp only[lF,hs4,q,h1,aps,aA,sS]
  ·have h1':(fU (aY s)).2=true:=by simpa using h1
   by_cases h2:(fU (aY s)).1≥t
   ·have hu:aV p t (k+1) s nt=(0,s,nt,k+1):=by unfold aV;rw[if_pos (.inr h2)]
    rw[hu,if_pos rfl];refine aD ?_;simp only[lF,hs4,q,h1',h2,aqg,apv,aA,sS]
   ·have hu:aV p t (k+1) s nt=aV p t k (yG p s (max (fU (aY s)).1 (bV s))) (nt++oq p s (max (fU (aY s)).1 (bV s))):=by
     conv=>lhs;unfold aV
     rw[if_neg (by simp[h1',h2])]
    rw[hu];have hn:0≤max (fU (aY s)).1 (bV s)∧max (fU (aY s)).1 (bV s)≤8589934592:=⟨by omega,by omega⟩
    obtain⟨v1,z1⟩:=xD hp hs h hn;have hnl:=GK p s (max (fU (aY s)).1 (bV s));have tb:=(U2 hp hs (max (fU (aY s)).1 (bV s))).2;rw[Xj h (by omega) hn.2]at tb;have mx:=X5 (bV s) (fU (aY s)).1;have r1:=ih (yG p s (max (fU (aY s)).1 (bV s))) (nt++oq p s (max (fU (aY s)).1 (bV s))) v1 z1 (by omega) (by rw[apt];omega);refine(aK ?_).trans r1;have c3:decide (nt.length+(oq p s (max (fU (aY s)).1 (bV s))).length≤4294967296)=true:=aoS (by omega);simp only[lF,hs4,q,h1',h2,w1,c,mx,aqn,apv,aA,sS];refine aM _ tb ?_;simp only[ap4,c3,aA,sS]
def bf(p:dI):List nk→Nat→InT→List pI→Int×InT×List pI×Nat
 | [],k,s,nt=>(0,s,nt,k)
 |a::r,k,s,nt=>
  if(aV p a.1 k s nt).1≠0 then aV p a.1 k s nt
  else if(dP p (aV p a.1 k s nt).2.1 a).1≠0 then((dP p (aV p a.1 k s nt).2.1 a).1,s,nt,0)
  else bf p r (aV p a.1 k s nt).2.2.2 (dP p (aV p a.1 k s nt).2.1 a).2 (aV p a.1 k s nt).2.2.1
theorem qL{p:dI}(hp:yF p)(t:Int):∀(k:Nat) (s:InT) (nt:List pI),VI p s→ve s→
  VI p (aV p t k s nt).2.1∧ve (aV p t k s nt).2.1∧(aV p t k s nt).2.2.2≤k∧(aV p t k s nt).2.2.1.length+(aV p t k s nt).2.2.2*64≤nt.length+k*64
 |0,s,nt,h,hs=>by
  unfold aV;split<;>exact⟨h,hs,ape _,ape _⟩
 |k+1,s,nt,h,hs=>by
  unfold aV;split
  ·exact⟨h,hs,ape _,ape _⟩
  ·have lq:=h.lq hp hs;have hd:=Ba (fun g hg=>(lq g hg).1);have hnow:=h.now;have hl:=h.len;obtain⟨v1,z1⟩:=xD hp hs h (now:=max (fU (aY s)).1 (bV s)) ⟨by omega,by omega⟩;obtain⟨a,b,c,d⟩:=qL hp t k (yG p s (max (fU (aY s)).1 (bV s))) (nt++oq p s (max (fU (aY s)).1 (bV s))) v1 z1;have hnl:=GK p s (max (fU (aY s)).1 (bV s));rw[apt]at d;exact⟨a,b,by omega,by omega⟩
theorem rX{p:dI}(hp:yF p){s:InT}(h:VI p s)(hs:ve s)(a:nk)(h0:(dP p s a).1=0):VI p (dP p s a).2∧ve (dP p s a).2:=by
 have hv:=Zr hp hs a h0
 have hsil:bP (dP p s a).2=bP s∨bP (dP p s a).2=[]:=by
  unfold dP;split
  ·exact .inr rfl
  ·split
   ·exact .inr rfl
   ·split
    ·exact .inr rfl
    ·split
     ·exact .inr rfl
     ·exact .inl rfl
 have hss:Jm (bP (dP p s a).2):=by
  rcases hsil with e|e
  ·rw[e];exact hs.M9
  ·rw[e];exact⟨ap5 _,fun x hx=>by cases hx⟩
 refine⟨hv,hv.z hp ?_ hss⟩;intro g hg;have hgrp:=hv.tK;unfold dP at h0 hg;split at h0
 ·cases h0
 rename_i c1;rw[if_neg c1]at hg;simp only[not_or,Bool.not_eq_false]at c1;split at h0
 ·rename_i c2;exact absurd h0 c2
 rename_i c2;rw[if_neg c2]at hg;simp only[ne_eq,Decidable.not_not]at c2;obtain⟨n0,n1,n2⟩:=qQ c2 h.now.1;have lq:=h.lq hp hs;obtain⟨f1,f2⟩:=F4 hp (iP h.iQ).1 a.2.1
 cases hr:yx p a (kI p.1 a.2.1) (aY s)with
 |none=>rw[hr]at h0;cases h0
 |some gs=>
  rw[hr]at h0 hg;simp only at h0 hg;have inv:=uZ c1.2 ⟨n0,n1⟩ f1 (⟨lq,(w9 h.tK).1,h.len⟩:yu p (aY s) 64) hr;split at h0
  ·cases h0
  ·rename_i hl;rw[if_neg hl]at hg;exact inv.lq g (qB hg).1
abbrev RunT:=Int×InT×List pI
def yS(p:dI)(un:Int)(A:Int×InT×List pI×Nat):RunT:=
 if A.1≠0 then(A.1,lM,[])else if(aV p (un+1) A.2.2.2 A.2.1 A.2.2.1).1≠0 then((aV p (un+1) A.2.2.2 A.2.1 A.2.2.1).1,lM,[])
 else(0,(aV p (un+1) A.2.2.2 A.2.1 A.2.2.1).2.1,(aV p (un+1) A.2.2.2 A.2.1 A.2.2.1).2.2.1)
def y7(p:dI)(al:List nk)(un:Int):RunT:=
 if uN p≠0 then(uN p,lM,[])else if al.length>256 then(5,lM,[])else if un<0∨un>8589934592 then(1,lM,[])
 else yS p un (bf p al 1000 (0,[],[],1,()) [])
theorem PY{p:dI}(hp:yF p)(al:List nk)(hal:al.length≤256)(hk:∀a∈al,Eu a.2.1)(un:Int)(hun:0≤un∧un≤8589934592):∀(d i k:Nat) (s:InT) (nt:List pI),i+d=al.length→VI p s→ve s→k≤1000→nt.length+k*64≤64000→
  aC o9 (((i:Int),al,((1000-k:Nat):Int),un,()),((0,0,()),()),nt,((bV s,bP s,dD s,()),()),(p,()),aY s,())=
   some (if(yS p un (bf p (al.drop i) k s nt)).1=0 then .inl ((),((0,0,()),()),(yS p un (bf p (al.drop i) k s nt)).2.2,((bV (yS p un (bf p (al.drop i) k s nt)).2.1,bP (yS p un (bf p (al.drop i) k s nt)).2.1,dD (yS p un (bf p (al.drop i) k s nt)).2.1,()),()),aY (yS p un (bf p (al.drop i) k s nt)).2.1,())
    else .inr (((yS p un (bf p (al.drop i) k s nt)).1,()),((0,0,()),()),[],())):=by
 intro d
 induction d with
 |zero=>
  intro i k s nt hi h hs hk1 hnt;obtain rfl:i=al.length:=by omega
  rw[apP];have w1:aP (un+1)=un+1:=bH (by omega) (by omega);have q:=Ta hp al un (al.length:Int) (un+1) k s nt h hs hk1 (by omega);have c1:decide (((al.length:Nat):Int)≤((al.length:Nat):Int))=true:=aoS (Int.le_refl _);unfold bf yS;simp only[ne_eq,not_true_eq_false,if_false];generalize aV p (un+1) k s nt=U at q ⊢;refine aD ?_;by_cases hU:U.1=0
  ·rw[if_pos hU]at q;simp only[o9,c1,cO,w1,q,hU,not_true_eq_false,if_false,if_true,apW,aA,sS]
  ·rw[if_neg hU]at q;simp only[o9,c1,cO,w1,q,hU,aq5,if_true,if_false,aA,sS]
 |succ d ih=>
  intro i k s nt hi h hs hk1 hnt;obtain⟨a,ha,hd⟩:=drop_at (l:=al) (i:=i) (by omega);have hil:i<al.length:=by omega
  have hw:=aI (i:=i) (by omega);have q:=Ta hp al un (i:Int) a.1 k s nt h hs hk1 (by omega);obtain⟨u1,u2,u3,u4⟩:=qL hp a.1 k s nt h hs;have c1:decide ((i:Int)≤((al.length:Nat):Int))=true:=aoS (by omega);have c2:((i:Int)==((al.length:Nat):Int))=false:=apn.2 (by omega);have qa:=abA hp u2 a (hk a (aoX ha));have hs4:((bV (aV p a.1 k s nt).2.1,aY (aV p a.1 k s nt).2.1,bP (aV p a.1 k s nt).2.1,dD (aV p a.1 k s nt).2.1,()):InT)=(aV p a.1 k s nt).2.1:=rfl;have an:=rX hp u1 u2 a
  have hE:bf p (a::al.drop (i+1)) k s nt=if(aV p a.1 k s nt).1≠0 then aV p a.1 k s nt
    else if(dP p (aV p a.1 k s nt).2.1 a).1≠0 then((dP p (aV p a.1 k s nt).2.1 a).1,s,nt,0)
    else bf p (al.drop (i+1)) (aV p a.1 k s nt).2.2.2 (dP p (aV p a.1 k s nt).2.1 a).2 (aV p a.1 k s nt).2.2.1:=rfl
  rw[hd];generalize aV p a.1 k s nt=U at q u1 u2 u3 u4 qa hs4 an hE;by_cases hU:U.1=0
  ·rw[if_pos hU]at q;rw[if_neg (by simpa using hU)]at hE;by_cases hA:(dP p U.2.1 a).1=0
   ·rw[if_neg (by simpa using hA)]at hE;rw[hE];obtain⟨v1,v2⟩:=an hA;rw[←ih (i+1) U.2.2.2 (dP p U.2.1 a).2 U.2.2.1 (by omega) v1 v2 (by omega) (by omega)];refine aK ?_;simp only[o9,c1,bQ hil,aJ,aG ha,q,c2,hs4,qa,hA,ap4,hw,aA,sS]
   ·rw[if_pos hA]at hE;rw[hE];refine aD ?_;unfold yS;simp only[o9,c1,bQ hil,aJ,aG ha,q,c2,hs4,qa,apO.2 hA,ne_eq,hA,aq5,if_true,if_false,aA,sS]
  ·rw[if_neg hU]at q;rw[if_pos hU]at hE;rw[hE];refine aD ?_;unfold yS;simp only[o9,c1,bQ hil,aJ,aG ha,q,ne_eq,hU,aq5,if_true,if_false,aA,sS]
abbrev mZ:InT:=(0,[],[],1,())
theorem FW{p:dI}(h:uN p=0):VI p mZ:=⟨h,⟨by decide,by decide⟩,by decide,rfl,by decide,fun x hx=>(by cases hx),rfl⟩
theorem Po:ve mZ:=⟨by decide,fun g hg=>(by cases hg),⟨by decide,fun x hx=>(by cases hx)⟩⟩
theorem ajN{p:dI}(hp:yF p)(al:List nk)(hk:∀a∈al,Eu a.2.1)(un:Int):
  m16 ((p,al,un,()),())=some (((y7 p al un).1,()),(((y7 p al un).2.1.1,(y7 p al un).2.1.2.2.1,(y7 p al un).2.1.2.2.2.1,()),()),(y7 p al un).2.2,(y7 p al un).2.1.2.1,()):=by
 have q1:=PL p hp;unfold y7;by_cases h1:uN p=0
 ·rw [if_neg (by simpa using h1)];rw[h1]at q1;by_cases h2:al.length>256
  ·have c:decide ((al.length:Int)>256)=true:=aoS (by omega);rw[if_pos h2];unfold m16;simp only[q1,c,ap4,aA,sS]
  ·have c:decide ((al.length:Int)>256)=false:=aoU (by omega);rw[if_neg h2];by_cases h3:un<0
   ·rw[if_pos (.inl h3)];unfold m16;simp only[q1,c,h3,aqg,ap4,aA,sS]
   ·by_cases h4:un>8589934592
    ·rw[if_pos (.inr h4)];unfold m16;simp only[q1,c,h3,h4,aqg,aqn,ap4,aA,sS]
    ·rw[if_neg (by omega)];have q:=PY hp al (by omega) hk un ⟨by omega,by omega⟩ al.length 0 1000 mZ [] (by omega) (FW h1) Po (ape _) (by decide);rw[ap2]at q;dsimp only[bV,bP,dD,aY]at q;unfold m16 m33;simp only[q1,c,h3,h4,aqn,ap4,aA,sS];refine aM _ q ?_;generalize hE:yS p un (bf p al 1000 mZ [])=E
     have hz:E.1≠0→E.2=(lM,[]):=by
      intro hne;rw[←hE]at hne ⊢;unfold yS at hne ⊢;split
      ·rfl
      ·rename_i c0;rw[if_neg c0]at hne;split
       ·rfl
       ·rename_i c1;rw[if_neg c1]at hne;exact absurd rfl hne
     by_cases h0:E.1=0
     ·rw[if_pos h0];simp only[h0,aA,sS]
     ·rw[if_neg h0];have e2:=hz h0;obtain⟨E1,E2,E3⟩:=E;cases e2;simp only[aA,sS]
 ·rw[if_pos h1];unfold m16;simp only[q1,apO.2 h1,aA,sS]
theorem Ru{p:dI}(hp:yF p)(al:List nk)(hal:al.length≤256)(hk:∀a∈al,Eu a.2.1)(un:Int):∀(d i k:Nat) (s:InT) (nt:List pI),i+d=al.length→VI p s→ve s→k≤1000→nt.length+k*64≤64000→
  ∀(o n:Nat) (blk:List bG),o+n≤blk.length→(blk.drop o).take n=aY s→
  ∃b,aC o7 (((i:Int),al,un,(al.length:Int),()),((0,0,()),()),((p.1,p.2.1,p.2.2.1,bV s,(o,n),dD s,((1000-k:Nat):Int),()),()),(p,()),blk,bP s,nt,())=some b∧
   ((bf p (al.drop i) k s nt).1≠0→b= .inl (((bf p (al.drop i) k s nt).1,()),((0,0,()),()),[],()))∧
   ((bf p (al.drop i) k s nt).1=0→∃(o' n':Nat) (blk':List bG),b= .inr ((un,()),((0,0,()),()),((p.1,p.2.1,p.2.2.1,bV (bf p (al.drop i) k s nt).2.1,(o',n'),dD (bf p (al.drop i) k s nt).2.1,((1000-(bf p (al.drop i) k s nt).2.2.2:Nat):Int),()),()),blk',bP (bf p (al.drop i) k s nt).2.1,(bf p (al.drop i) k s nt).2.2.1,())∧
     o'+n'≤blk'.length∧(blk'.drop o').take n'=aY (bf p (al.drop i) k s nt).2.1):=by
 intro d
 induction d with
 |zero=>
  intro i k s nt hi h hs hk1 hnt o n blk ho hb;obtain rfl:i=al.length:=by omega
  rw[apP];refine⟨_,aD (by simp only[o7,cO,aA,sS];rfl),fun e=>absurd rfl e,fun _=>⟨o,n,blk,rfl,ho,hb⟩⟩
 |succ d ih=>
  intro i k s nt hi h hs hk1 hnt o n blk ho hb;obtain⟨a,ha,hd⟩:=drop_at (l:=al) (i:=i) (by omega);have hil:i<al.length:=by omega
  have hw:=aI (i:=i) (by omega);obtain⟨o1,n1,b1,tk,q,q2,q3,q4⟩:=SX hp a.1 k s nt h hs hk1 (by omega) o n blk ho hb;obtain⟨u1,u2,u3,u4⟩:=qL hp a.1 k s nt h hs;have qa:=ac9 hp u2 a (hk a (aoX ha));unfold ahQ at qa;obtain⟨n2,b2,qa,qa2,qa3⟩:=qa;have hs4:((bV (aV p a.1 k s nt).2.1,aY (aV p a.1 k s nt).2.1,bP (aV p a.1 k s nt).2.1,dD (aV p a.1 k s nt).2.1,()):InT)=(aV p a.1 k s nt).2.1:=rfl;have an:=rX hp u1 u2 a
  have hE:bf p (a::al.drop (i+1)) k s nt=if(aV p a.1 k s nt).1≠0 then aV p a.1 k s nt
    else if(dP p (aV p a.1 k s nt).2.1 a).1≠0 then((dP p (aV p a.1 k s nt).2.1 a).1,s,nt,0)
    else bf p (al.drop (i+1)) (aV p a.1 k s nt).2.2.2 (dP p (aV p a.1 k s nt).2.1 a).2 (aV p a.1 k s nt).2.2.1:=rfl
  rw[hd];generalize aV p a.1 k s nt=U at q q3 q4 u1 u2 u3 u4 qa qa3 hs4 an hE;have c1:decide (o1+n1≤b1.length)=true:=aoS q2;by_cases hU:U.1=0
  ·have htk:=q4 hU;subst htk;rw[if_neg (by simpa using hU)]at hE;by_cases hA:(dP p U.2.1 a).1=0
   ·rw[if_neg (by simpa using hA)]at hE;rw[hE];obtain⟨v1,v2⟩:=an hA;obtain⟨b,r1,r2⟩:=ih (i+1) U.2.2.2 (dP p U.2.1 a).2 U.2.2.1 (by omega) v1 v2 (by omega) (by omega) 0 n2 b2 (by omega) (by rw[ap2];exact qa3);refine⟨b,(aK ?_).trans r1,r2⟩;simp only[o7,bQ hil,aJ,aG ha,q,hU,c1,q3,hs4,qa,hA,ap4,hw,eq_self,aA,sS]
   ·rw[if_pos hA]at hE;rw[hE];refine⟨_,aD (by simp only[o7,bQ hil,aJ,aG ha,q,hU,c1,q3,hs4,qa,apO.2 hA,ap4,eq_self,aA,sS]),fun _=>rfl,fun e=>absurd e hA⟩
  ·rw[if_pos hU]at hE;rw[hE];refine⟨_,aD (by simp only[o7,bQ hil,aJ,aG ha,q,apO.2 hU,eq_self,aA,sS]),fun _=>rfl,fun e=>absurd e hU⟩
def aej(V:RunT)(x:Option ((Int×Unit)×((Int×(Nat×Nat)×Int×Unit)×Unit)×List pI×List bG×List jD×Unit)):Prop:=
 ∃(o n:Nat) (blk:List bG),x=some ((V.1,()),((V.2.1.1,(o,n),V.2.1.2.2.2.1,()),()),V.2.2,blk,V.2.1.2.2.1,())∧o+n≤blk.length∧(blk.drop o).take n=V.2.1.2.1
theorem Cr{p:dI}(hp:yF p):∀(r:List nk) (k:Nat) (s:InT) (nt:List pI),VI p s→ve s→(bf p r k s nt).1=0→
  VI p (bf p r k s nt).2.1∧ve (bf p r k s nt).2.1∧(bf p r k s nt).2.2.2≤k∧(bf p r k s nt).2.2.1.length+(bf p r k s nt).2.2.2*64≤nt.length+k*64
 | [],k,s,nt,h,hs,_=>⟨h,hs,ape _,ape _⟩
 |a::r,k,s,nt,h,hs,e=>by
  obtain⟨u1,u2,u3,u4⟩:=qL hp a.1 k s nt h hs;unfold bf at e ⊢;split at e
  ·rename_i c;exact absurd e c
  rename_i c;rw[if_neg c];split at e
  ·rename_i c2;exact absurd e c2
  rename_i c2;rw[if_neg c2];obtain⟨v1,v2⟩:=rX hp u1 u2 a (by simpa using c2);obtain⟨w1,w2,w3,w4⟩:=Cr hp r _ _ _ v1 v2 e;exact⟨w1,w2,by omega,by omega⟩
theorem ahC{p:dI}(hp:yF p)(al:List nk)(hk:∀a∈al,Eu a.2.1)(un:Int):aej (y7 p al un) (m15 ((p,al,un,()),())):=by
 have q1:=Rz p hp;have err:∀e:Int,aej (e,lM,[]) (some ((e,()),((0,(0,0),0,()),()),[],[],[],())):=fun e=>⟨0,0,[],rfl,ape _,rfl⟩
 unfold y7;by_cases h1:uN p=0
 ·rw[if_neg (by simpa using h1)];rw[h1]at q1;by_cases h2:al.length>256
  ·have c:decide ((al.length:Int)>256)=true:=aoS (by omega);rw[if_pos h2];unfold m15;simp only[q1,c,ap4,aA,sS];exact err _
  ·have c:decide ((al.length:Int)>256)=false:=aoU (by omega);rw[if_neg h2];by_cases h3:un<0
   ·rw[if_pos (.inl h3)];unfold m15;simp only[q1,c,h3,aqg,ap4,aA,sS];exact err _
   ·by_cases h4:un>8589934592
    ·rw[if_pos (.inr h4)];unfold m15;simp only[q1,c,h3,h4,aqg,aqn,ap4,aA,sS];exact err _
    ·rw[if_neg (by omega)];obtain⟨b,r1,r2,r3⟩:=Ru hp al (by omega) hk un al.length 0 1000 mZ [] (by omega) (FW h1) Po (ape _) (by decide) 0 0 [] (ape _) rfl;rw[ap2]at r2 r3;dsimp only[bV,bP,dD]at r1;unfold m15 m26;simp only[q1,c,h3,h4,aqn,ap4,aA,sS];have w1:aP (un+1)=un+1:=bH (by omega) (by omega);have r1':aC o7 (((0:Int),al,un,(al.length:Int),()),((0,0,()),()),((p.1,p.2.1,p.2.2.1,0,(0,0),1,0,()),()),(p,()),[],[],[],())=some b:=r1;rw[r1'];unfold yS;by_cases hA:(bf p al 1000 mZ []).1=0
     ·rw[if_neg (by simpa using hA)];obtain⟨o,n,blk,rfl,e1,e2⟩:=r3 hA;obtain⟨a1,a2,a3,a4⟩:=Cr hp al 1000 mZ [] (FW h1) Po hA;generalize bf p al 1000 mZ []=A at e2 a1 a2 a3 a4 ⊢;simp only[List.length_nil,apG]at a4;obtain⟨o2,n2,b2,tk,q,q2,q3,q4⟩:=SX hp (un+1) A.2.2.2 A.2.1 A.2.2.1 a1 a2 a3 (by omega) o n blk e1 e2;simp only[QN,w1,aA,sS];rw[q];generalize aV p (un+1) A.2.2.2 A.2.1 A.2.2.1=U at q3 ⊢;by_cases hU:U.1=0
      ·rw[if_neg (by simpa using hU)];simp only[hU,ap4,eq_self,aA,sS];exact⟨o2,n2,b2,rfl,q2,q3⟩
      ·rw[if_pos hU];simp only[apO.2 hU,eq_self,aA,sS];exact err _
     ·rw[if_pos hA,r2 hA];exact err _
 ·rw[if_pos h1];unfold m15;simp only[q1,apO.2 h1,aA,sS];exact err _
def ZB(n:pI):Prop:=n.2.2.2.2.1.length≤256∧n.2.2.2.2.2.1.length≤256
theorem ZB.le_{n:pI}(h:ZB n):n.2.2.2.2.1.length≤big∧n.2.2.2.2.2.1.length≤big:=by
 obtain⟨h1,h2⟩:=h;unfold big;exact⟨by omega,by omega⟩
theorem Rb{g:bG}(h:VG g)(r:dw)(t:Int)(mu:List ByteArray):(j6 g r t mu).2.2.2.2.1.length≤256∧(j6 g r t mu).2.2.2.2.2.length≤256:=by
 have hl:=h.len;have h1:=tX mu (aN g);have h2:=uK mu (aN g);unfold j6;split
 ·exact⟨ap5 _,ap5 _⟩
 ·dsimp only;split
  ·exact⟨by dsimp only;omega,by dsimp only;omega⟩
  ·exact⟨ap5 _,ap5 _⟩
theorem Pm{p:dI}{s:InT}{now:Int}(h:Qm p s now):∀n∈oq p s now,ZB n:=by
 intro n hn;unfold oq at hn;obtain⟨g,hg,hn⟩:=List.mem_flatMap.1 hn;have hv:=(wF h g hg).1;unfold pR at hn;cases hc:(pO p (bP s) now (sW p s now) g).1
 ·rw[hc]at hn;cases hn
 ·rw[hc]at hn;rw[apL.1 hn];exact Rb hv _ _ _
theorem vH{p:dI}(hp:yF p)(t:Int):∀(k:Nat) (s:InT) (nt:List pI),VI p s→ve s→(∀n∈nt,ZB n)→∀n∈(aV p t k s nt).2.2.1,ZB n
 |0,s,nt,h,hs,hn=>by
  unfold aV;split<;>exact hn
 |k+1,s,nt,h,hs,hn=>by
  unfold aV;split
  ·exact hn
  ·have lq:=h.lq hp hs;have hd:=Ba (fun g hg=>(lq g hg).1);have hnow:=h.now;have hm:0≤max (fU (aY s)).1 (bV s)∧max (fU (aY s)).1 (bV s)≤8589934592:=⟨by omega,by omega⟩
   obtain⟨v1,z1⟩:=xD hp hs h hm
   exact vH hp t k _ _ v1 z1 (fun n hn'=>by
    rcases apr.1 hn' with hn'|hn'
    ·exact hn n hn'
    ·exact Pm (h.tk hp hs hm) n hn')
end Go.Proofs.YtchnmpafhfjimaaGreatDoor
namespace Go.Proofs.YtchnmpafhfjimaaGreatDoor
open Go Go.Abs Go.Lab
def anm(p s:List UInt8):Bool:=s.take p.length==p
theorem TI{p s:List UInt8}(h:anm p s=true):p.length≤s.length:=by
 have:=congrArg List.length (eq_of_beq h);rw[apq]at this;omega
end Go.Proofs.YtchnmpafhfjimaaGreatDoor
namespace Go.Proofs.YtchnmpafhfjimaaGreatDoor
open Go Go.Abs
theorem agc:ve lM:=⟨by decide,fun g hg=>(by cases hg),⟨by decide,fun x hx=>(by cases hx)⟩⟩
theorem zX{p:dI}(hp:yF p):∀(r:List nk) (k:Nat) (s:InT) (nt:List pI),VI p s→ve s→(∀n∈nt,ZB n)→(bf p r k s nt).1=0→
  ∀n∈(bf p r k s nt).2.2.1,ZB n
 | [],k,s,nt,h,hs,hn,_=>hn
 |a::r,k,s,nt,h,hs,hn,e=>by
  obtain⟨u1,u2,u3,u4⟩:=qL hp a.1 k s nt h hs;have us:=vH hp a.1 k s nt h hs hn;unfold bf at e ⊢;split at e
  ·rename_i c;exact absurd e c
  rename_i c;rw[if_neg c];split at e
  ·rename_i c2;exact absurd e c2
  rename_i c2;rw[if_neg c2];obtain⟨v1,v2⟩:=rX hp u1 u2 a (by simpa using c2);exact zX hp r _ _ _ v1 v2 us e
theorem XE{p:dI}(hp:yF p)(al:List nk)(un:Int):((y7 p al un).1=0→VI p (y7 p al un).2.1)∧ve (y7 p al un).2.1∧(y7 p al un).2.2.length≤64000∧∀n∈(y7 p al un).2.2,ZB n:=by
 have no:∀e:Int,e≠0→(((e,lM,[]):RunT).1=0→VI p ((e,lM,[]):RunT).2.1)∧ve ((e,lM,[]):RunT).2.1∧((e,lM,[]):RunT).2.2.length≤64000∧∀n∈((e,lM,[]):RunT).2.2,ZB n:=
  fun e he=>⟨fun h=>absurd h he,agc,ap5 _,fun n hn=>(by cases hn)⟩
 unfold y7;split
 ·rename_i c;exact no _ c
 rename_i c1;simp only[ne_eq,Decidable.not_not]at c1;split
 ·exact no _ (by decide)
 split
 ·exact no _ (by decide)
 unfold yS;split
 ·rename_i c;exact no _ c
 rename_i c2;simp only[ne_eq,Decidable.not_not]at c2;obtain⟨a1,a2,a3,a4⟩:=Cr hp al 1000 mZ [] (FW c1) Po c2;have asm:=zX hp al 1000 mZ [] (FW c1) Po (fun n hn=>(by cases hn)) c2;split
 ·rename_i c;exact no _ c
 rename_i c3;have c2':(bf p al 1000 mZ []).1=0:=c2
 show((0:Int)=0→VI p (aV p (un+1) (bf p al 1000 mZ []).2.2.2 (bf p al 1000 mZ []).2.1 (bf p al 1000 mZ []).2.2.1).2.1)∧ve (aV p (un+1) (bf p al 1000 mZ []).2.2.2 (bf p al 1000 mZ []).2.1 (bf p al 1000 mZ []).2.2.1).2.1∧(aV p (un+1) (bf p al 1000 mZ []).2.2.2 (bf p al 1000 mZ []).2.1 (bf p al 1000 mZ []).2.2.1).2.2.1.length≤64000∧∀n∈(aV p (un+1) (bf p al 1000 mZ []).2.2.2 (bf p al 1000 mZ []).2.1 (bf p al 1000 mZ []).2.2.1).2.2.1,ZB n
 generalize bf p al 1000 mZ []=A at a1 a2 a3 a4 asm;obtain⟨u1,u2,u3,u4⟩:=qL hp (un+1) A.2.2.2 A.2.1 A.2.2.1 a1 a2;simp only[List.length_nil,apG]at a4;exact⟨fun _=>u1,u2,by omega,vH hp _ _ _ _ a1 a2 asm⟩
abbrev Vs(y:pI):Int:=y.1
abbrev Zp(y:pI):Int:=y.2.1
abbrev anu(y:pI):Int:=y.2.2.1
abbrev abt(y:pI):ByteArray:=y.2.2.2.1
abbrev nF(y:pI):List ByteArray:=y.2.2.2.2.1
abbrev nR(y:pI):List ByteArray:=y.2.2.2.2.2.1
def Rk(z:pI)(rt:Int)(k:ByteArray):Prop:=Zp z=rt∧abt z=k
structure GI(p:dI)(Q:List LT→Prop)(nt:List pI)(now:Int)(g:bG):Prop where
 lab:∀m∈aN g,Q (bK m)∧g.1.toNat∈kI p.1 (bK m)
 told:∀m∈aN g,(cK m=false∨dY m=true)→∃z∈nt,Rk z g.1 g.2.1∧aL m∈nF z
 sent:bU g≠ -1→∃z∈nt,Rk z g.1 g.2.1∧Vs z=bU g
 due:bU g≠ -1→dZ g= -1∨bU g+iH (EZ p g.1)≤dZ g
 past:∀z∈nt,Rk z g.1 g.2.1→Vs z≤bU g∨Vs z+iH (EZ p g.1)≤now
 now:bU g≤now
theorem GI.later{p:dI}{Q:List LT→Prop}{nt:List pI}{now now':Int}{g:bG}(h:GI p Q nt now g)(hn:now≤now'):GI p Q nt now' g:=
 ⟨h.lab,h.told,h.sent,h.due,fun z hz e=>by
  rcases h.past z hz e with a|a
  ·exact .inl a
  ·exact .inr (by omega),by have:=h.now;omega⟩
structure Good(p:dI)(Q:List LT→Prop)(pre:List pI)(y:pI):Prop where
 rt:0≤Zp y∧Zp y<p.1.length
 pol:anu y=(EZ p (Zp y)).2.2.1
 some:0<(nF y).length+(nR y).length
 key:∀k,k∈nF y∨k∈nR y→∃l,Q l∧dh l=true∧k=gL (dU l)∧(Zp y).toNat∈kI p.1 l∧AL (EZ p (Zp y)) l=abt y
 up:(nF y).Pairwise Less
 res:∀k∈nR y,∃z∈pre,Rk z (Zp y) (abt y)∧k∈nF z
 apart:∀z∈pre,Rk z (Zp y) (abt y)→Vs z+iH (EZ p (Zp y))≤Vs y
 late:∀z∈pre,Vs z≤Vs y
def AG(p:dI)(Q:List LT→Prop)(nt:List pI):Prop:=∀a y b,nt=a++y::b→Good p Q a y
theorem AG.nil(p:dI)(Q:List LT→Prop):AG p Q []:=fun a y b e=>by cases a<;>cases e
structure NI(p:dI)(Q:List LT→Prop)(s:InT)(nt:List pI):Prop where
 gi:∀g∈aY s,GI p Q nt (bV s) g
 gone:∀z∈nt,(∀g∈aY s,¬ Rk z g.1 g.2.1)→Vs z+iH (EZ p (Zp z))≤bV s
 good:AG p Q nt
 at_:∀z∈nt,0≤Vs z∧Vs z≤bV s
structure NG(p:dI)(Q:List LT→Prop)(nt:List pI)(now:Int)(gs:List bG):Prop where
 gi:∀g∈gs,GI p Q nt now g
 gone:∀z∈nt,(∀g∈gs,¬ Rk z g.1 g.2.1)→Vs z+iH (EZ p (Zp z))≤now
structure TJ(p:dI)(mk:ByteArray)(i:Nat)(key:ByteArray)(nt0:List pI)(at_ W:Int)(s:InT)(nt:List pI):Prop where
 M9:bP s=[]
 now:at_≤bV s
 mem:∃more,nt=nt0++more∧(∀z∈more,Rk z i key→mk∈nF z∧at_≤Vs z)∧∃g∈aY s,g.1=i∧g.2.1=key∧∃m∈aN g,aL m=mk∧cK m=true∧
  ((dY m=false∧(∀z∈more,¬ Rk z i key)∧dZ g≠ -1∧dZ g≤W∧bV s≤W)∨∃a z b,more=a++z::b∧(∀y∈a,¬ Rk y i key)∧Rk z i key∧Vs z≤W)
theorem GI.mono{p:dI}{Q Q':List LT→Prop}{nt:List pI}{now:Int}{g:bG}(h:GI p Q nt now g)(f:∀l,Q l→Q' l):GI p Q' nt now g:=
 ⟨fun m hm=>⟨f _ (h.lab m hm).1,(h.lab m hm).2⟩,h.told,h.sent,h.due,h.past,h.now⟩
theorem uy.t{r:y8}(h:uy r):TSz r:=by
 obtain⟨h1,h2,h3,h4,h5,_⟩:=h;have h6:=h5.length_le;rw[show iM.length=4 from rfl]at h6;exact⟨⟨by unfold big;omega,fun m hm=>(h3 m hm).z⟩,⟨by unfold big;omega,fun m hm=>(h4 m hm).z⟩,by unfold big;omega,fun k hk=>by have:=(BB k (h5.subset hk)).2;unfold big;omega⟩
theorem uy.iQ{r:y8}(h:uy r):CX r=0:=by
 obtain⟨h1,h2,h3,h4,h5,h6,h7⟩:=h;have h8:=h5.length_le;rw[show iM.length=4 from rfl]at h8;have:=List.length_pos_iff.2 h6;have:=List.length_pos_iff.2 h7;unfold CX
 rw[apn.2 (show(r.1.length:Int)≠0 by omega),apn.2 (show(r.2.1.length:Int)≠0 by omega),aoU (show¬(r.1.length:Int)>8 by omega),aoU (show¬(r.2.1.length:Int)>8 by omega),aoU (show¬(r.2.2.1.length:Int)>12 by omega),
  JE h3,JE h4,OC h5]
 rfl
theorem Qn{l:List y8}(hl:l.length≤3)(h:∀r∈l,uy r):wR l=0:=by
 unfold wR;rw[aoU (by omega),apY];clear hl
 induction l with
 |nil=>rfl
 |cons r l ih=>
  unfold Mj;rw[(h r (by simp)).iQ];exact ih fun x hx=>h x (by simp[hx])
structure MW(p:dI):Prop where
 rt:vE p.1
 inl:p.2.1.length≤3
 inh:∀r∈p.2.1,uy r
 exp:0≤p.2.2.1∧p.2.2.1≤1000
theorem MW.z{p:dI}(h:MW p):yF p:=⟨h.rt.z,by have:=h.inl;unfold big;omega,fun r hr=>(h.inh r hr).t,by have:=h.inl;unfold big;omega,fun r hr=>(h.inh r hr).z⟩
theorem MW.iQ{p:dI}(h:MW p):uN p=0:=by
 have:=h.exp;unfold uN;rw[h.rt.iQ,Qn h.inl h.inh,if_neg (by simp),if_neg (by simp),if_neg (by omega)]
theorem Qd(n:Int)(d:iU)(hd:tO d)(h0:0≤n)(h1:n≤10):∃(p:dI) (d':iU),m12 ((n,()),((d,()),()))=some ((),((d',()),(((p.2.2.1,()),()),(p.1,(p.2.1,())))))∧tO d'∧MW p:=by
 obtain⟨rs,d1,e1,hd1,g1⟩:=Pk n d hd h0 h1;obtain⟨is,d2,e2,hd2,g2,g3⟩:=XI d1 hd1;obtain⟨x,d3,e3,hd3,g4⟩:=qX [0,0,200,1000] d2 hd2 (by simp) (by simp);refine⟨(rs,is,x,()),d3,?_,hd3,g1,g2,g3,?_⟩
 ·unfold m12;simp only[e1,e2,e3,apH]
 ·simp only[apD,List.not_mem_nil,or_false]at g4;dsimp only;omega
structure N7(l:List nk)(t:Int):Prop where
 lab:∀a∈l,qp iM a.2.1
 at_:∀a∈l,0≤a.1∧a.1≤t
 up:l.Pairwise fun a b=>a.1≤b.1
theorem N7.k{l:List nk}{t:Int}(h:N7 l t):∀a∈l,Eu a.2.1:=fun a ha=>afm (h.lab a ha)
theorem NA:∀(n:Nat) (i:Int) (t:Int) (d:iU) (l:List nk),tO d→i=n→l.length+n≤1000→0≤t→t+400*n≤1000000→N7 l t→
  ∃(l':List nk) (t':Int) (d':iU),aC EJ ((i,t,()),((d,()),(l,())))=some ((),((d',()),(l',())))∧tO d'∧l'.length=l.length+n∧t≤t'∧t'≤t+400*n∧N7 l' t':=by
 intro n
 induction n with
 |zero=>
  intro i t d l hd hi hl h0 h1 hg;refine⟨l,t,d,aD ?_,hd,rfl,Int.le_refl _,by omega,hg⟩;have:decide (i>0)=false:=aoU (by omega);simp only[EJ,this,aA,sS]
 |succ n ih=>
  intro i t d l hd hi hl h0 h1 hg;obtain⟨x,d1,e1,hd1,g1⟩:=qX [0,1,10,30,400] d hd (by simp) (by simp);obtain⟨ls,d2,e2,hd2,g2⟩:=Ng d1 hd1;obtain⟨y,d3,e3,hd3,_⟩:=fP 3 d2 hd2 (by omega);simp only[apD,List.not_mem_nil,or_false]at g1;have hw:aP (t+x)=t+x:=bH (by omega) (by omega);have hx:0≤x∧x≤400:=by omega
  obtain⟨l',t',d',k1,k2,k3,k4,k5,k6⟩:=ih (i-1) (t+x) d3 (l++ [(t+x,ls,decide (y>0),())]) hd3 (by omega) (by simp;omega) (by omega) (by omega)
   ⟨fun a ha=>by
    rcases apr.1 ha with ha|ha
    ·exact hg.lab a ha
    ·rw[apL.1 ha];exact g2,fun a ha=>by
    rcases apr.1 ha with ha|ha
    ·have:=hg.at_ a ha;omega
    ·rw[apL.1 ha];exact⟨by show 0≤t+x;omega,Int.le_refl _⟩,List.pairwise_append.2 ⟨hg.up,List.pairwise_singleton _ _,fun a ha b hb=>by
     rw[apL.1 hb];have:=hg.at_ a ha
     show a.1≤t+x
     omega⟩⟩
  refine⟨l',t',d',?_,k2,by rw[k3];simp;omega,by omega,by omega,k6⟩;rw[←k1];refine aK ?_;have c0:decide (i>0)=true:=aoS (by omega);have c1:decide (l.length+([(t+x,ls,decide (y>0),())]:List nk).length≤4294967296)=true:=aoS (by simp;omega);simp only[EJ,c0,e1,e2,e3,hw,c1,bH (x:=i-1) (by omega) (by omega),aA,sS]
theorem Oo(n:Int)(d:iU)(hd:tO d)(h0:0≤n)(h1:n≤100):∃(l:List nk) (t:Int) (d':iU),m13 ((n,()),((d,()),()))=some ((),((d',()),(l,())))∧tO d'∧(l.length:Int)≤n∧0≤t∧t≤400*n∧N7 l t:=by
 obtain⟨k,d1,e1,hd1,b1,_⟩:=fP (n+1) d hd (by omega);have b1:=b1 (by omega);obtain⟨l',t',d',e2,k2,k3,k4,k5,k6⟩:=NA k.toNat k 0 d1 [] hd1 (by omega) (by simp;omega) (Int.le_refl _) (by omega) ⟨fun a ha=>(by cases ha),fun a ha=>(by cases ha),List.Pairwise.nil⟩;refine⟨l',t',d',?_,k2,by rw[k3];simp;omega,k4,by omega,k6⟩;unfold m13;simp only[bH (x:=n+1) (by omega) (by omega),e1,apH,e2]
structure aoC(p:dI)(s:InT):Prop where
 vi:VI p s
 z:ve s
set_option maxRecDepth 1000000 in
theorem PO:m10 ((),())=some ((true,()),()):=by kernel_rfl
end Go.Proofs.YtchnmpafhfjimaaGreatDoor
namespace Go.Proofs.YtchnmpafhfjimaaGreatDoor
open Go Go.Abs
theorem aan{s:InT}(hs:ve s):m17 (((s.1,s.2.1,s.2.2.1,s.2.2.2.1,()),(s.1,s.2.1,s.2.2.1,s.2.2.2.1,()),()),())=some ((true,()),()):=afz s hs
theorem Yb(x n:Int)(h0:1≤n)(h1:n≤4294967296):∃r,m14 ((x,n,()),())=some ((r,()),())∧0≤r∧r<n:=by
 have a:=Int.tmod_lt_of_pos x (show(0:Int)<n by omega);have b:=Int.lt_tmod_of_pos x (show(0:Int)<n by omega);have hw:aP (x.tmod n+n)=x.tmod n+n:=bH (by omega) (by omega);have c:=Int.tmod_lt_of_pos (x.tmod n+n) (show(0:Int)<n by omega);have d:=Int.tmod_nonneg (a:=x.tmod n+n) n (by omega);refine⟨(x.tmod n+n).tmod n,?_,d,c⟩;unfold m14;simp only[aoS (show n≠0 by omega),hw,aA,sS]
theorem Ox{p:dI}(hp:yF p)(k:List nk)(hk:∀a∈k,Eu a.2.1)(n0 n1 t j:Int)(x y z:List nk)(i:Nat)(n:Int)(hi:i<2)(hn:([n0,n1]:List Int)[i]?=some n):
  Aw (((i:Int),k,(n0,n1,()),t,(x,y,z,()),j,()),((p.2.2.1,()),()),p.1,p.2.1,())=some (.inl (((i+1:Nat),k,(n0,n1,()),t,(x,y,z,()),j,()),((p.2.2.1,()),()),p.1,p.2.1,())):=by
 obtain⟨o,m,blk,e,h1,h2⟩:=ahC hp k hk n;have q:=ajN hp k hk n;obtain⟨_,hz,hl,hs⟩:=XE hp k n;have e:m15 (((p.1,p.2.1,p.2.2.1,()),k,n,()),())=_:=e;have q:m16 (((p.1,p.2.1,p.2.2.1,()),k,n,()),())=_:=q;generalize y7 p k n=V at e q h2 hz hl hs;have q1:=aan hz;have q2:=aa3 V.2.2 (by omega) (fun n h=>(hs n h).le_);have w:aP ((i:Int)+1)=((i+1:Nat):Int):=aI (by omega);have c1:decide ((i:Int)<2)=true:=aoS (by omega);simp only[Aw,c1,aJ,aG hn,e,q,aoS h1,h2,q1,q2,ap4,w,aA,sS]
theorem YX{p:dI}(hp:yF p)(k:List nk)(hk:∀a∈k,Eu a.2.1)(n0 n1 t j:Int)(x y z:List nk):
  aC Aw ((0,k,(n0,n1,()),t,(x,y,z,()),j,()),((p.2.2.1,()),()),p.1,p.2.1,())=some (.inr ((t,(x,y,z,()),j,()),((p.2.2.1,()),()),p.1,p.2.1,())):=by
 refine(aK (Ox hp k hk n0 n1 t j x y z 0 n0 (by omega) rfl)).trans ((aK (Ox hp k hk n0 n1 t j x y z 1 n1 (by omega) rfl)).trans (aD ?_));have c1:decide (((1+1:Nat):Int)<2)=false:=aoU (by omega);simp only[Aw,c1,aA,sS]
theorem Dt{p:dI}(hp:yF p)(t:Int)(x y z:List nk)(hx:∀k∈ [x,y,z],∀a∈k,Eu a.2.1)(j:Nat)(hj:j<3)(k:List nk)(hk:([x,y,z]:List (List nk))[j]?=some k):
  CJ (((j:Int),t,(x,y,z,()),()),((p.2.2.1,()),()),p.1,p.2.1,())=some (.inl (((j+1:Nat),t,(x,y,z,()),()),((p.2.2.1,()),()),p.1,p.2.1,())):=by
 have c1:decide ((j:Int)<3)=true:=aoS (by omega);have w:aP ((j:Int)+1)=((j+1:Nat):Int):=aI (by omega);obtain⟨r,q,_⟩:=Yb t 3000 (by omega) (by omega);have h:=YX hp k (hx k (aoX hk)) r (-1) t j x y z;simp only[CJ,c1,aJ,aG hk,q,h,w,aA,sS]
theorem XA(t:Int)(x y z:List nk)(w:((Int×Unit)×Unit)×List dw×List y8×Unit):CJ (((2+1:Nat),t,(x,y,z,()),()),w)=some (.inr (.inr ((),()))):=by
 have c1:decide (((2+1:Nat):Int)<3)=false:=aoU (by omega);simp only[CJ,c1,aA,sS]
theorem akC(t:List Int)(raw:List nk)(un:Int)(h1:∀a∈raw,Eu a.2.1):m3 ((t,raw,un,()),())=some ((true,()),()):=by
 unfold m3;simp only[light,aA,sS];by_cases ht:t.length≤500
 ·by_cases c1:(raw.length:Int)>30
  ·simp only[aoS ht,aoS c1,PO,aA,sS]
  ·obtain⟨p,d1,e1,hd1,gp⟩:=Qd 3 (t,0,()) (an9 ht) (by omega) (by omega);obtain⟨l,u,d2,e2,hd2,g1,g2,g3,ga⟩:=Oo 12 d1 hd1 (by omega) (by omega);have k0:decide (0+l.length≤4294967296)=true:=aoS (by omega);have k1:decide (l.length+raw.length≤4294967296)=true:=aoS (by omega)
   have hx:∀k∈ [l,raw,l++raw],∀a∈k,Eu a.2.1:=by
    intro k hk a ha;simp only[apD,List.not_mem_nil,or_false]at hk;rcases hk with rfl|rfl|rfl
    ·exact ga.k a ha
    ·exact h1 a ha
    ·rcases apr.1 ha with ha|ha
     ·exact ga.k a ha
     ·exact h1 a ha
   have hl:=(aK (Dt gp.z un l raw (l++raw) hx 0 (by omega) l rfl)).trans ((aK (Dt gp.z un l raw (l++raw) hx 1 (by omega) raw rfl)).trans ((aK (Dt gp.z un l raw (l++raw) hx 2 (by omega) (l++raw) rfl)).trans
    (aD (XA un l raw (l++raw) ((((p.2.2.1,()),()),p.1,p.2.1,()))))))
   simp only[aoS ht,aoU c1,roll,e1,e2,k0,k1,aA,sS];rw[show aC CJ ((0,un,(l,raw,l++raw,()),()),((p.2.2.1,()),()),p.1,p.2.1,())=_ from hl];simp only[PO,aA,sS]
 ·simp only[aoU ht,PO,aA,sS]
theorem amz:∀x,Abs.Uv 1048576 [.row (.int .i64),.row (.cons (.int .i64) (.cons (.row (.cons .str (.cons .str .unit))) (.cons .bool .unit))),.int .i64] x→m3 (x,())=some ((true,()),()):=by
 intro x h;obtain⟨_,h1,_⟩:=h;refine akC x.1 x.2.1 x.2.2.1 (fun a ha=> ?_);have h2:=(h1.2 a ha).2.1;exact⟨apI h2.1 (by decide),fun y hy=>⟨apI (h2.2 y hy).1 (by decide),apI (h2.2 y hy).2.1 (by decide)⟩⟩
end Go.Proofs.YtchnmpafhfjimaaGreatDoor
