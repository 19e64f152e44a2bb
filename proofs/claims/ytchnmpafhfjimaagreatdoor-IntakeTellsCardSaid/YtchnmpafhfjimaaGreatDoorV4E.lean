/- Lemmas for the statement of the last text of this claim. -/
import Derived.Test.YtchnmpafhfjimaaGreatDoorV4D
set_option linter.unusedSimpArgs false
set_option linter.unusedVariables false
namespace Go.Proofs.YtchnmpafhfjimaaGreatDoor
open Go Go.Abs Go.Lab
abbrev CF:Type:=List MT×List MT×List ByteArray×Unit
abbrev big:Nat:=9223372036854775807
def EW(a b:List LT)(ks:List ByteArray):Bool:=ks.any fun k=> !decide (vT a k=vT b k)
theorem aaO(a b:List LT)(ha:a.length≤big)(hb:b.length≤big)(ks:List ByteArray)(hk:ks.length≤big):∀(k i:Nat),i+k=ks.length→
  ∃j:Nat,aA qW (((i:Int),ks,(ks.length:Int),()),((a,()),((b,()),())))=some (if EW a b (ks.drop i)then .inl (((j:Int),()),((a,()),((b,()),())))else .inr ((),((a,()),((b,()),())))):=by
 intro k
 induction k with
 |zero=>
  intro i h;refine⟨0,?_⟩;rw[al6 (by omega)];refine aB ?_;have:decide ((i:Int)<(ks.length:Int))=false:=akY (by omega);simp only[qW,this,au,sS];rfl
 |succ k ih=>
  intro i h;obtain⟨e,he,hd⟩:=drop_at (l:=ks) (i:=i) (by omega);have hlt:decide ((i:Int)<(ks.length:Int))=true:=akW (by omega);have hw:aS ((i:Int)+1)=((i+1:Nat):Int):=aI (by unfold big at hk;omega);have q1:=JS a e ha;have q2:=JS b e hb;rw[hd,show EW a b (e::ks.drop (i+1))=((!decide (vT a e=vT b e))||EW a b (ks.drop (i+1)))from List.any_cons];cases hq:decide (vT a e=vT b e)
  ·refine⟨i,aB ?_⟩;simp only[qW,aK,aF he,hlt,q1,q2,bA,jY,hq,au,sS];rfl
  ·obtain⟨j,hj⟩:=ih (i+1) (by omega);refine⟨j,?_⟩;rw[al2,alk,←hj];refine aD ?_;simp only[qW,aK,aF he,hlt,q1,q2,bA,jY,hq,au,sS,hw]
theorem abo(a b:List LT)(ha:a.length≤big)(hb:b.length≤big)(ks:List ByteArray)(hk:ks.length≤big):abm ((a,b,ks,()),())=some ((!EW a b ks,()),()):=by
 obtain⟨j,h⟩:=aaO a b ha hb ks hk ks.length 0 (by omega);rw[al9]at h;unfold abm;rw[show aA qW ((0,ks,(ks.length:Int),()),((a,()),((b,()),())))=_ from h];cases EW a b ks
 ·simp only[au,sS,alo,if_false]
 ·simp only[au,sS,if_true,akW (show(j:Int)≥0 by omega)]
def RSz(r:CF):Prop:=PSs r.1∧PSs r.2.1∧r.2.2.1.length≤big
def RSs(l:List CF):Prop:=l.length≤big∧∀r∈l,RSz r
def FSs(f:List (List LT)):Prop:=f.length≤big∧∀l∈f,J9 l
def Ug(r:CF)(x f:List LT):Bool:=allM r.1 f&&(!allM r.2.1 f&& !EW x f r.2.2.1)
def RU(x:List LT)(fs:List (List LT))(r:CF):Bool:=allM r.2.1 x&&fs.any (Ug r x)
def Am(l:List CF)(x:List LT)(fs:List (List LT)):Bool:=l.any (RU x fs)
theorem Zy(r:CF)(hr:RSz r)(x:List LT)(hx:J9 x)(fs:List (List LT))(hf:FSs fs)(l:List CF)(n o:Int):∀(k i:Nat),i+k=fs.length→
  aA qV (((i:Int),x,fs,fs,l,n,o,(fs.length:Int),()),((r,()),()))=some (if(fs.drop i).any (Ug r x)then .inl ((true,()),())else .inr ((x,fs,l,n,o,()),())):=by
 intro k
 induction k with
 |zero=>
  intro i h;rw[al6 (by omega)];refine aB ?_;have:decide ((i:Int)<(fs.length:Int))=false:=akY (by omega);simp only[qV,this,au,sS];rfl
 |succ k ih=>
  intro i h;obtain⟨e,he,hd⟩:=drop_at (l:=fs) (i:=i) (by omega);have hlt:decide ((i:Int)<(fs.length:Int))=true:=akW (by omega);have hlen:=hf.1;have hw:aS ((i:Int)+1)=((i+1:Nat):Int):=aI (by unfold big at hlen;omega);have hze:=hf.2 e (alb he);have q1:=r9 r.1 e hr.1 hze;have q2:=r9 r.2.1 e hr.2.1 hze;have q3:=abo x e hx.1 hze.1 r.2.2.1 hr.2.2;rw[hd,List.any_cons]
  have go:∀b,Ug r x e=b→qV (((i:Int),x,fs,fs,l,n,o,(fs.length:Int),()),((r,()),()))=(if b then some (.inr (.inl ((true,()),())))else some (.inl ((((i+1:Nat):Int),x,fs,fs,l,n,o,(fs.length:Int),()),((r,()),())))):=by
   intro b hb;unfold Ug at hb;subst hb;simp only[qV,aK,aF he,hlt,q1,q2,q3,au,sS];cases allM r.1 e<;>cases allM r.2.1 e<;>cases EW x e r.2.2.1<;>simp only[au,sS,hw]<;>rfl
  cases hq:Ug r x e
  ·rw[alk,←ih (i+1) (by omega)];exact aD (go false hq)
  ·exact aB (go true hq)
theorem aas(l:List CF)(hl:RSs l)(x:List LT)(hx:J9 x)(fs:List (List LT))(hf:FSs fs):∀(k i:Nat),i+k=l.length→
  aA uH (((i:Int),x,fs,l,(l.length:Int),()),())=some (if(l.drop i).any (RU x fs)then .inl ((true,()),())else .inr ((),())):=by
 intro k
 induction k with
 |zero=>
  intro i h;rw[al6 (by omega)];refine aB ?_;have:decide ((i:Int)<(l.length:Int))=false:=akY (by omega);simp only[uH,this,au,sS];rfl
 |succ k ih=>
  intro i h;obtain⟨e,he,hd⟩:=drop_at (l:=l) (i:=i) (by omega);have hlt:decide ((i:Int)<(l.length:Int))=true:=akW (by omega);have hlen:=hl.1;have hw:aS ((i:Int)+1)=((i+1:Nat):Int):=aI (by unfold big at hlen;omega);have hze:=hl.2 e (alb he);have q1:=r9 e.2.1 x hze.2.1 hx;have q2:=Zy e hze x hx fs hf l (l.length:Int) (i:Int) fs.length 0 (by omega);rw[al9]at q2;rw[hd,List.any_cons]
  have go:∀b,RU x fs e=b→uH (((i:Int),x,fs,l,(l.length:Int),()),())=(if b then some (.inr (.inl ((true,()),())))else some (.inl ((((i+1:Nat):Int),x,fs,l,(l.length:Int),()),()))):=by
   intro b hb;unfold RU at hb;subst hb;simp only[uH,aK,aF he,hlt,q1,au,sS];cases allM e.2.1 x
   ·simp only[au,sS,hw];rfl
   ·simp only[au,sS];rw[show aA qV ((0,x,fs,fs,l,(l.length:Int),(i:Int),(fs.length:Int),()),((e,()),()))=_ from q2];cases fs.any (Ug e x)
    ·simp only[alo,if_false,au,sS,hw]
    ·simp only[if_true,au,sS]
  cases hq:RU x fs e
  ·rw[alk,←ih (i+1) (by omega)];exact aD (go false hq)
  ·exact aB (go true hq)
theorem Yq(l:List CF)(hl:RSs l)(x:List LT)(hx:J9 x)(fs:List (List LT))(hf:FSs fs):Yi ((l,x,fs,()),())=some ((Am l x fs,()),()):=by
 have h:=aas l hl x hx fs hf l.length 0 (by omega);rw[al9]at h;unfold Yi;refine aR _ h ?_;unfold Am;cases l.any (RU x fs)<;>rfl
def uD(r:CF):Prop:=r.1.length≤8∧r.2.1.length≤8∧(∀m∈r.1,mQ m)∧(∀m∈r.2.1,mQ m)∧r.2.2.1.Sublist fQ∧r.1≠ []∧r.2.1≠ []
theorem uD.z{r:CF}(h:uD r):RSz r:=by
 obtain⟨h1,h2,h3,h4,h5,_⟩:=h;refine⟨⟨by omega,fun m hm=>(h3 m hm).p⟩,⟨by omega,fun m hm=>(h4 m hm).p⟩,?_⟩;have:=h5.length_le;rw[show fQ.length=4 from rfl]at this;unfold big;omega
theorem Yn:mQ ((bs [115,101,118]),(0,((bs [99,114,105,116]),()))):=by
 unfold mQ;decide+kernel
theorem UH:∀(n:Nat) (i:Int) (d:iP) (l:List CF),tC d→i=n→l.length+n≤1000→(∀r∈l,uD r)→
  ∃(l':List CF) (d':iP),aA DK ((i,()),((d,()),(l,())))=some ((),((d',()),(l',())))∧tC d'∧l'.length=l.length+n∧∀r∈l',uD r:=by
 intro n
 induction n with
 |zero=>
  intro i d l hd hi hl hg;refine⟨l,d,aB ?_,hd,rfl,hg⟩;have:decide (i>0)=false:=akY (by omega);simp only[DK,this,au,sS]
 |succ n ih=>
  intro i d l hd hi hl hg;obtain⟨s,d1,e1,hd1,hs,hsg⟩:=qj 1 d hd (by omega) (by omega);obtain⟨t,d2,e2,hd2,ht,htg⟩:=qj 1 d1 hd1 (by omega) (by omega);obtain⟨m,d3,e3,hd3,hm⟩:=Ab d2 hd2;obtain⟨ks,d4,e4,hd4,hk⟩:=Fa d3 hd3;have h0:decide (i>0)=true:=akW (by omega);have b1:decide (s.length+([((bs [115,101,118]),(0,((bs [99,114,105,116]),())))]:List MT).length≤4294967296)=true:=akW (by simp;omega);have b2:decide (t.length+([m]:List MT).length≤4294967296)=true:=akW (by simp;omega);have b3:∀r:CF,decide (l.length+([r]:List CF).length≤4294967296)=true:=fun r=>akW (by simp;omega)
  obtain⟨l',d',e5,hd',hl',hg'⟩:=ih (i-1) d4 (l++ [(s++ [((bs [115,101,118]),(0,((bs [99,114,105,116]),())))],(t++ [m],(ks,())))]) hd4 (by omega) (by simp;omega) (fun x hx=>by
   rcases alx.1 hx with h|h
   ·exact hg x h
   ·simp only[alV]at h;subst h;refine⟨by simp;omega,by simp;omega,fun y hy=> ?_,fun y hy=> ?_,hk,by simp,by simp⟩
    ·rcases alx.1 hy with h|h
     ·exact hsg y h
     ·simp only[alV]at h;subst h;exact Yn
    ·rcases alx.1 hy with h|h
     ·exact htg y h
     ·simp only[alV]at h;subst h;exact hm)
  refine⟨l',d',?_,hd',by rw[hl'];simp;omega,hg'⟩;rw[←e5];refine aD ?_;simp only[DK,h0,e1,e2,e3,e4,au,sS,b1,b2,b3,bK (x:=i-1) (by omega) (by omega)]
theorem Xi(d:iP)(hd:tC d):∃(l:List CF) (d':iP),m51 ((),((d,()),()))=some ((),((d',()),(l,())))∧tC d'∧l.length≤3∧∀r∈l,uD r:=by
 obtain⟨a,d1,e1,hd1,b1,_⟩:=fJ 3 d hd (by omega);have b1:=b1 (by omega);obtain⟨l',d',e2,hd',hl',hg'⟩:=UH a.toNat a d1 [] hd1 (by omega) (by simp;omega) (fun m hm=>by cases hm);refine⟨l',d',?_,hd',by rw[hl'];simp;omega,hg'⟩;unfold m51;simp only[e1,alR,e2]
def gm{S E B:Type}(step:Nat→S→E→S⊕B)(fin:S→B):Nat→List E→S→B
 |_,[],s=>fin s
 |i,e::r,s=>match step i s e with
  | .inl s'=>gm step fin (i+1) r s'
  | .inr b=>b
theorem BS{A B S E:Type}{f:A→Option (A⊕B)}(l:List E)(st:Nat→S→A)(step:Nat→S→E→S⊕B)(fin:S→B)(I:Nat→S→Prop)
  (h1:∀i e s,l[i]?=some e→i<l.length→I i s→f (st i s)=some (match step i s e with| .inl s'=>.inl (st (i+1) s')| .inr b=>.inr b))
  (hI:∀i e s s',l[i]?=some e→I i s→step i s e= .inl s'→I (i+1) s')
  (h2:∀s,I l.length s→f (st l.length s)=some (.inr (fin s))):
  ∀(k i:Nat) (s:S),i+k=l.length→I i s→aA f (st i s)=some (gm step fin i (l.drop i) s):=by
 intro k
 induction k with
 |zero=>
  intro i s h hi;obtain rfl:i=l.length:=by omega
  rw[alZ];exact aB (h2 s hi)
 |succ k ih=>
  intro i s h hi;obtain⟨e,he,hd⟩:=drop_at (l:=l) (i:=i) (by omega);have q:=h1 i e s he (by omega) hi;rw[hd];unfold gm
  cases hs:step i s e with
  |inl s'=>
   rw[hs]at q;simp only;rw[←ih (i+1) s' (by omega) (hI i e s s' he hi hs)];exact aD q
  |inr b=>
   rw[hs]at q;exact aB q
theorem dU{A B S E:Type}{f:A→Option (A⊕B)}(l:List E)(st:Nat→S→A)(step:Nat→S→E→S⊕B)(fin:S→B)
  (h1:∀i e s,l[i]?=some e→i<l.length→f (st i s)=some (match step i s e with| .inl s'=>.inl (st (i+1) s')| .inr b=>.inr b))
  (h2:∀s,f (st l.length s)=some (.inr (fin s))) (s:S):aA f (st 0 s)=some (gm step fin 0 l s):=by
 have:=BS l st step fin (fun _ _=>True) (fun i e s he hl _=>h1 i e s he hl) (fun _ _ _ _ _ _ _=>trivial) (fun s _=>h2 s) l.length 0 s (by omega) trivial
 rwa [al9]at this
theorem q9{S E B:Type}(g:S→E→S)(fin:S→B):∀(l:List E) (i:Nat) (s:S),gm (fun _ s e=>.inl (g s e)) fin i l s=fin (l.foldl g s):=by
 intro l
 induction l with
 |nil=>intro i s;rfl
 |cons e r ih=>intro i s;exact ih (i+1) (g s e)
theorem nQ{A B E:Type}{f:A→Option (A⊕B)}(l:List E)(st:Nat→A)(fin:B)
  (h1:∀i e,l[i]?=some e→i<l.length→f (st i)=some (.inl (st (i+1)))) (h2:f (st l.length)=some (.inr fin)):aA f (st 0)=some fin:=by
 have:=dU (S:=Unit) l (fun i _=>st i) (fun _ _ _=>.inl ()) (fun _=>fin) (fun i e _ he hi=>h1 i e he hi) (fun _=>h2) ();exact this.trans (congrArg some (q9 (fun _ _=>()) (fun _=>fin) l 0 ()))
theorem ku{A B:Type}{f:A→Option (A⊕B)}{Q:B→Prop}(I:Nat→A→Prop)(n:Nat)
  (h1:∀i a,i<n→I i a→∃a',f a=some (.inl a')∧I (i+1) a') (h2:∀a,I n a→∃b,f a=some (.inr b)∧Q b):∀a,I 0 a→∃b,aA f a=some b∧Q b:=by
 have:∀(k i:Nat) a,i+k=n→I i a→∃b,aA f a=some b∧Q b:=by
  intro k
  induction k with
  |zero=>
   intro i a h hi;obtain rfl:i=n:=by omega
   obtain⟨b,h,hq⟩:=h2 a hi;exact⟨b,aB h,hq⟩
  |succ k ih=>
   intro i a h hi;obtain⟨a',h,hi'⟩:=h1 i a (by omega) hi;obtain⟨b,hb,hq⟩:=ih (i+1) a' (by omega) hi';exact⟨b,by rw[←hb];exact aD h,hq⟩
 exact fun a h=>this n 0 a (by omega) h
theorem eu{i n:Nat}(h:i<n):decide ((i:Int)<(n:Int))=true:=akW (by omega)
theorem fZ(n:Nat):decide ((n:Int)<(n:Int))=false:=akY (by omega)
abbrev lW:Type:=Int×Int×Int×Int×List MT×Unit
def SSz(s:lW):Prop:=s.2.2.2.2.1.length≤4294967296∧∀m∈s.2.2.2.2.1,PSz m∧T9 m
def ML(l:List lW):Prop:=l.length≤1000∧∀s∈l,SSz s
theorem SSz.p{s:lW}(h:SSz s):PSs s.2.2.2.2.1:=⟨by have:=h.1;omega,fun m hm=>(h.2 m hm).1⟩
theorem ML.at{l:List lW}(h:ML l){i:Nat}{e:lW}(he:l[i]?=some e):SSz e:=h.2 e (alb he)
def ahK(x:List LT)(t:Int)(s:lW):Bool:=decide (s.2.1≤t)&&(decide (t<s.2.2.1)&&allM s.2.2.2.2.1 x)
def UB(x:List LT)(t:Int)(a:Int×Bool)(s:lW):Int×Bool:=bif ahK x t s&&(!a.2||decide (s.1<a.1))then(s.1,true)else a
def Hq(x:List LT)(t:Int)(l:List lW):Int×Bool:=l.foldl (UB x t) (0,false)
theorem YG(l:List lW)(hl:ML l)(x:List LT)(hx:J9 x)(t:Int):YV ((l,x,t,()),())=some (((Hq x t l).1,(Hq x t l).2,()),()):=by
 have h:=dU (f:=AJ) l (fun i (a:Int×Bool)=>(((i:Int),a.1,a.2,x,t,l,(l.length:Int),()),())) (fun _ a e=>.inl (UB x t a e)) (fun a=>((a.2,a.1,()),())) ?_ ?_ (0,false)
 ·rw[q9]at h;unfold YV;exact aR _ h rfl
 ·intro i e ⟨a1,a2⟩ he hi;have hl1:=hl.1;have q:=r9 e.2.2.2.2.1 x (hl.at he).p hx;have hw:aS ((i:Int)+1)=((i+1:Nat):Int):=aI (by omega);unfold UB ahK;simp only[AJ,aK,aF he,eu hi,q,au,sS];cases decide (e.2.1≤t)<;>cases decide (t<e.2.2.1)<;>cases allM e.2.2.2.2.1 x<;>cases a2<;>cases decide (e.1<a1)<;>simp only[au,sS,hw,al2,aly,al5,alr,aln,alk]
 ·intro a;simp only[AJ,fZ,au,sS]
theorem lM{E B:Type}(p:E→Bool)(b:Nat→B)(fin:B):∀(l:List E) (i:Nat),∃j,i≤j∧gm (fun i (_:Unit) e=>bif p e then .inr (b i)else .inl ()) (fun _=>fin) i l ()=bif l.any p then b j else fin:=by
 intro l
 induction l with
 |nil=>intro i;exact⟨i,alj _,rfl⟩
 |cons e r ih=>
  intro i;cases h:p e
  ·obtain⟨j,h1,h2⟩:=ih (i+1);refine⟨j,by omega,?_⟩;simp only[gm,h,ami,List.any_cons,alk];exact h2
  ·exact⟨i,alj _,by simp only[gm,h,cond_true,List.any_cons,alr]⟩
theorem JK(m:MT)(hm:T9 m):U0 ((m,()),())=some ((!bE m,()),()):=by
 unfold U0;exact aR _ (Ru m hm) rfl
theorem Ba{E:Type}(p:E→Bool)(l:List E):(l.any fun e=> !p e)= !l.all p:=by
 induction l with
 |nil=>rfl
 |cons e r ih=>rw[List.any_cons,List.all_cons,ih,Bool.not_and]
theorem Xa(ms:List MT)(hs:ms.length≤big)(hm:∀m∈ms,T9 m):∃j:Nat,aA vS ((0,ms,(ms.length:Int),()),())=some (bif ms.all bE then .inr ((),())else .inl (((j:Int),()),())):=by
 have h:=dU (f:=vS) ms (fun i (_:Unit)=>(((i:Int),ms,(ms.length:Int),()),())) (fun i _ e=>bif !bE e then .inr (.inl (((i:Int),()),()))else .inl ()) (fun _=>.inr ((),())) ?_ ?_ ()
 ·obtain⟨j,_,hj⟩:=lM (fun e=> !bE e) (fun i:Nat=>(Sum.inl (((i:Int),()),()):((Int×Unit)×Unit)⊕(Unit×Unit))) (.inr ((),())) ms 0;refine⟨j,?_⟩;refine h.trans (congrArg some (hj.trans ?_));rw[Ba];cases ms.all bE<;>rfl
 ·intro i e _ he hi;unfold big at hs;have hw:aS ((i:Int)+1)=((i+1:Nat):Int):=aI (by omega);simp only[vS,aK,aF he,eu hi,JK e (hm e (alb he)),au,sS];cases bE e<;>simp only[au,sS,hw,al2,aly]
 ·intro _;simp only[vS,fZ,au,sS]
def xk(last:Int)(s:lW):Int:=
 bif decide (s.1<1)||decide (s.1≤last)then 6
 else bif decide (s.2.1<0)||(decide (s.2.1≥s.2.2.1)||(decide (s.2.2.1>8589934592)||decide (s.2.2.2.1<0)))then 1
 else bif (s.2.2.2.2.1.length:Int)==0 then 7
 else bif decide ((s.2.2.2.2.1.length:Int)>8)then 5
 else bif s.2.2.2.2.1.all bE then 0 else 8
theorem Yl(s:lW)(hs:SSz s)(last:Int):YW ((s,last,()),())=some ((xk last s,()),()):=by
 obtain⟨j,hj⟩:=Xa s.2.2.2.2.1 (by have:=hs.1;unfold big;omega) (fun m h=>(hs.2 m h).2);unfold YW xk;have hj0:decide ((j:Int)≥0)=true:=akW (by omega);cases decide (s.1<1)<;>cases decide (s.1≤last)<;>simp only[au,sS,al5,alr,aln,alk];cases decide (s.2.1<0)<;>simp only[au,sS,al5,alr,aln,alk];cases decide (s.2.1≥s.2.2.1)<;>simp only[au,sS,al5,alr,aln,alk];cases decide (s.2.2.1>8589934592)<;>simp only[au,sS,al5,alr,aln,alk];cases decide (s.2.2.2.1<0)<;>simp only[au,sS,al5,alr,aln,alk];cases ((s.2.2.2.2.1.length:Int)==0)<;>simp only[au,sS];cases decide ((s.2.2.2.2.1.length:Int)>8)<;>simp only[au,sS];rw[hj];cases s.2.2.2.2.1.all bE<;>simp only[au,sS,hj0]
def Ow:Int→List lW→Int
 |_,[]=>0
 |last,s::r=>bif xk last s !=0 then xk last s else Ow s.1 r
def Kz(l:List lW):Int:=bif decide ((l.length:Int)>24)then 5 else Ow 0 l
theorem X4{B:Type}(f:Int→B)(fin:B):∀(l:List lW) (i:Nat) (last:Int),∃b,gm (fun _ last e=>bif xk last e !=0 then .inr (f (xk last e))else .inl e.1) (fun _=>fin) i l last=b∧(Ow last l=0∧b=fin∨Ow last l≠0∧b=f (Ow last l)):=by
 intro l
 induction l with
 |nil=>intro i last;exact⟨fin,rfl,.inl ⟨rfl,rfl⟩⟩
 |cons s r ih=>
  intro i last;cases h:(xk last s !=0)
  ·obtain⟨b,h1,h2⟩:=ih (i+1) s.1;refine⟨b,?_,?_⟩
   ·simp only[gm,h,ami];exact h1
   ·simp only[Ow,h,ami];exact h2
  ·refine⟨f (xk last s),?_,.inr ⟨?_,?_⟩⟩
   ·simp only[gm,h,cond_true]
   ·simp only[Ow,h,cond_true];exact alY.1 h
   ·simp only[Ow,h,cond_true]
theorem ae2(l:List lW)(hl:ML l):m81 ((l,()),())=some ((Kz l,()),()):=by
 unfold m81 Kz;cases decide ((l.length:Int)>24)
 ·simp only[au,sS];have h:=dU (f:=DZ) l (fun i (last:Int)=>(((i:Int),last,l,(l.length:Int),()),())) (fun _ last e=>bif xk last e !=0 then .inr (.inl ((xk last e,()),()))else .inl e.1) (fun _=>.inr ((),())) ?_ ?_ 0
  ·obtain⟨b,h1,h2⟩:=X4 (fun c:Int=>(Sum.inl ((c,()),()):((Int×Unit)×Unit)⊕(Unit×Unit))) (.inr ((),())) l 0 0;refine aR b (h.trans (congrArg some h1)) ?_;rcases h2 with⟨e1,rfl⟩|⟨e1,rfl⟩
   ·rw[e1]
   ·rfl
  ·intro i e last he hi;have hl1:=hl.1;have hw:aS ((i:Int)+1)=((i+1:Nat):Int):=aI (by omega);simp only[DZ,aK,aF he,eu hi,Yl e (hl.at he) last,au,sS];cases xk last e !=0<;>simp only[au,sS,hw]
  ·intro _;simp only[DZ,fZ,au,sS]
 ·simp only[au,sS]
theorem YL(l:List lW)(hl:ML l):TU ((l,()),())=some ((),(l,())):=by
 have hl1:=hl.1;have h:=nQ (f:=AO) l (fun i=>(((i:Int),(l.length:Int),()),(l,()))) ((),(l,())) ?_ ?_
 ·unfold TU ac7;have hb:decide (l.length≤4294967296)=true:=akW (by omega);simp only[hb,au,sS];exact aR _ h rfl
 ·intro i e he hi;have hw:aS ((i:Int)+1)=((i+1:Nat):Int):=aI (by omega);have hb:decide ((0:Int)≤(i:Int)∧(i:Int)<(l.length:Int))=true:=akW (by omega);have hc:decide (e.2.2.2.2.1.length≤4294967296)=true:=akW (hl.at he).1
  have hs:l.set i (e.1,(e.2.1,(e.2.2.1,(e.2.2.2.1,(e.2.2.2.2.1,())))))=l:=by
   obtain⟨hlt,rfl⟩:=akX.1 he;exact List.set_getElem_self hlt
  simp only[AO,adO,eu hi,hb,akZ,he,hc,hs,hw,au,sS]
 ·simp only[AO,fZ,au,sS]
theorem ML.app{l:List lW}(hl:ML l)(h1:l.length≤999){s:lW}(hs:SSz s):ML (l++ [s]):=
 ⟨by simp;omega,fun x hx=>by
  rcases alx.1 hx with h|h
  ·exact hl.2 x h
  ·simp at h;subst h;exact hs⟩
theorem Y2:∀(l:List lW) (last:Int),Ow last l=0→∀s∈l,last<s.1:=by
 intro l
 induction l with
 |nil=>intro last _ s hs;cases hs
 |cons e r ih=>
  intro last h s hs;unfold Ow at h;cases hc:(xk last e !=0)
  ·rw[hc]at h;simp only[ami]at h;have h0:xk last e=0:=by simpa using hc
   have hlt:last<e.1:=by
    unfold xk at h0;cases h1:decide (e.1≤last)
    ·have:=am2 h1;omega
    ·rw[h1,al5]at h0;cases h0
   rcases alN.1 hs with rfl|hs
   ·exact hlt
   ·have:=ih _ h s hs;omega
  ·rw[hc]at h;simp only[cond_true]at h;rw[h]at hc;cases hc
theorem SE:∀(a:List lW) (last:Int) (s:lW) (b:List lW),Ow last (a++s::b)=0→∀y∈b,s.1<y.1:=by
 intro a
 induction a with
 |nil=>
  intro last s b h;rw[amD]at h;unfold Ow at h;cases hc:(xk last s !=0)
  ·rw[hc]at h;exact Y2 b s.1 h
  ·rw[hc]at h;simp only[cond_true]at h;rw[h]at hc;cases hc
 |cons e r ih=>
  intro last s b h;rw[am1]at h;unfold Ow at h;cases hc:(xk last e !=0)
  ·rw[hc]at h;exact ih e.1 s b h
  ·rw[hc]at h;simp only[cond_true]at h;rw[h]at hc;cases hc
theorem adI{l:List lW}(h:Kz l=0):Ow 0 l=0∧l.length≤24:=by
 unfold Kz at h;cases hc:decide ((l.length:Int)>24)
 ·rw[hc]at h;exact⟨h,by have:=am2 hc;omega⟩
 ·rw[hc]at h;cases h
def GoodS(s:lW):Prop:=0≤s.2.1∧s.2.1<s.2.2.1∧s.2.2.1≤2000∧0≤s.2.2.2.1∧s.2.2.2.2.1≠ []∧s.2.2.2.2.1.length≤8∧∀m∈s.2.2.2.2.1,mQ m
theorem GoodS.z{s:lW}(h:GoodS s):SSz s:=⟨by have:=h.2.2.2.2.2.1;omega,fun m hm=>⟨(h.2.2.2.2.2.2 m hm).p,(h.2.2.2.2.2.2 m hm).z⟩⟩
theorem Ic{l:List MT}(h:∀m∈l,mQ m):l.all bE=true:=alF.2 fun m hm=>(h m hm).1
def Ki(l:List lW):Prop:=l.length≤3∧Ow 0 l=0∧∀s∈l,s.1≤2*(l.length:Int)∧GoodS s
theorem Ki.iN{l:List lW}(h:Ki l):Kz l=0:=by
 unfold Kz;rw[akY (by have:=h.1;omega),ami,h.2.1]
theorem Ki.z{l:List lW}(h:Ki l):ML l:=⟨by have:=h.1;omega,fun s hs=>(h.2.2 s hs).2.z⟩
def y9{E:Type}(bad:Option E→E→Bool):Option E→List E→Bool
 |_,[]=>true
 |p,e::r=> !bad p e&&y9 bad (some e) r
theorem nN{A B E:Type}{f:A→Option (A⊕B)}(l:List E)(st:Nat→A)(bad:Option E→E→Bool)(no yes:B)
  (h1:∀i e,l[i]?=some e→i<l.length→f (st i)=some (bif bad (if i=0 then none else l[i-1]?) e then .inr no else .inl (st (i+1)))) (h2:f (st l.length)=some (.inr yes)):
  aA f (st 0)=some (bif y9 bad none l then yes else no):=by
 have key:∀(k i:Nat),i+k=l.length→aA f (st i)=some (bif y9 bad (if i=0 then none else l[i-1]?) (l.drop i)then yes else no):=by
  intro k
  induction k with
  |zero=>
   intro i h;obtain rfl:i=l.length:=by omega
   rw[alZ];exact aB h2
  |succ k ih=>
   intro i h;obtain⟨e,he,hd⟩:=drop_at (l:=l) (i:=i) (by omega);have q:=h1 i e he (by omega);rw[hd];unfold y9;cases hb:bad (if i=0 then none else l[i-1]?) e
   ·rw[hb]at q;have:=ih (i+1) (by omega);rw[if_neg (by omega),Nat.add_sub_cancel,he]at this;rw[aly,alL,←this];exact aD q
   ·rw[hb]at q;exact aB q
 have:=key l.length 0 (by omega);rw[al9]at this;exact this
theorem kV{E:Type}{l:List E}{i:Nat}(hi:i<l.length):i=0∨∃p,0<i∧l[i-1]?=some p∧(i≤9223372036854775807→aS ((i:Int)-1)=((i-1:Nat):Int)):=by
 by_cases h:i=0
 ·exact .inl h
 ·obtain⟨p,hp⟩:=getD_some (l:=l) (i:=i-1) (by omega);exact .inr ⟨p,by omega,hp,fun hb=>by rw[bK (by omega) (by omega)];omega⟩
def leB(a b:ByteArray):Bool:=Op.bytesLess a.toList b.toList||a.toList==b.toList
def FK(p:Option ByteArray)(k:ByteArray):Bool:= !kT k||(match p with|none=>false|some q=>leB k q)
def jK(l:List ByteArray):Bool:=y9 FK none l
theorem Yf(s:ByteArray)(hs:s.size≤big):YO ((s,()),())=some ((kT s,()),()):=by
 unfold YO;exact aR _ (KU s hs) rfl
theorem Rw(l:List ByteArray)(hl:l.length≤big)(hs:∀k∈l,k.size≤big):UU ((l,()),())=some ((jK l,()),()):=by
 have h:=nN (f:=vH) l (fun i=>(((i:Int),l,l,(l.length:Int),()),())) FK (.inl ((false,()),())) (.inr ((),())) ?_ ?_
 ·unfold UU;refine aR _ h ?_;unfold jK;cases y9 FK none l<;>rfl
 ·intro i e he hi;unfold big at hl;have hw:aS ((i:Int)+1)=((i+1:Nat):Int):=aI (by omega);have q:=Yf e (hs e (alb he));rcases kV hi with h0|⟨p,h0,hp,hp1⟩
  ·rw[if_pos h0];have:decide ((i:Int)>0)=false:=akY (by omega);unfold FK;simp only[vH,aK,aF he,eu hi,q,this,au,sS];cases kT e<;>simp only[au,sS,hw,aln]
  ·rw[if_neg (by omega),hp];have:decide ((i:Int)>0)=true:=akW (by omega);unfold FK leB;simp only[vH,aK,aF he,eu hi,q,this,hp1 (by omega),aF hp,au,sS];cases kT e<;>cases Op.bytesLess e.toList p.toList||e.toList==p.toList<;>simp only[au,sS,hw,aln,al5]
 ·simp only[vH,fZ,au,sS]
theorem Y4(l:List ByteArray)(hl:l.length≤big)(hs:∀k∈l,k.size≤big):Y6 ((l,()),())=some ((jK l,()),()):=by
 have h:=nN (f:=uR) l (fun i=>(((i:Int),l,()),())) FK (.inl ((false,()),())) (.inr ((),())) ?_ ?_
 ·unfold Y6;refine aR _ h ?_;unfold jK;cases y9 FK none l<;>rfl
 ·intro i e he hi;unfold big at hl;have hw:aS ((i:Int)+1)=((i+1:Nat):Int):=aI (by omega);have q:=Kv e (hs e (alb he));rcases kV hi with h0|⟨p,h0,hp,hp1⟩
  ·rw[if_pos h0];have:decide ((i:Int)>0)=false:=akY (by omega);unfold FK;simp only[uR,aK,aF he,eu hi,q,this,au,sS];cases kT e<;>simp only[au,sS,hw,aln]
  ·rw[if_neg (by omega),hp];have:decide ((i:Int)>0)=true:=akW (by omega);unfold FK leB;simp only[uR,aK,aF he,eu hi,q,this,hp1 (by omega),aF hp,au,sS];cases kT e<;>cases Op.bytesLess e.toList p.toList||e.toList==p.toList<;>simp only[au,sS,hw,aln,al5]
 ·simp only[uR,fZ,au,sS]
def L8{E:Type}(iN:E→Int):List E→Int
 | []=>0
 |e::r=>bif iN e !=0 then iN e else L8 iN r
theorem Fe{A B E:Type}{f:A→Option (A⊕B)}(l:List E)(st:Nat→A)(iN:E→Int)(no:Int→B)(yes:B)
  (h1:∀i e,l[i]?=some e→i<l.length→f (st i)=some (bif iN e !=0 then .inr (no (iN e))else .inl (st (i+1)))) (h2:f (st l.length)=some (.inr yes)):
  aA f (st 0)=some (bif L8 iN l !=0 then no (L8 iN l)else yes):=by
 have key:∀(k i:Nat),i+k=l.length→aA f (st i)=some (bif L8 iN (l.drop i) !=0 then no (L8 iN (l.drop i))else yes):=by
  intro k
  induction k with
  |zero=>
   intro i h;obtain rfl:i=l.length:=by omega
   rw[alZ];exact aB h2
  |succ k ih=>
   intro i h;obtain⟨e,he,hd⟩:=drop_at (l:=l) (i:=i) (by omega);have q:=h1 i e he (by omega);rw[hd];unfold L8;cases hb:(iN e !=0)
   ·rw[hb]at q;rw[ami,←ih (i+1) (by omega)];exact aD q
   ·rw[hb]at q;rw[cond_true,hb];exact aB q
 have:=key l.length 0 (by omega);rw[al9]at this;exact this
def TSz(r:CF):Prop:=(r.1.length≤big∧∀m∈r.1,T9 m)∧(r.2.1.length≤big∧∀m∈r.2.1,T9 m)∧r.2.2.1.length≤big∧∀k∈r.2.2.1,k.size≤big
def J7(r:CF):Int:=
 bif (r.1.length:Int)==0||(r.2.1.length:Int)==0 then 7
 else bif decide ((r.1.length:Int)>8)||(decide ((r.2.1.length:Int)>8)||decide ((r.2.2.1.length:Int)>12))then 5
 else bif !r.1.all bE||(!r.2.1.all bE|| !jK r.2.2.1)then 8 else 0
def Ct(l:List CF):Int:=bif decide ((l.length:Int)>12)then 5 else L8 J7 l
theorem MG(ms:List MT)(hs:ms.length≤big)(hm:∀m∈ms,T9 m):∃j:Nat,aA vC ((0,ms,(ms.length:Int),()),())=some (bif ms.all bE then .inr ((),())else .inl (((j:Int),()),()))∧
  aA vX ((0,ms,(ms.length:Int),()),())=some (bif ms.all bE then .inr ((),())else .inl (((j:Int),()),())):=by
 have h:=dU (f:=vC) ms (fun i (_:Unit)=>(((i:Int),ms,(ms.length:Int),()),())) (fun i _ e=>bif !bE e then .inr (.inl (((i:Int),()),()))else .inl ()) (fun _=>.inr ((),())) ?_ ?_ ();have g:=dU (f:=vX) ms (fun i (_:Unit)=>(((i:Int),ms,(ms.length:Int),()),())) (fun i _ e=>bif !bE e then .inr (.inl (((i:Int),()),()))else .inl ()) (fun _=>.inr ((),())) ?_ ?_ ()
 ·obtain⟨j,_,hj⟩:=lM (fun e=> !bE e) (fun i:Nat=>(Sum.inl (((i:Int),()),()):((Int×Unit)×Unit)⊕(Unit×Unit))) (.inr ((),())) ms 0
  have hh:(bif (ms.any fun e=> !bE e)then(Sum.inl (((j:Int),()),()):((Int×Unit)×Unit)⊕(Unit×Unit))else .inr ((),()))=(bif ms.all bE then .inr ((),())else .inl (((j:Int),()),())):=by
   rw[Ba];cases ms.all bE<;>rfl
  exact⟨j,h.trans (congrArg some (hj.trans hh)),g.trans (congrArg some (hj.trans hh))⟩
 ·intro i e _ he hi;unfold big at hs;have hw:aS ((i:Int)+1)=((i+1:Nat):Int):=aI (by omega);simp only[vX,aK,aF he,eu hi,JK e (hm e (alb he)),au,sS];cases bE e<;>simp only[au,sS,hw,al2,aly]
 ·intro _;simp only[vX,fZ,au,sS]
 ·intro i e _ he hi;unfold big at hs;have hw:aS ((i:Int)+1)=((i+1:Nat):Int):=aI (by omega);simp only[vC,aK,aF he,eu hi,JK e (hm e (alb he)),au,sS];cases bE e<;>simp only[au,sS,hw,al2,aly]
 ·intro _;simp only[vC,fZ,au,sS]
theorem abh(r:CF)(hr:TSz r):Yp ((r,()),())=some ((J7 r,()),()):=by
 obtain⟨⟨a1,a2⟩,⟨b1,b2⟩,c1,c2⟩:=hr;obtain⟨j,hj,_⟩:=MG r.1 a1 a2;obtain⟨k,_,hk⟩:=MG r.2.1 b1 b2;have q:=Rw r.2.2.1 c1 c2;have hj0:decide ((j:Int)≥0)=true:=akW (by omega);have hk0:decide ((k:Int)≥0)=true:=akW (by omega);unfold Yp J7;cases ((r.1.length:Int)==0)<;>simp only[au,sS,al5,alr,aln,alk];cases ((r.2.1.length:Int)==0)<;>simp only[au,sS,al5,alr,aln,alk];cases decide ((r.1.length:Int)>8)<;>simp only[au,sS,al5,alr,aln,alk];cases decide ((r.2.1.length:Int)>8)<;>simp only[au,sS,al5,alr,aln,alk];cases decide ((r.2.2.1.length:Int)>12)<;>simp only[au,sS,al5,alr,aln,alk];rw[hj,hk];cases r.1.all bE<;>simp only[au,sS,hj0,q,al2,aly,al5,alr,aln,alk];cases r.2.1.all bE<;>simp only[au,sS,hk0,al2,aly,al5,alr,aln,alk];cases jK r.2.2.1<;>simp only[au,sS,al2,aly]
theorem aed(l:List CF)(hl:l.length≤big)(hr:∀r∈l,TSz r):m79 ((l,()),())=some ((Ct l,()),()):=by
 unfold m79 Ct;cases decide ((l.length:Int)>12)
 ·simp only[au,sS];have h:=Fe (f:=Ec) l (fun i=>(((i:Int),l,(l.length:Int),()),())) J7 (fun c=>.inl ((c,()),())) (.inr ((),())) ?_ ?_
  ·refine aR _ h ?_;cases hc:(L8 J7 l !=0)
   ·have:L8 J7 l=0:=by simpa using hc
    rw[this];rfl
   ·rfl
  ·intro i e he hi;unfold big at hl;have hw:aS ((i:Int)+1)=((i+1:Nat):Int):=aI (by omega);simp only[Ec,aK,aF he,eu hi,abh e (hr e (alb he)),au,sS];cases J7 e !=0<;>simp only[au,sS,hw]
  ·simp only[Ec,fZ,au,sS]
 ·simp only[au,sS]
theorem aaL(r:List CF)(hr:RSs r)(l:List lW)(hl:ML l)(x:List LT)(hx:J9 x)(f:List (List LT))(hf:FSs f)(t:Int):Zd ((r,l,x,f,t,()),())=some (((Hq x t l).2||Am r x f,()),()):=by
 unfold Zd;simp only[YG l hl x hx,Yq r hr x hx f hf,au,sS];cases (Hq x t l).2<;>rfl
theorem UI(a b:ByteArray):bl (a++b)=bl a++bl b:=by
 show(a++b).data.toList=_
 rw[ByteArray.data_append,Array.toList_append]
theorem X6(a b:ByteArray):(a++b).size=a.size+b.size:=ByteArray.size_append
theorem jL(a b:List UInt8):bF a++bF b=bF (a++b):=oO (by rw[UI,kN,kN,kN])
theorem adX(s:ByteArray)(b:List UInt8):s++bF b=bF (bl s++b):=oO (by rw[UI,kN,kN])
theorem Xy:ByteArray.empty=bF []:=rfl
theorem VQ{A:Type}{o:Option A}{x:A}(h:∃r,o=some r∧r=x):o=some x:=by
 obtain⟨r,h1,rfl⟩:=h;exact h1
def Cn(p:Option LT)(x:LT):Bool:= !kT x.1||(!vE x.2.1||(x.2.1.toList==ByteArray.empty.toList||(match p with|none=>false|some q=>leB x.1 q.1)))
def bD(l:List LT):Bool:= !decide ((l.length:Int)>12)&&y9 Cn none l
def F8(l:List LT):Prop:=l.length≤big∧∀x∈l,x.1.size≤big∧x.2.1.size≤big
theorem Co(l:List LT)(hl:F8 l):m66 ((l,()),())=some ((bD l,()),()):=by
 unfold m66 bD;cases hc:decide ((l.length:Int)>12)
 ·simp only[au,sS];have h:=nN (f:=Ak) l (fun i=>(((i:Int),l,l,(l.length:Int),()),())) Cn (.inl ((false,()),())) (.inr ((),())) ?_ ?_
  ·refine aR _ h ?_;cases y9 Cn none l<;>rfl
  ·intro i e he hi;have hl1:=hl.1;unfold big at hl1;have hw:aS ((i:Int)+1)=((i+1:Nat):Int):=aI (by omega);obtain⟨z1,z2⟩:=hl.2 e (alb he);have q1:=KU e.1 z1;have q2:=QC e.2.1 z2;rcases kV hi with h0|⟨p,h0,hp,hp1⟩
   ·rw[if_pos h0];have:decide ((i:Int)>0)=false:=akY (by omega);unfold Cn;simp only[Ak,aK,aF he,eu hi,q1,q2,this,au,sS];cases kT e.1<;>cases vE e.2.1<;>cases (e.2.1.toList==ByteArray.empty.toList)<;>simp only[au,sS,hw,aln,al5,alk,alr]
   ·rw[if_neg (by omega),hp];have:decide ((i:Int)>0)=true:=akW (by omega);unfold Cn leB;simp only[Ak,aK,aF he,eu hi,q1,q2,this,hp1 (by omega),aF hp,au,sS];cases kT e.1<;>cases vE e.2.1<;>cases (e.2.1.toList==ByteArray.empty.toList)<;>cases Op.bytesLess e.1.toList p.1.toList||e.1.toList==p.1.toList<;>simp only[au,sS,hw,aln,al5,alk,alr]
  ·simp only[Ak,fZ,au,sS]
 ·simp only[au,sS]
theorem Pz(l:List LT)(hl:F8 l):m57 ((l,()),())=some ((bD l,()),()):=by
 unfold m57 bD;cases hc:decide ((l.length:Int)>12)
 ·simp only[au,sS];have h:=nN (f:=A9) l (fun i=>(((i:Int),l,()),())) Cn (.inl ((false,()),())) (.inr ((),())) ?_ ?_
  ·refine aR _ h ?_;cases y9 Cn none l<;>rfl
  ·intro i e he hi;have hl1:=hl.1;unfold big at hl1;have hw:aS ((i:Int)+1)=((i+1:Nat):Int):=aI (by omega);obtain⟨z1,z2⟩:=hl.2 e (alb he);have q1:=Kv e.1 z1;have q2:=Rp e.2.1 z2;rcases kV hi with h0|⟨p,h0,hp,hp1⟩
   ·rw[if_pos h0];have:decide ((i:Int)>0)=false:=akY (by omega);unfold Cn;simp only[A9,aK,aF he,eu hi,q1,q2,this,au,sS];cases kT e.1<;>cases vE e.2.1<;>cases (e.2.1.toList==ByteArray.empty.toList)<;>simp only[au,sS,hw,aln,al5,alk,alr]
   ·rw[if_neg (by omega),hp];have:decide ((i:Int)>0)=true:=akW (by omega);unfold Cn leB;simp only[A9,aK,aF he,eu hi,q1,q2,this,hp1 (by omega),aF hp,au,sS];cases kT e.1<;>cases vE e.2.1<;>cases (e.2.1.toList==ByteArray.empty.toList)<;>cases Op.bytesLess e.1.toList p.1.toList||e.1.toList==p.1.toList<;>simp only[au,sS,hw,aln,al5,alk,alr]
  ·simp only[A9,fZ,au,sS]
 ·simp only[au,sS]
theorem Ef{E:Type}{bad:Option E→E→Bool}:∀{l:List E} {p:Option E},y9 bad p l=true→∀x∈l,∃q,bad q x=false
 | [],_,_,x,hx=>by cases hx
 |e::r,p,h,x,hx=>by
  unfold y9 at h;rw[alu]at h;rcases alN.1 hx with rfl|hx
  ·exact⟨p,by simpa using h.1⟩
  ·exact Ef h.2 x hx
theorem ZP{q:Option LT}{x:LT}(h:Cn q x=false):kT x.1=true∧vE x.2.1=true∧x.2.1≠ByteArray.empty:=by
 unfold Cn at h;simp only[alW]at h;refine⟨by simpa using h.1,by simpa using h.2.1,fun e=> ?_⟩;rw[e]at h;simp at h
theorem gQ{l:List LT}(h:bD l=true):l.length≤12∧∀x∈l,kT x.1=true∧vE x.2.1=true∧x.2.1≠ByteArray.empty:=by
 unfold bD at h;rw[alu]at h;refine⟨?_,fun x hx=> ?_⟩
 ·have:decide ((l.length:Int)>12)=false:=by simpa using h.1
  have:=am2 this;omega
 ·obtain⟨q,hq⟩:=Ef h.2 x hx;exact ZP hq
theorem zf{s:ByteArray}(h:kT s=true):s.size≤24:=by
 have:=(R7 (s:=bl s) h).2.1
 rwa [aY]at this
theorem sJ{s:ByteArray}(h:vE s=true):s.size≤64:=by
 have h:YK (bl s)=true:=h;unfold YK at h;rw[alu]at h;have:=ali h.2
 rwa [aY]at this
theorem QD:∀(a b:List UInt8),esc (a++b)=esc a++esc b
 | [],b=>rfl
 |c::a,b=>by
  rw[am1];simp only[esc];rw[QD a b];split<;>rfl
theorem FQ(s:ByteArray):(lm s).size≤2*s.size+2:=by
 unfold lm;rw[size_mk];have:=wU s.data.toList;have e:s.data.toList.length=s.size:=aY s;simp;omega
theorem aai(s:ByteArray)(hs:s.size≤1048576):ZT ((s,()),())=some ((lm s,()),()):=by
 have h:=ku (f:=uU) (Q:=fun b=>b=((bF (34::esc (bl s)),()),())) (fun i st=>st=(((i:Int),s,bF (34::esc ((bl s).take i)),()),())) s.size ?_ ?_ _ rfl
 ·obtain⟨b,h1,rfl⟩:=h;unfold ZT;refine aR _ (show aA uU ((0,s,bs [34],()),())=_ from h1) ?_;have hl:=wU (bl s);rw[aY]at hl;have hb:decide ((bF (34::esc (bl s))).size+1≤4294967296)=true:=akW (by rw[size_mk,alI];omega);simp only[hb,au,sS];unfold lm;rw[show bs [34]=bF [34]from rfl,jL];rfl
 ·rintro i _ hi rfl;obtain⟨c,hc⟩:=getD_some (l:=bl s) (i:=i) (by rw[aY];exact hi);have hlt:decide ((i:Int)<(s.size:Int))=true:=akW (by omega);have hbd:decide ((0:Int)≤(i:Int)∧(i:Int)<(s.size:Int))=true:=akW (by omega);have hw:aS ((i:Int)+1)=((i+1:Nat):Int):=aI (by omega);have h0:decide ((0:Int)≤(i:Int))=true:=akW (by omega);have h1:decide ((0:Int)≤((i+1:Nat):Int))=true:=akW (by omega);have h2:decide (i≤i+1∧i+1≤s.size)=true:=akW (by omega)
  have hx:s.extract i (i+1)=bF [c]:=oO (by
   have hcl:i<(bl s).length:=by rw[aY];exact hi
   rw[iL,kN,List.drop_eq_getElem_cons hcl,show i+1-i=1 by omega,List.take_succ_cons,amH];rw[(akX.1 hc).2])
  have htk:(bl s).take (i+1)=(bl s).take i++ [c]:=by rw[am9,hc];rfl
  have hl:=wU ((bl s).take i);rw[alv]at hl;have hsz:∀b:List UInt8,b.length≤2→decide ((bF (34::(esc ((bl s).take i)++b))).size+1≤4294967296)=true:=fun b hb=>akW (by rw[size_mk];simp;omega)
  have hs0:decide ((bF (34::esc ((bl s).take i))).size+1≤4294967296)=true:=by have:=hsz [] (by simp);rwa [alE]at this
  have hs1:(bF [c]).size=1:=rfl
  have hs92:bF (34::esc ((bl s).take i))++bs [92]=bF (34::(esc ((bl s).take i)++ [92])):=by
   rw[show bs [92]=bF [92]from rfl,jL];rfl
  have e34:(u8 c==34)=decide (c=34):=by
   by_cases h:c=34
   ·subst h;rfl
   ·rw[akY h];exact als.2 fun e=>h (UInt8.toNat_inj.1 (by unfold u8 at e;show c.toNat=34;omega))
  have e92:(u8 c==92)=decide (c=92):=by
   by_cases h:c=92
   ·subst h;rfl
   ·rw[akY h];exact als.2 fun e=>h (UInt8.toNat_inj.1 (by unfold u8 at e;show c.toNat=92;omega))
  refine⟨_,?_,rfl⟩;rw[htk,QD];simp only[uU,hlt,hbd,byte_at hc,e34,e92,au,sS];by_cases c34:c=34
  ·have he:esc [c]=[92,c]:=by simp[esc,c34]
   simp only[akW c34,au,sS,hs0,hs92,h0,hw,h1,akZ,h2,hx,hs1,hsz [92] (by simp),jL,he];simp
  ·by_cases c92:c=92
   ·have he:esc [c]=[92,c]:=by simp[esc,c92]
    simp only[akY c34,akW c92,au,sS,hs0,hs92,h0,hw,h1,akZ,h2,hx,hs1,hsz [92] (by simp),jL,he];simp
   ·have he:esc [c]=[c]:=by simp[esc,c34,c92]
    simp only[akY c34,akY c92,au,sS,hs0,h0,hw,h1,akZ,h2,hx,hs1,jL,he];simp
 ·rintro _ rfl;refine⟨_,?_,rfl⟩;have:decide ((s.size:Int)<(s.size:Int))=false:=akY (by omega);simp only[uU,this,au,sS];rw[alP (by rw[aY];exact alj _)]
theorem Cx:∀l:List (List UInt8),Lib.join l [44]=commas l
 | []=>rfl
 | [x]=>Lib.join_one x [44]
 |x::y::l=>by
  rw[Lib.join_cons,um x (by simp),←Cx (y::l),Lib.join_cons];simp[Lib.joinTail]
def bB(x:LT):List UInt8:=item (bl x.1) [61] (bl x.2.1)
def aW(l:List LT):List UInt8:=123::(commas (l.map bB)++ [125])
def zH(l:List LT):ByteArray:=if bD l then bF (aW l)else ByteArray.empty
theorem Kn(x:LT):(x.1++bs [61])++lm x.2.1=bF (bB x):=by
 rw[show bs [61]=bF [61]from rfl,adX];unfold lm bB item;rw[jL];simp[bl]
theorem Mk{x:LT}(h1:kT x.1=true)(h2:vE x.2.1=true):(bB x).length≤160:=by
 have a:=zf h1;have b:=sJ h2;have:=wU (bl x.2.1);rw[aY]at this;unfold bB item;simp[aY];omega
theorem qw{l:List LT}(h:bD l=true)(i:Nat):(commas ((l.map bB).take i)).length≤2000:=by
 obtain⟨h1,h2⟩:=gQ h
 have:=E8 ((l.map bB).take i) 160 (fun x hx=>by
  obtain⟨y,hy,rfl⟩:=amb.1 (List.mem_of_mem_take hx);exact Mk (h2 y hy).1 (h2 y hy).2.1)
 have hl:((l.map bB).take i).length≤12:=by rw[alv,ald];omega
 have:=alq 161 hl;omega
theorem JL(l:List LT)(hl:F8 l):Uh ((l,()),())=some ((zH l,()),()):=by
 unfold Uh zH;simp only[Co l hl,au,sS];cases hv:bD l
 ·simp only[au,sS,alo,if_false]
 ·obtain⟨h1,h2⟩:=gQ hv;simp only[au,sS,if_true];have h:=ku (f:=tL) (Q:=fun b=>b=((),(l.map fun x=>bF (bB x),()))) (fun i st=>st=(((i:Int),l,(l.length:Int),()),((l.take i).map fun x=>bF (bB x),()))) l.length ?_ ?_ _ rfl
  ·obtain⟨b,h3,rfl⟩:=h;refine aR _ (show aA tL ((0,l,(l.length:Int),()),([],()))=_ from h3) ?_
   have hj:sM (l.map fun x=>bF (bB x)) (bs [44])=bF (commas (l.map bB)):=by
    unfold sM;rw[amn];exact congrArg bF (Cx _)
   have hp:=qw hv l.length;rw[alP (by rw[ald];exact alj _)]at hp;have b1:decide (List.length (l.map fun x=>bF (bB x))≤4294967296∧(bF (commas (l.map bB))).size≤140737488355328)=true:=akW (by rw[ald,size_mk];omega);have b2:decide (1+(bF (commas (l.map bB))).size≤4294967296)=true:=akW (by rw[size_mk];omega);have b3:decide ((bF (123::commas (l.map bB))).size+1≤4294967296)=true:=akW (by rw[size_mk,alI];omega);simp only[hj,b1,b2,au,sS];rw[show bs [123]=bF [123]from rfl,jL,show [123]++commas (l.map bB)=123::commas (l.map bB)from rfl,b3,show bs [125]=bF [125]from rfl,jL];rfl
  ·rintro i _ hi rfl;obtain⟨e,he⟩:=getD_some (l:=l) (i:=i) hi;obtain⟨k1,k2,_⟩:=h2 e (alb he);have z1:=zf k1;have z2:=sJ k2;have z3:=FQ e.2.1;have hw:aS ((i:Int)+1)=((i+1:Nat):Int):=aI (by omega);have b1:decide (e.1.size+1≤4294967296)=true:=akW (by omega);have b2:decide (e.2.1.size≤4294967296)=true:=akW (by omega);have b3:decide ((e.1++(bs [61])).size+(lm e.2.1).size≤4294967296)=true:=akW (by rw[X6];show e.1.size+1+_≤_;omega);have b4:decide (((l.take i).map fun x=>bF (bB x)).length+ [bF (bB e)].length≤4294967296)=true:=akW (by simp;omega);refine⟨_,?_,rfl⟩;rw[show l.take (i+1)=l.take i++ [e] by rw[am9,he];rfl,alB];simp only[tL,aK,aF he,eu hi,b1,b2,b3,Kn,b4,hw,au,sS];rfl
  ·rintro _ rfl;refine⟨_,?_,rfl⟩;simp only[tL,fZ,au,sS];rw[alP (alj _)]
theorem Cz:∀(l:List (List UInt8)) (x:List UInt8),l≠ []→commas (l++ [x])=commas l++44::x
 | [],_,h=>absurd rfl h
 | [a],x,_=>rfl
 |a::b::l,x,_=>by
  rw[am1,um a (by simp),Cz (b::l) x (by simp),um a (by simp)];simp
theorem OU(l:List LT)(hl:F8 l):m59 ((l,()),())=some ((zH l,()),()):=by
 unfold m59 zH;simp only[Pz l hl,au,sS];cases hv:bD l
 ·simp only[au,sS,alo,if_false]
 ·obtain⟨h1,h2⟩:=gQ hv;simp only[au,sS,if_true];have h:=ku (f:=wN) (Q:=fun b=>b=((bF (123::commas (l.map bB)),()),())) (fun i st=>st=(((i:Int),l,bF (123::commas ((l.map bB).take i)),()),())) l.length ?_ ?_ _ rfl
  ·obtain⟨b,h3,rfl⟩:=h;refine aR _ (show aA wN ((0,l,bs [123],()),())=_ from h3) ?_;have hp:=qw hv l.length;rw[alP (by rw[ald];exact alj _)]at hp;have b3:decide ((bF (123::commas (l.map bB))).size+1≤4294967296)=true:=akW (by rw[size_mk,alI];omega);simp only[b3,au,sS];rw[show bs [125]=bF [125]from rfl,jL];rfl
  ·rintro i _ hi rfl;obtain⟨e,he⟩:=getD_some (l:=l) (i:=i) hi;obtain⟨k1,k2,_⟩:=h2 e (alb he);have z1:=zf k1;have z2:=sJ k2;have z3:=FQ e.2.1;have q:=aai e.2.1 (by omega);have hp:=qw hv i;have hl2:=Mk k1 k2;have hw:aS ((i:Int)+1)=((i+1:Nat):Int):=aI (by omega);have b1:decide (e.1.size+1≤4294967296)=true:=akW (by omega);have b3:decide ((e.1++(bs [61])).size+(lm e.2.1).size≤4294967296)=true:=akW (by rw[X6];show e.1.size+1+_≤_;omega);have hm:(l.map bB)[i]?=some (bB e):=by rw[ale,he];rfl
   have htk:(l.map bB).take (i+1)=(l.map bB).take i++ [bB e]:=by rw[am9,hm];rfl
   refine⟨_,?_,rfl⟩;rw[htk];by_cases h0:i=0
   ·subst h0;have b5:decide ((bF (123::commas ((l.map bB).take 0))).size+(bF (bB e)).size≤4294967296)=true:=akW (by rw[size_mk,size_mk,alI];omega);have d0:decide (((0:Nat):Int)>0)=false:=rfl;simp only[wN,aK,aF he,eu hi,d0,b1,q,b3,Kn,b5,hw,jL,au,sS];rfl
   ·have d0:decide ((i:Int)>0)=true:=akW (by omega);have b4:decide ((bF (123::commas ((l.map bB).take i))).size+1≤4294967296)=true:=akW (by rw[size_mk,alI];omega)
    have e44:bF (123::commas ((l.map bB).take i))++bs [44]=bF (123::(commas ((l.map bB).take i)++ [44])):=by
     rw[show bs [44]=bF [44]from rfl,jL];rfl
    have b5:decide ((bF (123::(commas ((l.map bB).take i)++ [44]))).size+(bF (bB e)).size≤4294967296)=true:=akW (by rw[size_mk,size_mk,alI,alz];simp;omega)
    have hne:(l.map bB).take i≠ []:=by
     intro h;have:=congrArg List.length h;rw[alv,ald,List.length_nil]at this;omega
    simp only[wN,aK,aF he,eu hi,d0,b4,e44,b1,q,b3,Kn,b5,hw,jL,au,sS];rw[Cz _ _ hne];simp
  ·rintro _ rfl;refine⟨_,?_,rfl⟩;simp only[wN,fZ,au,sS];rw[alP (by rw[ald];exact alj _)]
def iq(ks:List ByteArray)(l:List LT):List LT:=l.filter fun x=>ks.any fun k=>decide (k=x.1)
theorem LX(ks:List ByteArray)(x:List LT):(iq ks x).Sublist x:=List.filter_sublist
theorem Yr(ks:List ByteArray)(s:ByteArray)(hk:ks.length≤big):∃j:Nat,Zv ((ks,s,()),())=some ((bif ks.any (fun k=>decide (k=s))then(j:Int)else -1,()),()):=by
 have h:=dU (f:=zC) ks (fun i (_:Unit)=>(((i:Int),ks,s,(ks.length:Int),()),())) (fun i _ e=>bif decide (e=s)then .inr (.inl (((i:Int),()),()))else .inl ()) (fun _=>.inr ((),())) ?_ ?_ ()
 ·obtain⟨j,_,hj⟩:=lM (fun e=>decide (e=s)) (fun i:Nat=>(Sum.inl (((i:Int),()),()):((Int×Unit)×Unit)⊕(Unit×Unit))) (.inr ((),())) ks 0;refine⟨j,?_⟩;unfold Zv;refine aR _ (h.trans (congrArg some hj)) ?_
  cases ks.any fun k=>decide (k=s)<;>rfl
 ·intro i e _ he hi;unfold big at hk;have hw:aS ((i:Int)+1)=((i+1:Nat):Int):=aI (by omega)
  have hc:(s.toList==e.toList)=decide (e=s):=by
   rw[bA,bA,jY];exact aml.2 ⟨Eq.symm,Eq.symm⟩
  simp only[zC,aK,aF he,eu hi,hc,au,sS];cases decide (e=s)<;>simp only[au,sS,hw]
 ·intro _;simp only[zC,fZ,au,sS]
theorem QZ(ks:List ByteArray)(s:ByteArray)(hk:ks.length≤big):JY ((ks,s,()),())=some ((ks.any (fun k=>decide (k=s)),()),()):=by
 obtain⟨j,h⟩:=Yr ks s hk;unfold JY;refine aR _ h ?_
 cases ks.any fun k=>decide (k=s)
 ·rfl
 ·simp only[cond_true,akW (show(j:Int)≥0 by omega)]
theorem ZK(l:List LT)(ks:List ByteArray)(hl:l.length≤1048576)(hk:ks.length≤big):YM ((l,ks,()),())=some ((),(iq ks l,())):=by
 have h:=ku (f:=u7) (Q:=fun b=>b=((),(iq ks l,()))) (fun i st=>st=(((i:Int),ks,l,(l.length:Int),()),(iq ks (l.take i),()))) l.length ?_ ?_ _ rfl
 ·obtain⟨b,h3,rfl⟩:=h;unfold YM;exact aR _ (show aA u7 ((0,ks,l,(l.length:Int),()),([],()))=_ from h3) rfl
 ·rintro i _ hi rfl;obtain⟨e,he⟩:=getD_some (l:=l) (i:=i) hi;have hw:aS ((i:Int)+1)=((i+1:Nat):Int):=aI (by omega)
  have hlen:(iq ks (l.take i)).length≤i:=by
   have:=amz (fun x:LT=>ks.any fun k=>decide (k=x.1)) (l.take i);rw[alv]at this;unfold iq;omega
  have b1:decide ((iq ks (l.take i)).length+ [e].length≤4294967296)=true:=akW (by simp;omega);refine⟨_,?_,rfl⟩;rw[show l.take (i+1)=l.take i++ [e] by rw[am9,he];rfl,show iq ks (l.take i++ [e])=iq ks (l.take i)++iq ks [e]from amo ..];simp only[u7,aK,aF he,eu hi,QZ ks e.1 hk,au,sS]
  cases hc:ks.any fun k=>decide (k=e.1)
  ·simp only[au,sS,hw];rw[show iq ks [e]=[] by unfold iq;simp[List.filter_cons,hc],alE]
  ·simp only[au,sS,b1,hw];rw[show iq ks [e]=[e] by unfold iq;simp[List.filter_cons,hc]]
 ·rintro _ rfl;refine⟨_,?_,rfl⟩;simp only[u7,fZ,au,sS];rw[alP (alj _)]
theorem aae(l:List LT)(ks:List ByteArray)(hk:ks.length≤big)(n:Nat)(e:LT)(he:l[n]?=some e)(o:List LT)(ho:o.length≤1048576):
  aA zl ((l,ks,(n:Int),0,()),(o,()))=some ((l,ks,(n:Int),()),(o++iq ks [e],())):=by
 have h:=dU (f:=zl) ks (fun i (_:Unit)=>((l,ks,(n:Int),(i:Int),()),(o,()))) (fun i _ k=>bif decide (k=e.1)then .inr ((l,ks,(n:Int),()),(o++ [e],()))else .inl ()) (fun _=>((l,ks,(n:Int),()),(o,()))) ?_ ?_ ()
 ·obtain⟨j,_,hj⟩:=lM (fun k=>decide (k=e.1)) (fun _:Nat=>((l,ks,(n:Int),()),(o++ [e],()))) ((l,ks,(n:Int),()),(o,())) ks 0;refine h.trans (congrArg some (hj.trans ?_));unfold iq
  cases hc:ks.any fun k=>decide (k=e.1)
  ·simp[List.filter_cons,hc]
  ·simp[List.filter_cons,hc]
 ·intro i k _ hki hi;unfold big at hk;have hw:aS ((i:Int)+1)=((i+1:Nat):Int):=aI (by omega);have b1:decide (o.length+ [e].length≤4294967296)=true:=akW (by simp;omega);simp only[zl,aK,aF hki,aF he,eu hi,bA,jY,au,sS];cases decide (k=e.1)<;>simp only[au,sS,b1,hw]
 ·intro _;simp only[zl,fZ,au,sS]
theorem aer(l:List LT)(ks:List ByteArray)(hl:l.length≤1048576)(hk:ks.length≤big):m60 ((l,ks,()),())=some ((),(iq ks l,())):=by
 have h:=ku (f:=zD) (Q:=fun b=>b=((),(iq ks l,()))) (fun i st=>st=(((i:Int),l,ks,()),(iq ks (l.take i),()))) l.length ?_ ?_ _ rfl
 ·obtain⟨b,h3,rfl⟩:=h;unfold m60;exact aR _ (show aA zD ((0,l,ks,()),([],()))=_ from h3) rfl
 ·rintro i _ hi rfl;obtain⟨e,he⟩:=getD_some (l:=l) (i:=i) hi;have hw:aS ((i:Int)+1)=((i+1:Nat):Int):=aI (by omega)
  have hlen:(iq ks (l.take i)).length≤i:=by
   have:=amz (fun x:LT=>ks.any fun k=>decide (k=x.1)) (l.take i);rw[alv]at this;unfold iq;omega
  refine⟨_,?_,rfl⟩;rw[show l.take (i+1)=l.take i++ [e] by rw[am9,he];rfl,show iq ks (l.take i++ [e])=iq ks (l.take i)++iq ks [e]from amo ..];simp only[zD,eu hi,au,sS];refine aR _ (aae l ks hk i e he _ (by omega)) ?_;simp only[hw]
 ·rintro _ rfl;refine⟨_,?_,rfl⟩;simp only[zD,fZ,au,sS];rw[alP (alj _)]
abbrev dw:Type:=Int×List MT×Int×List ByteArray×Int×Int×Int×Bool×Unit
def KW(r:dw):Prop:=(r.2.1.length≤big∧∀m∈r.2.1,T9 m)∧r.2.2.2.1.length≤big∧∀k∈r.2.2.2.1,k.size≤big
def ow(r:dw):Bool:=decide (r.2.2.1<0)||(decide (r.2.2.2.2.1<0)||(decide (r.2.2.2.2.1>r.2.2.2.2.2.1)||(decide (r.2.2.2.2.2.1>r.2.2.2.2.2.2.1)||(decide (r.2.2.2.2.2.2.1>604800)||(r.2.2.2.2.2.2.1==0)))))
def gJ(r:dw):Int:=
 bif decide ((r.2.1.length:Int)>8)||decide ((r.2.2.2.1.length:Int)>12)then 5
 else bif !r.2.1.all bE|| !jK r.2.2.2.1 then 8 else bif ow r then 1 else 0
def lY(i:Nat)(r:dw):Bool:=if i=0 then r.1 != -1 else decide (r.1<0)||decide (r.1≥(i:Int))
def tu(i:Nat)(r:dw):Int:=bif lY i r then 3 else gJ r
def Bn{E:Type}(iN:Nat→E→Int):Nat→List E→Int
 |_,[]=>0
 |i,e::r=>bif iN i e !=0 then iN i e else Bn iN (i+1) r
theorem uL{A B E:Type}{f:A→Option (A⊕B)}(l:List E)(st:Nat→A)(iN:Nat→E→Int)(no:Int→B)(yes:B)
  (h1:∀i e,l[i]?=some e→i<l.length→f (st i)=some (bif iN i e !=0 then .inr (no (iN i e))else .inl (st (i+1)))) (h2:f (st l.length)=some (.inr yes)):
  aA f (st 0)=some (bif Bn iN 0 l !=0 then no (Bn iN 0 l)else yes):=by
 have key:∀(k i:Nat),i+k=l.length→aA f (st i)=some (bif Bn iN i (l.drop i) !=0 then no (Bn iN i (l.drop i))else yes):=by
  intro k
  induction k with
  |zero=>
   intro i h;obtain rfl:i=l.length:=by omega
   rw[alZ];exact aB h2
  |succ k ih=>
   intro i h;obtain⟨e,he,hd⟩:=drop_at (l:=l) (i:=i) (by omega);have q:=h1 i e he (by omega);rw[hd];unfold Bn;cases hb:(iN i e !=0)
   ·rw[hb]at q;rw[ami,←ih (i+1) (by omega)];exact aD q
   ·rw[hb]at q;rw[cond_true,hb];exact aB q
 have:=key l.length 0 (by omega);rw[al9]at this;exact this
theorem uK{E:Type}{iN:Nat→E→Int}:∀{l:List E} {i:Nat},Bn iN i l=0→∀(k:Nat) (e:E),l[k]?=some e→iN (i+k) e=0
 | [],_,_,k,e,h=>by simp at h
 |x::r,i,h,k,e,he=>by
  unfold Bn at h;cases hc:(iN i x !=0)
  ·rw[hc]at h
   cases k with
   |zero=>simp at he;subst he;simpa using hc
   |succ k=>
    have:=uK (i:=i+1) h k e (by simpa using he)
    rwa [show i+1+k=i+(k+1) by omega]at this
  ·rw[hc]at h;simp only[cond_true]at h;rw[h]at hc;cases hc
def kK(l:List dw):Int:=
 bif (l.length:Int)==0 then 7 else bif decide ((l.length:Int)>24)then 5 else bif Bn tu 0 l !=0 then Bn tu 0 l
 else match l[0]? with|some e=>bif decide ((e.2.1.length:Int)>0)then 8 else 0|none=>0
theorem Yy(m:MT)(hm:T9 m):YA ((m,()),())=some ((!bE m,()),()):=by
 unfold YA;exact aR _ (Ru m hm) rfl
theorem Vi(ms:List MT)(hs:ms.length≤big)(hm:∀m∈ms,T9 m):∃j:Nat,aA uw ((0,ms,(ms.length:Int),()),())=some (bif ms.all bE then .inr ((),())else .inl (((j:Int),()),())):=by
 have h:=dU (f:=uw) ms (fun i (_:Unit)=>(((i:Int),ms,(ms.length:Int),()),())) (fun i _ e=>bif !bE e then .inr (.inl (((i:Int),()),()))else .inl ()) (fun _=>.inr ((),())) ?_ ?_ ()
 ·obtain⟨j,_,hj⟩:=lM (fun e=> !bE e) (fun i:Nat=>(Sum.inl (((i:Int),()),()):((Int×Unit)×Unit)⊕(Unit×Unit))) (.inr ((),())) ms 0;refine⟨j,h.trans (congrArg some (hj.trans ?_))⟩;rw[Ba];cases ms.all bE<;>rfl
 ·intro i e _ he hi;unfold big at hs;have hw:aS ((i:Int)+1)=((i+1:Nat):Int):=aI (by omega);simp only[uw,aK,aF he,eu hi,Yy e (hm e (alb he)),au,sS];cases bE e<;>simp only[au,sS,hw,al2,aly]
 ·intro _;simp only[uw,fZ,au,sS]
theorem Nf(i:Nat)(r:dw):(i=0∧lY i r=(r.1 != -1))∨(0<i∧lY i r=(decide (r.1<0)||decide (r.1≥(i:Int)))):=by
 unfold lY;by_cases h:i=0
 ·exact .inl ⟨h,by rw[if_pos h]⟩
 ·exact .inr ⟨by omega,by rw[if_neg h]⟩
theorem ZY(r:dw)(hr:KW r)(i:Nat):Ze ((r,(i:Int),()),())=some ((tu i r,()),()):=by
 obtain⟨⟨a1,a2⟩,c1,c2⟩:=hr;obtain⟨j,hj⟩:=Vi r.2.1 a1 a2;have q:=Rw r.2.2.2.1 c1 c2;have hj0:decide ((j:Int)≥0)=true:=akW (by omega)
 have key:((bif ((i:Int)==0)then(bif ((r.1:Int) !=(-1))then(some ((true,()),((r,()),())))else(bif (decide ((i:Int)>0))then(bif (decide ((r.1:Int)<0))then(some ((true,()),((r,()),())))else(some (((decide ((r.1:Int)≥(i:Int))),()),((r,()),()))))else(some ((false,()),((r,()),())))))
   else(bif (decide ((i:Int)>0))then(bif (decide ((r.1:Int)<0))then(some ((true,()),((r,()),())))else(some (((decide ((r.1:Int)≥(i:Int))),()),((r,()),()))))else(some ((false,()),((r,()),()))))):Option ((Bool×Unit)×((dw×Unit)×Unit)))=some ((lY i r,()),((r,()),())):=by
  rcases Nf i r with⟨rfl,hb⟩|⟨h0,hb⟩
  ·rw[hb,show(((0:Nat):Int)==0)=true from rfl,show decide (((0:Nat):Int)>0)=false from rfl];cases (r.1 != -1)<;>rfl
  ·rw[hb,als.2 (show(i:Int)≠0 by omega),akW (show(i:Int)>0 by omega)];cases decide (r.1<0)<;>cases decide (r.1≥(i:Int))<;>rfl
 unfold Ze;refine aR _ key ?_;unfold tu;cases lY i r<;>simp only[au,sS];unfold gJ;cases decide ((r.2.1.length:Int)>8)<;>simp only[au,sS,al5,alr,aln,alk];cases decide ((r.2.2.2.1.length:Int)>12)<;>simp only[au,sS,al5,alr,aln,alk];rw[hj];cases r.2.1.all bE<;>simp only[au,sS,hj0,q,al2,aly,al5,alr,aln,alk];cases jK r.2.2.2.1<;>simp only[au,sS,al2,aly];unfold ow;cases decide (r.2.2.1<0)<;>simp only[au,sS,al5,alr,aln,alk];cases decide (r.2.2.2.2.1<0)<;>simp only[au,sS,al5,alr,aln,alk];cases decide (r.2.2.2.2.1>r.2.2.2.2.2.1)<;>simp only[au,sS,al5,alr,aln,alk];cases decide (r.2.2.2.2.2.1>r.2.2.2.2.2.2.1)<;>simp only[au,sS,al5,alr,aln,alk];cases decide (r.2.2.2.2.2.2.1>604800)<;>simp only[au,sS,al5,alr,aln,alk];cases (r.2.2.2.2.2.2.1==0)<;>simp only[au,sS]
theorem Zg(r:dw)(hr:KW r):ZB ((r,()),())=some ((gJ r,()),()):=by
 obtain⟨⟨a1,a2⟩,c1,c2⟩:=hr;have q:=Y4 r.2.2.2.1 c1 c2
 have hj:aA ug ((0,()),((r,()),()))=some (bif r.2.1.all bE then .inr ((),((r,()),()))else .inl ((8,()),())):=by
  have h:=dU (f:=ug) r.2.1 (fun i (_:Unit)=>(((i:Int),()),((r,()),()))) (fun i _ e=>bif !bE e then .inr (.inl ((8,()),()))else .inl ()) (fun _=>.inr ((),((r,()),()))) ?_ ?_ ()
  ·obtain⟨j,_,hj⟩:=lM (fun e=> !bE e) (fun _:Nat=>(Sum.inl ((8,()),()):((Int×Unit)×Unit)⊕(Unit×(dw×Unit)×Unit))) (.inr ((),((r,()),()))) r.2.1 0;refine h.trans (congrArg some (hj.trans ?_));rw[Ba];cases r.2.1.all bE<;>rfl
  ·intro i e _ he hi;unfold big at a1;have hw:aS ((i:Int)+1)=((i+1:Nat):Int):=aI (by omega);simp only[ug,aK,aF he,eu hi,aa4 e (a2 e (alb he)),au,sS];cases bE e<;>simp only[au,sS,hw,al2,aly]
  ·intro _;simp only[ug,fZ,au,sS]
 unfold ZB gJ;cases decide ((r.2.1.length:Int)>8)<;>simp only[au,sS,al5,alr,aln,alk];cases decide ((r.2.2.2.1.length:Int)>12)<;>simp only[au,sS,al5,alr,aln,alk];rw[hj];cases r.2.1.all bE<;>simp only[au,sS,q,al2,aly,al5,alr,aln,alk];cases jK r.2.2.2.1<;>simp only[au,sS,al2,aly];unfold ow;cases decide (r.2.2.1<0)<;>simp only[au,sS,al5,alr,aln,alk];cases decide (r.2.2.2.2.1<0)<;>simp only[au,sS,al5,alr,aln,alk];cases decide (r.2.2.2.2.1>r.2.2.2.2.2.1)<;>simp only[au,sS,al5,alr,aln,alk];cases decide (r.2.2.2.2.2.1>r.2.2.2.2.2.2.1)<;>simp only[au,sS,al5,alr,aln,alk];cases decide (r.2.2.2.2.2.2.1>604800)<;>simp only[au,sS,al5,alr,aln,alk];cases (r.2.2.2.2.2.2.1==0)<;>simp only[au,sS]
def Qe(l:List dw):Prop:=l.length≤1048576∧∀r∈l,KW r
theorem JW(l:List dw)(hl:Qe l):m78 ((l,()),())=some ((kK l,()),()):=by
 unfold m78 kK;cases hz:((l.length:Int)==0)
 ·simp only[au,sS];cases decide ((l.length:Int)>24)
  ·simp only[au,sS];have h:=uL (f:=DL) l (fun i=>(((i:Int),l,l,(l.length:Int),()),())) tu (fun c=>.inl ((c,()),())) (.inr ((l,()),())) ?_ ?_
   ·refine aR _ h ?_;cases hc:(Bn tu 0 l !=0)
    ·obtain⟨e,he⟩:=getD_some (l:=l) (i:=0) (by have:=(als.1 hz);omega);rw[he];simp only[ami,au,aK];rw[show sG l 0 _=sG l ((0:Nat):Int) _ from rfl,aF he];cases decide ((e.2.1.length:Int)>0)<;>rfl
    ·rfl
   ·intro i e he hi;have hl1:=hl.1;have hw:aS ((i:Int)+1)=((i+1:Nat):Int):=aI (by omega);simp only[DL,aK,aF he,eu hi,ZY e (hl.2 e (alb he)) i,au,sS];cases tu i e !=0<;>simp only[au,sS,hw]
   ·simp only[DL,fZ,au,sS]
  ·simp only[au,sS]
 ·simp only[au,sS]
theorem Wu(l:List dw)(hl:Qe l):m56 ((l,()),())=some ((kK l,()),()):=by
 unfold m56 kK;cases hz:((l.length:Int)==0)
 ·simp only[au,sS];cases decide ((l.length:Int)>24)
  ·simp only[au,sS];have h:=uL (f:=zo) l (fun i=>(((i:Int),l,()),())) tu (fun c=>.inl ((c,()),())) (.inr ((l,()),())) ?_ ?_
   ·refine aR _ h ?_;cases hc:(Bn tu 0 l !=0)
    ·obtain⟨e,he⟩:=getD_some (l:=l) (i:=0) (by have:=(als.1 hz);omega);rw[he];simp only[ami,au,aK];rw[show sG l 0 _=sG l ((0:Nat):Int) _ from rfl,aF he];cases decide ((e.2.1.length:Int)>0)<;>rfl
    ·rfl
   ·intro i e he hi;have hl1:=hl.1;have hw:aS ((i:Int)+1)=((i+1:Nat):Int):=aI (by omega);have q:=Zg e (hl.2 e (alb he));unfold tu;rcases Nf i e with⟨rfl,hb⟩|⟨h0,hb⟩
    ·rw[hb];simp only[zo,aK,aF he,eu hi,show(((0:Nat):Int)==0)=true from rfl,show decide (((0:Nat):Int)>0)=false from rfl,au,sS];cases (e.1 != -1)
     ·simp only[au,sS,aK,aF he,q];cases gJ e !=0<;>simp only[au,sS,hw]
     ·simp only[au,sS];rfl
    ·rw[hb];simp only[zo,aK,aF he,eu hi,als.2 (show(i:Int)≠0 by omega),akW (show(i:Int)>0 by omega),au,sS];cases decide (e.1<0)<;>simp only[au,sS,alk,alr]
     ·cases decide (e.1≥(i:Int))<;>simp only[au,sS,aK,aF he,q]
      ·cases gJ e !=0<;>simp only[au,sS,hw]
      ·rfl
     ·rfl
   ·simp only[zo,fZ,au,sS]
  ·simp only[au,sS]
 ·simp only[au,sS]
structure IL(l:List dw):Prop where
 pos:0<l.length
 len:l.length≤24
 root:∀r,l[0]?=some r→r.1= -1∧r.2.1=[]
 par:∀(k:Nat) (r:dw),l[k]?=some r→0<k→0≤r.1∧r.1<(k:Int)
 one:∀r∈l,r.2.1.length≤8∧(∀m∈r.2.1,bE m=true)∧jK r.2.2.2.1=true∧r.2.2.2.1.length≤12
theorem adB{r:dw}(h:gJ r=0):r.2.1.length≤8∧(∀m∈r.2.1,bE m=true)∧jK r.2.2.2.1=true∧r.2.2.2.1.length≤12:=by
 unfold gJ at h;cases h1:(decide ((r.2.1.length:Int)>8)||decide ((r.2.2.2.1.length:Int)>12))
 ·rw[h1]at h;simp only[alW]at h1;have a:=am2 h1.1;have b:=am2 h1.2;cases h2:(!r.2.1.all bE|| !jK r.2.2.2.1)
  ·simp only[alW,Bool.not_eq_false']at h2;exact⟨by omega,alF.1 h2.1,h2.2,by omega⟩
  ·rw[h2]at h;cases h
 ·rw[h1]at h;cases h
theorem Qa{l:List dw}(h:kK l=0):IL l:=by
 unfold kK at h;cases h1:((l.length:Int)==0)
 ·rw[h1]at h;cases h2:decide ((l.length:Int)>24)
  ·rw[h2]at h;simp only[ami]at h;cases h3:(Bn tu 0 l !=0)
   ·rw[h3]at h;simp only[ami]at h;have hz:Bn tu 0 l=0:=by simpa using h3
    have all:=uK hz;simp only[alQ]at all;have hpos:0<l.length:=by have:=als.1 h1;omega
    have hone:∀(k:Nat) (e:dw),l[k]?=some e→lY k e=false∧gJ e=0:=by
     intro k e he;have:=all k e he;unfold tu at this;cases hb:lY k e
     ·rw[hb]at this;exact⟨rfl,this⟩
     ·rw[hb]at this;cases this
    refine⟨hpos,by have:=am2 h2;omega,fun r hr=> ?_,fun k r hr h0=> ?_,fun r hr=> ?_⟩
    ·have hb:=(hone 0 r hr).1;unfold lY at hb;rw[if_pos rfl]at hb;rw[hr]at h;simp only at h;refine⟨by simpa using hb,?_⟩;cases hl:decide ((r.2.1.length:Int)>0)
     ·have:=am2 hl;exact am6.1 (by omega)
     ·rw[hl]at h;cases h
    ·have hb:=(hone k r hr).1;unfold lY at hb;rw[if_neg (by omega)]at hb;simp only[alW]at hb;have a:=am2 hb.1;have b:=am2 hb.2;omega
    ·obtain⟨k,hk,rfl⟩:=List.mem_iff_getElem.1 hr;exact adB (hone k _ (alh hk)).2
   ·rw[h3]at h;simp only[cond_true]at h;rw[h]at h3;cases h3
  ·rw[h2]at h;cases h
 ·rw[h1]at h;cases h
theorem IL.psz{l:List dw}(h:IL l){r:dw}(hr:r∈l):PSs r.2.1:=by
 obtain⟨h1,h2,_⟩:=h.one r hr;refine⟨by omega,fun m hm=> ?_⟩;have:=h2 m hm;unfold bE at this;simp only[alu]at this;have:=sJ this.2.2.2;unfold PSz;omega
def xX(l:List dw)(i:Int)(k:Nat):Bool:=match l[k]? with|some r=>r.1==i|none=>false
def y5(l:List dw)(i:Int):List Nat:=(List.range l.length).filter (xX l i)
abbrev ints(l:List Nat):List Int:=l.map fun k:Nat=>(k:Int)
theorem QA{l:List dw}{i:Int}{k:Nat}:k∈y5 l i↔∃r,l[k]?=some r∧r.1=i:=by
 unfold y5 xX;rw[am3,amI];constructor
 ·rintro⟨h1,h2⟩;obtain⟨r,hr⟩:=getD_some h1;rw[hr]at h2;exact⟨r,hr,by simpa using h2⟩
 ·rintro⟨r,hr,rfl⟩;refine⟨(akX.1 hr).1,?_⟩;rw[hr];simp
theorem ru(l:List dw)(i:Int):(y5 l i).Pairwise (· < ·):=List.Pairwise.filter _ (List.pairwise_lt_range)
theorem Ia(p:Nat→Bool)(i:Nat):(List.range (i+1)).filter p=(List.range i).filter p++(if p i then [i]else []):=by
 rw[List.range_succ,amo];cases h:p i<;>simp[List.filter_cons,h]
theorem Zh(l:List dw)(hl:l.length≤1048576)(i:Int):aaN ((l,i,()),())=some ((),(ints (y5 l i),())):=by
 have h:=ku (f:=uV) (Q:=fun b=>b=((),(ints (y5 l i),()))) (fun k st=>st=(((k:Int),i,l,(l.length:Int),()),(ints ((List.range k).filter (xX l i)),()))) l.length ?_ ?_ _ rfl
 ·obtain⟨b,h3,rfl⟩:=h;unfold aaN;exact aR _ (show aA uV ((0,i,l,(l.length:Int),()),([],()))=_ from h3) rfl
 ·rintro k _ hk rfl;obtain⟨e,he⟩:=getD_some (l:=l) (i:=k) hk;have hw:aS ((k:Int)+1)=((k+1:Nat):Int):=aI (by omega)
  have hlen:(ints ((List.range k).filter (xX l i))).length≤k:=by
   have:=amz (xX l i) (List.range k);rw[List.length_range]at this;rw[ald];exact this
  have b1:decide ((ints ((List.range k).filter (xX l i))).length+ [(k:Int)].length≤4294967296)=true:=akW (by simp only[alI,List.length_nil];omega);have hc:xX l i k=(e.1==i):=by unfold xX;rw[he]
  refine⟨_,?_,rfl⟩;rw[Ia,hc];simp only[uV,aK,aF he,eu hk,au,sS];cases (e.1==i)
  ·simp only[au,sS,hw,alo,if_false,alE]
  ·simp only[au,sS,b1,hw,if_true,alB,al3,alJ]
 ·rintro _ rfl;refine⟨_,?_,rfl⟩;simp only[uV,fZ,au,sS];rfl
theorem Z9(l:List dw)(hl:l.length≤1048576)(i:Int):Yj ((l,i,()),())=some ((),(ints (y5 l i),())):=by
 have h:=ku (f:=vD) (Q:=fun b=>b=((),(ints (y5 l i),()))) (fun k st=>st=(((k:Int),i,l,()),(ints ((List.range k).filter (xX l i)),()))) l.length ?_ ?_ _ rfl
 ·obtain⟨b,h3,rfl⟩:=h;unfold Yj;exact aR _ (show aA vD ((0,i,l,()),([],()))=_ from h3) rfl
 ·rintro k _ hk rfl;obtain⟨e,he⟩:=getD_some (l:=l) (i:=k) hk;have hw:aS ((k:Int)+1)=((k+1:Nat):Int):=aI (by omega)
  have hlen:(ints ((List.range k).filter (xX l i))).length≤k:=by
   have:=amz (xX l i) (List.range k);rw[List.length_range]at this;rw[ald];exact this
  have b1:decide ((ints ((List.range k).filter (xX l i))).length+ [(k:Int)].length≤4294967296)=true:=akW (by simp only[alI,List.length_nil];omega);have hc:xX l i k=(e.1==i):=by unfold xX;rw[he]
  refine⟨_,?_,rfl⟩;rw[Ia,hc];simp only[vD,aK,aF he,eu hk,au,sS];cases (e.1==i)
  ·simp only[au,sS,hw,alo,if_false,alE]
  ·simp only[au,sS,b1,hw,if_true,alB,al3,alJ]
 ·rintro _ rfl;refine⟨_,?_,rfl⟩;simp only[vD,fZ,au,sS];rfl
def goC(rec:Nat→List Nat)(l:List dw)(x:List LT):List Nat→List Nat
 | []=> []
 |k::ks=>match l[k]? with
  |none=> []
  |some r=>bif allM r.2.1 x then rec k++(bif r.2.2.2.2.2.2.2.1 then goC rec l x ks else [])else goC rec l x ks
def dx(l:List dw)(x:List LT):Nat→Nat→List Nat
 |0,_=> []
 |n+1,i=>if goC (dx l x n) l x (y5 l (i:Int))=[]then [i]else goC (dx l x n) l x (y5 l (i:Int))
theorem Vh{a:Nat}(h:0<a):2 ^(a-1)+2 ^(a-1)=2 ^ a:=by
 obtain⟨b,rfl⟩:∃b,a=b+1:=⟨a-1,by omega⟩
 rw[Nat.add_sub_cancel,Nat.pow_succ];omega
theorem Rv{rec:Nat→List Nat}{l:List dw}{x:List LT}:∀{ks:List Nat} {j:Nat},ks.Pairwise (· < ·)→(∀k∈ks,j≤k∧k<l.length∧(rec k).length≤2 ^(l.length-k-1))→(goC rec l x ks).length+1≤2 ^(l.length-j)
 | [],j,_,_=>Nat.one_le_two_pow
 |k::ks,j,hp,h=>by
  obtain⟨h1,h2,h3⟩:=h k (amq ..)
  have ih:=Rv (x:=x) (ks:=ks) (j:=k+1) (amx.1 hp).2 (fun y hy=>by
   obtain⟨_,a,b⟩:=h y (amm _ hy);exact⟨(amx.1 hp).1 y hy,a,b⟩)
  have e1:l.length-(k+1)=l.length-k-1:=by omega
  rw[e1]at ih;have e2:=Vh (a:=l.length-k) (by omega);have e3:2 ^(l.length-k)≤2 ^(l.length-j):=Nat.pow_le_pow_right (by omega) (by omega);unfold goC;obtain⟨r,hr⟩:=getD_some h2;rw[hr];simp only;cases allM r.2.1 x
  ·simp only[ami];omega
  ·simp only[cond_true,alz];cases r.2.2.2.2.2.2.2.1
   ·simp only[ami,List.length_nil];have:1≤2 ^(l.length-k-1):=Nat.one_le_two_pow;omega
   ·simp only[cond_true];omega
theorem xP{l:List dw}(h:IL l){i k:Nat}(hk:k∈y5 l (i:Int)):i<k∧k<l.length:=by
 obtain⟨r,hr,hi⟩:=QA.1 hk;have hlt:=(akX.1 hr).1;refine⟨?_,hlt⟩;by_cases h0:k=0
 ·subst h0;have:=(h.root r hr).1;omega
 ·have:=(h.par k r hr (by omega)).2;omega
theorem BN{l:List dw}(h:IL l)(x:List LT):∀(n i:Nat),i<l.length→(dx l x n i).length≤2 ^(l.length-i-1)
 |0,_,_=>alD _
 |n+1,i,hi=>by
  unfold dx
  have:=Rv (rec:=dx l x n) (x:=x) (j:=i+1) (ru l (i:Int)) (fun k hk=>by
   obtain⟨a,b⟩:=xP h hk;exact⟨a,b,BN h x n k b⟩)
  rw[show l.length-(i+1)=l.length-i-1 by omega]at this;split
  ·exact Nat.one_le_two_pow
  ·omega
theorem small{l:List dw}(h:IL l){a:List Nat}(k:Nat)(ha:a.length≤2 ^(l.length-k)):a.length≤16777216:=by
 have:=h.len;have e:2 ^(l.length-k)≤2 ^ 24:=Nat.pow_le_pow_right (by omega) (by omega);have:(2:Nat)^ 24=16777216:=rfl;omega
theorem JU(l:List dw)(hl:IL l)(x:List LT)(hx:J9 x)(n:Nat)(rc:(((List dw)×Int×List LT×Unit)×Unit)→Option (Unit×(List Int×Unit)))
  (hrc:∀k:Nat,k<l.length→l.length-k≤n→rc ((l,(k:Int),x,()),())=some ((),(ints (dx l x n k),()))) (o:Int) (ch:List Nat) (hs:ch.Pairwise (· < ·)) (hc:∀k∈ch,k<l.length∧l.length-k≤n):
  ∀(k i:Nat) (out:List Int),i+k=ch.length→out.length≤16777216*i→aA (oG rc) (((i:Int),o,l,x,((ch.length:Nat):Int),()),(out,(ints ch,())))=some ((o,()),(out++ints (goC (dx l x n) l x (ch.drop i)),())):=by
 have hcl:ch.length≤24:=by
  have:=hl.len
  have:ch.length≤l.length:=by
   have hsub:ch.Sublist (List.range l.length):=by
    have h1:ch=(List.range l.length).filter (fun k=>decide (k∈ch)):=by
     apply List.Perm.eq_of_pairwise (le:=(· < ·)) (fun a b _ _ h1 h2=>absurd h1 (by omega)) hs (List.Pairwise.filter _ List.pairwise_lt_range);refine(List.perm_ext_iff_of_nodup (hs.imp (fun h=>by omega)) ((List.nodup_range).filter _)).2 fun a=> ?_
     rw[am3,amI,alM];exact⟨fun h=>⟨(hc a h).1,h⟩,fun h=>h.2⟩
    rw[h1];exact List.filter_sublist
   have:=hsub.length_le
   rwa [List.length_range]at this
  omega
 intro k
 induction k with
 |zero=>
  intro i out h ho;obtain rfl:i=ch.length:=by omega
  rw[alZ];refine aB ?_;simp only[oG,fZ,au,sS];simp[goC]
 |succ k ih=>
  intro i out h ho;obtain⟨e,he,hd⟩:=drop_at (l:=ch) (i:=i) (by omega);obtain⟨he1,he2⟩:=hc e (alb he);obtain⟨r,hr⟩:=getD_some he1;have hp:=hl.psz (alb hr);have hei:(ints ch)[i]?=some (e:Int):=by rw[ale,he];rfl
  have hb:decide ((0:Int)≤(i:Int)∧(i:Int)<(((ints ch).length:Nat):Int))=true:=akW (by rw[ald];omega);have hlt:decide ((i:Int)<((ch.length:Nat):Int))=true:=akW (by omega);have hw:aS ((i:Int)+1)=((i+1:Nat):Int):=aI (by omega);have hfl:(dx l x n e).length≤16777216:=small hl (e+1) (by have:=BN hl x n e he1;rwa [show l.length-(e+1)=l.length-e-1 by omega]);have hmul:16777216*i≤16777216*24:=Nat.mul_le_mul_left _ (by omega);have hb2:decide (out.length+(ints (dx l x n e)).length≤4294967296)=true:=akW (by rw[ald];omega);rw[hd];unfold goC;rw[hr];simp only;cases hq:allM r.2.1 x
  ·simp only[ami];rw[←ih (i+1) out (by omega) (by omega)];refine aD ?_;simp only[oG,hlt,hb,akZ,hei,aK,aF hr,r9 r.2.1 x hp hx,hq,hw,au,au,sS]
  ·simp only[cond_true];cases hcont:r.2.2.2.2.2.2.2.1
   ·simp only[ami,alE];refine aB ?_;simp only[oG,hlt,hb,akZ,hei,aK,aF hr,r9 r.2.1 x hp hx,hq,hrc e he1 he2,hb2,hcont,au,au,sS]
   ·simp only[cond_true]
    rw[show ints (dx l x n e++goC (dx l x n) l x (ch.drop (i+1)))=ints (dx l x n e)++ints (goC (dx l x n) l x (ch.drop (i+1)))from alB,←al7,
     ←ih (i+1) (out++ints (dx l x n e)) (by omega) (by rw[alz,ald];omega)]
    refine aD ?_;simp only[oG,hlt,hb,akZ,hei,aK,aF hr,r9 r.2.1 x hp hx,hq,hrc e he1 he2,hb2,hcont,hw,au,au,sS]
theorem YE(l:List dw)(hl:IL l)(x:List LT)(hx:J9 x):∀(n i:Nat),i<l.length→l.length-i≤n→Ip n ((l,(i:Int),x,()),())=some ((),(ints (dx l x n i),())):=by
 intro n
 induction n with
 |zero=>intro i h1 h2;omega
 |succ n ih=>
  intro i hi hn;have hlen:=hl.len;have q:=Zh l (by omega) (i:Int)
  have q2:=JU l hl x hx n (Ip n) (fun k h1 h2=>ih k h1 h2) (i:Int) (y5 l (i:Int)) (ru l _) (fun k hk=>by
   obtain⟨a,b⟩:=xP hl hk;exact⟨b,by omega⟩) (y5 l (i:Int)).length 0 [] (by omega) (by simp)
  rw[al9,amD]at q2
  show VS (Ip n) ((l,(i:Int),x,()),())=_
  unfold VS;simp only[q,au,sS];rw[ald];refine aR _ (show aA (oG (Ip n)) ((0,(i:Int),l,x,(((y5 l (i:Int)).length:Nat):Int),()),([],(ints (y5 l (i:Int)),())))=_ from q2) ?_;unfold dx;by_cases h:goC (dx l x n) l x (y5 l (i:Int))=[]
  ·rw[if_pos h,h];rfl
  ·rw[if_neg h]
   have:(((ints (goC (dx l x n) l x (y5 l (i:Int)))).length:Int)==0)=false:=als.2 (by
    rw[ald];intro e;exact h (am6.1 (by omega)))
   simp only[this,au,sS]
theorem aec{l:List dw}(hl:IL l)(i:Int):(y5 l i).length≤24:=by
 have:=amz (xX l i) (List.range l.length);rw[List.length_range]at this;have:=hl.len;unfold y5;omega
theorem JV(l:List dw)(hl:IL l)(x:List LT)(hx:J9 x)(n:Nat)(rc:(((List dw)×Int×List LT×Unit)×Unit)→Option (Unit×(List Int×Unit)))
  (hrc:∀k:Nat,k<l.length→l.length-k≤n→rc ((l,(k:Int),x,()),())=some ((),(ints (dx l x n k),()))) (o:Int) (ch:List Nat) (hcl:ch.length≤24) (hc:∀k∈ch,k<l.length∧l.length-k≤n):
  ∀(k i:Nat) (out:List Int),i+k=ch.length→out.length≤16777216*i→aA (rD rc) (((i:Int),o,l,x,()),(ints ch,(out,())))=some ((o,()),(out++ints (goC (dx l x n) l x (ch.drop i)),())):=by
 intro k
 induction k with
 |zero=>
  intro i out h ho;obtain rfl:i=ch.length:=by omega
  rw[alZ];refine aB ?_;have:decide ((ch.length:Int)<(((ints ch).length:Nat):Int))=false:=akY (by rw[ald];omega);simp only[rD,this,au,sS];simp[goC]
 |succ k ih=>
  intro i out h ho;obtain⟨e,he,hd⟩:=drop_at (l:=ch) (i:=i) (by omega);obtain⟨he1,he2⟩:=hc e (alb he);obtain⟨r,hr⟩:=getD_some he1;have hp:=hl.psz (alb hr);have hei:(ints ch)[i]?=some (e:Int):=by rw[ale,he];rfl
  have hb:decide ((0:Int)≤(i:Int)∧(i:Int)<(((ints ch).length:Nat):Int))=true:=akW (by rw[ald];omega);have hlt:decide ((i:Int)<(((ints ch).length:Nat):Int))=true:=akW (by rw[ald];omega);have hw:aS ((i:Int)+1)=((i+1:Nat):Int):=aI (by omega);have hfl:(dx l x n e).length≤16777216:=small hl (e+1) (by have:=BN hl x n e he1;rwa [show l.length-(e+1)=l.length-e-1 by omega]);have hmul:16777216*i≤16777216*24:=Nat.mul_le_mul_left _ (by omega);have hb2:decide (out.length+(ints (dx l x n e)).length≤4294967296)=true:=akW (by rw[ald];omega);rw[hd];unfold goC;rw[hr];simp only;cases hq:allM r.2.1 x
  ·simp only[ami];rw[←ih (i+1) out (by omega) (by omega)];refine aD ?_;simp only[rD,hlt,hb,akZ,hei,aK,aF hr,K7 r.2.1 x hp hx,hq,hw,au,au,sS]
  ·simp only[cond_true];cases hcont:r.2.2.2.2.2.2.2.1
   ·simp only[ami,alE];refine aB ?_;simp only[rD,hlt,hb,akZ,hei,aK,aF hr,K7 r.2.1 x hp hx,hq,hrc e he1 he2,hb2,hcont,au,au,sS]
   ·simp only[cond_true]
    rw[show ints (dx l x n e++goC (dx l x n) l x (ch.drop (i+1)))=ints (dx l x n e)++ints (goC (dx l x n) l x (ch.drop (i+1)))from alB,←al7,
     ←ih (i+1) (out++ints (dx l x n e)) (by omega) (by rw[alz,ald];omega)]
    refine aD ?_;simp only[rD,hlt,hb,akZ,hei,aK,aF hr,K7 r.2.1 x hp hx,hq,hrc e he1 he2,hb2,hcont,hw,au,au,sS]
theorem aap(l:List dw)(hl:IL l)(x:List LT)(hx:J9 x):∀(n i:Nat),i<l.length→l.length-i≤n→RY n ((l,(i:Int),x,()),())=some ((),(ints (dx l x n i),())):=by
 intro n
 induction n with
 |zero=>intro i h1 h2;omega
 |succ n ih=>
  intro i hi hn;have hlen:=hl.len;have q:=Z9 l (by omega) (i:Int)
  have q2:=JV l hl x hx n (RY n) (fun k h1 h2=>ih k h1 h2) (i:Int) (y5 l (i:Int)) (aec hl _) (fun k hk=>by
   obtain⟨a,b⟩:=xP hl hk;exact⟨b,by omega⟩) (y5 l (i:Int)).length 0 [] (by omega) (by simp)
  rw[al9,amD]at q2
  show adU (RY n) ((l,(i:Int),x,()),())=_
  unfold adU;simp only[q,au,sS];refine aR _ (show aA (rD (RY n)) ((0,(i:Int),l,x,()),(ints (y5 l (i:Int)),([],())))=_ from q2) ?_;unfold dx;by_cases h:goC (dx l x n) l x (y5 l (i:Int))=[]
  ·rw[if_pos h,h];rfl
  ·rw[if_neg h]
   have:(((ints (goC (dx l x n) l x (y5 l (i:Int)))).length:Int)==0)=false:=als.2 (by
    rw[ald];intro e;exact h (am6.1 (by omega)))
   simp only[this,au,sS]
def eT(l:List dw)(x:List LT):List Nat:=if kK l=0∧bD x=true then dx l x 400 0 else []
theorem Eh{x:List LT}(h:bD x=true):J9 x:=by
 obtain⟨h1,h2⟩:=gQ h;exact⟨by omega,fun y hy=>by have:=sJ (h2 y hy).2.1;omega⟩
theorem adG(l:List dw)(hl:Qe l)(x:List LT)(hx:F8 x):m68 ((l,x,()),())=some ((),(ints (eT l x),())):=by
 unfold m68 eT;by_cases h:kK l=0
 ·have hb:(kK l !=0)=false:=by rw[h];rfl
  have hk:=Qa h;simp only[JW l hl,Co x hx,hb,au,sS];cases hv:bD x
  ·simp only[au,sS];rw[if_neg (by simp)];rfl
  ·have q:=YE l hk x (Eh hv) 400 0 hk.pos (by have:=hk.len;omega);simp only[au,sS];rw[if_pos ⟨h,trivial⟩];exact aR _ q rfl
 ·have hb:(kK l !=0)=true:=alY.2 h;simp only[JW l hl,hb,au,sS];rw[if_neg (fun e=>h e.1)];rfl
theorem ade(l:List dw)(hl:Qe l)(x:List LT)(hx:F8 x):m19 ((l,x,()),())=some ((),(ints (eT l x),())):=by
 unfold m19 eT;by_cases h:kK l=0
 ·have hb:(kK l !=0)=false:=by rw[h];rfl
  have hk:=Qa h;simp only[Wu l hl,Pz x hx,hb,au,sS];cases hv:bD x
  ·simp only[au,sS];rw[if_neg (by simp)];rfl
  ·have q:=aap l hk x (Eh hv) 400 0 hk.pos (by have:=hk.len;omega);simp only[au,sS];rw[if_pos ⟨h,trivial⟩];exact aR _ q rfl
 ·have hb:(kK l !=0)=true:=alY.2 h;simp only[Wu l hl,hb,au,sS];rw[if_neg (fun e=>h e.1)];rfl
def iW(l:List dw):Nat→Nat→List Nat
 |0,_=> []
 |n+1,i=>if i=0 then [0]else match l[i]? with|some r=>iW l n r.1.toNat++ [i]|none=> []
def xq(r:dw)(x:List LT):ByteArray:=if bD x then zH (iq r.2.2.2.1 x)else ByteArray.empty
theorem WN{ks:List ByteArray}{x:List LT}(h:F8 x):F8 (iq ks x):=⟨alS (LX ks x).length_le h.1,fun y hy=>h.2 y ((LX ks x).subset hy)⟩
theorem XG(r:dw)(x:List LT)(hx:F8 x)(hr:r.2.2.2.1.length≤big):m69 ((r,x,()),())=some ((xq r x,()),()):=by
 unfold m69 xq;simp only[Co x hx,au,sS];cases hv:bD x
 ·rfl
 ·have:=(gQ hv).1;simp only[ZK x r.2.2.2.1 (by omega) hr,JL _ (WN hx),if_true,au,sS]
theorem Vw(r:dw)(x:List LT)(hx:F8 x)(hr:r.2.2.2.1.length≤big):m20 ((r,x,()),())=some ((xq r x,()),()):=by
 unfold m20 xq;simp only[Pz x hx,au,sS];cases hv:bD x
 ·rfl
 ·have:=(gQ hv).1;simp only[aer x r.2.2.2.1 (by omega) hr,OU _ (WN hx),if_true,au,sS]
theorem Nq:∀{l:List ByteArray} {p:Option ByteArray},(∀k∈l,kT k=true)→l.Pairwise (fun a b=>leB b a=false)→(∀q,p=some q→∀k∈l,leB k q=false)→y9 FK p l=true
 | [],_,_,_,_=>rfl
 |k::l,p,h1,h2,h3=>by
  unfold y9;have h2:=amx.1 h2;rw[Nq (p:=some k) (fun y hy=>h1 y (amm _ hy)) h2.2 (fun q hq y hy=>by cases hq;exact h2.1 y hy),Bool.and_true];unfold FK;rw[h1 k (amq ..)]
  cases p with
  |none=>rfl
  |some q=>simp only;rw[h3 q rfl k (amq ..)];rfl
theorem Ih:fQ.Pairwise (fun a b=>leB b a=false):=by decide+kernel
theorem Ni{l:List ByteArray}(h:l.Sublist fQ):jK l=true:=Nq (fun k hk=>(vZ k (h.subset hk)).1) (Ih.sublist h) (fun q hq=>by cases hq)
theorem Ev:∀{l:List LT} {p:Option LT},(∀x∈l,kT x.1=true∧vE x.2.1=true∧x.2.1≠ByteArray.empty)→(l.map (·.1)).Pairwise (fun a b=>leB b a=false)→(∀q,p=some q→∀x∈l,leB x.1 q.1=false)→y9 Cn p l=true
 | [],_,_,_,_=>rfl
 |x::l,p,h1,h2,h3=>by
  unfold y9;rw[al3]at h2;have h2:=amx.1 h2;rw[Ev (p:=some x) (fun y hy=>h1 y (amm _ hy)) h2.2 (fun q hq y hy=>by cases hq;exact h2.1 y.1 (List.mem_map_of_mem hy)),Bool.and_true];obtain⟨a,b,c⟩:=h1 x (amq ..);unfold Cn;rw[a,b];have c:(x.2.1.toList==ByteArray.empty.toList)=false:=by rw[bA,bA,jY];exact akY c
  rw[c]
  cases p with
  |none=>rfl
  |some q=>simp only;rw[h3 q rfl x (amq ..)];rfl
theorem Ew{l:List LT}(h:ji fQ l):bD l=true:=by
 unfold bD;have h4:=h.1.length_le;rw[ald,show fQ.length=4 from rfl]at h4;rw[akY (by omega),Ev (fun x hx=>⟨(vZ x.1 (h.1.subset (List.mem_map_of_mem hx))).1,(Nk _ (h.2 x hx).1).1,(h.2 x hx).2⟩) (Ih.sublist h.1) (fun q hq=>by cases hq)];rfl
theorem adV{l:List LT}(h:ji fQ l):F8 l:=by
 have g:=Sj h;exact⟨by have:=g.1;unfold big;omega,fun x hx=>by have:=g.2 x hx;unfold big;omega⟩
def IB(r:dw):Prop:=(r.2.1.length≤8∧∀m∈r.2.1,mQ m)∧r.2.2.2.1.Sublist fQ∧ow r=false∧r.2.2.2.2.2.1≤1000∧0≤r.2.2.2.2.2.1∧0≤r.2.2.2.2.2.2.1∧r.2.2.2.2.2.2.1≤10000
theorem IB.z{r:dw}(h:IB r):KW r:=by
 obtain⟨⟨h1,h2⟩,h3,_⟩:=h;have h4:=h3.length_le;rw[show fQ.length=4 from rfl]at h4;exact⟨⟨by unfold big;omega,fun m hm=>(h2 m hm).z⟩,by unfold big;omega,fun k hk=>by have:=(vZ k (h3.subset hk)).2;unfold big;omega⟩
theorem IB.one{r:dw}(h:IB r):gJ r=0:=by
 obtain⟨⟨h1,h2⟩,h3,h4,_⟩:=h;have h5:=h3.length_le;rw[show fQ.length=4 from rfl]at h5;unfold gJ;rw[akY (show¬(r.2.1.length:Int)>8 by omega),akY (show¬(r.2.2.2.1.length:Int)>12 by omega),alF.2 (fun m hm=>(h2 m hm).1),Ni h3,h4];rfl
theorem Vt{E:Type}{iN:Nat→E→Int}:∀{l:List E} {i:Nat},(∀(k:Nat) (e:E),l[k]?=some e→iN (i+k) e=0)→Bn iN i l=0
 | [],_,_=>rfl
 |x::r,i,h=>by
  unfold Bn;have h0:=h 0 x rfl;rw[amB]at h0;rw[h0]
  exact Vt (i:=i+1) fun k e he=>by
   have:=h (k+1) e (by simpa using he)
   rwa [show i+(k+1)=i+1+k by omega]at this
structure sD(l:List dw):Prop where
 pos:0<l.length
 len:l.length≤24
 root:∀r,l[0]?=some r→r.1= -1∧r.2.1=[]
 par:∀(k:Nat) (r:dw),l[k]?=some r→0<k→0≤r.1∧r.1<(k:Int)
 good:∀r∈l,IB r
theorem aeg{l:List dw}(pos:0<l.length)(len:l.length≤24)(root:∀r,l[0]?=some r→r.1= -1∧r.2.1=[])(par:∀(k:Nat) (r:dw),l[k]?=some r→0<k→0≤r.1∧r.1<(k:Int))(one:∀r∈l,gJ r=0):kK l=0:=by
 unfold kK;rw[als.2 (show(l.length:Int)≠0 by omega),akY (show¬(l.length:Int)>24 by omega),Vt (fun k e he=> ?_)]
 ·obtain⟨r,hr⟩:=getD_some pos;rw[hr];simp only[(root r hr).2];rfl
 ·rw[alQ];unfold tu lY
  have:(if k=0 then e.1 != -1 else decide (e.1<0)||decide (e.1≥(k:Int)))=false:=by
   by_cases h0:k=0
   ·subst h0;rw[if_pos rfl,(root e he).1];rfl
   ·rw[if_neg h0];obtain⟨a,b⟩:=par k e he (by omega);rw[akY (by omega),akY (by omega)];rfl
  rw[this];exact one e (alb he)
theorem sD.iN{l:List dw}(h:sD l):kK l=0:=aeg h.pos h.len h.root h.par (fun r hr=>(h.good r hr).one)
theorem sD.z{l:List dw}(h:sD l):Qe l:=⟨by have:=h.len;omega,fun r hr=>(h.good r hr).z⟩
theorem mem3{x a b c:Int}(h:x∈ [a,b,c]):x=a∨x=b∨x=c:=by simpa using h
theorem akk{x a b c d:Int}(h:x∈ [a,b,c,d]):x=a∨x=b∨x=c∨x=d:=by simpa using h
theorem EN(d:iP)(hd:tC d):∃(p w i r:Int) (c:Bool) (by_:List ByteArray) (d':iP),m24 ((),((d,()),()))=some ((),((d',()),(((-1),p,w,i,r,c,()),()),by_,()))∧tC d'∧
  ∀(q:Int) (ms:List MT),(ms.length≤8∧∀m∈ms,mQ m)→IB (q,ms,p,by_,w,i,r,c,()):=by
 obtain⟨a1,d1,e1,hd1,b1⟩:=qG [0,30,10,60] d hd (by simp) (by simp);obtain⟨a2,d2,e2,hd2,b2⟩:=qG [20,300,40] d1 hd1 (by simp) (by simp);obtain⟨a3,d3,e3,hd3,b3,_⟩:=fJ 3 d2 hd2 (by omega);have b3:=b3 (by omega);obtain⟨ks,d4,e4,hd4,hk⟩:=Fa d3 hd3;obtain⟨a5,d5,e5,hd5,b5⟩:=qG [0,3600,100] d4 hd4 (by simp) (by simp);obtain⟨c,d6,e6,hd6⟩:=IU 2 d5 hd5 (by omega) (by omega);have b1:=akk b1;have b2:=mem3 b2;have b5:=mem3 b5;have w1:aS (a1+a2)=a1+a2:=bK (by omega) (by omega);have w2:aS (a1+a2+a5)=a1+a2+a5:=bK (by omega) (by omega);refine⟨a3,a1,a1+a2,a1+a2+a5,c,ks,d6,?_,hd6,fun q ms hms=>⟨hms,hk,?_,?_,?_,?_,?_⟩⟩
 ·unfold m24;simp only[e1,e2,e3,e4,e5,e6,w1,w2,au,sS]
 ·unfold ow;simp only[alW];exact⟨akY (by omega),akY (by omega),akY (by omega),akY (by omega),akY (by omega),als.2 (by omega)⟩
 all_goals simp only;omega
theorem MW:∀(n:Nat) (i:Int) (d:iP) (l:List dw),tC d→i=n→l.length+n≤20→sD l→
  ∃(l':List dw) (d':iP),aA Eb ((i,()),((d,()),(l,())))=some ((),((d',()),(l',())))∧tC d'∧sD l'∧l'.length=l.length+n:=by
 intro n
 induction n with
 |zero=>
  intro i d l hd hi hl hg;refine⟨l,d,aB ?_,hd,hg,rfl⟩;have:decide (i>0)=false:=akY (by omega);simp only[Eb,this,au,sS]
 |succ n ih=>
  intro i d l hd hi hl hg;have hpos:=hg.pos;obtain⟨p,w,t,r,c,ks,d1,e1,hd1,hr⟩:=EN d hd;obtain⟨a,d2,e2,hd2,b2,_⟩:=fJ ((l.length:Nat):Int) d1 hd1 (by omega);have b2:=b2 (by omega);obtain⟨ms,d3,e3,hd3,hn,hm⟩:=qj 2 d2 hd2 (by omega) (by omega);have hgood:=hr a ms ⟨by omega,hm⟩
  obtain⟨l',d',e4,hd',hl',hlen⟩:=ih (i-1) d3 (l++ [(a,ms,p,ks,w,t,r,c,())]) hd3 (by omega) (by simp;omega) ⟨by simp,by simp;omega,fun y hr=>hg.root y (by rwa [alp hpos]at hr),fun k y hr h0=>by
    by_cases hk:k<l.length
    ·rw[alp hk]at hr;exact hg.par k y hr h0
    ·have:k<(l++ [(a,ms,p,ks,w,t,r,c,())]).length:=(akX.1 hr).1;simp at this;obtain rfl:k=l.length:=by omega
     rw[alm (alj _),Nat.sub_self]at hr;simp at hr;subst hr;exact⟨b2.1,b2.2⟩,fun x hx=>by
    rcases alx.1 hx with h|h
    ·exact hg.good x h
    ·simp only[alV]at h;subst h;exact hgood⟩
  refine⟨l',d',?_,hd',hl',by rw[hlen];simp;omega⟩;rw[←e4];refine aD ?_;have h0:decide (i>0)=true:=akW (by omega);have h1:∀z:dw,decide (l.length+([z]:List dw).length≤4294967296)=true:=fun z=>akW (by simp;omega)
  simp only[Eb,h0,e1,e2,e3,h1,au,sS,bK (x:=i-1) (by omega) (by omega)]
theorem MH(n:Int)(d:iP)(hd:tC d)(h0:0≤n)(h1:n≤10):∃(l:List dw) (d':iP),m50 ((n,()),((d,()),()))=some ((),((d',()),(l,())))∧tC d'∧sD l:=by
 obtain⟨p,w,t,r,c,ks,d1,e1,hd1,hr⟩:=EN d hd;obtain⟨a,d2,e2,hd2,b2,_⟩:=fJ (n+1) d1 hd1 (by omega);have b2:=b2 (by omega);have hgood:=hr (-1) [] ⟨by simp,fun m hm=>by cases hm⟩
 obtain⟨l',d',e3,hd',hl',hlen⟩:=MW a.toNat a d2 [((-1),[],p,ks,w,t,r,c,())] hd2 (by omega) (by simp;omega) ⟨by simp,by simp,fun r hr=>by simp at hr;subst hr;exact⟨rfl,rfl⟩,fun k r hr h0=>by
  have:=(akX.1 hr).1;simp at this;omega,fun x hx=>by simp only[alV]at hx;subst hx;exact hgood⟩
 refine⟨l',d',?_,hd',hl'⟩;unfold m50;simp only[e1,bK (x:=n+1) (by omega) (by omega),e2,e3,au,sS]
def Lc(l:List dw)(x:List LT)(k:Nat):Bool:=match l[k]? with|some r=>allM r.2.1 x|none=>false
def cnt(l:List dw)(k:Nat):Bool:=match l[k]? with|some r=>r.2.2.2.2.2.2.2.1|none=>false
inductive Down(l:List dw)(x:List LT):Nat→Nat→Prop where
 |here (i:Nat) (h:∀c∈y5 l (i:Int),Lc l x c=false):Down l x i i
 |step (i k j:Nat) (hk:k∈y5 l (i:Int)) (hm:Lc l x k=true) (hs:∀c∈y5 l (i:Int),c<k→Lc l x c=true→cnt l c=true) (h:Down l x k j):Down l x i j
theorem Jp{rec:Nat→List Nat}{l:List dw}{x:List LT}:∀{ks:List Nat},ks.Pairwise (· < ·)→(∀k∈ks,k<l.length)→∀j∈goC rec l x ks,∃k∈ks,Lc l x k=true∧j∈rec k∧∀c∈ks,c<k→Lc l x c=true→cnt l c=true
 | [],_,_,j,hj=>by cases hj
 |k::ks,hp,hl,j,hj=>by
  obtain⟨r,hr⟩:=getD_some (hl k (amq ..));unfold goC at hj;rw[hr]at hj;simp only at hj;have hp:=amx.1 hp;have hm:Lc l x k=allM r.2.1 x:=by unfold Lc;rw[hr]
  have hc:cnt l k=r.2.2.2.2.2.2.2.1:=by unfold cnt;rw[hr]
  have tail:j∈goC rec l x ks→(Lc l x k=true→cnt l k=true)→∃k'∈k::ks,Lc l x k'=true∧j∈rec k'∧∀c∈k::ks,c<k'→Lc l x c=true→cnt l c=true:=fun h hk=>by
   obtain⟨k',h1,h2,h3,h4⟩:=Jp hp.2 (fun y hy=>hl y (amm _ hy)) j h;refine⟨k',amm _ h1,h2,h3,fun c hcm hlt hmc=> ?_⟩;rcases alN.1 hcm with rfl|hcm
   ·exact hk hmc
   ·exact h4 c hcm hlt hmc
  cases hq:allM r.2.1 x
  ·rw[hq]at hj;exact tail hj (fun h=>by rw[hm,hq]at h;cases h)
  ·rw[hq]at hj;simp only[cond_true]at hj;rcases alx.1 hj with h|h
   ·refine⟨k,amq ..,by rw[hm,hq],h,fun c hcm hlt=> ?_⟩;rcases alN.1 hcm with rfl|hcm
    ·omega
    ·have:=hp.1 c hcm;omega
   ·cases hco:r.2.2.2.2.2.2.2.1
    ·rw[hco]at h;cases h
    ·rw[hco]at h;exact tail h (fun _=>by rw[hc,hco])
theorem Vv(l:List dw)(x:List LT)(n i:Nat):dx l x (n+1) i≠ []:=by
 unfold dx;split
 ·simp
 ·assumption
theorem QM{rec:Nat→List Nat}{l:List dw}{x:List LT}:∀{ks:List Nat},(∀k∈ks,k<l.length∧rec k≠ [])→goC rec l x ks=[]→∀c∈ks,Lc l x c=false
 | [],_,_,c,hc=>by cases hc
 |k::ks,hl,h,c,hc=>by
  obtain⟨r,hr⟩:=getD_some (hl k (amq ..)).1;unfold goC at h;rw[hr]at h;simp only at h;have hm:Lc l x k=allM r.2.1 x:=by unfold Lc;rw[hr]
  cases hq:allM r.2.1 x
  ·rw[hq]at h;rcases alN.1 hc with rfl|hc
   ·rw[hm,hq]
   ·exact QM (fun y hy=>hl y (amm _ hy)) h c hc
  ·rw[hq]at h;simp only[cond_true]at h;exact absurd (List.append_eq_nil_iff.1 h).1 (hl k (amq ..)).2
theorem wO{l:List dw}(hl:IL l)(x:List LT):∀(n i:Nat),l.length-i≤n→i<l.length→∀j∈dx l x n i,Down l x i j
 |0,i,h,hi,j,hj=>by omega
 |n+1,i,h,hi,j,hj=>by
  have hc:∀k∈y5 l (i:Int),k<l.length∧dx l x n k≠ []:=fun k hk=>by
   obtain⟨a,b⟩:=xP hl hk;obtain⟨m,rfl⟩:∃m,n=m+1:=⟨n-1,by omega⟩
   exact⟨b,Vv l x m k⟩
  unfold dx at hj;split at hj
  ·rename_i h0;simp only[alV]at hj;subst hj;exact .here j (QM hc h0)
  ·obtain⟨k,h1,h2,h3,h4⟩:=Jp (ru l _) (fun k hk=>(hc k hk).1) j hj;obtain⟨a,b⟩:=xP hl h1;exact .step i k j h1 h2 h4 (wO hl x n k (by omega) b j h3)
theorem Hy{l:List dw}(hl:IL l):∀(n m i:Nat),i<n→i<m→i<l.length→iW l n i=iW l m i
 |0,_,_,h,_,_=>by omega
 |_+1,0,_,_,h,_=>by omega
 |n+1,m+1,i,hn,hm,hi=>by
  unfold iW;by_cases h0:i=0
  ·rw[if_pos h0,if_pos h0]
  ·rw[if_neg h0,if_neg h0];obtain⟨r,hr⟩:=getD_some hi;obtain⟨p1,p2⟩:=hl.par i r hr (by omega);rw[hr];simp only;rw[Hy hl n m r.1.toNat (by omega) (by omega) (by omega)]
theorem rZ{l:List dw}(hl:IL l){i k:Nat}(hk:k∈y5 l (i:Int)):iW l 400 k=iW l 400 i++ [k]:=by
 obtain⟨a,b⟩:=xP hl hk;obtain⟨r,hr,hi⟩:=QA.1 hk;have hlen:=hl.len;rw[show(400:Nat)=399+1 from rfl]
 conv=>lhs;unfold iW
 rw[if_neg (by omega),hr];simp only;rw[hi,akZ,Hy hl 399 (399+1) i (by omega) (by omega) (by omega)]
def ER(l:List dw)(x:List LT)(p:List Nat):Prop:=
 (∀k∈p,k<l.length∧Lc l x k=true)∧∀(k a b:Nat),p[k]?=some a→p[k+1]?=some b→∀c∈y5 l (a:Int),c<b→Lc l x c=true→cnt l c=true
theorem Hz{l:List dw}(hl:IL l){i:Nat}(hi:i<l.length):∃q,iW l 400 i=q++ [i]:=by
 have hlen:=hl.len;rw[show(400:Nat)=399+1 from rfl];unfold iW;by_cases h0:i=0
 ·rw[if_pos h0,h0];exact⟨[],rfl⟩
 ·rw[if_neg h0];obtain⟨r,hr⟩:=getD_some hi;rw[hr];exact⟨_,rfl⟩
theorem Tp{l:List dw}(hl:IL l){x:List LT}{i j:Nat}(h:Down l x i j):i<l.length→ER l x (iW l 400 i)→∃s,iW l 400 j=iW l 400 i++s∧ER l x (iW l 400 j)∧j<l.length∧∀c∈y5 l (j:Int),Lc l x c=false:=by
 induction h with
 |here i h=>intro hi hp;exact⟨[],by simp,hp,hi,h⟩
 |step i k j hk hm hs h ih=>
  intro hi hp;obtain⟨a,b⟩:=xP hl hk;have e:=rZ hl hk
  have hp2:ER l x (iW l 400 k):=by
   rw[e];refine⟨fun y hy=> ?_,fun n a b ha hb=> ?_⟩
   ·rcases alx.1 hy with h|h
    ·exact hp.1 y h
    ·simp only[alV]at h;subst h;exact⟨by assumption,hm⟩
   ·by_cases hn:n+1<(iW l 400 i).length
    ·rw[alp (by omega)]at ha hb;exact hp.2 n a b ha hb
    ·have hlt:=(akX.1 hb).1;rw[alz,List.length_singleton]at hlt;obtain⟨q,hq⟩:=Hz hl hi;have hl2:(iW l 400 i).length=q.length+1:=by rw[hq];simp
     obtain rfl:n=q.length:=by omega
     rw[alp (by omega),hq,alm (alj _),Nat.sub_self]at ha;rw[alm (by omega),show q.length+1-(iW l 400 i).length=0 by omega]at hb;simp at ha hb;subst ha;subst hb;exact hs
  obtain⟨s,h1,h2,h3,h4⟩:=ih b hp2;exact⟨[k]++s,by rw[h1,e,al7],h2,h3,h4⟩
theorem Tc{l:List dw}(hl:IL l)(x:List LT):ER l x (iW l 400 0):=by
 have e:iW l 400 0=[0]:=rfl;rw[e];refine⟨fun k hk=> ?_,fun k a b ha hb=> ?_⟩
 ·simp only[alV]at hk;subst hk;obtain⟨r,hr⟩:=getD_some hl.pos;refine⟨hl.pos,?_⟩;unfold Lc;rw[hr];simp only[(hl.root r hr).2];rfl
 ·simp at hb
theorem I9{rec:Nat→List Nat}{l:List dw}{x:List LT}:∀{ks:List Nat},ks.Pairwise (· < ·)→(∀k∈ks,k<l.length∧(rec k).Nodup)→(∀k∈ks,∀k'∈ks,∀j,j∈rec k→j∈rec k'→k=k')→(goC rec l x ks).Nodup
 | [],_,_,_=>List.nodup_nil
 |k::ks,hp,hl,hd=>by
  obtain⟨h1,h2⟩:=hl k (amq ..);obtain⟨r,hr⟩:=getD_some h1;have hp:=amx.1 hp;have ih:=I9 (rec:=rec) (l:=l) (x:=x) hp.2 (fun y hy=>hl y (amm _ hy)) (fun a ha b hb=>hd a (amm _ ha) b (amm _ hb));unfold goC;rw[hr];simp only;cases allM r.2.1 x
  ·exact ih
  ·simp only[cond_true];cases r.2.2.2.2.2.2.2.1
   ·simp only[ami,alE];exact h2
   ·simp only[cond_true];refine List.nodup_append.2 ⟨h2,ih,fun a ha b hb e=> ?_⟩;subst e;obtain⟨k',g1,_,g3,_⟩:=Jp hp.2 (fun y hy=>(hl y (amm _ hy)).1) a hb;have:=hd k (amq ..) k' (amm _ g1) a ha g3;have:=hp.1 k' g1;omega
theorem L6{l:List dw}(hl:IL l){x:List LT}{i j:Nat}(h:Down l x i j):∃s,iW l 400 j=iW l 400 i++s:=by
 induction h with
 |here i h=>exact⟨[],by simp⟩
 |step i k j hk hm hs h ih=>
  obtain⟨s,hs⟩:=ih;exact⟨[k]++s,by rw[hs,rZ hl hk,al7]⟩
theorem Dk{l:List dw}(hl:IL l)(x:List LT):∀(n i:Nat),l.length-i≤n→i<l.length→(dx l x n i).Nodup
 |0,_,h,hi=>by omega
 |n+1,i,h,hi=>by
  unfold dx;split
  ·simp
  ·refine I9 (ru l _) (fun k hk=> ?_) (fun k hk k' hk' j hj hj'=> ?_)
   ·obtain⟨a,b⟩:=xP hl hk;exact⟨b,Dk hl x n k (by omega) b⟩
   ·obtain⟨a,b⟩:=xP hl hk;obtain⟨a',b'⟩:=xP hl hk';obtain⟨s,hs⟩:=L6 hl (wO hl x n k (by omega) b j hj);obtain⟨s',hs'⟩:=L6 hl (wO hl x n k' (by omega) b' j hj');rw[rZ hl hk]at hs;rw[rZ hl hk',hs,al7,al7]at hs';have:=List.append_cancel_left hs';simp at this;exact this.1
theorem found{l:List dw}(hl:IL l){x:List LT}{j:Nat}(hj:j∈dx l x 400 0):
  j<l.length∧(∃q,iW l 400 j=0::q)∧(∃q,iW l 400 j=q++ [j])∧ER l x (iW l 400 j)∧∀c∈y5 l (j:Int),Lc l x c=false:=by
 have hlen:=hl.len;obtain⟨s,h1,h2,h3,h4⟩:=Tp hl (wO hl x 400 0 (by omega) hl.pos j hj) hl.pos (Tc hl x);exact⟨h3,⟨s,h1⟩,Hz hl h3,h2,h4⟩
abbrev bS:Type:=ByteArray×List LT×Int×Int×Bool×Bool×Unit
abbrev bG:Type:=Int×ByteArray×List bS×Int×Int×Unit
abbrev aJ(m:bS):ByteArray:=m.1
abbrev cO(m:bS):List LT:=m.2.1
abbrev Gi(m:bS):Int:=m.2.2.1
abbrev oI(m:bS):Int:=m.2.2.2.1
abbrev bV(m:bS):Bool:=m.2.2.2.2.1
abbrev d9(m:bS):Bool:=m.2.2.2.2.2.1
abbrev aM(g:bG):List bS:=g.2.2.1
abbrev dI(g:bG):Int:=g.2.2.2.1
abbrev cu(g:bG):Int:=g.2.2.2.2.1
structure xZ(m:bS):Prop where
 lab:bD (cO m)=true
 key:aJ m=bF (aW (cO m))
 since:0≤Gi m∧Gi m≤8589934592
 heard:0≤oI m∧oI m≤8589934592
 told:bV m=true∨d9 m=false
abbrev Less(a b:ByteArray):Prop:=leB b a=false
structure VG(g:bG):Prop where
 len:(aM g).length≤256
 rt:0≤g.1
 due: -1≤dI g∧dI g≤8589934592
 sent: -1≤cu g∧cu g≤8589934592
 mem:∀m∈aM g,xZ m
 up:((aM g).map aJ).Pairwise Less
theorem oh{l:List LT}(h:bD l=true):F8 l:=by
 obtain⟨h1,h2⟩:=gQ h;refine⟨by unfold big;omega,fun x hx=> ?_⟩;obtain⟨a,b,_⟩:=h2 x hx;have:=zf a;have:=sJ b;unfold big;omega
theorem FM{l:List LT}(h:bD l=true):zH l=bF (aW l):=if_pos h
theorem Ag(a b c:Int):Ez ((a,b,c,()),())=some ((decide (b≤a∧a≤c),()),()):=by
 unfold Ez;by_cases h1:a≥b<;>by_cases h2:a≤c<;>simp[h1,h2]
theorem aau{m:bS}(h:xZ m):Zi ((m,()),())=some ((true,()),()):=by
 have q1:=Co (cO m) (oh h.lab);rw[h.lab]at q1;have q2:=JL (cO m) (oh h.lab);rw[FM h.lab,←h.key]at q2;have d1:decide ((0:Int)≤Gi m∧Gi m≤8589934592)=true:=akW h.since;have d2:decide ((0:Int)≤oI m∧oI m≤8589934592)=true:=akW h.heard;have ht:=h.told;obtain⟨k,l,s,hh,f,t,⟨⟩⟩:=m;dsimp only[aJ,cO,Gi,oI,bV,d9]at q1 q2 d1 d2 ht;unfold Zi;simp only[q1,q2,Ag,d1,d2,au,sS];cases f
 ·have:t=false:=by simpa using ht
  subst this;rfl
 ·rfl
theorem Px{l:List ByteArray}(h:l.Pairwise Less){i:Nat}{a b:ByteArray}(ha:l[i]?=some a)(hb:l[i+1]?=some b):Less a b:=by
 obtain⟨h1,rfl⟩:=akX.1 ha;obtain⟨h2,rfl⟩:=akX.1 hb;exact List.pairwise_iff_getElem.1 h i (i+1) h1 h2 (by omega)
theorem JA{g:bG}(h:VG g):m82 ((g,()),())=some ((true,()),()):=by
 have hlen:=h.len;have d0:decide (((aM g).length:Int)>256)=false:=akY (by omega);have d1:decide (g.1<0)=false:=akY (by have:=h.rt;omega);have d2:decide ((-1:Int)≤dI g∧dI g≤8589934592)=true:=akW h.due;have d3:decide ((-1:Int)≤cu g∧cu g≤8589934592)=true:=akW h.sent
 have hl:aA zw (((0:Int),aM g,((aM g).length:Int),()),((g,()),()))=some (.inr ((),())):=nQ (aM g) (fun i=>(((i:Int),aM g,((aM g).length:Int),()),((g,()),()))) _ (fun i e he hi=>by
  have q:=aau (h.mem e (alb he));have hw:=aI (i:=i) (by omega);obtain⟨rt,ky,ms,du,se,⟨⟩⟩:=g;rcases kV hi with h0|⟨p,h0,hp,hp1⟩
  ·have:decide ((i:Int)>0)=false:=akY (by omega);simp only[zw,eu hi,aK,aF he,q,this,hw,au,sS]
  ·have:decide ((i:Int)>0)=true:=akW (by omega);have hlt:=Px h.up (i:=i-1) (a:=aJ p) (b:=aJ e) (by rw[ale,hp];rfl) (by rw[show i-1+1=i by omega,ale,he];rfl);have hlt:(Op.bytesLess e.1.toList p.1.toList||e.1.toList==p.1.toList)=false:=hlt;simp only[zw,eu hi,aK,aF he,q,this,hp1 (by omega),aF hp,hlt,hw,au,sS]) (by simp only[zw,fZ,au,sS])
 obtain⟨rt,ky,ms,du,se,⟨⟩⟩:=g;dsimp only[aM,dI,cu]at d0 d1 d2 d3 hl;unfold m82;simp only[d0,d1,Ag,d2,d3,au,sS];refine aR _ hl ?_;simp only[au,sS]
theorem isNaN(s:ByteArray):Vr ((s,()),())=some ((false,()),()):=by
 unfold Vr;simp
def Dy(a b:ByteArray):Int:=if Op.bytesLess a.toList b.toList=true then -1 else if leB a b=false then 1 else 0
theorem QX(a b:ByteArray):Xj ((a,b,()),())=some ((Dy a b,()),()):=by
 unfold Xj Dy leB;simp only[isNaN,au,sS];cases Op.bytesLess a.toList b.toList
 ·cases (a.toList==b.toList)<;>rfl
 ·rfl
theorem Jt(m:bS)(k:ByteArray):XP ((m,k,()),())=some ((Dy (aJ m) k,()),()):=by
 unfold XP;simp only[QX,au,sS]
theorem Xp:∀x:List UInt8,Op.bytesLess x x=false
 | []=>rfl
 |a::x=>by
  have:=Xp x;simp[Op.bytesLess,this]
theorem N8:∀{x y z:List UInt8},Op.bytesLess x y=true→Op.bytesLess y z=true→Op.bytesLess x z=true
 |_,[],_,h,_=>by cases ‹List UInt8›<;>simp[Op.bytesLess]at h
 |_,_::_,[],_,h=>by simp[Op.bytesLess]at h
 | [],_::_,_::_,_,_=>by simp[Op.bytesLess]
 |a::x,b::y,c::z,h1,h2=>by
  simp only[Op.bytesLess,amF,alM,alu,beq_iff_eq]at h1 h2 ⊢;rcases h1 with h1|⟨rfl,h1⟩
  ·rcases h2 with h2|⟨rfl,h2⟩
   ·exact .inl (UInt8.lt_trans h1 h2)
   ·exact .inl h1
  ·rcases h2 with h2|⟨rfl,h2⟩
   ·exact .inl h2
   ·exact .inr ⟨rfl,N8 h1 h2⟩
theorem VE:∀(x y:List UInt8),Op.bytesLess x y=true∨x=y∨Op.bytesLess y x=true
 | [],[]=>.inr (.inl rfl)
 | [],_::_=>.inl rfl
 |_::_,[]=>.inr (.inr rfl)
 |a::x,b::y=>by
  simp only[Op.bytesLess,amF,alM,alu,beq_iff_eq];rcases Nat.lt_trichotomy a.toNat b.toNat with h|h|h
  ·exact .inl (.inl (UInt8.lt_iff_toNat_lt.2 h))
  ·have h:=UInt8.toNat_inj.1 h;subst h;rcases VE x y with h|h|h
   ·exact .inl (.inr ⟨rfl,h⟩)
   ·exact .inr (.inl (by rw[h]))
   ·exact .inr (.inr (.inr ⟨rfl,h⟩))
  ·exact .inr (.inr (.inl (UInt8.lt_iff_toNat_lt.2 h)))
abbrev Lt(a b:ByteArray):Prop:=Op.bytesLess a.toList b.toList=true
theorem DX{a b:ByteArray}(h:a.toList=b.toList):a=b:=oO (by rw[←bA,←bA,h])
theorem mg(a:ByteArray):¬ Lt a a:=fun h=>by rw[Lt,Xp]at h;cases h
theorem lt_trans{a b c:ByteArray}(h:Lt a b)(k:Lt b c):Lt a c:=N8 h k
theorem Jr(a b:ByteArray):Lt a b∨a=b∨Lt b a:=by
 rcases VE a.toList b.toList with h|h|h
 ·exact .inl h
 ·exact .inr (.inl (DX h))
 ·exact .inr (.inr h)
theorem gN{a b:ByteArray}:Less a b↔Lt a b:=by
 unfold Less leB;rw[alW];constructor
 ·rintro⟨h1,h2⟩;rcases Jr a b with h|h|h
  ·exact h
  ·subst h;simp at h2
  ·rw[h]at h1;cases h1
 ·intro h;refine⟨?_,?_⟩
  ·cases hc:Op.bytesLess b.toList a.toList
   ·rfl
   ·exact absurd (lt_trans h hc) (mg a)
  ·cases hc:(b.toList==a.toList)
   ·rfl
   ·have:b=a:=DX (by simpa using hc);subst this;exact absurd h (mg b)
theorem Om{a b:ByteArray}:Dy a b<0↔Lt a b:=by
 unfold Dy;by_cases h:Lt a b
 ·rw[if_pos h];exact⟨fun _=>h,fun _=>by omega⟩
 ·rw[if_neg h];constructor
  ·intro h2;split at h2<;>omega
  ·exact fun h2=>absurd h2 h
theorem wK{a b:ByteArray}:Dy a b=0↔a=b:=by
 unfold Dy;by_cases h:Lt a b
 ·rw[if_pos h];exact⟨fun h2=>by omega,fun h2=>by subst h2;exact absurd h (mg a)⟩
 ·rw[if_neg h];by_cases h2:leB a b=false
  ·rw[if_pos h2];have h3:=gN.1 (show Less b a from h2);exact⟨fun h=>by omega,fun h=>by subst h;exact absurd h3 (mg a)⟩
  ·rw[if_neg h2];refine⟨fun _=> ?_,fun _=>rfl⟩;rcases Jr a b with h3|h3|h3
   ·exact absurd h3 h
   ·exact h3
   ·exact absurd (gN.2 h3) h2
theorem half(i j:Nat)(h:i+j≤1000000):aS (AZ .u64 (IntKind.wrap .u64 (aS ((i:Int)+(j:Int)))) 1)=(((i+j)/ 2:Nat):Int):=by
 have h1:aS ((i:Int)+(j:Int))=(i:Int)+(j:Int):=bK (by omega) (by omega);rw[h1]
 have h2:IntKind.wrap .u64 ((i:Int)+(j:Int))=(i:Int)+(j:Int):=by
  have hp:(2:Int)^ IntKind.u64.bits=18446744073709551616:=rfl;simp only[IntKind.wrap,hp,show IntKind.u64.signed=false from rfl,amh,alo,if_false];omega
 rw[h2]
 have h3:AZ .u64 ((i:Int)+(j:Int)) 1=(((i+j)/ 2:Nat):Int):=by
  unfold AZ;rw[show(2:Int)^(min (1:Int).toNat IntKind.u64.bits)=2 from rfl,Int.fdiv_eq_ediv_of_nonneg _ (by omega)];omega
 rw[h3];exact bK (by omega) (by omega)
theorem aem{g:bG}(hlen:(aM g).length≤256)(hup0:((aM g).map aJ).Pairwise Less)(k:ByteArray):∃(i:Nat) (o:Bool),Mf ((g,k,()),())=some (((i:Int),o,()),())∧i≤(aM g).length∧(∀m∈(aM g).take i,Lt (aJ m) k)∧
  (∀m∈(aM g).drop i,¬ Lt (aJ m) k)∧(o=true→∃m,(aM g)[i]?=some m∧aJ m=k)∧(o=false→∀m∈aM g,aJ m≠k):=by
 have hup:=List.pairwise_iff_getElem.1 hup0
 have mono:∀(a b:Nat) (x y:bS),(aM g)[a]?=some x→(aM g)[b]?=some y→a≤b→¬ Lt (aJ x) k→¬ Lt (aJ y) k:=by
  intro a b x y ha hb hab hx hy;by_cases e:a=b
  ·subst e;rw[ha]at hb;injection hb with hb;subst hb;exact hx hy
  ·obtain⟨h1,h1'⟩:=akX.1 ha;obtain⟨h2,h2'⟩:=akX.1 hb;have:=hup a b (by rw[ald];exact h1) (by rw[ald];exact h2) (by omega);rw[List.getElem_map,List.getElem_map,h1',h2']at this;exact hx (lt_trans (gN.1 this) hy)
 have key:∃i:Nat,aA oK ((k,aM g,((aM g).length:Int),0,((aM g).length:Int),()),())=some ((k,(i:Int),aM g,((aM g).length:Int),()),())∧i≤(aM g).length∧
   (∀j m,j<i→(aM g)[j]?=some m→Lt (aJ m) k)∧(∀j m,i≤j→(aM g)[j]?=some m→¬ Lt (aJ m) k):=by
  have go:∀(d lo hi:Nat),hi-lo≤d→lo≤hi→hi≤(aM g).length→(∀j m,j<lo→(aM g)[j]?=some m→Lt (aJ m) k)→(∀j m,hi≤j→(aM g)[j]?=some m→¬ Lt (aJ m) k)→
    ∃i:Nat,aA oK ((k,aM g,(hi:Int),(lo:Int),((aM g).length:Int),()),())=some ((k,(i:Int),aM g,((aM g).length:Int),()),())∧i≤(aM g).length∧
     (∀j m,j<i→(aM g)[j]?=some m→Lt (aJ m) k)∧(∀j m,i≤j→(aM g)[j]?=some m→¬ Lt (aJ m) k):=by
   intro d
   induction d with
   |zero=>
    intro lo hi h0 h1 h2 h3 h4;have:lo=hi:=by omega
    subst this;refine⟨lo,aB ?_,h2,h3,h4⟩;simp only[oK,fZ,au,sS]
   |succ d ih=>
    intro lo hi h0 h1 h2 h3 h4;by_cases hlt:lo<hi
    ·have hm:=half lo hi (by omega);have hmid:(lo+hi)/ 2<(aM g).length:=by omega
     obtain⟨e,he⟩:=getD_some hmid;have dl:decide ((lo:Int)<(hi:Int))=true:=akW (by omega);have d1:decide ((0:Int)≤1)=true:=rfl;have hw:aS ((((lo+hi)/ 2:Nat):Int)+1)=(((lo+hi)/ 2+1:Nat):Int):=aI (by omega);by_cases hc:Lt (aJ e) k
     ·have dc:decide (Dy (aJ e) k<0)=true:=akW (Om.2 hc)
      obtain⟨i,q,r⟩:=ih ((lo+hi)/ 2+1) hi (by omega) (by omega) h2 (fun j m hj hjm=>by
       by_cases hx:Lt (aJ m) k
       ·exact hx
       ·exact absurd hc (mono j _ m e hjm he (by omega) hx)) h4
      refine⟨i,(aD ?_).trans q,r⟩;simp only[oK,dl,d1,hm,aK,aF he,Jt,dc,hw,au,sS]
     ·have dc:decide (Dy (aJ e) k<0)=false:=akY (fun h=>hc (Om.1 h));obtain⟨i,q,r⟩:=ih lo ((lo+hi)/ 2) (by omega) (by omega) (by omega) h3 (fun j m hj hjm=>mono _ j e m he hjm hj hc);refine⟨i,(aD ?_).trans q,r⟩;simp only[oK,dl,d1,hm,aK,aF he,Jt,dc,au,sS]
    ·have:lo=hi:=by omega
     subst this;refine⟨lo,aB ?_,h2,h3,h4⟩;simp only[oK,fZ,au,sS]
  exact go _ 0 _ (alj _) (alD _) (alj _) (fun j m hj=>by omega) (fun j m hj hjm=>by
   have:=(akX.1 hjm).1;omega)
 obtain⟨i,q,h1,h2,h3⟩:=key
 have ht:∀m∈(aM g).take i,Lt (aJ m) k:=fun m hm=>by
  obtain⟨j,hj,rfl⟩:=List.mem_take_iff_getElem.1 hm;exact h2 j _ (by omega) (alh _)
 have hd:∀m∈(aM g).drop i,¬ Lt (aJ m) k:=fun m hm=>by
  obtain⟨j,hj,rfl⟩:=List.mem_drop_iff_getElem.1 hm;exact h3 (i+j) _ (by omega) (alh _)
 have hne:(∀m,(aM g)[i]?=some m→aJ m≠k)→∀m∈aM g,aJ m≠k:=by
  intro hi m hm e;obtain⟨j,hj,rfl⟩:=List.mem_iff_getElem.1 hm;rcases Nat.lt_trichotomy j i with hji|hji|hji
  ·have:=h2 j _ hji (alh hj);rw[e]at this;exact mg _ this
  ·subst hji;exact hi _ (alh hj) e
  ·have hil:i<(aM g).length:=by omega
   have a:=hup i j (by rw[ald];exact hil) (by rw[ald];exact hj) hji;rw[List.getElem_map,List.getElem_map]at a;have b:=h3 i _ (alj _) (alh hil);have c:=gN.1 a;rw[e]at c;exact b c
 by_cases hil:i<(aM g).length
 ·obtain⟨e,he⟩:=getD_some hil;have dl:decide ((i:Int)<((aM g).length:Int))=true:=akW (by omega);refine⟨i,Dy (aJ e) k==0,?_,h1,ht,hd,fun ho=>⟨e,he,wK.1 (by simpa using ho)⟩,fun ho=>hne fun m hm hk=> ?_⟩
  ·unfold Mf;refine aR _ q ?_;simp only[dl,aK,aF he,Jt,au,sS]
  ·rw[he]at hm;injection hm with hm;subst hm;have:=wK.2 hk;rw[this]at ho;cases ho
 ·have dl:decide ((i:Int)<((aM g).length:Int))=false:=akY (by omega);refine⟨i,false,?_,h1,ht,hd,fun ho=>(by cases ho),fun _=>hne fun m hm=> ?_⟩
  ·unfold Mf;refine aR _ q ?_;simp only[dl,au,sS]
  ·have:=(akX.1 hm).1;omega
abbrev Qf:=Int×ByteArray×Int×Int×Unit
def cor(g:bG):Qf:=(g.1,g.2.1,dI g,cu g,())
theorem JJ{g:bG}(h:VG g):OL ((g,()),())=some ((),((cor g,()),(aM g,()))):=by
 have hlen:=h.len;obtain⟨rt,ky,ms,du,se,⟨⟩⟩:=g;dsimp only[aM]at hlen;have d0:decide (ms.length≤4294967296)=true:=akW (by omega)
 have hl:aA zb (((0:Int),(ms.length:Int),()),(((rt,ky,du,se,()),()),(((0,ByteArray.empty,0,0,()),()),(ms,()))))=some ((),(((((0,ByteArray.empty,0,0,()):Qf),()),((((rt,ky,du,se,()):Qf),()),(ms,()))))):=by
  refine nQ ms (fun i=>(((i:Int),(ms.length:Int),()),(((rt,ky,du,se,()),()),(((0,ByteArray.empty,0,0,()),()),(ms,()))))) _ (fun i e he hi=> ?_) (by simp only[zb,fZ,au,sS]);have hw:=aI (i:=i) (by omega);have d2:decide ((0:Int)≤(i:Int)∧(i:Int)<(ms.length:Int))=true:=akW (by omega);have hm:=h.mem e (alb he);have hv:=(gQ hm.lab).1;have d3:decide (e.2.1.length≤4294967296)=true:=akW (by dsimp only[cO]at hv;omega)
  have hset:ms.set i (e.1,e.2.1,e.2.2)=ms:=by
   have:=(akX.1 he).2;rw[←this];exact List.set_getElem_self _
  simp only[zb,eu hi,d2,akZ,he,Ve,d3,hset,hw,au,sS]
 unfold OL;simp only[ac3,d0,au,sS];refine aR _ hl ?_;rfl
theorem aaw(t:Int):Mg ((t,()),())=some (((if t>8589934592 then -1 else t),()),()):=by
 unfold Mg;by_cases h:t>8589934592
 ·simp only[h,if_true,au,sS]
 ·simp only[h,if_false,au,sS]
abbrev inst(t:Int):Bool:=decide (0≤t∧t≤8589934592)
def strip(r:dw):dw:=(-1,[],r.2.2)
def Bv(r:dw):Bool:=gJ (strip r)==0
theorem Z0{r:dw}(h:KW r):KW (strip r):=⟨⟨alD _,fun m hm=>by cases hm⟩,h.2⟩
theorem Pt(r:dw):kK [strip r]=gJ (strip r):=by
 have h1:tu 0 (strip r)=gJ (strip r):=rfl;have h2:(([strip r]:List dw)[0]?)=some (strip r):=rfl;have h3:decide (((strip r).2.1.length:Int)>0)=false:=rfl;unfold kK;simp only[Bn,h1,h2,h3,List.length_singleton];by_cases h:gJ (strip r)=0
 ·rw[h];rfl
 ·rw[alY.2 h];simp only[cond_true];rw[alY.2 h];rfl
theorem Jd(r:dw)(hr:KW r):Ul ((r,()),())=some ((Bv r,()),()):=by
 unfold Ul;refine aR _ (JW [strip r] ⟨by simp,fun x hx=>by simp at hx;subst hx;exact Z0 hr⟩) ?_;rw[Pt];rfl
abbrev dL(r:dw):Int:=r.2.2.2.2.1
abbrev dz(r:dw):Int:=r.2.2.2.2.2.1
abbrev su(r:dw):Int:=r.2.2.2.2.2.2.1
structure RR(r:dw):Prop where
 z:KW r
 ok:Bv r=true
 pol:0≤r.2.2.1
 wait:0≤dL r
 int:dL r≤dz r
 Lg:dz r≤su r
 max:su r≤604800
 pos:su r≠0
theorem ahc{r:dw}(z:KW r)(h:Bv r=true):RR r:=by
 have h0:gJ (strip r)=0:=by unfold Bv at h;simpa using h
 unfold gJ at h0;cases h1:(decide (((strip r).2.1.length:Int)>8)||decide (((strip r).2.2.2.1.length:Int)>12))
 ·rw[h1]at h0;cases h2:(!(strip r).2.1.all bE|| !jK (strip r).2.2.2.1)
  ·rw[h2]at h0;cases h3:ow (strip r)
   ·unfold ow at h3;simp only[alW,amk,als]at h3;obtain⟨a,b,c,d,e,f⟩:=h3;have a:¬ r.2.2.1<0:=a;have b:¬ r.2.2.2.2.1<0:=b;have c:¬ r.2.2.2.2.1>r.2.2.2.2.2.1:=c;have d:¬ r.2.2.2.2.2.1>r.2.2.2.2.2.2.1:=d;have e:¬ r.2.2.2.2.2.2.1>604800:=e;exact⟨z,h,by omega,by unfold dL;omega,by unfold dL dz;omega,by unfold dz su;omega,by unfold su;omega,f⟩
   ·rw[h3]at h0;cases h0
  ·rw[h2]at h0;cases h0
 ·rw[h1]at h0;cases h0
def pos(k:ByteArray):List bS→Nat
 | []=>0
 |m::r=>if Op.bytesLess (aJ m).toList k.toList=true then pos k r+1 else 0
def hit(k:ByteArray)(l:List bS):Bool:=match l[pos k l]? with|some m=>decide (aJ m=k)|none=>false
theorem Qh{k:ByteArray}:∀{l:List bS} {i:Nat},i≤l.length→(∀m∈l.take i,Lt (aJ m) k)→(∀m∈l.drop i,¬ Lt (aJ m) k)→pos k l=i
 | [],i,h,_,_=>by simp at h;subst h;rfl
 |m::r,0,_,_,h=>by
  unfold pos;rw[if_neg (h m (by simp))]
 |m::r,i+1,h0,h1,h2=>by
  unfold pos;rw[if_pos (h1 m (by simp)),Qh (by simpa using h0) (fun x hx=>h1 x (by rw[List.take_succ_cons];exact amm _ hx)) (fun x hx=>h2 x (by simpa using hx))]
theorem O0(k:ByteArray):∀l:List bS,pos k l≤l.length
 | []=>alj _
 |m::r=>by
  unfold pos;have:=O0 k r;split<;>simp<;>omega
theorem Aa{k:ByteArray}:∀{l:List bS},∀m∈l.take (pos k l),Lt (aJ m) k
 | [],m,h=>by simp at h
 |x::r,m,h=>by
  unfold pos at h;split at h
  ·rename_i hx;rw[List.take_succ_cons]at h;rcases alN.1 h with rfl|h
   ·exact hx
   ·exact Aa m h
  ·simp at h
theorem pos_at{k:ByteArray}:∀{l:List bS} {m:bS},l[pos k l]?=some m→¬ Lt (aJ m) k
 | [],m,h=>by simp at h
 |x::r,m,h=>by
  unfold pos at h;split at h
  ·exact pos_at (by simpa using h)
  ·rename_i hx;simp at h;subst h;exact hx
theorem abd{l:List bS}(h:(l.map aJ).Pairwise Less){i:Nat}{e m:bS}(he:l[i]?=some e)(hm:m∈l.drop (i+1)):Less (aJ e) (aJ m):=by
 obtain⟨j,hj,rfl⟩:=List.mem_drop_iff_getElem.1 hm;obtain⟨h1,rfl⟩:=akX.1 he;have:=List.pairwise_iff_getElem.1 h i (i+1+j) (by rw[ald];exact h1) (by rw[ald];omega) (by omega)
 rwa [List.getElem_map,List.getElem_map]at this
theorem EM{k:ByteArray}{l:List bS}(h:(l.map aJ).Pairwise Less)(hh:hit k l=false):∀m∈l.drop (pos k l),Lt k (aJ m):=by
 intro m hm;by_cases hl:pos k l<l.length
 ·obtain⟨e,he,hd⟩:=drop_at hl;have h1:=pos_at he
  have h2:aJ e≠k:=by
   unfold hit at hh;rw[he]at hh;simpa using hh
  have h3:Lt k (aJ e):=by
   rcases Jr (aJ e) k with h|h|h
   ·exact absurd h h1
   ·exact absurd h h2
   ·exact h
  rw[hd]at hm;rcases alN.1 hm with rfl|hm
  ·exact h3
  ·exact lt_trans h3 (gN.1 (abd h he hm))
 ·rw[al6 (by omega)]at hm;cases hm
theorem oz{k:ByteArray}{l:List bS}(h:hit k l=true):∃m,l[pos k l]?=some m∧aJ m=k:=by
 unfold hit at h;split at h
 ·rename_i m hm;exact⟨m,hm,by simpa using h⟩
 ·cases h
theorem NU{g:bG}(hlen:(aM g).length≤256)(hup:((aM g).map aJ).Pairwise Less)(k:ByteArray):Mf ((g,k,()),())=some (((pos k (aM g):Int),hit k (aM g),()),()):=by
 obtain⟨i,o,e,h1,h2,h3,h4,h5⟩:=aem hlen hup k;have hi:=Qh h1 h2 h3
 have ho:hit k (aM g)=o:=by
  unfold hit;rw[hi];cases o
  ·split
   ·rename_i m hm;exact akY (h5 rfl m (alb hm))
   ·rfl
  ·obtain⟨m,hm,hk⟩:=h4 rfl;rw[hm];exact akW hk
 rw[e,hi,ho]
theorem find_eq{g:bG}(h:VG g)(k:ByteArray):Mf ((g,k,()),())=some (((pos k (aM g):Int),hit k (aM g),()),()):=NU h.len h.up k
def Hl(t:Int):Int:=if t>8589934592 then -1 else t
def kR(se wait int t:Int):Int:=if se= -1 then t+wait else if se+int>t then se+int else t
def fF(du se wait int t:Int):Int:=Hl (if du= -1 then kR se wait int t else if du<kR se wait int t then du else kR se wait int t)
theorem oF(t:Int):Mg ((t,()),())=some ((Hl t,()),()):=aaw t
abbrev Az:Qf:=(0,ByteArray.empty,0,0,())
abbrev uZ(g:bG)(d:Int):Qf:=(g.1,g.2.1,d,cu g,())
def qi(m:bS)(t:Int):bS:=(m.1,m.2.1,m.2.2.1,t,m.2.2.2.2)
def stepM(m:bS)(on:Bool)(t:Int):bS:=(m.1,m.2.1,t,oI m,on,on,())
abbrev Lr(g:bG)(r:dw)(t:Int):Int:=fF (dI g) (cu g) (dL r) (dz r) t
def xO(g:bG)(ms:List bS):Int:=if ms.length=0 then -1 else dI g
def fq(g:bG)(r:dw)(l:List LT)(on:Bool)(t:Int):Int×Qf×List bS:=
 let k:=bF (aW l)
 let ms:=aM g
 let i:=pos k ms
 if hit k ms=true then
  match ms[i]? with
  |none=>(0,Az,[])
  |some m=>
   if bV m=on then(0,uZ g (dI g),ms.set i (qi m t))
   else if on=true then(0,uZ g (dI g),ms.set i (stepM (qi m t) true t))
   else if d9 m=true then(0,uZ g (Lr g r t),ms.set i (stepM (qi m t) false t))
   else(0,uZ g (xO g (ms.take i++ms.drop (i+1))),ms.take i++ms.drop (i+1))
 else if on=true then
  if ms.length=256 then(5,Az,[])else(0,uZ g (Lr g r t),ms.take i++ [(k,l,t,t,true,false,())]++ms.drop i)
 else(0,uZ g (xO g ms),ms)
abbrev VU(x:Int×Qf×List bS):Option ((Int×Unit)×((Qf×Unit)×(List bS×Unit))):=some ((x.1,()),((x.2.1,()),(x.2.2,())))
theorem ae5{l:List bS}{i:Nat}{e:bS}(h:l[i]?=some e)(x:bS):(l.set i x)[i]?=some x:=by
 rw[amE (akX.1 h).1]
theorem xG(l:List bS)(i:Nat)(x:bS):(l.set i x).take i=l.take i:=by
 rw[List.take_set,List.set_eq_of_length_le (by rw[alv];omega)]
theorem Gy(l:List bS)(i:Nat)(x:bS):(l.set i x).drop (i+1)=l.drop (i+1):=by
 rw[List.drop_set,if_pos (by omega)]
theorem ahv(l:List bS):(((l.length:Nat):Int)==0)=decide (l.length=0):=by
 rw[dG];exact aml.2 (by omega)
theorem agV{g:bG}(h:VG g){r:dw}(hr:RR r){l:List LT}(hl:bD l=true)(on:Bool){t:Int}(ht:0≤t∧t≤8589934592):
  m73 ((g,r,l,on,t,()),())=VU (fq g r l on t):=by
 have q1:=JA h;have q2:=Jd r hr.z;rw[hr.ok]at q2;have q3:=Co l (oh hl);rw[hl]at q3;have q4:=JL l (oh hl);rw[FM hl]at q4;have q5:=find_eq h (bF (aW l));have q6:=JJ h;have dt:decide ((0:Int)≤t∧t≤8589934592)=true:=akW ht;have hlen:=h.len;have hsent:=h.sent;have hdue:=h.due;have hv:=(gQ hl).1;have hw:=hr.wait;have hi:=hr.int;have hp:=hr.Lg;have hx:=hr.max;have w1:aS (cu g+dz r)=cu g+dz r:=bK (by omega) (by omega);have w2:aS (t+dL r)=t+dL r:=bK (by omega) (by omega);have hple:=O0 (bF (aW l)) (aM g);obtain⟨rt,ky,ms,du,se,⟨⟩⟩:=g;obtain⟨pa,mt,po,gb,wa,ir,rp,co,⟨⟩⟩:=r;dsimp only[aM,dI,cu,dL,dz,su,cor]at *;unfold m73;simp only[q1,q2,q3,q4,q5,q6,Ag,dt,akZ,alU,au,sS];unfold fq;dsimp only[aM,dI,cu,dL,dz,su,uZ,Lr];have hx0:hit (bF (aW l)) ms=match ms[pos (bF (aW l)) ms]? with|some m=>decide (aJ m=(bF (aW l)))|none=>false:=rfl
 generalize pos (bF (aW l)) ms=i at *;cases hh:hit (bF (aW l)) ms
 ·simp only[alo,if_false,au,sS];cases on
  ·have b0:((ms.length:Int)==0)=decide (ms.length=0):=by
    rw[dG];exact aml.2 (by omega)
   simp only[xO,aM,dI,b0,eq_self,alo,if_false,au,sS];by_cases h0:ms.length=0
   ·simp only[h0,eq_self,if_true,au,sS]
   ·simp only[h0,eq_self,if_false,au,sS]
  ·by_cases h6:ms.length=256
   ·have b6:((ms.length:Int)==256)=true:=by rw[dG];exact akW (by omega)
    simp only[b6,eq_self,if_true,au,sS];rw[if_pos h6]
   ·have b6:((ms.length:Int)==256)=false:=by rw[dG];exact akY (by omega)
    have d1:decide (l.length≤4294967296)=true:=akW (by omega);have d2:decide ((0:Int)≤(i:Int)∧(i:Int)≤(ms.length:Int)∧ms.length≤4294967295)=true:=akW (by omega)
    have b0:((((ms.take i++ [(bF (aW l),l,t,t,true,false,())]++ms.drop i).length:Nat):Int)==0)=false:=by
     rw[dG];exact akY (by simp only[alz,List.length_singleton];omega)
    simp only[b6,h6,Ve,d1,d2,List.length_singleton,akZ,eq_self,and_true,if_true,if_false,au,sS];by_cases hs:se= -1<;>by_cases hd:du= -1
    ·subst hs;subst hd;simp only[w1,w2,fF,kR,oF,b0,eq_self,if_true,if_false,au,sS]
    ·subst hs;have bd:(du != -1)=true:=alY.2 hd;simp only[w1,w2,bd,hd,fF,kR,oF,b0,eq_self,if_true,if_false,au,sS]
    ·subst hd;have bs:(se != -1)=true:=alY.2 hs;simp only[w1,w2,bs,hs,fF,kR,oF,b0,eq_self,if_true,if_false,au,sS]
    ·have bd:(du != -1)=true:=alY.2 hd;have bs:(se != -1)=true:=alY.2 hs;simp only[w1,w2,bd,bs,hd,hs,fF,kR,oF,b0,eq_self,if_true,if_false,au,sS]
 ·have hm:∃m,ms[i]?=some m:=by
   by_cases hil:i<ms.length
   ·exact getD_some hil
   ·rw[ama (by omega)]at hx0;exact absurd hh (by rw[hx0];simp)
  obtain⟨m,hm⟩:=hm;have hlt:i<ms.length:=(akX.1 hm).1;have db:decide ((0:Int)≤(i:Int)∧(i:Int)<(ms.length:Int))=true:=akW (by omega);have wi:aS ((i:Int)+1)=((i+1:Nat):Int):=aI (by omega);have dd:decide ((0:Int)≤(i:Int)∧(i:Int)<((i+1:Nat):Int)∧((i+1:Nat):Int)≤(ms.length:Int)∧ms.length≤4294967296)=true:=akW (by omega);have sa:=ae5 hm;have b0:((ms.length:Int)==0)=false:=by rw[dG];exact akY (by omega)
  obtain⟨mk,ml,mn,mh,mf,mt',⟨⟩⟩:=m;simp only[hm,sa,db,List.set_set,alU,akZ,qi,stepM,aJ,cO,oI,bV,d9,eq_self,if_true,au,sS];have ft:(false==true)=false:=rfl;have tf:(true==false)=false:=rfl;cases mf<;>cases on
  ·simp only[b0,alU,eq_self,if_true,au,sS]
  ·simp only[ft,b0,alU,eq_self,if_true,if_false,alo,au,sS]
  ·cases mt'
   ·simp only[tf,wi,dd,xG,Gy,xO,aM,dI,ahv,alU,akZ,eq_self,if_true,if_false,Bool.true_eq_false,alo,au,sS];by_cases h0:(ms.take i++ms.drop (i+1)).length=0
    ·simp only[h0,eq_self,if_true,au,sS]
    ·simp only[h0,eq_self,if_false,au,sS]
   ·simp only[tf,if_true,if_false,Bool.true_eq_false,alo,au,sS];by_cases hs:se= -1<;>by_cases hd:du= -1
    ·subst hs;subst hd;simp only[w1,w2,fF,kR,oF,b0,alU,eq_self,if_true,if_false,au,sS]
    ·subst hs;have bd:(du != -1)=true:=alY.2 hd;simp only[w1,w2,bd,hd,fF,kR,oF,b0,alU,eq_self,if_true,if_false,au,sS]
    ·subst hd;have bs:(se != -1)=true:=alY.2 hs;simp only[w1,w2,bs,hs,fF,kR,oF,b0,alU,eq_self,if_true,if_false,au,sS]
    ·have bd:(du != -1)=true:=alY.2 hd;have bs:(se != -1)=true:=alY.2 hs;simp only[w1,w2,bd,bs,hd,hs,fF,kR,oF,b0,alU,eq_self,if_true,if_false,au,sS]
  ·simp only[b0,alU,eq_self,if_true,au,sS]
end Go.Proofs.YtchnmpafhfjimaaGreatDoor
namespace Go.Proofs.YtchnmpafhfjimaaGreatDoor
open Go Go.Abs Go.Lab
def abe(m:bS)(t a:Int):Bool:=bV m&&decide (oI m≤t-a)
def kE(se wa ir t a:Int):List bS→Int→List bS→List bS×Int
 |kept,du,[]=>(kept,du)
 |kept,du,m::r=>
  if abe m t a=true then
   if d9 m=true then kE se wa ir t a (kept++ [stepM m false t]) (fF du se wa ir t) r
   else kE se wa ir t a kept (if(kept++r).length=0 then -1 else du) r
  else kE se wa ir t a (kept++ [m]) du r
def EA(g:bG)(r:dw)(t a:Int):Int×Qf×List bS:=
 if a=0 then(0,uZ g (dI g),aM g)
 else(0,uZ g (kE (cu g) (dL r) (dz r) t a [] (dI g) (aM g)).2,(kE (cu g) (dL r) (dz r) t a [] (dI g) (aM g)).1)
theorem YZ{A B:List bS}{m:bS}(h:((A++m::B).map aJ).Pairwise Less):pos (aJ m) (A++m::B)=A.length∧hit (aJ m) (A++m::B)=true:=by
 rw[alB,al3,List.pairwise_append]at h;obtain⟨h1,h2,h3⟩:=h;have h2:=amx.1 h2
 have hp:pos (aJ m) (A++m::B)=A.length:=by
  refine Qh (by simp) (fun x hx=> ?_) (fun x hx=> ?_)
  ·rw[List.take_left' rfl]at hx;exact gN.1 (h3 (aJ x) (List.mem_map_of_mem hx) (aJ m) (by simp))
  ·rw[List.drop_left' rfl]at hx;rcases alN.1 hx with rfl|hx
   ·exact mg _
   ·exact fun hc=>mg _ (lt_trans (gN.1 (h2.1 (aJ x) (List.mem_map_of_mem hx))) hc)
 refine⟨hp,?_⟩;unfold hit;rw[hp,alm (alj _),Nat.sub_self];simp
theorem O8(A:List bS)(m:bS)(B:List bS):(A++m::B)[A.length]?=some m:=by
 rw[alm (alj _),Nat.sub_self];rfl
theorem QV(A:List bS)(m x:bS)(B:List bS):(A++m::B).set A.length x=A++x::B:=by
 rw[List.set_append_right _ _ (alj _),Nat.sub_self];rfl
theorem XI(A:List bS)(m:bS)(B:List bS):(A++m::B).take A.length=A:=List.take_left' rfl
theorem Xn(A:List bS)(m:bS)(B:List bS):(A++m::B).drop (A.length+1)=B:=by
 rw[List.drop_append,al6 (by omega),amD];simp
theorem Vs{du se wa ir t:Int}(h1:0≤t∧t≤8589934592)(h2:0≤wa)(h3: -1≤du∧du≤8589934592)(h4: -1≤se)(h5:0≤ir): -1≤fF du se wa ir t∧fF du se wa ir t≤8589934592:=by
 unfold fF kR Hl;split<;>split<;>(repeat' split)<;>omega
theorem OW(rt:Int)(ky:ByteArray)(se t a:Int){r:dw}(hr:RR r)(gms:List bS)(hse: -1≤se∧se≤8589934592)(ht:0≤t∧t≤8589934592)(ha:0≤a∧a≤604800)(hg:gms.length≤256):∀(rem:List bS) (i:Nat) (kept:List bS) (du:Int),gms.drop i=rem→i≤gms.length→
  ((kept++rem).map aJ).Pairwise Less→kept.length≤i→ -1≤du∧du≤8589934592→
  aA qP (((i:Int),t,a,gms,(gms.length:Int),()),(((rt,ky,du,se,()),()),((r,()),((Az,()),(kept++rem,())))))=
   some ((),((Az,()),(((rt,ky,(kE se (dL r) (dz r) t a kept du rem).2,se,()),()),((kE se (dL r) (dz r) t a kept du rem).1,())))):=by
 intro rem
 induction rem with
 |nil=>
  intro i kept du hd hi hup hk hdu
  have:i=gms.length:=by
   have:=congrArg List.length hd;rw[alH]at this;simp at this;omega
  subst this;refine aB ?_;simp only[qP,fZ,kE,alE,au,sS]
 |cons m rem ih=>
  intro i kept du hd hi hup hk hdu
  have hlt:i<gms.length:=by
   have:=congrArg List.length hd;rw[alH]at this;simp at this;omega
  obtain⟨e,he,hd2⟩:=drop_at hlt;rw[hd2]at hd;injection hd with hd0 hd1;subst hd0
  have hrl:rem.length+(i+1)=gms.length:=by
   rw[←hd1,alH];omega
  have hw:=aI (i:=i) (by omega);have hkl:(kept++e::rem).length≤256:=by simp;omega
  obtain⟨hp,hh⟩:=YZ hup;have q:=NU (g:=(rt,ky,kept++e::rem,du,se,())) hkl hup (aJ e);dsimp only[aM]at q;rw[hp,hh]at q;have hup1:((kept++ [e]++rem).map aJ).Pairwise Less:=by rw[al7];exact hup
  have next:=fun x (hx:aJ x=aJ e) du' hdu'=>ih (i+1) (kept++ [x]) du' hd1 (by omega) (by
   rw[al7];rw[alB,alB,al3,alJ,hx];rw[alB,al3]at hup;exact hup) (by simp;omega) hdu'
  have w3:aS (t-a)=t-a:=bK (by omega) (by omega);obtain⟨pa,mt,po,gb,wa,ir,rp,co,⟨⟩⟩:=r;have hwa:=hr.wait;have hir:=hr.int;have hrp:=hr.Lg;have hmx:=hr.max;dsimp only[dL,dz,su]at *;obtain⟨mk,ml,mn,mh,mf,mt',⟨⟩⟩:=e;dsimp only[aJ]at *;unfold kE;by_cases ho:abe (mk,ml,mn,mh,mf,mt',()) t a=true
  ·rw[if_pos ho];unfold abe at ho;dsimp only[bV,oI]at ho;rw[alu]at ho;obtain⟨rfl,ho⟩:=ho;have hkl2:kept.length+(rem.length+1)≤256:=by simpa using hkl
   have db:decide ((0:Int)≤(kept.length:Int)∧(kept.length:Int)<((kept.length+(rem.length+1):Nat):Int))=true:=akW (by omega);have wk:aS ((kept.length:Int)+1)=((kept.length+1:Nat):Int):=aI (by omega);have dd:decide ((0:Int)≤(kept.length:Int)∧(kept.length:Int)<((kept.length+1:Nat):Int)∧((kept.length+1:Nat):Int)≤((kept.length+(rem.length+1):Nat):Int)∧kept.length+(rem.length+1)≤4294967296)=true:=akW (by omega);have tf:(true==false)=false:=rfl;have sl:∀x:bS,(kept++x::rem).length=kept.length+(rem.length+1):=fun x=>by simp
   have sz:((((kept.length+(rem.length+1):Nat):Int))==0)=false:=by rw[dG];exact akY (by omega)
   cases mt'
   ·have n0:(if d9 ((mk,ml,mn,mh,true,false,()):bS)=true then kE se wa ir t a (kept++ [stepM (mk,ml,mn,mh,true,false,()) false t]) (fF du se wa ir t) rem else kE se wa ir t a kept (if(kept++rem).length=0 then -1 else du) rem)=kE se wa ir t a kept (if(kept++rem).length=0 then -1 else du) rem:=rfl;rw[n0]
    have q2:=ih (i+1) kept (if(kept++rem).length=0 then -1 else du) hd1 (by omega) (by
     rw[alB,al3]at hup;rw[alB];exact hup.sublist (List.Sublist.append (List.Sublist.refl _) (List.sublist_cons_self _ _))) (by omega) (by split<;>omega)
    rw[←q2];refine aD ?_;simp only[qP,eu hlt,aK,aF he,q,w3,ho,au,sS];simp only[sl,db,akZ,O8,tf,wk,dd,XI,Xn,ahv,eq_self,au,sS];by_cases h0:(kept++rem).length=0
    ·simp only[h0,hw,eq_self,if_true,au,sS]
    ·simp only[h0,hw,eq_self,if_false,au,sS]
   ·have n0:(if d9 ((mk,ml,mn,mh,true,true,()):bS)=true then kE se wa ir t a (kept++ [stepM (mk,ml,mn,mh,true,true,()) false t]) (fF du se wa ir t) rem else kE se wa ir t a kept (if(kept++rem).length=0 then -1 else du) rem)=kE se wa ir t a (kept++ [stepM (mk,ml,mn,mh,true,true,()) false t]) (fF du se wa ir t) rem:=rfl;rw[n0,←next (stepM (mk,ml,mn,mh,true,true,()) false t) rfl (fF du se wa ir t) (Vs ht hwa hdu hse.1 (by omega)),al7];refine aD ?_;have w1:aS (se+ir)=se+ir:=bK (by omega) (by omega);have w2:aS (t+wa)=t+wa:=bK (by omega) (by omega);simp only[qP,eu hlt,aK,aF he,q,w3,ho,au,sS];simp only[sl,db,akZ,O8,QV,tf,amv,stepM,oI,eq_self,au,sS];by_cases hs:se= -1<;>by_cases hd:du= -1
    ·subst hs;subst hd;simp only[w1,w2,fF,kR,oF,sl,sz,hw,eq_self,if_true,if_false,au,sS]
    ·subst hs;have bd:(du != -1)=true:=alY.2 hd;simp only[w1,w2,bd,hd,fF,kR,oF,sl,sz,hw,eq_self,if_true,if_false,au,sS]
    ·subst hd;have bs:(se != -1)=true:=alY.2 hs;simp only[w1,w2,bs,hs,fF,kR,oF,sl,sz,hw,eq_self,if_true,if_false,au,sS]
    ·have bd:(du != -1)=true:=alY.2 hd;have bs:(se != -1)=true:=alY.2 hs;simp only[w1,w2,bd,bs,hd,hs,fF,kR,oF,sl,sz,hw,eq_self,if_true,if_false,au,sS]
  ·rw[if_neg ho];rw[←next _ rfl du hdu,al7];refine aD ?_;unfold abe at ho;dsimp only[bV,oI]at ho;simp only[qP,eu hlt,aK,aF he,q,w3,au,sS];cases mf
   ·simp only[hw,amv,au,sS]
   ·have:decide (mh≤t-a)=false:=by simpa using ho
    simp only[this,hw,amv,au,sS]
theorem ahw{g:bG}(h:VG g){r:dw}(hr:RR r){t a:Int}(ht:0≤t∧t≤8589934592)(ha:0≤a∧a≤604800):Y0 ((g,r,t,a,()),())=VU (EA g r t a):=by
 have q1:=JA h;have q2:=Jd r hr.z;rw[hr.ok]at q2;have q6:=JJ h;have dt:decide ((0:Int)≤t∧t≤8589934592)=true:=akW ht;have da:decide ((0:Int)≤a∧a≤604800)=true:=akW ha;have hl:=OW g.1 g.2.1 (cu g) t a hr (aM g) h.sent ht ha h.len (aM g) 0 [] (dI g) rfl (alD _) h.up (alD _) h.due;obtain⟨rt,ky,ms,du,se,⟨⟩⟩:=g;dsimp only[aM,dI,cu,cor]at *;unfold Y0 EA;simp only[q1,q2,q6,Ag,dt,da,au,sS];by_cases h0:a=0
 ·subst h0;simp only[eq_self,if_true,amg,au,sS]
 ·have b0:(a==0)=false:=als.2 h0;rw[if_neg h0,b0];simp only[au,sS];exact aR _ hl rfl
abbrev U5:=Int×Int×Int×ByteArray×Unit
abbrev qD:U5:=(0,0,0,ByteArray.empty,())
def Dz(mu:List ByteArray)(k:ByteArray):Bool:=mu.any fun x=>decide (x=k)
def fe(mu:List ByteArray)(ms:List bS):List ByteArray:=(ms.filter fun m=> !Dz mu (aJ m)&&bV m).map aJ
def jk(mu:List ByteArray)(ms:List bS):List ByteArray:=(ms.filter fun m=> !Dz mu (aJ m)&& !bV m).map aJ
def D7(mu:List ByteArray)(ms:List bS):Bool:=ms.any fun m=> !Dz mu (aJ m)&&(bV m&& !d9 m)
def kP(F:List ByteArray)(m:bS):bS:=(m.1,m.2.1,m.2.2.1,m.2.2.2.1,m.2.2.2.2.1,d9 m||Dz F (aJ m),())
def qM(F R:List ByteArray)(ms:List bS):List bS:=(ms.filter fun m=> !Dz R (aJ m)).map (kP F)
def EG(ms:List bS):Bool:=ms.any fun m=> !d9 m
def Gu(se Lg t:Int)(F:List ByteArray):Bool:=decide (0<F.length)&&(se != -1)&&decide (se+Lg≤t)
def Dx(se Lg t:Int)(mu:List ByteArray)(ms:List bS):Bool:=D7 mu ms||Gu se Lg t (fe mu ms)||decide (0<(jk mu ms).length)
def mV(se int Lg t:Int)(o:Bool):Int:=Hl (max (if o=true∨se+Lg≤t then t+int else se+Lg) (t+1))
abbrev LkT:=Bool×Qf×U5×List bS×List ByteArray×List ByteArray
def mW(g:bG)(r:dw)(t:Int)(mu:List ByteArray):LkT:=
 if dI g= -1∨dI g>t then(false,uZ g (dI g),qD,aM g,[],[])
 else
  let F:=fe mu (aM g)
  let R:=jk mu (aM g)
  if Dx (cu g) (su r) t mu (aM g)=true then
   (true,(g.1,g.2.1,(if(qM F R (aM g)).length=0 then -1 else mV t (dz r) (su r) t (EG (qM F R (aM g)))),t,()),(t,g.1,r.2.2.1,g.2.1,()),qM F R (aM g),F,R)
  else(false,uZ g (if(aM g).length=0 then -1 else mV (cu g) (dz r) (su r) t (EG (aM g))),qD,aM g,[],[])
theorem gT{A:Type}{l:List A}{i:Nat}{e:A}(he:l[i]?=some e):l.take (i+1)=l.take i++ [e]:=by
 rw[am9,he];rfl
theorem Ub(mu:List ByteArray)(l:List bS)(e:bS):fe mu (l++ [e])=fe mu l++(if !Dz mu (aJ e)&&bV e then [aJ e]else []):=by
 unfold fe;rw[amo,alB];cases h:(!Dz mu (aJ e)&&bV e)<;>simp[h]
theorem SH(mu:List ByteArray)(l:List bS)(e:bS):jk mu (l++ [e])=jk mu l++(if !Dz mu (aJ e)&& !bV e then [aJ e]else []):=by
 unfold jk;rw[amo,alB];cases h:(!Dz mu (aJ e)&& !bV e)<;>simp[h]
theorem Uz(mu:List ByteArray)(l:List bS)(e:bS):D7 mu (l++ [e])=(D7 mu l||(!Dz mu (aJ e)&&(bV e&& !d9 e))):=by
 unfold D7;rw[List.any_append];simp
theorem FO(mu:List ByteArray)(l:List bS):(fe mu l).length≤l.length:=by
 unfold fe;rw[ald];exact amz _ _
theorem FY(mu:List ByteArray)(l:List bS):(jk mu l).length≤l.length:=by
 unfold jk;rw[ald];exact amz _ _
theorem RD(mu:List ByteArray)(k:ByteArray)(h:mu.length≤big):JY ((mu,k,()),())=some ((Dz mu k,()),()):=QZ mu k h
theorem Vu(ms:List bS)(mu:List ByteArray)(t:Int)(nc:U5)(r:dw)(c:Qf)(hl:ms.length≤256)(hm:mu.length≤big):
  aA tJ (((0:Int),false,mu,t,((ms.length:Nat):Int),()),(ms,(nc,()),(qD,()),(r,()),(c,()),[],[],()))=
   some ((D7 mu ms,t,()),(ms,(qD,()),(nc,()),(r,()),(c,()),fe mu ms,jk mu ms,())):=by
 have:=nQ (f:=tJ) ms (fun i=>(((i:Int),D7 mu (ms.take i),mu,t,((ms.length:Nat):Int),()),(ms,(nc,()),(qD,()),(r,()),(c,()),fe mu (ms.take i),jk mu (ms.take i),())))
  ((D7 mu ms,t,()),(ms,(qD,()),(nc,()),(r,()),(c,()),fe mu ms,jk mu ms,())) ?_ ?_
 ·exact this
 ·intro i e he hi;have hw:aS ((i:Int)+1)=((i+1:Nat):Int):=aI (by omega);have hb:decide ((0:Int)≤(i:Int)∧(i:Int)<(ms.length:Int))=true:=akW (by omega);have f1:=FO mu (ms.take i);have f2:=FY mu (ms.take i);rw[alv]at f1 f2;have c1:decide ((fe mu (ms.take i)).length+ [aJ e].length≤4294967296)=true:=akW (by simp;omega);have c2:decide ((jk mu (ms.take i)).length+ [aJ e].length≤4294967296)=true:=akW (by simp;omega);have q:=RD mu (aJ e) hm;obtain⟨mk,ml,mn,mh,mf,mt',⟨⟩⟩:=e;dsimp only[aJ]at q c1 c2;rw[gT he,Ub,SH,Uz];simp only[tJ,eu hi,hb,akZ,he,q,aJ,bV,d9,au,sS];cases Dz mu mk
  ·cases mf
   ·simp only[c2,hw,alE,aln,if_true,if_false,alo,au,sS]
   ·simp only[c1,hw,alE,aln,if_true,if_false,alo,au,sS];cases D7 mu (ms.take i)<;>simp only[hw,alr,alk,au,sS]
  ·simp only[hw,alE,aln,if_true,if_false,alo,au,sS]
 ·rw[amd];simp only[tJ,fZ,au,sS]
abbrev qK(R:List ByteArray)(m:bS):Bool:= !Dz R (aJ m)
theorem ZL(ms:List bS)(nc:U5)(F R:List ByteArray)(hl:ms.length≤256)(hR:R.length≤big):
  (aA kz (((0:Int),((ms.length:Nat):Int),()),(ms,(nc,()),F,R,()))=some (.inr ((),(ms,(nc,()),F,R,())))∧ms.filter (qK R)=ms)∨
  ∃j,j<ms.length∧aA kz (((0:Int),((ms.length:Nat):Int),()),(ms,(nc,()),F,R,()))=some (.inl (((j:Int),()),(ms,(nc,()),F,R,())))∧(ms.take (j+1)).filter (qK R)=ms.take j:=by
 have key:∀(d i:Nat),i+d=ms.length→(ms.take i).filter (qK R)=ms.take i→
   (aA kz (((i:Int),((ms.length:Nat):Int),()),(ms,(nc,()),F,R,()))=some (.inr ((),(ms,(nc,()),F,R,())))∧ms.filter (qK R)=ms)∨
   ∃j,j<ms.length∧aA kz (((i:Int),((ms.length:Nat):Int),()),(ms,(nc,()),F,R,()))=some (.inl (((j:Int),()),(ms,(nc,()),F,R,())))∧(ms.take (j+1)).filter (qK R)=ms.take j:=by
  intro d
  induction d with
  |zero=>
   intro i h h2;obtain rfl:i=ms.length:=by omega
   rw[amd]at h2;refine .inl ⟨aB ?_,h2⟩;simp only[kz,fZ,au,sS]
  |succ d ih=>
   intro i h h2;obtain⟨e,he⟩:=getD_some (l:=ms) (i:=i) (by omega);have hi:i<ms.length:=by omega
   have hw:aS ((i:Int)+1)=((i+1:Nat):Int):=aI (by omega);have hb:decide ((0:Int)≤(i:Int)∧(i:Int)<(ms.length:Int))=true:=akW (by omega);have q:=RD R (aJ e) hR;dsimp only[aJ]at q;cases hr:Dz R (aJ e)
   ·dsimp only[aJ]at hr
    have h3:(ms.take (i+1)).filter (qK R)=ms.take (i+1):=by
     rw[gT he,amo,h2];simp[qK,hr]
    have hs:kz (((i:Int),((ms.length:Nat):Int),()),(ms,(nc,()),F,R,()))=some (.inl ((((i+1:Nat):Int),((ms.length:Nat):Int),()),(ms,(nc,()),F,R,()))):=by
     simp only[kz,eu hi,hb,akZ,he,q,hr,hw,eq_self,au,sS]
    rw[aD hs];exact ih (i+1) (by omega) h3
   ·dsimp only[aJ]at hr;refine .inr ⟨i,hi,aB ?_,?_⟩
    ·simp only[kz,eu hi,hb,akZ,he,q,hr,hw,eq_self,au,sS]
    ·rw[gT he,amo,h2];simp[qK,hr]
 exact key ms.length 0 (by omega) rfl
theorem XO(ms:List bS)(nc:U5)(F R:List ByteArray)(hl:ms.length≤256)(hR:R.length≤big):∀(d src dst:Nat) (blk:List bS),src+d=ms.length→dst<src→blk.length=ms.length→
  blk.take dst=(ms.take src).filter (qK R)→blk.drop src=ms.drop src→
  ∃(dst':Nat) (blk':List bS),aA nY (((src:Int),(dst:Int),()),(blk,(nc,()),F,R,()))=some (((dst':Int),()),(blk',(nc,()),F,R,()))∧dst'≤ms.length∧blk'.length=ms.length∧blk'.take dst'=ms.filter (qK R):=by
 intro d
 induction d with
 |zero=>
  intro src dst blk h1 h2 h3 h4 h5;obtain rfl:src=ms.length:=by omega
  rw[amd]at h4;refine⟨dst,blk,aB ?_,by omega,h3,h4⟩;have:decide ((ms.length:Int)<((blk.length:Nat):Int))=false:=akY (by omega);simp only[nY,this,au,sS]
 |succ d ih=>
  intro src dst blk h1 h2 h3 h4 h5;obtain⟨e,he⟩:=getD_some (l:=ms) (i:=src) (by omega)
  have he':blk[src]?=some e:=by
   have:=congrArg (fun l=>l[0]?) h5;simp only[amw,amB]at this;rw[this,he]
  have c1:decide ((src:Int)<((blk.length:Nat):Int))=true:=akW (by omega);have c2:decide ((0:Int)≤(src:Int)∧(src:Int)<(blk.length:Int))=true:=akW (by omega);have c3:decide ((0:Int)≤(dst:Int)∧(dst:Int)<(blk.length:Int))=true:=akW (by omega);have c4:decide (dst<blk.length)=true:=akW (by omega);have w1:aS ((src:Int)+1)=((src+1:Nat):Int):=aI (by omega);have w2:aS ((dst:Int)+1)=((dst+1:Nat):Int):=aI (by omega);have q:=RD R (aJ e) hR;dsimp only[aJ]at q;cases hr:Dz R (aJ e)
  ·dsimp only[aJ]at hr
   have hs:nY (((src:Int),(dst:Int),()),(blk,(nc,()),F,R,()))=some (.inl ((((src+1:Nat):Int),((dst+1:Nat):Int),()),(blk.set dst e,(nc,()),F,R,()))):=by
    simp only[nY,c1,c2,akZ,he',q,hr,c3,c4,w1,w2,eq_self,au,sS]
   rw[aD hs];refine ih (src+1) (dst+1) (blk.set dst e) (by omega) (by omega) (by rw[alU,h3]) ?_ ?_
   ·rw[gT he,amo,←h4];rw[gT (e:=e) (by rw[amE (by omega)]),xG];simp[qK,hr]
   ·rw[List.drop_set,if_pos (by omega)];rw[←am7,←am7,h5]
  ·dsimp only[aJ]at hr
   have hs:nY (((src:Int),(dst:Int),()),(blk,(nc,()),F,R,()))=some (.inl ((((src+1:Nat):Int),(dst:Int),()),(blk,(nc,()),F,R,()))):=by
    simp only[nY,c1,c2,akZ,he',q,hr,w1,eq_self,au,sS]
   rw[aD hs];refine ih (src+1) dst blk (by omega) (by omega) h3 ?_ ?_
   ·rw[gT he,amo,←h4];simp[qK,hr]
   ·rw[←am7,←am7,h5]
abbrev PgT:=Int×ByteArray×(Nat×Nat)×Int×Int×Unit
theorem aea(M T:List bS)(nc:U5)(g:PgT)(c0:Qf)(n0:U5)(r:dw)(F R:List ByteArray)(ok:Bool)(t:Int)(hl:M.length≤256)(hF:F.length≤big)(hg:g.2.2.1=(0,M.length)):
  aA qA (((0:Int),(0,M.length),ok,t,((M.length:Nat):Int),()),((nc,()),(g,()),M++T,(c0,()),(n0,()),(r,()),F,R,()))=
   some ((ok,t,()),((c0,()),(n0,()),(nc,()),(g,()),(r,()),F,R,M.map (kP F)++T,())):=by
 obtain⟨rt,ky,pt,du,se,⟨⟩⟩:=g;dsimp only at hg;subst hg;have:=nQ (f:=qA) M (fun i=>(((i:Int),(0,M.length),ok,t,((M.length:Nat):Int),()),((nc,()),((rt,ky,(0,M.length),du,se,()),()),(M.take i).map (kP F)++(M.drop i++T),(c0,()),(n0,()),(r,()),F,R,())))
  ((ok,t,()),((c0,()),(n0,()),(nc,()),((rt,ky,(0,M.length),du,se,()),()),(r,()),F,R,M.map (kP F)++T,())) ?_ ?_
 ·exact this
 ·intro i e he hi;obtain⟨e',he',hd⟩:=drop_at hi;rw[he]at he';injection he' with he';subst he';have hw:aS ((i:Int)+1)=((i+1:Nat):Int):=aI (by omega);have hb:decide ((0:Int)≤(i:Int)∧(i:Int)<(M.length:Int))=true:=akW (by omega);have hA:((M.take i).map (kP F)).length=i:=by simp;omega
  rw[hd,am1]
  have at1:∀B:List bS,((M.take i).map (kP F)++e::B)[i]?=some e:=fun B=>by
   have:=O8 ((M.take i).map (kP F)) e B
   rwa [hA]at this
  have st1:∀(x:bS) (B:List bS),((M.take i).map (kP F)++e::B).set i x=(M.take i).map (kP F)++x::B:=fun x B=>by
   have:=QV ((M.take i).map (kP F)) e x B
   rwa [hA]at this
  have q:=RD F (aJ e) hF;dsimp only[aJ]at q
  have hx:(M.take (i+1)).map (kP F)++(M.drop (i+1)++T)=(M.take i).map (kP F)++kP F e::(M.drop (i+1)++T):=by
   rw[gT he,alB,al7];rfl
  rw[hx];obtain⟨mk,ml,mn,mh,mf,mt',⟨⟩⟩:=e;dsimp only at q;simp only[qA,eu hi,hb,akZ,alQ,at1,st1,q,hw,au,sS];cases mt'<;>simp only[st1,hw,kP,d9,aJ,alr,alk,au,sS]
 ·rw[amd,alZ,amD];simp only[qA,fZ,au,sS]
theorem ado(l:List bS)(hl:l.length≤256):∃j:Nat,aA vG (((0:Int),l,(l.length:Int),()),())=some (bif EG l then .inl (((j:Int),()),())else .inr ((),())):=by
 have h:=dU (f:=vG) l (fun i (_:Unit)=>(((i:Int),l,(l.length:Int),()),())) (fun i _ e=>bif !d9 e then .inr (.inl (((i:Int),()),()))else .inl ()) (fun _=>.inr ((),())) ?_ ?_ ()
 ·obtain⟨j,_,hj⟩:=lM (fun e:bS=> !d9 e) (fun i:Nat=>(Sum.inl (((i:Int),()),()):((Int×Unit)×Unit)⊕(Unit×Unit))) (.inr ((),())) l 0;exact⟨j,h.trans (congrArg some hj)⟩
 ·intro i e _ he hi;have hw:aS ((i:Int)+1)=((i+1:Nat):Int):=aI (by omega);have q:acE ((e,()),())=some ((!d9 e,()),()):=rfl;simp only[vG,aK,aF he,eu hi,q,au,sS];cases d9 e<;>simp only[au,sS,hw]
 ·intro _;simp only[vG,fZ,au,sS]
def Eu(x:LkT)(o:Option ((Bool×Int×Unit)×((PgT×Unit)×(U5×Unit)×List bS×List ByteArray×List ByteArray×Unit))):Prop:=
 ∃(n:Nat) (blk:List bS),o=some ((x.1,0,()),(((x.2.1.1,x.2.1.2.1,(0,n),x.2.1.2.2.1,x.2.1.2.2.2.1,()),()),(x.2.2.1,()),blk,x.2.2.2.2.1,x.2.2.2.2.2,()))∧n≤blk.length∧blk.take n=x.2.2.2.1
theorem Br{A:Type}{y:LkT}{o:Option A}{f:A→Option ((Bool×Int×Unit)×((PgT×Unit)×(U5×Unit)×List bS×List ByteArray×List ByteArray×Unit))}(x:A)(h:o=some x)(h2:Eu y (f x)):Eu y (o.bind f):=by
 rw[h];exact h2
theorem aaI{A:Type}{y:LkT}{o:Option A}{f:A→Option ((Bool×Int×Unit)×((PgT×Unit)×(U5×Unit)×List bS×List ByteArray×List ByteArray×Unit))}(P:A→Prop)(h:∃x,o=some x∧P x)(h2:∀x,P x→Eu y (f x)):Eu y (o.bind f):=by
 obtain⟨x,rfl,hp⟩:=h;exact h2 x hp
theorem exb{A B:Type}{o:Option A}{f:A→Option B}{Q:B→Prop}(x:A)(h:o=some x)(h2:∃b,f x=some b∧Q b):∃b,o.bind f=some b∧Q b:=by
 rw[h];exact h2
theorem exP{A B:Type}{o:Option A}{f:A→Option B}{Q:B→Prop}(P:A→Prop)(h:∃x,o=some x∧P x)(h2:∀x,P x→∃b,f x=some b∧Q b):∃b,o.bind f=some b∧Q b:=by
 obtain⟨x,rfl,hp⟩:=h;exact h2 x hp
theorem WW(n:Nat):(((n:Nat):Int)==0)=decide (n=0):=by
 rw[dG];exact aml.2 (by omega)
theorem ae8{g:bG}(h:VG g){r:dw}(hr:RR r){t:Int}(ht:0≤t∧t≤8589934592){mu:List ByteArray}(hm:mu.length≤big):Eu (mW g r t mu) (aaR ((g,r,t,mu,()),())):=by
 have q1:=JA h;have q2:=Jd r hr.z;rw[hr.ok]at q2;have q6:=JJ h;have dt:decide ((0:Int)≤t∧t≤8589934592)=true:=akW ht;have hlen:=h.len;have hsent:=h.sent;have hdue:=h.due;have hir:=hr.int;have hwa:=hr.wait;have hrp:=hr.Lg;have hmx:=hr.max;obtain⟨rt,ky,ms,du,se,⟨⟩⟩:=g;obtain⟨pa,mt,po,gb,wa,ir,rp,co,⟨⟩⟩:=r;dsimp only[aM,dI,cu,dL,dz,su,cor]at *;have qn:=fun nc c=>Vu ms mu t nc (pa,mt,po,gb,wa,ir,rp,co,()) c hlen hm
 unfold aaR mW;dsimp only[aM,dI,cu,dz,su,uZ];simp only[q1,q2,q6,Ag,dt,au,sS];have w1:aS (se+rp)=se+rp:=bK (by omega) (by omega);have w2:aS (t+1)=t+1:=bK (by omega) (by omega);have w3:aS (t+ir)=t+ir:=bK (by omega) (by omega);have w4:aS (t+rp)=t+rp:=bK (by omega) (by omega);by_cases h1:du= -1
 ·subst h1;rw[if_pos (.inl rfl)];simp only[amg,au,sS];exact⟨ms.length,ms,rfl,alj _,amd⟩
 have b1:(du== -1)=false:=als.2 h1;rw[b1];by_cases h2:du>t
 ·rw[if_pos (.inr h2)];simp only[akW h2,au,sS];exact⟨ms.length,ms,rfl,alj _,amd⟩
 rw[if_neg (by rintro(h|h)<;>contradiction)];simp only[akY h2,qn,au,sS];have fl:=FO mu ms;have rl:=FY mu ms;refine Br ((Gu se rp t (fe mu ms),D7 mu ms,()),ms,(qD,()),((t,rt,po,ky,()),()),fe mu ms,jk mu ms,()) ?_ ?_
 ·unfold Gu;rw[show decide (((fe mu ms).length:Int)>0)=decide (0<(fe mu ms).length)from aml.2 (by omega),w1];cases decide (0<(fe mu ms).length)<;>cases (se != -1)<;>simp only[au,sS]
 dsimp only;refine Br ((Dx se rp t mu ms,()),ms,((t,rt,po,ky,()),()),fe mu ms,jk mu ms,()) ?_ ?_
 ·unfold Dx;rw[show decide (((jk mu ms).length:Int)>0)=decide (0<(jk mu ms).length)from aml.2 (by omega)];cases D7 mu ms<;>cases Gu se rp t (fe mu ms)<;>simp only[alr,alk,au,sS]
 dsimp only;rw[show decide (ms.length=ms.length)=true from akW rfl,cond_true]
 refine aaI (fun x=>∃(ok:Bool) (se':Int) (n:Nat) (blk:List bS) (F' R':List ByteArray) (nc:U5) (c0:Qf) (n0:U5),x=((ok,t,()),(c0,()),(n0,()),(nc,()),((rt,ky,(0,n),du,se',()),()),((pa,mt,po,gb,wa,ir,rp,co,()),()),F',R',blk,())∧
  n≤blk.length∧blk.length≤256∧(-1≤se'∧se'≤8589934592)∧(if Dx se rp t mu ms=true then
   ((true,(rt,ky,(if(qM (fe mu ms) (jk mu ms) ms).length=0 then -1 else mV t ir rp t (EG (qM (fe mu ms) (jk mu ms) ms))),t,()),(t,rt,po,ky,()),qM (fe mu ms) (jk mu ms) ms,fe mu ms,jk mu ms):LkT)
   else(false,(rt,ky,(if ms.length=0 then -1 else mV se ir rp t (EG ms)),se,()),qD,ms,[],[]))=(ok,(rt,ky,(if(blk.take n).length=0 then -1 else mV se' ir rp t (EG (blk.take n))),se',()),nc,blk.take n,F',R')) ?_ ?_
 ·cases Dx se rp t mu ms
  ·refine⟨_,rfl,false,se,ms.length,ms,[],[],qD,Az,qD,rfl,alj _,hlen,hsent,?_⟩;rw[amd];rfl
  ·rw[cond_true];refine exP (fun x=>∃(n:Nat) (blk:List bS),x=((true,t,()),((t,rt,po,ky,()),()),((rt,ky,(0,n),du,t,()),()),(Az,()),(qD,()),((pa,mt,po,gb,wa,ir,rp,co,()),()),fe mu ms,jk mu ms,blk,())∧n≤blk.length∧blk.length=ms.length∧blk.take n=ms.filter (qK (jk mu ms))) ?_ ?_
   ·rcases ZL ms (t,rt,po,ky,()) (fe mu ms) (jk mu ms) hlen (by unfold big;omega)with⟨e,hf⟩|⟨j,hj,e,hf⟩
    ·rw[e];simp only[eq_self,amg,au,sS];exact⟨_,rfl,ms.length,ms,rfl,alj _,rfl,by rw[amd,hf]⟩
    ·have bj:((j:Int)== -1)=false:=als.2 (by omega);have wj:aS ((j:Int)+1)=((j+1:Nat):Int):=aI (by omega);rw[e];simp only[eq_self,bj,wj,au,sS];obtain⟨dst,blk,e2,h3,h4,h5⟩:=XO ms (t,rt,po,ky,()) (fe mu ms) (jk mu ms) hlen (by unfold big;omega) (ms.length-(j+1)) (j+1) j ms (by omega) (by omega) rfl hf.symm rfl;refine exb _ e2 ?_;have d1:decide ((0:Int)≤(dst:Int))=true:=akW (by omega);have d2:decide (dst≤blk.length∧True)=true:=akW ⟨by omega,trivial⟩;have d3:decide (dst+(blk.length-dst)≤blk.length)=true:=akW (by omega);have d0:decide (dst≤blk.length∧blk.length≤blk.length)=true:=akW (by omega)
     have sl:(cK blk dst (List.replicate (blk.length-dst) ((ByteArray.empty,[],0,0,false,false,()):bS))).length=blk.length:=by
      unfold cK;simp;omega
     have st:(cK blk dst (List.replicate (blk.length-dst) ((ByteArray.empty,[],0,0,false,false,()):bS))).take dst=blk.take dst:=by
      unfold cK;rw[al7,List.take_append_of_le_length (by rw[alv];omega),alP (by rw[alv];omega)]
     have d4:decide (0≤dst∧dst≤blk.length)=true:=akW (by omega);have d5:decide (blk.length=ms.length)=true:=akW h4;simp only[d1,d0,d3,d4,d5,sl,akZ,eq_self,au,sS];exact⟨_,rfl,dst,_,rfl,by rw[sl];omega,by rw[sl,h4],by rw[st,h5]⟩
   ·rintro _ ⟨n,blk,rfl,h1,h2,h3⟩;dsimp only;have hMl:(blk.take n).length=n:=by rw[alv];omega
    have q:=aea (blk.take n) (blk.drop n) (t,rt,po,ky,()) (rt,ky,(0,n),du,t,()) Az qD (pa,mt,po,gb,wa,ir,rp,co,()) (fe mu ms) (jk mu ms) true t (by rw[hMl];omega) (by unfold big;omega) (by rw[hMl]);rw[amu,hMl]at q;refine exb _ q ?_
    have ht2:(List.map (kP (fe mu ms)) (List.take n blk)++List.drop n blk).take n=qM (fe mu ms) (jk mu ms) ms:=by
     rw[List.take_append_of_le_length (by rw[ald,hMl];exact alj _),alP (by rw[ald,hMl];exact alj _),h3];rfl
    refine⟨_,rfl,true,t,n,_,fe mu ms,jk mu ms,(t,rt,po,ky,()),Az,qD,rfl,by simp;omega,by simp;omega,by omega,?_⟩;rw[ht2];rfl
 ·rintro _ ⟨ok,se',n,blk,F',R',nc,c0,n0,rfl,h3,h4,h5,h6⟩;rw[h6];dsimp only;have w5:aS (se'+rp)=se'+rp:=bK (by omega) (by omega);have d1:decide (0+n≤blk.length)=true:=akW (by omega);obtain⟨j,ho⟩:=ado (blk.take n) (by rw[alv];omega);have hl:(blk.take n).length=n:=by rw[alv];omega
  rw[hl]at ho;simp only[d1,al9,hl,w2,w3,w5,au,sS];refine Br ((EG (blk.take n),()),()) ?_ ?_
  ·refine aR _ ho ?_;have dj:decide ((j:Int)≥0)=true:=akW (by omega);cases EG (blk.take n)<;>simp only[dj,au,sS]
  dsimp only;have mx:∀d:Int,(if t+1>d then t+1 else d)=max d (t+1):=fun d=>by split<;>omega
  unfold mV;cases EG (blk.take n)
  ·by_cases hp:se'+rp≤t
   ·simp only[akW hp,w3,w2,mx,oF,WW,hp,or_true,if_true,eq_self,au,sS];by_cases hn:n=0
    ·simp only[hn,eq_self,if_true,au,sS];exact⟨0,blk,rfl,alD _,rfl⟩
    ·simp only[hn,if_false,au,sS];exact⟨n,blk,rfl,h3,rfl⟩
   ·simp only[akY hp,w3,w2,mx,oF,WW,hp,or_self,alo,if_false,eq_self,au,sS];by_cases hn:n=0
    ·simp only[hn,eq_self,if_true,au,sS];exact⟨0,blk,rfl,alD _,rfl⟩
    ·simp only[hn,if_false,au,sS];exact⟨n,blk,rfl,h3,rfl⟩
  ·simp only[w3,w2,mx,oF,WW,true_or,if_true,eq_self,au,sS];by_cases hn:n=0
   ·simp only[hn,eq_self,if_true,au,sS];exact⟨0,blk,rfl,alD _,rfl⟩
   ·simp only[hn,if_false,au,sS];exact⟨n,blk,rfl,h3,rfl⟩
theorem XC(F R:List ByteArray)(l:List bS):(qM F R l).length≤l.length:=by
 unfold qM;rw[ald];exact amz _ _
def rT(c:Qf)(ms:List bS):bG:=(c.1,c.2.1,ms,c.2.2.1,c.2.2.2.1,())
theorem aak:VG (rT Az []):=⟨by decide,by decide,by decide,by decide,fun m hm=>(by cases hm),List.Pairwise.nil⟩
theorem key_inj{ms:List bS}(h:(ms.map aJ).Pairwise Less){a b:bS}(ha:a∈ms)(hb:b∈ms)(e:aJ a=aJ b):a=b:=by
 obtain⟨i,hi,rfl⟩:=List.mem_iff_getElem.1 ha;obtain⟨j,hj,rfl⟩:=List.mem_iff_getElem.1 hb;have hp:=List.pairwise_iff_getElem.1 h;rcases Nat.lt_trichotomy i j with hij|hij|hij
 ·have:=hp i j (by rwa [ald]) (by rwa [ald]) hij;rw[List.getElem_map,List.getElem_map,e]at this;exact absurd (gN.1 this) (mg _)
 ·subst hij;rfl
 ·have:=hp j i (by rwa [ald]) (by rwa [ald]) hij;rw[List.getElem_map,List.getElem_map,e]at this;exact absurd (gN.1 this) (mg _)
theorem WY{ms:List bS}{i:Nat}{m x:bS}(h:ms[i]?=some m)(e:aJ x=aJ m):(ms.set i x).map aJ=ms.map aJ:=by
 rw[List.map_set,e];obtain⟨hi,rfl⟩:=akX.1 h;have:aJ ms[i]=(ms.map aJ)[i]'(by rwa [ald]):=by rw[List.getElem_map]
 rw[this,List.set_getElem_self]
theorem mem_set{A:Type}{l:List A}{i:Nat}{x y:A}(h:y∈l.set i x):y∈l∨y=x:=List.mem_or_eq_of_mem_set h
theorem EK{du se wa ir t:Int}(h1:0≤t∧t≤8589934592)(h2:0≤wa)(h3: -1≤du∧du≤8589934592)(h4: -1≤se)(h5:0≤ir): -1≤fF du se wa ir t∧fF du se wa ir t≤8589934592:=Vs h1 h2 h3 h4 h5
theorem Ui{t:Int}(h: -1≤t): -1≤Hl t∧Hl t≤8589934592:=by unfold Hl;split<;>omega
theorem Qk{se ir rp t:Int}{o:Bool}(h:0≤t): -1≤mV se ir rp t o∧mV se ir rp t o≤8589934592:=by
 unfold mV;exact Ui (by omega)
theorem F5{m:bS}(h:xZ m){t:Int}(ht:0≤t∧t≤8589934592):xZ (qi m t):=⟨h.lab,h.key,h.since,ht,h.told⟩
theorem step_ok{m:bS}(h:xZ m){t:Int}(ht:0≤t∧t≤8589934592)(on:Bool):xZ (stepM m on t):=
 ⟨h.lab,h.key,ht,h.heard,by show on=true∨on=false;cases on<;>simp⟩
theorem Wm{l:List LT}(hl:bD l=true){t:Int}(ht:0≤t∧t≤8589934592):xZ (bF (aW l),l,t,t,true,false,()):=⟨hl,rfl,ht,ht,.inl rfl⟩
theorem adT{g:bG}(h:VG g){r:dw}(hr:RR r){l:List LT}(hl:bD l=true)(on:Bool){t:Int}(ht:0≤t∧t≤8589934592):VG (rT (fq g r l on t).2.1 (fq g r l on t).2.2):=by
 have hw:=EK ht hr.wait h.due h.sent.1 (by have:=hr.wait;have:=hr.int;omega:(0:Int)≤dz r)
 have hrest:∀ms,-1≤xO g ms∧xO g ms≤8589934592:=fun ms=>by
  have:=h.due;unfold xO;split<;>omega
 have hlen:=h.len;unfold fq;dsimp only;by_cases hh:hit (bF (aW l)) (aM g)=true
 ·rw[if_pos hh];obtain⟨m,hm,hk⟩:=oz hh;have hmo:=h.mem m (alb hm);rw[hm];dsimp only
  have hset:∀(x:bS) (d:Int),aJ x=aJ m→xZ x→(-1≤d∧d≤8589934592)→VG (rT (uZ g d) ((aM g).set (pos (bF (aW l)) (aM g)) x)):=fun x d hx ho hd=>
   ⟨by show((aM g).set _ x).length≤256;rw[alU];exact hlen,h.rt,hd,h.sent,fun y hy=>by
    rcases mem_set hy with hy|rfl
    ·exact h.mem y hy
    ·exact ho,by show(((aM g).set _ x).map aJ).Pairwise Less;rw[WY hm hx];exact h.up⟩
  split
  ·exact hset _ _ rfl (F5 hmo ht) h.due
  ·split
   ·exact hset _ _ rfl (step_ok (F5 hmo ht) ht true) h.due
   ·split
    ·exact hset _ _ rfl (step_ok (F5 hmo ht) ht false) hw
    ·have hsub:((aM g).take (pos (bF (aW l)) (aM g))++(aM g).drop (pos (bF (aW l)) (aM g)+1)).Sublist (aM g):=by
      conv=>rhs;rw[←amu (pos (bF (aW l)) (aM g)) (aM g)]
      exact(List.Sublist.refl _).append (List.drop_sublist_drop_left _ (by omega))
     exact⟨alS hsub.length_le hlen,h.rt,hrest _,h.sent,fun y hy=>h.mem y (hsub.subset hy),h.up.sublist (hsub.map aJ)⟩
 ·rw[if_neg hh];split
  ·split
   ·exact aak
   ·have hp:=O0 (bF (aW l)) (aM g);refine⟨?_,h.rt,hw,h.sent,fun y hy=> ?_,?_⟩
    ·show(List.take _ _++_++List.drop _ _).length≤256
     simp;omega
    ·have hy:y∈List.take _ _++ [_]++List.drop _ _:=hy;simp only[alx,alV]at hy;rcases hy with(hy|rfl)|hy
     ·exact h.mem y (List.mem_of_mem_take hy)
     ·exact Wm hl ht
     ·exact h.mem y (List.mem_of_mem_drop hy)
    ·show((List.take (pos (bF (aW l)) (aM g)) (aM g)++ [(bF (aW l),l,t,t,true,false,())]++List.drop (pos (bF (aW l)) (aM g)) (aM g)).map aJ).Pairwise Less
     rw[al7,alB,alB,List.pairwise_append];have hup:=h.up;rw[←amu (pos (bF (aW l)) (aM g)) (aM g),alB,List.pairwise_append]at hup;have ha:∀m∈(aM g).take (pos (bF (aW l)) (aM g)),Lt (aJ m) (bF (aW l)):=Aa;have hb:=EM h.up (by simpa using hh:hit (bF (aW l)) (aM g)=false);refine⟨hup.1,?_,fun a ha' b hb'=> ?_⟩
     ·rw[al3,alJ,amv];refine amx.2 ⟨fun k hk=> ?_,hup.2.1⟩;obtain⟨m,hm,rfl⟩:=amb.1 hk;exact gN.2 (hb m hm)
     ·obtain⟨m,hm,rfl⟩:=amb.1 ha';rw[al3,alJ,amv]at hb';rcases alN.1 hb' with rfl|hb'
      ·exact gN.2 (ha m hm)
      ·obtain⟨m',hm',rfl⟩:=amb.1 hb';exact gN.2 (lt_trans (ha m hm) (hb m' hm'))
  ·exact⟨hlen,h.rt,hrest _,h.sent,h.mem,h.up⟩
theorem DN{se wa ir t a:Int}(ht:0≤t∧t≤8589934592)(hwa:0≤wa)(hir:0≤ir)(hse: -1≤se):∀(rem kept:List bS) (du:Int),(∀m∈kept++rem,xZ m)→((kept++rem).map aJ).Pairwise Less→(-1≤du∧du≤8589934592)→
  (∀m∈(kE se wa ir t a kept du rem).1,xZ m)∧(((kE se wa ir t a kept du rem).1).map aJ).Pairwise Less∧(-1≤(kE se wa ir t a kept du rem).2∧(kE se wa ir t a kept du rem).2≤8589934592)∧(kE se wa ir t a kept du rem).1.length≤kept.length+rem.length
 | [],kept,du,h1,h2,h3=>by rw[alE]at h1 h2;exact⟨h1,h2,h3,alj _⟩
 |m::rem,kept,du,h1,h2,h3=>by
  have e:∀x:bS,kept++ [x]++rem=kept++x::rem:=fun x=>by rw[al7];rfl
  have hm:xZ m:=h1 m (by simp)
  have put:∀x:bS,aJ x=aJ m→xZ x→(∀y∈kept++ [x]++rem,xZ y)∧((kept++ [x]++rem).map aJ).Pairwise Less:=fun x hx ho=>by
   rw[e];refine⟨fun y hy=> ?_,?_⟩
   ·rcases alx.1 hy with hy|hy
    ·exact h1 y (List.mem_append_left _ hy)
    ·rcases alN.1 hy with rfl|hy
     ·exact ho
     ·exact h1 y (List.mem_append_right _ (amm _ hy))
   ·rw[alB,al3,hx];rw[alB,al3]at h2;exact h2
  unfold kE;split
  ·split
   ·obtain⟨p1,p2⟩:=put (stepM m false t) rfl (step_ok hm ht false);obtain⟨a1,a2,a3,a4⟩:=DN ht hwa hir hse rem (kept++ [stepM m false t]) (fF du se wa ir t) p1 p2 (EK ht hwa h3 hse hir);exact⟨a1,a2,a3,by simp at a4 ⊢;omega⟩
   ·have hs:(kept++rem).Sublist (kept++m::rem):=(List.Sublist.refl _).append (List.sublist_cons_self _ _);obtain⟨a1,a2,a3,a4⟩:=DN (a:=a) ht hwa hir hse rem kept (if(kept++rem).length=0 then -1 else du) (fun y hy=>h1 y (hs.subset hy)) (h2.sublist (hs.map aJ)) (by split<;>omega);exact⟨a1,a2,a3,by have:(m::rem).length=rem.length+1:=rfl;omega⟩
  ·obtain⟨p1,p2⟩:=put m rfl hm;obtain⟨a1,a2,a3,a4⟩:=DN (a:=a) ht hwa hir hse rem (kept++ [m]) du p1 p2 h3;exact⟨a1,a2,a3,by simp at a4 ⊢;omega⟩
theorem adb{g:bG}(h:VG g){r:dw}(hr:RR r){t:Int}(a:Int)(ht:0≤t∧t≤8589934592):VG (rT (EA g r t a).2.1 (EA g r t a).2.2):=by
 have hlen:=h.len;unfold EA;split
 ·exact⟨hlen,h.rt,h.due,h.sent,h.mem,h.up⟩
 ·obtain⟨a1,a2,a3,a4⟩:=DN (a:=a) ht hr.wait (by have:=hr.wait;have:=hr.int;omega:(0:Int)≤dz r) h.sent.1 (aM g) [] (dI g) h.mem h.up h.due;exact⟨by simp only[List.length_nil,alQ]at a4;exact alS a4 hlen,h.rt,a3,h.sent,a1,a2⟩
theorem qZ{mu:List ByteArray}{k:ByteArray}:Dz mu k=true↔k∈mu:=by
 unfold Dz;rw[List.any_eq_true];constructor
 ·rintro⟨x,hx,e⟩;have:x=k:=by simpa using e
  exact this ▸ hx
 ·exact fun h=>⟨k,h,by simp⟩
theorem RL{mu:List ByteArray}{k:ByteArray}(h:k∉mu):Dz mu k=false:=by
 cases hc:Dz mu k
 ·rfl
 ·exact absurd (qZ.1 hc) h
theorem K8{mu:List ByteArray}{ms:List bS}{k:ByteArray}:k∈fe mu ms↔∃m∈ms,aJ m=k∧k∉mu∧bV m=true:=by
 unfold fe;rw[amb];constructor
 ·rintro⟨m,hm,rfl⟩;rw[am3,alu,am5]at hm;exact⟨m,hm.1,rfl,fun hc=>by rw[qZ.2 hc]at hm;exact absurd hm.2.1 (by simp),hm.2.2⟩
 ·rintro⟨m,hm,rfl,h1,h2⟩;refine⟨m,am3.2 ⟨hm,?_⟩,rfl⟩;rw[alu,am5];exact⟨RL h1,h2⟩
theorem Jf{mu:List ByteArray}{ms:List bS}{k:ByteArray}:k∈jk mu ms↔∃m∈ms,aJ m=k∧k∉mu∧bV m=false:=by
 unfold jk;rw[amb];constructor
 ·rintro⟨m,hm,rfl⟩;rw[am3,alu,am5]at hm;exact⟨m,hm.1,rfl,fun hc=>by rw[qZ.2 hc]at hm;exact absurd hm.2.1 (by simp),by simpa using hm.2.2⟩
 ·rintro⟨m,hm,rfl,h1,h2⟩;refine⟨m,am3.2 ⟨hm,?_⟩,rfl⟩;rw[alu,am5];exact⟨RL h1,by simpa using h2⟩
theorem XE(F R:List ByteArray)(ms:List bS):(qM F R ms).map aJ=(ms.filter fun m=> !Dz R (aJ m)).map aJ:=by
 unfold qM;rw[amn];rfl
theorem Af{F R:List ByteArray}{ms:List bS}{x:bS}:x∈qM F R ms↔∃m∈ms,aJ m∉R∧x=kP F m:=by
 unfold qM;rw[amb];constructor
 ·rintro⟨m,hm,rfl⟩;rw[am3,am5]at hm;exact⟨m,hm.1,fun hc=>by rw[qZ.2 hc]at hm;exact absurd hm.2 (by simp),rfl⟩
 ·rintro⟨m,hm,h1,rfl⟩;refine⟨m,am3.2 ⟨hm,?_⟩,rfl⟩;cases hc:Dz R (aJ m)
  ·rfl
  ·exact absurd (qZ.1 hc) h1
theorem adp{g:bG}(h:VG g)(mu:List ByteArray)(R:List ByteArray)(du se:Int)(hd: -1≤du∧du≤8589934592)(hs: -1≤se∧se≤8589934592):VG (rT (g.1,g.2.1,du,se,()) (qM (fe mu (aM g)) R (aM g))):=by
 refine⟨alS (XC _ _ _) h.len,h.rt,hd,hs,fun x hx=> ?_,?_⟩
 ·obtain⟨m,hm,_,rfl⟩:=Af.1 hx;have ho:=h.mem m hm;refine⟨ho.lab,ho.key,ho.since,ho.heard,?_⟩
  show bV m=true∨(d9 m||Dz (fe mu (aM g)) (aJ m))=false
  rcases ho.told with hf|hf
  ·exact .inl hf
  ·cases hc:Dz (fe mu (aM g)) (aJ m)
   ·exact .inr (by rw[hf];rfl)
   ·obtain⟨m',hm',e,_,hf'⟩:=K8.1 (qZ.1 hc);rw[key_inj h.up hm' hm e]at hf';exact .inl hf'
 ·show((qM _ _ _).map aJ).Pairwise Less
  rw[XE];exact h.up.sublist ((List.filter_sublist).map aJ)
theorem aaf{g:bG}(h:VG g)(r:dw){t:Int}(mu:List ByteArray)(ht:0≤t∧t≤8589934592):VG (rT (mW g r t mu).2.1 (mW g r t mu).2.2.2.1):=by
 have hn:∀(ms:List bS) se o,-1≤(if ms.length=0 then -1 else mV se (dz r) (su r) t o)∧(if ms.length=0 then -1 else mV se (dz r) (su r) t o)≤8589934592:=fun ms se o=>by
  have:=Qk (se:=se) (ir:=dz r) (rp:=su r) (o:=o) ht.1;split<;>omega
 unfold mW;split
 ·exact⟨h.len,h.rt,h.due,h.sent,h.mem,h.up⟩
 ·dsimp only;split
  ·exact adp h mu _ _ _ (hn _ _ _) (by omega)
  ·exact⟨h.len,h.rt,hn _ _ _,h.sent,h.mem,h.up⟩
end Go.Proofs.YtchnmpafhfjimaaGreatDoor
namespace Go.Proofs.YtchnmpafhfjimaaGreatDoor
open Go Go.Abs Go.Lab
end Go.Proofs.YtchnmpafhfjimaaGreatDoor
namespace Go.Proofs.YtchnmpafhfjimaaGreatDoor
open Go Go.Abs
abbrev bY:Type:=List dw×List CF×Int×Unit
abbrev InT:Type:=Int×List bG×List lW×Int×Unit
abbrev kM:Type:=Int×List LT×Bool×Unit
abbrev cZ(s:InT):Int:=s.1
abbrev bq(s:InT):List bG:=s.2.1
abbrev dM(s:InT):List lW:=s.2.2.1
abbrev gy(s:InT):Int:=s.2.2.2.1
structure wF(p:bY):Prop where
 rt:Qe p.1
 inl:p.2.1.length≤big
 inh:∀r∈p.2.1,TSz r
 rs:RSs p.2.1
def xA(p:bY):Int:=if kK p.1≠0 then kK p.1 else if Ct p.2.1≠0 then Ct p.2.1 else if p.2.2.1<0∨p.2.2.1>604800 then 1 else 0
theorem OJ(p:bY)(hp:wF p):m34 ((p,()),())=some ((xA p,()),()):=by
 unfold m34 xA;refine aR _ (JW p.1 hp.rt) ?_;by_cases h1:kK p.1=0
 ·simp only[h1,alC,ami,ne_eq,not_true_eq_false,if_false];refine aR _ (aed p.2.1 hp.inl hp.inh) ?_;by_cases h2:Ct p.2.1=0
  ·simp only[h2,alC,ami,not_true_eq_false,if_false];by_cases h3:p.2.2.1<0
   ·simp[h3]
   ·by_cases h4:p.2.2.1>604800<;>simp[h3,h4]
  ·simp only[alY.2 h2,cond_true,h2,amG,if_true]
 ·simp only[alY.2 h1,cond_true,ne_eq,h1,amG,if_true]
theorem gP{p:bY}(h:xA p=0):kK p.1=0∧Ct p.2.1=0∧0≤p.2.2.1∧p.2.2.1≤604800:=by
 unfold xA at h;split at h
 ·rename_i h1;exact absurd h h1
 ·rename_i h1;split at h
  ·rename_i h2;exact absurd h h2
  ·rename_i h2;split at h
   ·cases h
   ·rename_i h3;exact⟨by simpa using h1,by simpa using h2,by omega,by omega⟩
theorem Tz{r:dw}(h:gJ r=0):Bv r=true:=by
 unfold Bv
 have e:gJ (strip r)=0:=by
  unfold gJ strip at *;cases h1:(decide ((r.2.1.length:Int)>8)||decide ((r.2.2.2.1.length:Int)>12))
  ·rw[h1]at h;cases h2:(!r.2.1.all bE|| !jK r.2.2.2.1)
   ·rw[h2]at h;simp only[alW]at h1 h2;simp only[h1.2,h2.2,List.length_nil,List.all_nil];exact h
   ·rw[h2]at h;cases h
  ·rw[h1]at h;cases h
 rw[e];rfl
theorem F4{l:List dw}(hl:Qe l)(h:kK l=0):∀r∈l,RR r:=by
 intro r hr;refine ahc (hl.2 r hr) (Tz ?_);unfold kK at h;cases h0:((l.length:Int)==0)
 ·rw[h0]at h;cases h1:decide ((l.length:Int)>24)
  ·rw[h1]at h
   have h2:Bn tu 0 l=0:=by
    cases h2:(Bn tu 0 l !=0)
    ·simpa using h2
    ·rw[h2]at h;simp only[ami,cond_true]at h;rw[h]at h2;cases h2
   obtain⟨k,hk,rfl⟩:=List.mem_iff_getElem.1 hr;have:=uK h2 k _ (alh hk);unfold tu at this;cases hb:lY (0+k) l[k]
   ·rw[hb]at this;exact this
   ·rw[hb]at this;cases this
  ·rw[h1]at h;cases h
 ·rw[h0]at h;cases h
theorem wM{l:List dw}(h:kK l=0):l.length≤24:=by
 unfold kK at h;cases h0:((l.length:Int)==0)
 ·rw[h0]at h;cases h1:decide ((l.length:Int)>24)
  ·have:=am2 h1;omega
  ·rw[h1]at h;cases h
 ·rw[h0]at h;cases h
def jB(rs:List dw)(now:Int)(g:bG):Bool:=
 decide ((aM g).length=0)&&(decide (cu g= -1)||match rs[g.1.toNat]? with|some r=>decide (cu g+dz r≤now)|none=>false)
theorem UC(p:bY)(g:bG)(now:Int)(hg:VG g){r:dw}(h:p.1[g.1.toNat]?=some r)(hr:RR r):Zr ((p,g,now,()),())=some ((jB p.1 now g,()),()):=by
 have h1:=hg.sent;have h2:=hg.rt;have h3:=hr.int;have h4:=hr.Lg;have h5:=hr.max;have h6:=hr.wait;obtain⟨rt,ky,ms,du,se,⟨⟩⟩:=g;dsimp only[cu,dz,dL,su]at h h1 h2 h3 h4 h5 h6;have hw:aS (se+r.2.2.2.2.2.1)=se+r.2.2.2.2.2.1:=bK (by omega) (by omega);unfold Zr ads jB;dsimp only[aM,cu];simp only[aK,jT h2 h,hw];rw[h]
 have e0:((ms.length:Int)==0)=decide (ms.length=0):=by
  by_cases h:ms.length=0
  ·simp[h]
  ·rw[als.2 (by omega),akY h]
 simp only[e0,alR,dG];cases decide (ms.length=0)<;>cases decide (se= -1)<;>rfl
def kC(a:bG)(rt:Int)(k:ByteArray):Bool:=decide (a.1<rt)||(decide (a.1=rt)&&Op.bytesLess a.2.1.toList k.toList)
def rV(a:bG)(rt:Int)(k:ByteArray):Int:=if a.1=rt then Dy a.2.1 k else a.1-rt
theorem O3(a:bG)(rt:Int)(k:ByteArray)(h1:0≤a.1∧a.1≤1048576)(h2:0≤rt∧rt≤1048576):m84 ((a,rt,k,()),())=some ((rV a rt k,()),()):=by
 unfold m84 rV;by_cases h:a.1=rt
 ·simp only[h,alC,ami,if_true];refine aR _ (QX a.2.1 k) rfl
 ·simp only[alY.2 h,cond_true,if_neg h,bK (x:=a.1-rt) (by omega) (by omega)]
theorem BH(a:bG)(rt:Int)(k:ByteArray):decide (rV a rt k<0)=kC a rt k:=by
 unfold rV kC Dy;by_cases h:a.1=rt
 ·simp only[h,if_true,Int.lt_irrefl,amy,amr,alL,alk];cases Op.bytesLess a.2.1.toList k.toList
  ·simp only[alo,if_false];split<;>rfl
  ·rfl
 ·rw[if_neg h];simp only[h,amy,amh,aln];exact aml.2 (by omega)
def K3(now t:Int):Int:=if t<now then 6 else if t>8589934592 then 1 else 0
theorem OO{A B E:Type}{f:A→Option (A⊕B)}(l:List E)(st:Nat→A)(p:E→Bool)(no:Nat→B)(yes:B)
  (h1:∀i e,l[i]?=some e→i<l.length→f (st i)=some (bif p e then .inl (st (i+1))else .inr (no i))) (h2:f (st l.length)=some (.inr yes)):
  ∃j:Nat,aA f (st 0)=some (bif l.all p then yes else no j):=by
 have key:∀(k i:Nat),i+k=l.length→∃j:Nat,aA f (st i)=some (bif (l.drop i).all p then yes else no j):=by
  intro k
  induction k with
  |zero=>
   intro i h;obtain rfl:i=l.length:=by omega
   rw[alZ];exact⟨0,aB h2⟩
  |succ k ih=>
   intro i h;obtain⟨e,he,hd⟩:=drop_at (l:=l) (i:=i) (by omega);have q:=h1 i e he (by omega);rw[hd,List.all_cons];cases hb:p e
   ·rw[hb]at q;exact⟨i,aB q⟩
   ·rw[hb]at q;rw[alL];obtain⟨j,hj⟩:=ih (i+1) (by omega);exact⟨j,(aD q).trans hj⟩
 have:=key l.length 0 (by omega);rw[al9]at this;exact this
def KY(rs:List dw)(g:bG)(m:bS):ByteArray:=match rs[g.1.toNat]? with|some r=>xq r (cO m)|none=>ByteArray.empty
def yR(p:bY)(now:Int)(q:Option bG)(g:bG):Bool:=
 decide (g.1≥(p.1.length:Int))||(jB p.1 now g||((match q with|none=>false|some a=> !kC a g.1 g.2.1)|| !(aM g).all fun m=>decide (KY p.1 g m=g.2.1)))
def yc(p:bY)(s:InT):Bool:=
 decide (xA p=0)&&(inst (cZ s)&&(decide ((bq s).length≤64)&&(decide (Kz (dM s)=0)&&(decide (1≤gy s)&&((dM s).all (fun x=>decide (x.1<gy s))&&y9 (yR p (cZ s)) none (bq s))))))
structure tF(s:InT):Prop where
 len:(bq s).length≤1048576
 rT:∀g∈bq s,VG g∧g.1≤1048576
 Ou:ML (dM s)
theorem MO{l:List dw}{g:bG}(hg:VG g)(h:¬ g.1≥(l.length:Int)):∃r,l[g.1.toNat]?=some r:=by
 have:=hg.rt;exact⟨_,alh (by omega)⟩
theorem adu(p:bY){g:bG}(hg:VG g){r:dw}(h:p.1[g.1.toNat]?=some r)(hz:r.2.2.2.1.length≤big)(p0:Int):
  ∃j:Nat,aA Bb (((0:Int),aM g,((aM g).length:Int),()),((p,()),((g,()),())))=
   some (bif (aM g).all (fun m=>decide (KY p.1 g m=g.2.1))then .inr ((),((p,()),((g,()),())))else .inl (((j:Int),()),((p,()),((g,()),())))):=by
 have hl:=hg.len;have h2:=hg.rt;refine OO (f:=Bb) (aM g) (fun i=>(((i:Int),aM g,((aM g).length:Int),()),((p,()),((g,()),())))) (fun m=>decide (KY p.1 g m=g.2.1)) (fun i=>.inl (((i:Int),()),((p,()),((g,()),())))) _ ?_ ?_
 ·intro i e he hi;have hw:=aI (i:=i) (by omega);have q:=XG r (cO e) (oh (hg.mem e (alb he)).lab) hz;have q2:KY p.1 g e=xq r (cO e):=by unfold KY;rw[h]
  dsimp only[cO]at q;rw[q2];simp only[Bb,eu hi,aK,aF he,jT h2 h,q,bA,jY,hw,au,sS];cases decide (xq r e.2.1=g.2.1)<;>simp only[hw,au,sS]
 ·simp only[Bb,fZ,au,sS]
theorem V8(p:bY)(hp:wF p)(h0:kK p.1=0)(s:InT)(hs:tF s):
  aA rY (((0:Int),bq s,((bq s).length:Int),()),((p,()),((s,()),())))=some (bif y9 (yR p (cZ s)) none (bq s)then .inr ((),())else .inl ((false,()),())):=by
 have hlen:=hs.len;have hrl:=wM h0;refine nN (f:=rY) (bq s) (fun i=>(((i:Int),bq s,((bq s).length:Int),()),((p,()),((s,()),())))) (yR p (cZ s)) (.inl ((false,()),())) (.inr ((),())) ?_ ?_
 ·intro i e he hi;obtain⟨hv,hv2⟩:=hs.rT e (alb he);have hw:=aI (i:=i) (by omega);have q1:=JA hv;have h2:=hv.rt;unfold yR;by_cases hr:e.1≥(p.1.length:Int)
  ·simp only[rY,eu hi,aK,aF he,q1,akW hr,alr,alk,aln,al2,aly,au,sS]
  ·obtain⟨r,hr2⟩:=MO hv hr;have hrr:=F4 hp.rt h0 r (alb hr2);have q2:=UC p e (cZ s) hv hr2 hrr;obtain⟨j,q3⟩:=adu p hv hr2 hrr.z.2.1 0;dsimp only[cZ,aM]at q2 q3;have hj:decide ((j:Int)≥0)=true:=akW (by omega);rcases kV hi with h0|⟨a,h0,ha,ha1⟩
   ·rw[if_pos h0];have hd:decide ((i:Int)>0)=false:=akY (by omega);simp only[rY,eu hi,aK,aF he,q1,akY hr,q2,hd,cZ,aM,alr,alk,aln,al2,aly,au,sS];cases jB p.1 s.1 e<;>simp only[alr,alk,aln,al2,aly,au,sS];rw[q3];cases List.all e.2.2.1 (fun m=>decide (KY p.1 e m=e.2.1))<;>simp only[hj,hw,alr,alk,aln,al2,aly,au,sS]
   ·rw[if_neg (by omega),ha];obtain⟨av,av2⟩:=hs.rT a (alb ha);have hd:decide ((i:Int)>0)=true:=akW (by omega);have q4:=O3 a e.1 e.2.1 ⟨av.rt,av2⟩ ⟨h2,by omega⟩
    have q5:decide (rV a e.1 e.2.1≥0)= !kC a e.1 e.2.1:=by
     rw[←BH,←decide_not];exact aml.2 (by omega)
    simp only[rY,eu hi,aK,aF he,q1,akY hr,q2,hd,ha1 (by omega),aF ha,q4,q5,cZ,aM,alr,alk,aln,al2,aly,au,sS];cases jB p.1 s.1 e<;>simp only[alr,alk,aln,al2,aly,au,sS];cases kC a e.1 e.2.1<;>simp only[alr,alk,aln,al2,aly,au,sS];rw[q3];cases List.all e.2.2.1 (fun m=>decide (KY p.1 e m=e.2.1))<;>simp only[hj,hw,alr,alk,aln,al2,aly,au,sS]
 ·simp only[rY,fZ,alr,alk,aln,al2,aly,au,sS]
theorem Xx:∀{l:List lW},Ow 0 l=0→∀(n:Int),l≠ []→∃x,l[l.length-1]?=some x∧(l.all fun y=>decide (y.1<n))= !decide (x.1≥n):=by
 intro l h n hne;obtain⟨a,x,rfl⟩:∃a x,l=a++ [x]:=⟨l.dropLast,l.getLast hne,(List.dropLast_concat_getLast hne).symm⟩
 refine⟨x,by simp,?_⟩
 have hs:∀y∈a,y.1<x.1:=by
  intro y hy;obtain⟨b,c,rfl⟩:=List.mem_iff_append.1 hy;have:=SE b 0 y (c++ [x]) (by simpa using h);exact this x (by simp)
 rw[List.all_append];by_cases hx:x.1≥n
 ·simp[hx,Int.not_lt.2 hx]
 ·have ha:(a.all fun y=>decide (y.1<n))=true:=alF.2 fun y hy=>akW (by have:=hs y hy;omega)
  simp[ha,hx,Int.not_le.1 hx]
theorem aeh(p:bY)(hp:wF p)(s:InT)(hs:tF s):m36 ((p,s,()),())=some ((yc p s,()),()):=by
 unfold m36;have hl:=hs.len;have q2:=ae2 (dM s) hs.Ou;have hsl:=hs.Ou.1;by_cases hc:xA p=0
 ·obtain⟨c1,c2,c3,c4⟩:=gP hc;have q3:=V8 p hp c1 s hs;obtain⟨now,gs,sl,nx,⟨⟩⟩:=s;dsimp only[bq,dM,cZ,gy]at q2 q3 hl hsl;have q1:=OJ p hp;unfold yc;rw[hc]at q1;simp only[q1,q2,hc,cZ,bq,dM,gy,inst,alC,amr,alL,au,sS];by_cases h1:now<0
  ·have e:decide (0≤now∧now≤8589934592)=false:=akY (by omega);simp only[h1,e,amr,amh,au,sS]
  by_cases h2:now>8589934592
  ·have e:decide (0≤now∧now≤8589934592)=false:=akY (by omega);simp only[h1,h2,e,amr,amy,amh,au,sS]
  have e:decide (0≤now∧now≤8589934592)=true:=akW (by omega);by_cases h3:(gs.length:Int)>64
  ·have e3:decide (gs.length≤64)=false:=akY (by omega);simp only[h1,h2,h3,e,e3,amr,amy,alL,amh,au,sS]
  have e3:decide (gs.length≤64)=true:=akW (by omega);by_cases h4:Kz sl=0
  ·by_cases h5:nx<1
   ·have e5:decide (1≤nx)=false:=akY (by omega);simp only[h1,h2,h3,h4,h5,e,e3,e5,alC,amr,amy,alL,amh,au,sS]
   have e5:decide (1≤nx)=true:=akW (by omega);simp only[h1,h2,h3,h4,h5,e,e3,e5,alC,amr,amy,alL,amh,au,sS];by_cases hn:sl=[]
   ·subst hn;simp only[List.length_nil,List.all_nil,alL];have e6:decide ((((0:Nat):Nat):Int)>0)=false:=by decide
    simp only[e6,q3,au,sS];cases y9 (yR p now) none gs<;>rfl
   ·obtain⟨x,hx,hx2⟩:=Xx (adI h4).1 nx hn;have hpos:0<sl.length:=List.length_pos_iff.2 hn;have e6:decide (((sl.length:Nat):Int)>0)=true:=akW (by omega);have e7:aS (((sl.length:Nat):Int)-1)=((sl.length-1:Nat):Int):=by rw[bK (by omega) (by omega)];omega
    rw[hx2];simp only[e6,e7,aK,aF hx,au,sS];cases decide (x.1≥nx)<;>simp only[q3,al2,aly,alL,amh,au,sS];cases y9 (yR p now) none gs<;>rfl
  ·simp only[h1,h2,h3,h4,alY.2 h4,e,e3,amr,amy,alL,amh,au,sS]
 ·have q1:=OJ p hp;unfold yc;simp only[q1,alY.2 hc,akY hc,amh,au,sS]
end Go.Proofs.YtchnmpafhfjimaaGreatDoor
namespace Go.Proofs.YtchnmpafhfjimaaGreatDoor
open Go Go.Abs Go.Lab
theorem TW{m:bS}(h:xZ m):(aJ m).size+1≤4294967296:=by
 have h1:=qw h.lab ((cO m).map bB).length;rw[amd]at h1;rw[h.key,size_mk];unfold aW;simp;omega
end Go.Proofs.YtchnmpafhfjimaaGreatDoor
namespace Go.Proofs.YtchnmpafhfjimaaGreatDoor
open Go Go.Abs
def kr(a:Int×Bool)(g:bG):Int×Bool:=bif (dI g != -1)&&(!a.2||decide (dI g<a.1))then(dI g,true)else a
def gK(l:List bG):Int×Bool:=l.foldl kr (0,false)
theorem XW(s:InT)(hl:(bq s).length≤1048576):m30 ((s,()),())=some (((gK (bq s)).1,(gK (bq s)).2,()),()):=by
 have h:=dU (f:=En) (bq s) (fun i (a:Int×Bool)=>(((i:Int),a.1,a.2,bq s,((bq s).length:Int),()),())) (fun _ a e=>.inl (kr a e)) (fun a=>((a.2,a.1,()),())) ?_ ?_ (0,false)
 ·rw[q9]at h;unfold m30;exact aR _ h rfl
 ·intro i e ⟨a1,a2⟩ he hi;have hw:aS ((i:Int)+1)=((i+1:Nat):Int):=aI (by omega);unfold kr;dsimp only[dI];simp only[En,aK,aF he,eu hi,au,sS];cases (e.2.2.2.1 != -1)<;>cases a2<;>cases decide (e.2.2.2.1<a1)<;>simp only[au,sS,hw,al2,aly,al5,alr,aln,alk,alL,amh]
 ·intro a;simp only[En,fZ,au,sS]
def La(p:bY)(l:List bG):Prop:=∀g∈l,VG g∧∃r,p.1[g.1.toNat]?=some r∧RR r
def iQ(p:bY)(now:Int)(l:List bG):List bG:=l.filter fun g=> !jB p.1 now g
theorem La.idle{p:bY}{l:List bG}(h:La p l){g:bG}(hg:g∈l)(now:Int):Zr ((p,g,now,()),())=some ((jB p.1 now g,()),()):=by
 obtain⟨hv,r,hr,rr⟩:=h g hg;exact UC p g now hv hr rr
theorem QL{A:Type}{a:List A}{n:Nat}(h:a.length+1≤n)(x:A):decide (a.length+ [x].length≤n)=true:=akW (by simpa using h)
theorem Te{A B E F:Type}{f:A→Option (A⊕B)}(l:List E)(st:Nat→List F→A)(g:E→List F)(fin:List F→B)(hlen:l.length≤1048576)
  (hg:∀e,(g e).length≤1)
  (h1:∀i e a,l[i]?=some e→i<l.length→a.length≤i→f (st i a)=some (.inl (st (i+1) (a++g e)))) (h2:∀a,f (st l.length a)=some (.inr (fin a))):
  aA f (st 0 [])=some (fin (l.flatMap g)):=by
 have key:∀(k i:Nat) (a:List F),i+k=l.length→a.length≤i→aA f (st i a)=some (fin (a++(l.drop i).flatMap g)):=by
  intro k
  induction k with
  |zero=>
   intro i a h ha;obtain rfl:i=l.length:=by omega
   rw[alZ,List.flatMap_nil,alE];exact aB (h2 a)
  |succ k ih=>
   intro i a h ha;obtain⟨e,he,hd⟩:=drop_at (l:=l) (i:=i) (by omega);rw[hd,ams,←al7,←ih (i+1) (a++g e) (by omega) (by have:=hg e;rw[alz];omega)];exact aD (h1 i e a he (by omega) ha)
 have:=key l.length 0 [] (by omega) (alj _)
 rwa [al9,amD]at this
theorem TG{A B E:Type}{f:A→Option (A⊕B)}(ms:List E)(keep:E→Bool)(st:Nat→A)(no:B)(yes:Nat→B)
  (h1:∀i e,ms[i]?=some e→i<ms.length→f (st i)=some (bif keep e then .inl (st (i+1))else .inr (yes i))) (h2:f (st ms.length)=some (.inr no)):
  (aA f (st 0)=some no∧ms.filter keep=ms)∨∃j,j<ms.length∧aA f (st 0)=some (yes j)∧(ms.take (j+1)).filter keep=ms.take j:=by
 have key:∀(d i:Nat),i+d=ms.length→(ms.take i).filter keep=ms.take i→
   (aA f (st i)=some no∧ms.filter keep=ms)∨∃j,j<ms.length∧aA f (st i)=some (yes j)∧(ms.take (j+1)).filter keep=ms.take j:=by
  intro d
  induction d with
  |zero=>
   intro i h h3;obtain rfl:i=ms.length:=by omega
   rw[amd]at h3;exact .inl ⟨aB h2,h3⟩
  |succ d ih=>
   intro i h h3;obtain⟨e,he⟩:=getD_some (l:=ms) (i:=i) (by omega);have q:=h1 i e he (by omega);cases hr:keep e
   ·rw[hr]at q;refine .inr ⟨i,by omega,aB q,?_⟩;rw[gT he,amo,h3];simp[hr]
   ·rw[hr]at q;rw[aD q];refine ih (i+1) (by omega) ?_;rw[gT he,amo,h3];simp[hr]
 exact key ms.length 0 (by omega) rfl
theorem Pp{A B E:Type}{f:A→Option (A⊕B)}(ms:List E)(keep:E→Bool)(st:Nat→Nat→List E→A)(fin:Nat→List E→B)
  (h1:∀src dst blk e,src<ms.length→dst<src→blk.length=ms.length→blk[src]?=some e→e∈ms→f (st src dst blk)=some (.inl (bif keep e then st (src+1) (dst+1) (blk.set dst e)else st (src+1) dst blk)))
  (h2:∀dst blk,blk.length=ms.length→f (st ms.length dst blk)=some (.inr (fin dst blk))):∀(d src dst:Nat) (blk:List E),src+d=ms.length→dst<src→blk.length=ms.length→
  blk.take dst=(ms.take src).filter keep→blk.drop src=ms.drop src→
  ∃(dst':Nat) (blk':List E),aA f (st src dst blk)=some (fin dst' blk')∧dst'≤ms.length∧blk'.length=ms.length∧blk'.take dst'=ms.filter keep:=by
 intro d
 induction d with
 |zero=>
  intro src dst blk a1 a2 a3 a4 a5;obtain rfl:src=ms.length:=by omega
  rw[amd]at a4;exact⟨dst,blk,aB (h2 dst blk a3),by omega,a3,a4⟩
 |succ d ih=>
  intro src dst blk a1 a2 a3 a4 a5;obtain⟨e,he⟩:=getD_some (l:=ms) (i:=src) (by omega)
  have he':blk[src]?=some e:=by
   have:=congrArg (fun l=>l[0]?) a5;simp only[amw,amB]at this;rw[this,he]
  have q:=h1 src dst blk e (by omega) a2 a3 he' (alb he);cases hr:keep e
  ·rw[hr]at q;rw[aD q];refine ih (src+1) dst blk (by omega) (by omega) a3 ?_ ?_
   ·rw[gT he,amo,←a4];simp[hr]
   ·rw[←am7,←am7,a5]
  ·rw[hr]at q;rw[aD q];refine ih (src+1) (dst+1) (blk.set dst e) (by omega) (by omega) (by rw[alU,a3]) ?_ ?_
   ·rw[gT he,amo,←a4];rw[gT (e:=e) (by rw[amE (by omega)])];rw[show(blk.set dst e).take dst=blk.take dst from by rw[List.take_set,List.set_eq_of_length_le (by rw[alv];omega)]];simp[hr]
   ·rw[List.drop_set,if_pos (by omega)];rw[←am7,←am7,a5]
def qJ(acc:List bS)(m:bS):List bS:=if bV m=true∧hit (aJ m) acc=false then acc.take (pos (aJ m) acc)++ [m]++acc.drop (pos (aJ m) acc)else acc
def Ja(gs:List bG)(acc:List bS):List bS:=gs.foldl (fun a g=>(aM g).foldl qJ a) acc
def zZ(gs:List bG):List bS:=Ja gs []
theorem Vf(acc:List bS)(m:bS):(qJ acc m).length≤acc.length+1:=by
 unfold qJ;split
 ·simp;omega
 ·omega
theorem Ux:∀(ms:List bS) (acc:List bS),(ms.foldl qJ acc).length≤acc.length+ms.length:=by
 intro ms
 induction ms with
 |nil=>intro acc;exact alj _
 |cons m r ih=>intro acc;have:=ih (qJ acc m);have:=Vf acc m;simp only[List.foldl_cons,alI];omega
theorem YD{a b:ByteArray}(h:Lt a b):bl a<bl b:=by
 unfold Lt at h;rw[bA,bA,Go.Proofs.bytesLess_eq]at h;exact ali h
theorem Ei{k:ByteArray}{l:List bS}(h:(l.map aJ).Pairwise Less):hit k l=true↔k∈l.map aJ:=by
 constructor
 ·intro hh;obtain⟨m,hm,rfl⟩:=oz hh;exact amb.2 ⟨m,alb hm,rfl⟩
 ·intro hk;obtain⟨m,hm,rfl⟩:=amb.1 hk;cases hh:hit (aJ m) l
  ·exfalso
   rw[←amu (pos (aJ m) l) l,alx]at hm;rcases hm with hm|hm
   ·exact mg _ (Aa m hm)
   ·exact mg _ (EM h hh m hm)
  ·rfl
theorem aep{m:bS}{l:List bS}(h:(l.map aJ).Pairwise Less)(hh:hit (aJ m) l=false):((l.take (pos (aJ m) l)++ [m]++l.drop (pos (aJ m) l)).map aJ).Pairwise Less:=by
 rw[al7,alB,alB,List.pairwise_append];have hup:=h;rw[←amu (pos (aJ m) l) l,alB,List.pairwise_append]at hup;have ha:∀x∈l.take (pos (aJ m) l),Lt (aJ x) (aJ m):=Aa;have hb:=EM h hh;refine⟨hup.1,?_,fun a ha' b hb'=> ?_⟩
 ·rw[al3,alJ,amv];refine amx.2 ⟨fun k hk=> ?_,hup.2.1⟩;obtain⟨x,hx,rfl⟩:=amb.1 hk;exact gN.2 (hb x hx)
 ·obtain⟨x,hx,rfl⟩:=amb.1 ha';rw[al3,alJ,amv]at hb';rcases alN.1 hb' with rfl|hb'
  ·exact gN.2 (ha x hx)
  ·obtain⟨x',hx',rfl⟩:=amb.1 hb';exact gN.2 (lt_trans (ha x hx) (hb x' hx'))
structure Nv(pre acc:List bS)(ks:List ByteArray):Prop where
 up:(acc.map aJ).Pairwise Less
 perm:ks.Perm (acc.map aJ)
 lab:∀a∈acc,pre.find? (fun m=>decide (m.1=aJ a))=some a
 all:∀m∈pre,aJ m∈acc.map aJ
theorem Nv.step{pre acc:List bS}{ks:List ByteArray}(h:Nv pre acc ks){m:bS}(hm:bV m=true):
  Nv (pre++ [m]) (qJ acc m) (if ks.any (fun x=>decide (x=aJ m))then ks else ks++ [aJ m]):=by
 have hc:ks.any (fun x=>decide (x=aJ m))=hit (aJ m) acc:=by
  rw[Bool.eq_iff_iff,Ei h.up,List.any_eq_true,←h.perm.mem_iff];constructor
  ·rintro⟨x,hx,e⟩;rw[←ali e];exact hx
  ·intro hx;exact⟨_,hx,akW rfl⟩
 rw[hc]
 have old:∀a∈acc,(pre++ [m]).find? (fun x=>decide (x.1=aJ a))=some a:=fun a ha=>by
  rw[List.find?_append,h.lab a ha];rfl
 cases hh:hit (aJ m) acc
 ·have e:qJ acc m=acc.take (pos (aJ m) acc)++ [m]++acc.drop (pos (aJ m) acc):=by unfold qJ;rw[if_pos ⟨hm,hh⟩]
  have hnot:aJ m∉acc.map aJ:=fun hk=>by rw[(Ei h.up).2 hk]at hh;cases hh
  rw[e];refine⟨aep h.up hh,?_,fun a ha=> ?_,fun x hx=> ?_⟩
  ·simp only[alo,if_false,alB,List.map_take,List.map_drop,al3,alJ];have p1:(ks++ [aJ m]).Perm (acc.map aJ++ [aJ m]):=h.perm.append_right _;refine p1.trans ?_
   conv=>lhs;rw[←amu (pos (aJ m) acc) (acc.map aJ)]
   rw[al7,al7];exact(List.perm_append_comm).append_left _
  ·simp only[alx,alV]at ha;rcases ha with(ha|rfl)|ha
   ·exact old a (List.mem_of_mem_take ha)
   ·rw[List.find?_append]
    have:pre.find? (fun x=>decide (x.1=aJ a))=none:=List.find?_eq_none.2 fun x hx=>by
     have:=h.all x hx;intro e;exact hnot (by rwa [show aJ x=aJ a from ali e]at this)
    rw[this];simp
   ·exact old a (List.mem_of_mem_drop ha)
  ·have hx':aJ x∈acc.map aJ∨x=m:=by
    rcases alx.1 hx with hx|hx
    ·exact .inl (h.all x hx)
    ·exact .inr (alV.1 hx)
   rcases hx' with hx'|rfl
   ·obtain⟨y,hy,e⟩:=amb.1 hx';rw[←amu (pos (aJ m) acc) acc,alx]at hy;refine amb.2 ⟨y,?_,e⟩;simp only[alx,alV];rcases hy with hy|hy
    ·exact .inl (.inl hy)
    ·exact .inr hy
   ·exact amb.2 ⟨x,by simp,rfl⟩
 ·have e:qJ acc m=acc:=by unfold qJ;rw[if_neg (by rw[hh];simp)]
  rw[e];refine⟨h.up,by simpa using h.perm,old,fun x hx=> ?_⟩;rcases alx.1 hx with hx|hx
  ·exact h.all x hx
  ·rw[alV.1 hx];exact(Ei h.up).1 hh
theorem Nv.run:∀(ms pre acc:List bS) (ks:List ByteArray),Nv pre acc ks→(∀m∈ms,bV m=true)→Nv (pre++ms) (ms.foldl qJ acc) (bT ms ks):=by
 intro ms
 induction ms with
 |nil=>intro pre acc ks h _;rw[alE];exact h
 |cons m r ih=>
  intro pre acc ks h hf;have:=ih (pre++ [m]) _ _ (h.step (hf m (by simp))) (fun x hx=>hf x (by simp[hx]));rw[al7]at this;exact this
theorem Ue:∀(ms acc:List bS),(ms.filter fun m=>bV m).foldl qJ acc=ms.foldl qJ acc:=by
 intro ms
 induction ms with
 |nil=>intro acc;rfl
 |cons m r ih=>
  intro acc;rw[List.filter_cons];by_cases h:bV m=true
  ·rw[if_pos h];exact ih _
  ·rw[if_neg h,ih];have e:qJ acc m=acc:=by unfold qJ;rw[if_neg (fun c=>h c.1)]
   show _=r.foldl qJ (qJ acc m)
   rw[e]
theorem Ww:∀(gs:List bG) (acc:List bS),(bW gs).foldl qJ acc=Ja gs acc:=by
 intro gs
 induction gs with
 |nil=>intro acc;rfl
 |cons g r ih=>
  intro acc;unfold bW Ja;rw[ams,List.foldl_append,List.foldl_cons];have:=Ue (aM g) acc;dsimp only[bV,aM]at this ⊢;rw[this];exact ih _
theorem Mv(gs:List bG):Nv (bW gs) (zZ gs) (bT (bW gs) []):=by
 have:=Nv.run (bW gs) [] [] [] ⟨List.Pairwise.nil,List.Perm.nil,fun a ha=>(by cases ha),fun m hm=>(by cases hm)⟩ (fun m hm=>by
  unfold bW at hm;obtain⟨g,_,hm⟩:=amC.1 hm;exact(am3.1 hm).2)
 rw[amD,Ww]at this;exact this
theorem TT(gs:List bG):pR gs=(zZ gs).map cO:=by
 have h:=Mv gs;unfold pR
 have p:((bT (bW gs) []).map (·.data.toList)).mergeSort (fun x y=>decide (x≤y))=((zZ gs).map aJ).map (·.data.toList):=by
  have e:=mergeSort_of_perm (h.perm.map (·.data.toList));refine e.trans (List.mergeSort_of_pairwise ?_)
  have:((zZ gs).map aJ).Pairwise (fun a b=>(Go.leB a.data.toList b.data.toList)=true):=h.up.imp fun {a b} hab=>by
   have:=YD (gN.1 hab);simp only[Go.leB,alM];exact List.le_of_lt this
  exact List.pairwise_map.2 this
 rw[p,amn,amn];refine alO fun a ha=> ?_
 show jD (bW gs) ⟨(aJ a).data.toList.toArray⟩=cO a
 have e:(⟨(aJ a).data.toList.toArray⟩:ByteArray)=aJ a:=rfl;rw[e];unfold jD;rw[h.lab a ha];rfl
abbrev gZ:=Int×Int×Int×ByteArray×List ByteArray×List ByteArray×Unit
def fM(p:bY)(n:Int):dw:=(p.1[n.toNat]?).getD (0,[],0,[],0,0,0,false,())
theorem kX{p:bY}{n:Int}{r:dw}(h:p.1[n.toNat]?=some r):fM p n=r:=by unfold fM;rw[h];rfl
def xw(p:bY)(now:Int)(g:bG):bG:=rT (EA g (fM p g.1) now p.2.2.1).2.1 (EA g (fM p g.1) now p.2.2.1).2.2
def xL(p:bY)(sl:List lW)(now:Int)(fs:List (List LT))(ms:List bS):List ByteArray:=ms.flatMap fun m=>bif (Hq (cO m) now sl).2||Am p.2.1 (cO m) fs then [aJ m]else []
def o7(p:bY)(sl:List lW)(now:Int)(fs:List (List LT))(g:bG):LkT:=mW g (fM p g.1) now (xL p sl now fs (aM g))
def jF(p:bY)(sl:List lW)(now:Int)(fs:List (List LT))(g:bG):bG:=rT (o7 p sl now fs g).2.1 (o7 p sl now fs g).2.2.2.1
def abS(x:LkT):gZ:=(x.2.2.1.1,x.2.2.1.2.1,x.2.2.1.2.2.1,x.2.2.1.2.2.2.1,x.2.2.2.2.1,x.2.2.2.2.2,())
def dZ(p:bY)(sl:List lW)(now:Int)(fs:List (List LT))(g:bG):List gZ:=bif (o7 p sl now fs g).1 then [abS (o7 p sl now fs g)]else []
def jH(p:bY)(s:InT)(now:Int):List bG:=(bq s).map (xw p now)
def iA(p:bY)(s:InT)(now:Int):List (List LT):=(zZ (jH p s now)).map cO
def xD(p:bY)(s:InT)(now:Int):List bG:=(jH p s now).map (jF p (dM s) now (iA p s now))
def kQ(p:bY)(s:InT)(now:Int):List gZ:=(jH p s now).flatMap (dZ p (dM s) now (iA p s now))
def uh(p:bY)(s:InT)(now:Int):InT:=(now,iQ p now (xD p s now),dM s,gy s,())
theorem rR(p:bY)(now:Int)(g:bG):(xw p now g).1=g.1∧(xw p now g).2.1=g.2.1:=by
 unfold xw EA;split<;>exact⟨rfl,rfl⟩
theorem jZ(p:bY)(sl:List lW)(now:Int)(fs:List (List LT))(g:bG):(jF p sl now fs g).1=g.1∧(jF p sl now fs g).2.1=g.2.1:=by
 unfold jF o7 mW;split
 ·exact⟨rfl,rfl⟩
 ·dsimp only;split<;>exact⟨rfl,rfl⟩
theorem FN{A B E F:Type}{f:A→Option (A⊕B)}(l:List E)(st:Nat→List E→List F→A)(h:E→E)(g:E→List F)(fin:List E→List F→B)(hg:∀e,(g e).length≤1)
  (h1:∀(i:Nat) (a:List E) (n:List F) (e:E),i<l.length→a.length=l.length→n.length≤i→e∈l→l[i]?=some e→a[i]?=some e→f (st i a n)=some (.inl (st (i+1) (a.set i (h e)) (n++g e))))
  (h2:∀(a:List E) (n:List F),a.length=l.length→f (st l.length a n)=some (.inr (fin a n))):aA f (st 0 l [])=some (fin (l.map h) (l.flatMap g)):=by
 have key:∀(d i:Nat) (a:List E) (n:List F),i+d=l.length→a=(l.take i).map h++l.drop i→n.length≤i→aA f (st i a n)=some (fin (l.map h) (n++(l.drop i).flatMap g)):=by
  intro d
  induction d with
  |zero=>
   intro i a n hi ha hn;obtain rfl:i=l.length:=by omega
   rw[amd,alZ,alE]at ha;rw[alZ,List.flatMap_nil,alE];subst ha;exact aB (h2 _ n (by simp))
  |succ d ih=>
   intro i a n hi ha hn;obtain⟨e,he,hd⟩:=drop_at (l:=l) (i:=i) (by omega);have hal:a.length=l.length:=by rw[ha];simp;omega
   have hml:((l.take i).map h).length=i:=by rw[ald,alv];omega
   have hae:a[i]?=some e:=by
    rw[ha,alm (by omega),hml,Nat.sub_self,hd];rfl
   rw[hd,ams,←al7,←ih (i+1) (a.set i (h e)) (n++g e) (by omega) ?_ (by have:=hg e;rw[alz];omega)]
   ·exact aD (h1 i a n e (by omega) hal hn (alb he) he hae)
   ·rw[ha,hd,List.set_append_right _ _ (by omega),hml,Nat.sub_self,gT he,alB,al7];rfl
 have:=key l.length 0 l [] (by omega) (by simp) (alj _);rw[al9,amD]at this;exact this
structure Ur(p:bY)(s:InT)(now:Int):Prop where
 len:(bq s).length≤65
 iX:La p (bq s)
 Ou:ML (dM s)
 rs:RSs p.2.1
 exp:0≤p.2.2.1∧p.2.2.1≤604800
 now:0≤now∧now≤8589934592
theorem Io(s:InT)(hl:(bq s).length≤1048576)(hs:∀g∈bq s,VG g)(hz:ML (dM s)):m64 ((s,()),())=some ((),(((cZ s,gy s,()),()),bq s,dM s,())):=by
 have hc:aag ((bq s,()),())=some ((),(bq s,())):=by
  unfold aag;rw[show decide ((bq s).length≤4294967296)=true from akW (by omega)];rfl
 have q:=YL (dM s) hz;have h:=FN (F:=Unit) (f:=DT) (bq s) (fun i a _=>(((i:Int),((bq s).length:Int),()),((cZ s,gy s,()),()),a,((0,0,()),()),dM s,())) id (fun _=> [])
  (fun a _=>((),((0,0,()),()),((cZ s,gy s,()),()),a,dM s,())) (fun _=>alD _) ?_ ?_
 ·rw[List.map_id]at h;unfold m64;refine aR _ hc ?_;refine aR _ q ?_;refine aR _ h rfl
 ·intro i a n e hi ha _ hm he hae;have hw:=aI (i:=i) (by omega);have c:=JJ (hs e hm);have hb:decide ((0:Int)≤(i:Int)∧(i:Int)<(a.length:Int))=true:=akW (by omega);have hb2:decide (i<a.length)=true:=akW (by omega);simp only[DT,eu hi,hb,hb2,akZ,hae,c,hw,cor,au,sS];rfl
 ·intro a n ha;simp only[DT,fZ,au,sS]
theorem Lp(p:bY)(s:InT)(now:Int)(h:Ur p s now)(x1 x2 z1 z2:Int):
  aA z8 (((0:Int),now,((bq s).length:Int),()),(p,()),((x1,x2,()),()),bq s,((z1,z2,()),()),dM s,())=
   some ((now,()),((x1,x2,()),()),(p,()),((z1,z2,()),()),jH p s now,dM s,()):=by
 have hl:=h.len;refine FN (F:=Unit) (f:=z8) (bq s) (fun i a _=>(((i:Int),now,((bq s).length:Int),()),(p,()),((x1,x2,()),()),a,((z1,z2,()),()),dM s,())) (xw p now) (fun _=> [])
  (fun a _=>((now,()),((x1,x2,()),()),(p,()),((z1,z2,()),()),a,dM s,())) (fun _=>alD _) ?_ ?_
 ·intro i a n e hi ha _ hm he hae;have hw:=aI (i:=i) (by omega);obtain⟨hv,r,hr,rr⟩:=h.iX e hm;have q:=ahw hv rr h.now h.exp;have hb:decide ((0:Int)≤(i:Int)∧(i:Int)<(a.length:Int))=true:=akW (by omega);have hb2:decide (i<a.length)=true:=akW (by omega);have hai:a[((i:Int)).toNat]?=some e:=by rw[akZ];exact hae
  unfold xw;rw[kX hr];simp only[z8,eu hi,hb,hai,aK,jT hv.rt hr,q,hw,au,sS];simp only[akZ,hb2,rT,au,sS]
 ·intro a n ha;simp only[z8,fZ,au,sS]
theorem OA(p:bY)(sl:List lW)(hsl:ML sl)(hrs:RSs p.2.1)(now:Int)(fs:List (List LT))(hf:FSs fs)(ms:List bS)(hl:ms.length≤256)(hm:∀m∈ms,xZ m)(blk:List bG)(x2:Int):
  aA Ar (((0:Int),fs,ms,(ms.length:Int),()),blk,sl,[],((now,x2,()),()),(p,()),())=some ((),blk,sl,xL p sl now fs ms,()):=by
 refine Te (f:=Ar) ms (fun i a=>(((i:Int),fs,ms,(ms.length:Int),()),blk,sl,a,((now,x2,()),()),(p,()),())) (fun m=>bif (Hq (cO m) now sl).2||Am p.2.1 (cO m) fs then [aJ m]else []) (fun a=>((),blk,sl,a,())) (by omega) (fun e=>by cases ((Hq (cO e) now sl).2||Am p.2.1 (cO e) fs)<;>simp) ?_ ?_
 ·intro i e a he hi ha;have hw:=aI (i:=i) (by omega);have q:=aaL p.2.1 hrs sl hsl (cO e) (Eh (hm e (alb he)).lab) fs hf now;have hs:∀x:ByteArray,decide (a.length+ [x].length≤4294967296)=true:=fun x=>QL (by omega) x
  dsimp only[cO,aJ]at q ⊢;simp only[Ar,aK,aF he,eu hi,q,au,sS];cases ((Hq e.2.1 now sl).2||Am p.2.1 e.2.1 fs)<;>simp only[hs,hw,alE,au,sS]
 ·intro a;simp only[Ar,fZ,au,sS]
theorem abR{p:bY}{l:List bG}(h:La p l)(f:bG→bG)(h1:∀g,(f g).1=g.1)(h2:∀g∈l,VG (f g)):La p (l.map f):=by
 intro g hg;obtain⟨x,hx,rfl⟩:=amb.1 hg;obtain⟨_,r,hr,rr⟩:=h x hx;exact⟨h2 x hx,r,by rw[h1];exact hr,rr⟩
theorem uM{p:bY}{s:InT}{now:Int}(h:Ur p s now):La p (jH p s now):=
 abR h.iX _ (fun g=>(rR p now g).1) (fun g hg=>by
  obtain⟨hv,r,hr,rr⟩:=h.iX g hg;unfold xw;rw[kX hr];exact adb hv rr _ h.now)
theorem AQ{p:bY}{s:InT}{now:Int}(h:Ur p s now):La p (xD p s now):=
 abR (uM h) _ (fun g=>(jZ p _ now _ g).1) (fun g hg=>aaf (uM h g hg).1 _ _ h.now)
theorem XR{gs:List bG}{m:bS}(h:m∈zZ gs):∃g∈gs,m∈aM g∧bV m=true:=by
 have:=(Mv gs).lab m h;have hm:=List.mem_of_find?_eq_some this;unfold bW at hm;obtain⟨g,hg,hm⟩:=amC.1 hm;exact⟨g,hg,(am3.1 hm).1,(am3.1 hm).2⟩
theorem Ua(gs:List bG)(h:∀g∈gs,VG g):(zZ gs).length≤gs.length*256:=by
 have key:∀(gs:List bG) (acc:List bS),(∀g∈gs,VG g)→(Ja gs acc).length≤acc.length+gs.length*256:=by
  intro gs
  induction gs with
  |nil=>intro acc _;simp[Ja]
  |cons g r ih=>
   intro acc h;have h1:=Ux (aM g) acc;have h2:=ih ((aM g).foldl qJ acc) (fun x hx=>h x (by simp[hx]));have h3:=(h g (by simp)).len
   show(Ja r ((aM g).foldl qJ acc)).length≤_
   rw[alI];omega
 have:=key gs [] h;simpa[zZ]using this
theorem YI{gs:List bG}(h:∀g∈gs,VG g)(hl:gs.length≤1000):FSs ((zZ gs).map cO):=by
 refine⟨?_,fun l hl=> ?_⟩
 ·have:=Ua gs h;rw[ald];unfold big;omega
 ·obtain⟨m,hm,rfl⟩:=amb.1 hl;obtain⟨g,hg,hm,_⟩:=XR hm;exact Eh ((h g hg).mem m hm).lab
theorem XB{gs:List bG}(h:∀g∈gs,VG g)(hl:gs.length≤1000):xB gs=true:=by
 unfold xB
 have h1:(gs.flatMap fun g=>g.2.2.1).length≤gs.length*256:=by
  clear hl
  induction gs with
  |nil=>simp
  |cons g r ih=>
   have:=ih (fun x hx=>h x (by simp[hx]));have h3:=(h g (by simp)).len;dsimp only[aM]at h3;rw[ams,alz,alI];omega
 simp only[alu,alM,alF];refine⟨by omega,alS h1 (by omega),fun g hg=>⟨?_,fun m hm=>⟨?_,?_⟩⟩⟩
 ·have:=(h g hg).len;dsimp only[aM]at this;omega
 ·have:=TW ((h g hg).mem m hm);dsimp only[aJ]at this;omega
 ·have:=(gQ ((h g hg).mem m hm).lab).1;dsimp only[cO]at this;omega
theorem RZ(p:bY)(sl:List lW)(now:Int)(fs:List (List LT))(ms:List bS):(xL p sl now fs ms).length≤ms.length:=by
 unfold xL
 induction ms with
 |nil=>simp
 |cons m r ih=>
  rw[ams,alz,alI]
  have:(bif (Hq (cO m) now sl).2||Am p.2.1 (cO m) fs then [aJ m]else []).length≤1:=by
   cases ((Hq (cO m) now sl).2||Am p.2.1 (cO m) fs)<;>simp
  omega
theorem Uv(p:bY)(sl:List lW)(hsl:ML sl)(hrs:RSs p.2.1)(now:Int)(hn:0≤now∧now≤8589934592)(fs:List (List LT))(hf:FSs fs)(gs:List bG)(hl:gs.length≤1000)(h:La p gs)(x2 z1 z2:Int):
  aA tK (((0:Int),fs,now,(gs.length:Int),()),[],((now,x2,()),()),(p,()),gs,((z1,z2,()),()),sl,())=
   some ((),((z1,z2,()),()),gs.flatMap (dZ p sl now fs),((now,x2,()),()),(p,()),gs.map (jF p sl now fs),sl,()):=by
 refine FN (f:=tK) gs (fun i a n=>(((i:Int),fs,now,(gs.length:Int),()),n,((now,x2,()),()),(p,()),a,((z1,z2,()),()),sl,())) (jF p sl now fs) (dZ p sl now fs)
  (fun a n=>((),((z1,z2,()),()),n,((now,x2,()),()),(p,()),a,sl,())) (fun e=>by unfold dZ;cases (o7 p sl now fs e).1<;>simp) ?_ ?_
 ·intro i a n e hi ha hni hm he hae;have hw:=aI (i:=i) (by omega);obtain⟨hv,r,hr,rr⟩:=h e hm;have q:=OA p sl hsl hrs now fs hf (aM e) hv.len hv.mem a x2;obtain⟨k,blk,q2,q3,q4⟩:=ae8 hv rr hn (mu:=xL p sl now fs (aM e)) (by have:=RZ p sl now fs (aM e);have:=hv.len;unfold big;omega);have hb:decide ((0:Int)≤(i:Int)∧(i:Int)<(a.length:Int))=true:=akW (by omega);have hb2:decide (i<a.length)=true:=akW (by omega);have hb3:decide (0+k≤blk.length)=true:=akW (by omega);have hai:a[((i:Int)).toNat]?=some e:=by rw[akZ];exact hae
  have hs:∀x:gZ,decide (n.length+ [x].length≤4294967296)=true:=fun x=>QL (by omega) x
  have e1:o7 p sl now fs e=mW e r now (xL p sl now fs (aM e)):=by unfold o7;rw[kX hr]
  unfold jF dZ abS;rw[e1];generalize mW e r now (xL p sl now fs (aM e))=L at q2 q4 ⊢;dsimp only[aM]at q q2;have hrow:∀{B:Type} (F:dw→Option B),sG p.1 e.1 F=F r:=fun F=>jT hv.rt hr F
  simp only[tK,eu hi,hb,hai,aK,au,sS];rw[hrow,q];simp only[eq_self,q2,hb,hb3,au,sS];cases hk:L.1<;>simp only[hs,hb2,hw,akZ,al9,q4,rT,alE,au,sS]
 ·intro a n ha;simp only[tK,fZ,au,sS]
theorem Fw(p:bY)(sl:List lW)(now x2:Int)(gs:List bG)(hl:gs.length≤1000)(h:La p gs):
  (aA rU (((0:Int),(gs.length:Int),()),gs,(p,()),((now,x2,()),()),sl,())=some (.inr ((),gs,(p,()),((now,x2,()),()),sl,()))∧iQ p now gs=gs)∨
  ∃j,j<gs.length∧aA rU (((0:Int),(gs.length:Int),()),gs,(p,()),((now,x2,()),()),sl,())=some (.inl (((j:Int),()),gs,(p,()),((now,x2,()),()),sl,()))∧(gs.take (j+1)).filter (fun g=> !jB p.1 now g)=gs.take j:=by
 refine TG (f:=rU) gs (fun g=> !jB p.1 now g) (fun i=>(((i:Int),(gs.length:Int),()),gs,(p,()),((now,x2,()),()),sl,())) (.inr ((),gs,(p,()),((now,x2,()),()),sl,())) (fun i=>.inl (((i:Int),()),gs,(p,()),((now,x2,()),()),sl,())) ?_ ?_
 ·intro i e he hi;have hw:=aI (i:=i) (by omega);have hb:decide ((0:Int)≤(i:Int)∧(i:Int)<(gs.length:Int))=true:=akW (by omega);have q:=h.idle (alb he) now;simp only[rU,eu hi,hb,akZ,he,q,eq_self,au,sS];cases jB p.1 now e<;>simp only[hw,al2,aly,au,sS]
 ·simp only[rU,fZ,au,sS]
theorem C8(p:bY)(sl:List lW)(now x2:Int)(gs:List bG)(hl:gs.length≤1000)(h:La p gs):∀(d src dst:Nat) (blk:List bG),src+d=gs.length→dst<src→blk.length=gs.length→
  blk.take dst=(gs.take src).filter (fun g=> !jB p.1 now g)→blk.drop src=gs.drop src→
  ∃(dst':Nat) (blk':List bG),aA wE (((src:Int),(dst:Int),()),blk,(p,()),((now,x2,()),()),sl,())=some (((dst':Int),()),blk',(p,()),((now,x2,()),()),sl,())∧dst'≤gs.length∧blk'.length=gs.length∧blk'.take dst'=iQ p now gs:=by
 refine Pp (f:=wE) gs (fun g=> !jB p.1 now g) (fun src dst blk=>(((src:Int),(dst:Int),()),blk,(p,()),((now,x2,()),()),sl,())) (fun dst blk=>(((dst:Int),()),blk,(p,()),((now,x2,()),()),sl,())) ?_ ?_
 ·intro src dst blk e h1 h2 h3 he hm;have c1:decide ((src:Int)<((blk.length:Nat):Int))=true:=akW (by omega);have c2:decide ((0:Int)≤(src:Int)∧(src:Int)<(blk.length:Int))=true:=akW (by omega);have c3:decide ((0:Int)≤(dst:Int)∧(dst:Int)<(blk.length:Int))=true:=akW (by omega);have c4:decide (dst<blk.length)=true:=akW (by omega);have w1:aS ((src:Int)+1)=((src+1:Nat):Int):=aI (by omega);have w2:aS ((dst:Int)+1)=((dst+1:Nat):Int):=aI (by omega);have q:=h.idle hm now;simp only[wE,c1,c2,akZ,he,q,eq_self,au,sS];cases jB p.1 now e<;>simp only[c3,c4,w1,w2,al2,aly,au,sS]
 ·intro dst blk h3;have:decide ((gs.length:Int)<((blk.length:Nat):Int))=false:=akY (by omega);simp only[wE,this,au,sS]
theorem Dw{A:Type}(l x:List A)(k:Nat)(h:k≤l.length):(cK l k x).take k=l.take k:=by
 unfold cK;rw[al7,List.take_append_of_le_length (by rw[alv];omega),List.take_take,Nat.min_self]
theorem FX{A:Type}(l:List A)(z:A)(k:Nat)(h:k≤l.length):(cK l k (List.replicate (l.length-k) z)).length=l.length:=by
 unfold cK;simp;omega
def Fp(p:bY)(s:InT)(now:Int)(o:Option (Unit×((Int×(Nat×Nat)×Int×Unit)×Unit)×List gZ×List bG×List lW×Unit)):Prop:=
 ∃(n:Nat) (blk:List bG),o=some ((),((now,(0,n),gy s,()),()),kQ p s now,blk,dM s,())∧n≤blk.length∧blk.take n=iQ p now (xD p s now)
theorem Jh{p:bY}{s:InT}{now:Int}{A:Type}{o:Option A}{f:A→Option (Unit×((Int×(Nat×Nat)×Int×Unit)×Unit)×List gZ×List bG×List lW×Unit)}(x:A)(h:o=some x)(h2:Fp p s now (f x)):Fp p s now (o.bind f):=by
 rw[h];exact h2
theorem aeo{p:bY}{s:InT}{now:Int}(h:Ur p s now):Fp p s now (m75 ((p,s,now,()),())):=by
 have hl:=h.len;have hv:∀g∈bq s,VG g:=fun g hg=>(h.iX g hg).1
 have g1:=uM h;have g2:=AQ h;have l1:(jH p s now).length=(bq s).length:=ald ..;have l2:(xD p s now).length=(bq s).length:=(ald ..).trans l1;have hv1:∀g∈jH p s now,VG g:=fun g hg=>(g1 g hg).1
 have q1:=Io s (by omega) hv h.Ou;have q2:=Lp p s now h now (gy s) 0 0;have q3:=Uv p (dM s) h.Ou h.rs now h.now (iA p s now) (YI hv1 (by omega)) (jH p s now) (by omega) g1 (gy s) 0 0;have hfe:pR (jH p s now)=iA p s now:=TT _;have hfb:=XB hv1 (by omega);unfold m75;refine Jh _ q1 ?_;refine Jh _ q2 ?_;simp only[hfb,hfe,eq_self,au,sS];refine Jh _ q3 ?_;have t2:(jH p s now).map (jF p (dM s) now (iA p s now))=xD p s now:=rfl;have tn:(jH p s now).flatMap (dZ p (dM s) now (iA p s now))=kQ p s now:=rfl;rw[t2,tn];unfold Fp;generalize xD p s now=G at g2 l2 ⊢;rcases Fw p (dM s) now (gy s) G (by omega) g2 with⟨e,hf⟩|⟨j,hj,e,hf⟩
 ·rw[e];simp only[eq_self,amg,au,sS];exact⟨G.length,G,rfl,alj _,by rw[amd,hf]⟩
 ·have bj:((j:Int)== -1)=false:=als.2 (by omega);have wj:aS ((j:Int)+1)=((j+1:Nat):Int):=aI (by omega);rw[e];simp only[eq_self,bj,wj,au,sS];obtain⟨dst,blk,e2,h3,h4,h5⟩:=C8 p (dM s) now (gy s) G (by omega) g2 (G.length-(j+1)) (j+1) j G (by omega) (by omega) rfl hf.symm rfl;rw[e2];have c1:decide ((0:Int)≤(dst:Int))=true:=akW (by omega);have c2:decide (dst≤blk.length∧blk.length≤blk.length)=true:=akW ⟨by omega,alj _⟩;have c3:decide (dst+(blk.length-dst)≤blk.length)=true:=akW (by omega);have hz:∀z:bG,(cK blk dst (List.replicate (blk.length-dst) z)).length=blk.length:=fun z=>FX blk z dst (by omega)
  have c4:∀z:bG,decide (0≤dst∧dst≤(cK blk dst (List.replicate (blk.length-dst) z)).length)=true:=fun z=>akW ⟨alD _,by rw[hz];omega⟩
  have c5:∀z:bG,decide ((cK blk dst (List.replicate (blk.length-dst) z)).length=G.length)=true:=fun z=>akW (by rw[hz];omega)
  simp only[c1,c2,c3,c4,c5,akZ,eq_self,au,sS];exact⟨dst,_,rfl,by rw[hz];omega,(Dw blk _ dst (by omega)).trans h5⟩
structure VI(p:bY)(s:InT):Prop where
 iN:xA p=0
 now:0≤cZ s∧cZ s≤8589934592
 len:(bq s).length≤64
 Ou:Kz (dM s)=0
 next:1≤gy s
 ids:∀x∈dM s,x.1<gy s
 rT:y9 (yR p (cZ s)) none (bq s)=true
theorem Jo{p:bY}{s:InT}:yc p s=true↔VI p s:=by
 unfold yc inst;simp only[alu,alM,alF];exact⟨fun⟨a,b,c,d,e,f,g⟩=>⟨a,b,c,d,e,f,g⟩,fun h=>⟨h.iN,h.now,h.len,h.Ou,h.next,h.ids,h.rT⟩⟩
theorem VI.iX{p:bY}{s:InT}(h:VI p s)(hp:wF p)(hs:tF s):La p (bq s):=by
 intro g hg;obtain⟨hv,_⟩:=hs.rT g hg;obtain⟨q,hb⟩:=Ef h.rT g hg;unfold yR at hb;simp only[alW,amk]at hb;obtain⟨r,hr⟩:=MO hv hb.1;exact⟨hv,r,hr,F4 hp.rt (gP h.iN).1 r (alb hr)⟩
theorem VI.tk{p:bY}{s:InT}(h:VI p s)(hp:wF p)(hs:tF s){now:Int}(hn:0≤now∧now≤8589934592):Ur p s now:=
 ⟨by have:=h.len;omega,h.iX hp hs,hs.Ou,hp.rs,⟨(gP h.iN).2.2.1,(gP h.iN).2.2.2⟩,hn⟩
theorem adE(s:InT)(t:Int):m67 ((s,t,()),())=some ((K3 (cZ s) t,()),()):=by
 unfold m67 K3;by_cases h1:t<s.1
 ·simp[h1]
 ·by_cases h2:t>8589934592<;>simp[h1,h2]
theorem wW{now t:Int}(h:K3 now t=0)(h0:0≤now):0≤t∧t≤8589934592∧now≤t:=by
 unfold K3 at h;split at h
 ·cases h
 ·split at h
  ·cases h
  ·omega
abbrev LG(a:bG)(rt:Int)(k:ByteArray):Prop:=a.1<rt∨(a.1=rt∧Lt a.2.1 k)
theorem yB{a:bG}{rt:Int}{k:ByteArray}:kC a rt k=true↔LG a rt k:=by
 unfold kC LG Lt;simp
theorem Gg{a b:bG}{rt:Int}{k:ByteArray}(h:LG a b.1 b.2.1)(h2:LG b rt k):LG a rt k:=by
 rcases h with h|⟨h,h'⟩<;>rcases h2 with h2|⟨h2,h2'⟩
 ·exact .inl (by omega)
 ·exact .inl (by omega)
 ·exact .inl (by omega)
 ·exact .inr ⟨by omega,lt_trans h' h2'⟩
theorem Gl{a:bG}:¬ LG a a.1 a.2.1:=by
 rintro(h|⟨_,h⟩)
 ·omega
 ·exact mg _ h
def Ee(gs:List bG):Prop:=gs.Pairwise fun a b=>LG a b.1 b.2.1
theorem ql{p:bY}{now:Int}:∀{gs:List bG} {q:Option bG},y9 (yR p now) q gs=true→Ee gs∧∀a,q=some a→∀b∈gs,LG a b.1 b.2.1
 | [],_,_=>⟨List.Pairwise.nil,fun _ _ b hb=>by cases hb⟩
 |g::r,q,h=>by
  unfold y9 at h;rw[alu]at h;obtain⟨h1,h2⟩:=h;obtain⟨u1,u2⟩:=ql h2;have h1:yR p now q g=false:=by simpa using h1
  refine⟨amx.2 ⟨u2 g rfl,u1⟩,fun a ha b hb=> ?_⟩;subst ha;unfold yR at h1;simp only[alW,Bool.not_eq_false']at h1;have hag:=yB.1 h1.2.2.1;rcases alN.1 hb with rfl|hb
  ·exact hag
  ·exact Gg hag (u2 g rfl b hb)
def ic(rt:Int)(k:ByteArray):List bG→Nat
 | []=>0
 |g::r=>if kC g rt k=true then ic rt k r+1 else 0
def zi(rt:Int)(k:ByteArray)(gs:List bG):Bool:=match gs[ic rt k gs]? with|some g=>decide (g.1=rt)&&decide (g.2.1=k)|none=>false
theorem Kq(rt:Int)(k:ByteArray):∀gs:List bG,ic rt k gs≤gs.length
 | []=>alj _
 |g::r=>by
  unfold ic;split
  ·have:=Kq rt k r;simp;omega
  ·exact alD _
theorem Kr{rt:Int}{k:ByteArray}:∀{gs:List bG} {i:Nat},i≤gs.length→(∀(j:Nat) g,j<i→gs[j]?=some g→kC g rt k=true)→(∀(j:Nat) g,i≤j→gs[j]?=some g→kC g rt k=false)→ic rt k gs=i
 | [],i,h,_,_=>by simp at h;subst h;rfl
 |g::r,0,_,_,h2=>by
  unfold ic;rw[if_neg (by rw[h2 0 g (alj _) rfl];simp)]
 |g::r,i+1,h,h1,h2=>by
  unfold ic;rw[if_pos (h1 0 g (by omega) rfl),Kr (i:=i) (by simpa using h) (fun j x hj hx=>h1 (j+1) x (by omega) (by simpa using hx)) (fun j x hj hx=>h2 (j+1) x (by omega) (by simpa using hx))]
theorem Il{rt:Int}{k:ByteArray}:∀{gs:List bG} {j:Nat} {g:bG},j<ic rt k gs→gs[j]?=some g→kC g rt k=true
 | [],j,g,h,_=>by simp[ic]at h
 |x::r,j,g,h,hg=>by
  unfold ic at h;split at h
  ·rename_i hx
   cases j with
   |zero=>simp at hg;subst hg;exact hx
   |succ j=>exact Il (gs:=r) (j:=j) (by omega) (by simpa using hg)
  ·omega
theorem Q5{rt:Int}{k:ByteArray}:∀{gs:List bG} {g:bG},gs[ic rt k gs]?=some g→kC g rt k=false
 | [],g,h=>by simp at h
 |x::r,g,h=>by
  unfold ic at h;split at h
  ·exact Q5 (gs:=r) (by simpa using h)
  ·rename_i hx;simp at h;subst h;simpa using hx
theorem Qp(a:bG)(rt:Int)(k:ByteArray):(rV a rt k==0)=(decide (a.1=rt)&&decide (a.2.1=k)):=by
 unfold rV;by_cases h:a.1=rt
 ·rw[if_pos h,akW h,alL];by_cases hk:a.2.1=k
  ·rw[wK.2 hk,akW hk];rfl
  ·rw[akY hk];exact als.2 (fun e=>hk (wK.1 e))
 ·rw[if_neg h,akY h,amh];exact als.2 (by omega)
def GSm(gs:List bG):Prop:=∀g∈gs,0≤g.1∧g.1≤1048576
theorem bsearch(gs:List bG)(hl:gs.length≤1000)(hs:GSm gs)(hu:Ee gs)(rt:Int)(hr:0≤rt∧rt≤1048576)(k:ByteArray):
  aA rM ((k,(gs.length:Int),0,(gs.length:Int),()),gs,(rt,()),())=some ((k,(ic rt k gs:Int),(gs.length:Int),()),gs,(rt,()),()):=by
 have hup:=List.pairwise_iff_getElem.1 hu
 have mono:∀(a b:Nat) (x y:bG),gs[a]?=some x→gs[b]?=some y→a≤b→kC x rt k=false→kC y rt k=false:=by
  intro a b x y ha hb hab hx;by_cases e:a=b
  ·subst e;rw[ha]at hb;injection hb with hb;subst hb;exact hx
  ·obtain⟨h1,h1'⟩:=akX.1 ha;obtain⟨h2,h2'⟩:=akX.1 hb;have:=hup a b h1 h2 (by omega);rw[h1',h2']at this;cases hy:kC y rt k
   ·rfl
   ·rw[yB.2 (Gg this (yB.1 hy))]at hx;cases hx
 have go:∀(d lo hi:Nat),hi-lo≤d→lo≤hi→hi≤gs.length→(∀(j:Nat) g,j<lo→gs[j]?=some g→kC g rt k=true)→(∀(j:Nat) g,hi≤j→gs[j]?=some g→kC g rt k=false)→
   aA rM ((k,(hi:Int),(lo:Int),(gs.length:Int),()),gs,(rt,()),())=some ((k,(ic rt k gs:Int),(gs.length:Int),()),gs,(rt,()),()):=by
  intro d
  induction d with
  |zero=>
   intro lo hi h0 h1 h2 h3 h4;have:lo=hi:=by omega
   subst this;rw[Kr h2 h3 h4];refine aB ?_;simp only[rM,fZ,au,sS]
  |succ d ih=>
   intro lo hi h0 h1 h2 h3 h4;by_cases hlt:lo<hi
   ·have hm:=half lo hi (by omega);have hmid:(lo+hi)/ 2<gs.length:=by omega
    obtain⟨e,he⟩:=getD_some hmid;have dl:decide ((lo:Int)<(hi:Int))=true:=akW (by omega);have d1:decide ((0:Int)≤1)=true:=rfl;have d2:decide ((0:Int)≤(((lo+hi)/ 2:Nat):Int)∧(((lo+hi)/ 2:Nat):Int)<(gs.length:Int))=true:=akW (by omega);have hw:aS ((((lo+hi)/ 2:Nat):Int)+1)=(((lo+hi)/ 2+1:Nat):Int):=aI (by omega);have q:=O3 e rt k (hs e (alb he)) hr;cases hc:kC e rt k
    ·have dc:decide (rV e rt k<0)=false:=by rw[BH,hc]
     rw[←ih lo ((lo+hi)/ 2) (by omega) (by omega) (by omega) h3 (fun j m hj hjm=>mono _ j e m he hjm hj hc)];refine aD ?_;simp only[rM,dl,d1,hm,d2,akZ,he,q,dc,au,sS]
    ·have dc:decide (rV e rt k<0)=true:=by rw[BH,hc]
     rw[←ih ((lo+hi)/ 2+1) hi (by omega) (by omega) h2 (fun j m hj hjm=>by
      cases hx:kC m rt k
      ·exact absurd (mono j _ m e hjm he (by omega) hx) (by rw[hc];simp)
      ·rfl) h4]
     refine aD ?_;simp only[rM,dl,d1,hm,d2,akZ,he,q,dc,hw,au,sS]
   ·have:lo=hi:=by omega
    subst this;rw[Kr h2 h3 h4];refine aB ?_;simp only[rM,fZ,au,sS]
 exact go _ 0 gs.length (alj _) (alD _) (alj _) (fun j m hj=>by omega) (fun j m hj hjm=>by
  have:=(akX.1 hjm).1;omega)
def newG(rt:Int)(k:ByteArray):bG:=(rt,k,[],-1,-1,())
def mD(p:bY)(a:kM)(i:Nat):ByteArray:=xq (fM p i) a.2.1
def Sr(p:bY)(a:kM)(gs:List bG)(i:Nat):List bG:=
 if zi i (mD p a i) gs=true then gs else gs.take (ic i (mD p a i) gs)++ [newG i (mD p a i)]++gs.drop (ic i (mD p a i) gs)
def NM(p:bY)(a:kM)(gs:List bG)(i:Nat):Int×Qf×List bS:=
 fq (((Sr p a gs i)[ic i (mD p a i) gs]?).getD (newG 0 ByteArray.empty)) (fM p i) a.2.1 a.2.2.1 a.1
def mO(p:bY)(a:kM)(gs:List bG)(i:Nat):Option (List bG):=
 if zi i (mD p a i) gs=false∧a.2.2.1=false then some gs
 else if(NM p a gs i).1≠0 then none else some ((Sr p a gs i).set (ic i (mD p a i) gs) (rT (NM p a gs i).2.1 (NM p a gs i).2.2))
theorem Kk{rt:Int}(k:ByteArray)(h:0≤rt):VG (newG rt k):=⟨alD _,h,⟨by show(-1:Int)≤ -1;omega,by show(-1:Int)≤8589934592;omega⟩,⟨by show(-1:Int)≤ -1;omega,by show(-1:Int)≤8589934592;omega⟩,fun m hm=>(by cases hm),List.Pairwise.nil⟩
structure rX(p:bY)(gs:List bG)(n:Nat):Prop where
 iX:La p gs
 up:Ee gs
 len:gs.length≤n
theorem rX.small{p:bY}{gs:List bG}{n:Nat}(h:rX p gs n)(hp:p.1.length≤24):GSm gs:=by
 intro g hg;obtain⟨hv,r,hr,_⟩:=h.iX g hg;have h1:=hv.rt;have:=(akX.1 hr).1;exact⟨h1,by omega⟩
theorem yU(p:bY)(a:kM)(gs:List bG)(i:Nat):∃g,(Sr p a gs i)[ic i (mD p a i) gs]?=some g∧g.1=i∧g.2.1=mD p a i∧(g∈gs∨g=newG i (mD p a i)):=by
 unfold Sr;cases hh:zi i (mD p a i) gs
 ·rw[if_neg (by simp)];refine⟨newG i (mD p a i),?_,rfl,rfl,.inr rfl⟩;have hle:=Kq i (mD p a i) gs;rw[al7,alm (by rw[alv];omega),alv,show ic i (mD p a i) gs-min (ic i (mD p a i) gs) gs.length=0 by omega];rfl
 ·rw[if_pos rfl];unfold zi at hh
  cases hg:gs[ic i (mD p a i) gs]? with
  |none=>rw[hg]at hh;cases hh
  |some g=>
   rw[hg]at hh;simp only[alu,alM]at hh;exact⟨g,rfl,hh.1,hh.2,.inl (alb hg)⟩
theorem zB{g:bG}{r:dw}{l:List LT}{on:Bool}{t:Int}(h:(fq g r l on t).1=0):(fq g r l on t).2.1.1=g.1∧(fq g r l on t).2.1.2.1=g.2.1:=by
 unfold fq at h ⊢;dsimp only at h ⊢;by_cases hh:hit (bF (aW l)) (aM g)=true
 ·rw[if_pos hh]at h ⊢;obtain⟨m,hm,_⟩:=oz hh;rw[hm]at h ⊢;dsimp only at h ⊢;split
  ·exact⟨rfl,rfl⟩
  ·split
   ·exact⟨rfl,rfl⟩
   ·split<;>exact⟨rfl,rfl⟩
 ·rw[if_neg hh]at h ⊢;split
  ·rename_i hon;rw[if_pos hon]at h;split
   ·rename_i hl;rw[if_pos hl]at h;cases h
   ·exact⟨rfl,rfl⟩
  ·exact⟨rfl,rfl⟩
theorem UW{gs:List bG}(hu:Ee gs)(rt:Int)(k:ByteArray)(hh:zi rt k gs=false):Ee (gs.take (ic rt k gs)++ [newG rt k]++gs.drop (ic rt k gs)):=by
 have hu':=hu;unfold Ee at hu' ⊢;rw[al7,List.pairwise_append];rw[←amu (ic rt k gs) gs,List.pairwise_append]at hu'
 have ha:∀x∈gs.take (ic rt k gs),LG x rt k:=fun x hx=>by
  obtain⟨j,hj,rfl⟩:=List.mem_take_iff_getElem.1 hx;exact yB.1 (Il (j:=j) (by omega) (alh _))
 have hb:∀x∈gs.drop (ic rt k gs),LG (newG rt k) x.1 x.2.1:=fun x hx=>by
  have hnot:∀y,gs[ic rt k gs]?=some y→LG (newG rt k) y.1 y.2.1:=fun y hy=>by
   have h1:=Q5 hy;unfold zi at hh;rw[hy]at hh;simp only[Bool.and_eq_false_iff,amk]at hh;have h2:¬ LG y rt k:=fun h=>by rw[yB.2 h]at h1;cases h1
   unfold LG at h2 ⊢
   show rt<y.1∨(rt=y.1∧Lt k y.2.1)
   by_cases e:y.1=rt
   ·rcases hh with hh|hh
    ·exact absurd e hh
    ·rcases Jr k y.2.1 with h|h|h
     ·exact .inr ⟨e.symm,h⟩
     ·exact absurd h.symm hh
     ·exact absurd (.inr ⟨e,h⟩) h2
   ·exact .inl (by
     have:¬ y.1<rt:=fun h=>h2 (.inl h)
     omega)
  obtain⟨j,hj,rfl⟩:=List.mem_drop_iff_getElem.1 hx;have hil:ic rt k gs<gs.length:=by omega
  have h0:=hnot _ (alh hil);by_cases e:j=0
  ·subst e;exact h0
  ·have:=(List.pairwise_iff_getElem.1 hu) (ic rt k gs) (ic rt k gs+j) hil (by omega) (by omega);exact Gg h0 this
 refine⟨hu'.1,?_,fun x hx y hy=> ?_⟩
 ·rw[amv];exact amx.2 ⟨hb,hu'.2.1⟩
 ·rw[amv]at hy;rcases alN.1 hy with rfl|hy
  ·exact ha x hx
  ·exact hu'.2.2 x hx y hy
theorem aeb{gs:List bG}(hu:Ee gs){i:Nat}{g x:bG}(hg:gs[i]?=some g)(h1:x.1=g.1)(h2:x.2.1=g.2.1):Ee (gs.set i x):=by
 unfold Ee at hu ⊢;rw[List.pairwise_iff_getElem]at hu ⊢;obtain⟨hil,hig⟩:=akX.1 hg
 have rd:∀(j:Nat) (hj:j<(gs.set i x).length),(gs.set i x)[j].1=(gs[j]'(by simpa using hj)).1∧(gs.set i x)[j].2.1=(gs[j]'(by simpa using hj)).2.1:=by
  intro j hj;rw[List.getElem_set];split
  ·rename_i e;subst e;rw[hig];exact⟨h1,h2⟩
  ·exact⟨rfl,rfl⟩
 intro a b ha hb hab;have:=hu a b (by simpa using ha) (by simpa using hb) hab;unfold LG at this ⊢;rw[(rd a ha).1,(rd a ha).2,(rd b hb).1,(rd b hb).2];exact this
theorem wP{p:bY}{a:kM}{gs gs':List bG}{n i:Nat}(h:rX p gs n)(hi:∃r,p.1[i]?=some r∧RR r)(hl:bD a.2.1=true)(ht:0≤a.1∧a.1≤8589934592)(e:mO p a gs i=some gs'):rX p gs' (n+1):=by
 obtain⟨r,hr,rr⟩:=hi;unfold mO at e;split at e
 ·cases e;exact⟨h.iX,h.up,alS h.len (Nat.le_succ n)⟩
 ·split at e
  ·cases e
  ·rename_i h0;simp only[ne_eq,Decidable.not_not]at h0;cases e;obtain⟨g,hg,g1,g2,hm⟩:=yU p a gs i;have hre:fM p ((i:Nat):Int)=r:=kX (by rw[akZ];exact hr)
   have hv:VG g:=by
    rcases hm with hm|rfl
    ·exact(h.iX g hm).1
    ·exact Kk _ (by omega)
   have ha:NM p a gs i=fq g r a.2.1 a.2.2.1 a.1:=by unfold NM;rw[hg,hre];rfl
   rw[ha]at h0 ⊢;obtain⟨k1,k2⟩:=zB h0;have hx:VG (rT (fq g r a.2.1 a.2.2.1 a.1).2.1 (fq g r a.2.1 a.2.2.1 a.1).2.2):=adT hv rr hl _ ht
   have inv:rX p (Sr p a gs i) (n+1):=by
    unfold Sr;cases hh:zi i (mD p a i) gs
    ·rw[if_neg (by simp)];refine⟨fun x hx=> ?_,UW h.up _ _ hh,?_⟩
     ·simp only[alx,alV]at hx;rcases hx with(hx|rfl)|hx
      ·exact h.iX x (List.mem_of_mem_take hx)
      ·exact⟨Kk _ (by omega),r,by show p.1[((i:Nat):Int).toNat]?=some r;rw[akZ];exact hr,rr⟩
      ·exact h.iX x (List.mem_of_mem_drop hx)
     ·have:=h.len;simp only[alz,alv,alH,List.length_singleton];omega
    ·rw[if_pos rfl];exact⟨h.iX,h.up,alS h.len (Nat.le_succ n)⟩
   refine⟨fun x hx'=> ?_,aeb inv.up hg k1 k2,by rw[alU];exact inv.len⟩;rcases mem_set hx' with hx'|rfl
   ·exact inv.iX x hx'
   ·exact⟨hx,r,by
     show p.1[((fq g r a.2.1 a.2.2.1 a.1).2.1.1).toNat]?=some r
     rw[k1,g1,akZ];exact hr,rr⟩
structure Pj(p:bY)(a:kM)(gs:List bG)(i:Nat):Prop where
 inv:rX p gs 1000
 rl:p.1.length≤24
 rt:∃r,p.1[i]?=some r∧RR r
 lab:bD a.2.1=true
 at':0≤a.1∧a.1≤8589934592
theorem Pj.key{p:bY}{a:kM}{gs:List bG}{i:Nat}(h:Pj p a gs i){r:dw}(hr:p.1[i]?=some r)(rr:RR r):
  m69 ((r,a.2.1,()),())=some ((mD p a i,()),())∧m20 ((r,a.2.1,()),())=some ((mD p a i,()),()):=by
 have hre:fM p ((i:Nat):Int)=r:=kX (by rw[akZ];exact hr);unfold mD;rw[hre];exact⟨XG r a.2.1 (oh h.lab) rr.z.2.1,Vw r a.2.1 (oh h.lab) rr.z.2.1⟩
theorem O9{p:bY}{a:kM}{gs:List bG}{i:Nat}(h:Pj p a gs i)(hl:gs.length≤900)(l:List Nat)(q:Nat)(hq:l[q]?=some i)(hll:l.length≤1000)(now next:Int)(sl:List lW):
  wD (((q:Int),(l.length:Int),()),((0,0,()),()),((now,next,()),()),(a,()),(p,()),ints l,gs,sl,())=
   some (match mO p a gs i with
    |some gs'=>.inl ((((q+1:Nat):Int),(l.length:Int),()),((0,0,()),()),((now,next,()),()),(a,()),(p,()),ints l,gs',sl,())
    |none=>.inr (.inl ((5,()),((0,0,()),()),()))):=by
 obtain⟨r,hr,rr⟩:=h.rt;have hql:=(akX.1 hq).1;have hil:=(akX.1 hr).1;have hrl:=h.rl;have il:(ints l).length=l.length:=by simp[ints]
 have hqi:(ints l)[((q:Int)).toNat]?=some (i:Int):=by rw[akZ];simp[ints,hq]
 have b1:decide ((0:Int)≤(q:Int)∧(q:Int)<((ints l).length:Int))=true:=akW (by rw[il];omega);have hw:=aI (i:=q) (by omega);have hk:=(h.key hr rr).1;have hbs:=bsearch gs (by omega) (h.inv.small h.rl) h.inv.up (i:Int) ⟨by omega,by omega⟩ (mD p a i);obtain⟨g,hg,g1,g2,hm⟩:=yU p a gs i;have hre:fM p ((i:Nat):Int)=r:=kX (by rw[akZ];exact hr)
 have hv:VG g:=by
  rcases hm with hm|rfl
  ·exact(h.inv.iX g hm).1
  ·exact Kk _ (by omega)
 have hadd:=agV hv rr h.lab a.2.2.1 h.at';have ha:NM p a gs i=fq g r a.2.1 a.2.2.1 a.1:=by unfold NM;rw[hg,hre];rfl
 have hri:p.1[((i:Int)).toNat]?=some r:=by rw[akZ];exact hr
 have hrow:∀{B:Type} (F:dw→Option B),sG p.1 (i:Int) F=F r:=fun F=>jT (by omega) hri F
 have hple:=Kq (i:Int) (mD p a i) gs;have hx0:zi i (mD p a i) gs=match gs[ic i (mD p a i) gs]? with|some g=>decide (g.1=(i:Int))&&decide (g.2.1=mD p a i)|none=>false:=rfl
 have hsm:=h.inv.small h.rl;unfold mO;rw[ha];unfold Sr at hg ⊢;generalize mD p a i=k at *;generalize hP:ic (i:Int) k gs=P at *;unfold wD;simp only[eu hql,b1,hqi,aK,hrow,au,sS];simp only[hk,hbs,au,sS]
 have key:∀{B:Type} (F:((Int×Bool×Unit)×(List bG×(Int×Unit)×Unit))→Option B),
   ((bif decide ((P:Int)<(gs.length:Int))then(bif decide ((0:Int)≤(P:Int)∧(P:Int)<(gs.length:Int))then
     (gs[((P:Int)).toNat]?).bind fun e285=>(m84 ((e285,(i:Int),k,()),())).bind fun u286=>some (((P:Int),(u286.1.1==0),()),(gs,((i:Int),()),()))
     else none)else some (((P:Int),false,()),(gs,((i:Int),()),())):Option ((Int×Bool×Unit)×(List bG×(Int×Unit)×Unit))).bind F)=F (((P:Int),zi i k gs,()),(gs,((i:Int),()),())):=by
  intro B F;rw[hx0];by_cases hpl:P<gs.length
  ·obtain⟨e,he⟩:=getD_some hpl;have d1:decide ((P:Int)<(gs.length:Int))=true:=akW (by omega);have d2:decide ((0:Int)≤(P:Int)∧(P:Int)<(gs.length:Int))=true:=akW (by omega);have q84:=O3 e (i:Int) k (hsm e (alb he)) ⟨by omega,by omega⟩;simp only[d1,d2,akZ,he,q84,Qp,au,sS]
  ·have d1:decide ((P:Int)<(gs.length:Int))=false:=akY (by omega);rw[show gs[P]?=none from ama (by omega)];simp only[d1,au,sS]
 rw[key];simp only[eq_self,au,sS];have hgP:(if zi (i:Int) k gs=true then gs else List.take P gs++ [newG (i:Int) k]++List.drop P gs)[((P:Int)).toNat]?=some g:=by rw[akZ];exact hg
 have hlenG:P<(if zi (i:Int) k gs=true then gs else List.take P gs++ [newG (i:Int) k]++List.drop P gs).length:=(akX.1 hg).1;have c1:∀z:bG,decide ((0:Int)≤(P:Int)∧(P:Int)≤(gs.length:Int)∧gs.length≤4294967295∧ [z].length=1)=true:=fun z=>akW ⟨by omega,by omega,by omega,rfl⟩
 cases hh:zi (i:Int) k gs
 ·cases hf:a.2.2.1
  ·simp only[hw,if_true,and_self,aly,au,sS]
  ·rw[hh]at hgP hlenG;simp only[alo,if_false]at hgP hlenG;have c2:decide ((0:Int)≤(P:Int)∧(P:Int)<((List.take P gs++ [newG (i:Int) k]++List.drop P gs).length:Int))=true:=akW (by omega);have c3:decide (P<(List.take P gs++ [newG (i:Int) k]++List.drop P gs).length)=true:=akW hlenG;rw[hf]at hadd;unfold newG at hgP c2 c3;rw[akZ]at hgP;simp only[m72,c1,eq_self,aly,al2,Bool.true_eq_false,alo,and_false,if_false,VU,au,sS];simp only[akZ,c2,c3,hgP,hrow,hf,hadd,VU,au,sS];generalize fq g r a.2.1 true a.1=X;by_cases hX:X.1=0
   ·simp only[hX,alC,ne_eq,not_true_eq_false,if_false,hw,rT,newG,au,sS]
   ·simp only[alY.2 hX,ne_eq,hX,amG,if_true,au,sS]
 ·rw[hh]at hgP hlenG;simp only[if_true]at hgP hlenG;have c2:decide ((0:Int)≤(P:Int)∧(P:Int)<(gs.length:Int))=true:=akW (by omega);have c3:decide (P<gs.length)=true:=akW hlenG;simp only[eq_self,c2,hgP,hrow,hadd,aly,al2,Bool.true_eq_false,alo,false_and,if_false,if_true,VU,au,sS];generalize fq g r a.2.1 a.2.2.1 a.1=X;by_cases hX:X.1=0
  ·simp only[hX,alC,ne_eq,not_true_eq_false,if_false,hw,c3,akZ,rT,au,sS]
  ·simp only[alY.2 hX,ne_eq,hX,amG,if_true,au,sS]
def y8(p:bY)(a:kM):List Nat→List bG→Option (List bG)
 | [],gs=>some gs
 |i::r,gs=>(mO p a gs i).bind (y8 p a r)
theorem vF{p:bY}{a:kM}(hlab:bD a.2.1=true)(ht:0≤a.1∧a.1≤8589934592):∀{l:List Nat} {gs gs':List bG} {n:Nat},(∀i∈l,∃r,p.1[i]?=some r∧RR r)→rX p gs n→y8 p a l gs=some gs'→rX p gs' (n+l.length)
 | [],gs,gs',n,_,h,e=>by cases e;exact h
 |i::r,gs,gs',n,hl,h,e=>by
  obtain⟨g1,e1,e2⟩:=ame.1 e;have:=vF hlab ht (fun j hj=>hl j (by simp[hj])) (wP h (hl i (by simp)) hlab ht e1) e2;rw[alI]
  rwa [show n+1+r.length=n+(r.length+1) by omega]at this
theorem OZ{p:bY}{a:kM}(hlab:bD a.2.1=true)(ht:0≤a.1∧a.1≤8589934592)(hrl:p.1.length≤24)(l:List Nat)(hl:∀i∈l,∃r,p.1[i]?=some r∧RR r)(hll:l.length≤100)(now next:Int)(sl:List lW)(gs:List bG)(hgs:rX p gs 100):
  aA wD (((0:Int),(l.length:Int),()),((0,0,()),()),((now,next,()),()),(a,()),(p,()),ints l,gs,sl,())=
   some (match y8 p a l gs with
    |some gs'=>.inr ((),((0,0,()),()),((now,next,()),()),(p,()),gs',sl,())
    |none=>.inl ((5,()),((0,0,()),()),())):=by
 have key:∀(d q:Nat) (gs:List bG),q+d=l.length→rX p gs (100+q)→
   aA wD (((q:Int),(l.length:Int),()),((0,0,()),()),((now,next,()),()),(a,()),(p,()),ints l,gs,sl,())=
    some (match y8 p a (l.drop q) gs with
     |some gs'=>.inr ((),((0,0,()),()),((now,next,()),()),(p,()),gs',sl,())
     |none=>.inl ((5,()),((0,0,()),()),())):=by
  intro d
  induction d with
  |zero=>
   intro q gs hq h;obtain rfl:q=l.length:=by omega
   rw[alZ];refine aB ?_;simp only[wD,fZ,y8,au,sS]
  |succ d ih=>
   intro q gs hq h;obtain⟨i,hi,hd⟩:=drop_at (l:=l) (i:=q) (by omega);have hir:=hl i (alb hi);have hlen:=h.len;have st:=O9 (p:=p) (a:=a) (gs:=gs) (i:=i) ⟨⟨h.iX,h.up,by omega⟩,hrl,hir,hlab,ht⟩ (by omega) l q hi (by omega) now next sl;rw[hd];unfold y8
   cases hs:mO p a gs i with
   |none=>
    rw[hs]at st;exact aB st
   |some gs'=>
    rw[hs]at st;rw[aD st];exact ih (q+1) gs' (by omega) (by have:=wP h hir hlab ht hs;rwa [show 100+q+1=100+(q+1) by omega]at this)
 have:=key l.length 0 gs (by omega) hgs;rw[al9]at this;exact this
theorem PW:RH=rU:=rfl
theorem Oc:QJ=wE:=rfl
abbrev mJ:InT:=(0,[],[],0,())
def bI(p:bY)(s:InT)(a:kM):Int×InT:=
 if yc p s=false∨bD a.2.1=false then(8,mJ)else if K3 (cZ s) a.1≠0 then(K3 (cZ s) a.1,mJ)
 else match y8 p a (eT p.1 a.2.1) (bq s)with
  |none=>(5,mJ)
  |some gs=>if(iQ p a.1 gs).length>64 then(5,mJ)else(0,(a.1,iQ p a.1 gs,dM s,gy s,()))
theorem wC{p:bY}(hp:wF p)(h:kK p.1=0)(x:List LT):(∀i∈eT p.1 x,∃r,p.1[i]?=some r∧RR r)∧(eT p.1 x).length≤24:=by
 have hl:=wM h;have tok:=Qa h;unfold eT;split
 ·have hf:=fun j (hj:j∈dx p.1 x 400 0)=>(found tok hj).1
  refine⟨fun i hi=> ?_,?_⟩
  ·have:=hf i hi;exact⟨p.1[i],alh this,F4 hp.rt h _ (List.getElem_mem this)⟩
  ·have hnd:=Dk tok x 400 0 (by omega) tok.pos
   have hp2:(dx p.1 x 400 0).Perm ((List.range p.1.length).filter fun j=>decide (j∈dx p.1 x 400 0)):=
    (List.perm_ext_iff_of_nodup hnd (List.nodup_range.filter _)).2 fun j=>by
     simp only[am3,amI,alM];exact⟨fun hj=>⟨hf j hj,hj⟩,fun hj=>hj.2⟩
   have h1:=hp2.length_eq;have h2:=amz (fun j=>decide (j∈dx p.1 x 400 0)) (List.range p.1.length);rw[List.length_range]at h2;omega
 ·exact⟨fun i hi=>(by cases hi),alD _⟩
def agN(V:Int×InT)(o:Option ((Int×Unit)×((Int×(Nat×Nat)×Int×Unit)×Unit)×List bG×List lW×Unit)):Prop:=
 ∃(n:Nat) (blk:List bG),o=some ((V.1,()),((V.2.1,(0,n),V.2.2.2.2.1,()),()),blk,V.2.2.2.1,())∧n≤blk.length∧blk.take n=V.2.2.1
theorem Yx{p:bY}(hp:wF p){s:InT}(hs:tF s)(a:kM)(ha:F8 a.2.1):agN (bI p s a) (m27 ((p,s,a,()),())):=by
 have q1:=aeh p hp s hs;have q2:=Co a.2.1 ha;have q3:=adE s a.1;unfold bI;cases hv:yc p s
 ·rw[if_pos (.inl rfl)];rw[hv]at q1;unfold m27;simp only[q1,au,sS];exact⟨0,[],rfl,alj _,rfl⟩
 cases hlab:bD a.2.1
 ·rw[if_pos (.inr rfl)];rw[hv]at q1;rw[hlab]at q2;unfold m27;simp only[q1,q2,au,sS];exact⟨0,[],rfl,alj _,rfl⟩
 rw[if_neg (by simp)];rw[hv]at q1;rw[hlab]at q2;have h:=Jo.1 hv;by_cases hc:K3 (cZ s) a.1=0
 ·rw[if_neg (by simpa using hc)];rw[hc]at q3;obtain⟨n0,n1,n2⟩:=wW hc h.now.1;have hck:=(gP h.iN).1;have iX:=h.iX hp hs;obtain⟨f1,f2⟩:=wC hp hck a.2.1;have hl:=h.len;have q4:=Io s (by omega) (fun g hg=>(iX g hg).1) hs.Ou;have q5:=adG p.1 hp.rt a.2.1 ha;have inv0:rX p (bq s) 64:=⟨iX,(ql h.rT).1,hl⟩
  have q6:=OZ hlab ⟨n0,n1⟩ (wM hck) (eT p.1 a.2.1) f1 (by omega) a.1 (gy s) (dM s) (bq s) ⟨iX,(ql h.rT).1,by omega⟩;have il:((ints (eT p.1 a.2.1)).length:Int)=((eT p.1 a.2.1).length:Int):=by simp[ints]
  unfold m27;simp only[q1,q2,q3,q4,q5,alC,il,au,sS];rw[q6]
  cases hr:y8 p a (eT p.1 a.2.1) (bq s)with
  |none=>exact⟨0,[],rfl,alj _,rfl⟩
  |some gs=>
   have inv:=vF hlab ⟨n0,n1⟩ f1 inv0 hr;have g2:=inv.iX;have l2:=inv.len;simp only[PW,Oc,au,sS];have big64:∀n:Nat,n=(iQ p a.1 gs).length→decide (((n:Nat):Int)>64)=decide ((iQ p a.1 gs).length>64):=fun n hn=>aml.2 (by omega)
   rcases Fw p (dM s) a.1 (gy s) gs (by omega) g2 with⟨e,hf⟩|⟨j,hj,e,hf⟩
   ·rw[e];simp only[eq_self,amg,big64 gs.length (by rw[hf]),au,sS];by_cases hb:(iQ p a.1 gs).length>64
    ·rw[if_pos hb];simp only[hb,amr,au,sS];exact⟨0,[],rfl,alj _,rfl⟩
    ·rw[if_neg hb];simp only[hb,amy,au,sS];exact⟨gs.length,gs,rfl,alj _,by rw[amd];exact hf.symm⟩
   ·have bj:((j:Int)== -1)=false:=als.2 (by omega);have wj:aS ((j:Int)+1)=((j+1:Nat):Int):=aI (by omega);rw[e];simp only[eq_self,bj,wj,au,sS];obtain⟨dst,blk,e2,h3,h4,h5⟩:=C8 p (dM s) a.1 (gy s) gs (by omega) g2 (gs.length-(j+1)) (j+1) j gs (by omega) (by omega) rfl hf.symm rfl;rw[e2];have c1:decide ((0:Int)≤(dst:Int))=true:=akW (by omega);have c2:decide (dst≤blk.length∧blk.length≤blk.length)=true:=akW ⟨by omega,alj _⟩;have c3:decide (dst+(blk.length-dst)≤blk.length)=true:=akW (by omega);have hz:∀z:bG,(cK blk dst (List.replicate (blk.length-dst) z)).length=blk.length:=fun z=>FX blk z dst (by omega)
    have c4:∀z:bG,decide (0≤dst∧dst≤(cK blk dst (List.replicate (blk.length-dst) z)).length)=true:=fun z=>akW ⟨alD _,by rw[hz];omega⟩
    have c5:∀z:bG,decide ((cK blk dst (List.replicate (blk.length-dst) z)).length=gs.length)=true:=fun z=>akW (by rw[hz];omega)
    have hd:dst=(iQ p a.1 gs).length:=by
     have:=congrArg List.length h5;rw[alv]at this;omega
    simp only[c1,c2,c3,c4,c5,akZ,eq_self,big64 dst hd,au,sS];by_cases hb:(iQ p a.1 gs).length>64
    ·rw[if_pos hb];simp only[hb,amr,au,sS];exact⟨0,[],rfl,alj _,rfl⟩
    ·rw[if_neg hb];simp only[hb,amy,au,sS];exact⟨dst,_,rfl,by rw[hz];omega,(Dw blk _ dst (by omega)).trans h5⟩
 ·rw[if_pos hc];unfold m27;simp only[q1,q2,q3,alY.2 hc,au,sS];exact⟨0,[],rfl,alj _,rfl⟩
end Go.Proofs.YtchnmpafhfjimaaGreatDoor
namespace Go.Proofs.YtchnmpafhfjimaaGreatDoor
open Go Go.Abs
end Go.Proofs.YtchnmpafhfjimaaGreatDoor
namespace Go.Proofs.YtchnmpafhfjimaaGreatDoor
open Go Go.Abs
end Go.Proofs.YtchnmpafhfjimaaGreatDoor
namespace Go.Proofs.YtchnmpafhfjimaaGreatDoor
open Go Go.Abs
def oP(p:bY)(g:bG):Prop:=∀m∈aM g,xq (fM p g.1) (cO m)=g.2.1
theorem RJ{p:bY}{g:bG}{r:dw}(h:p.1[g.1.toNat]?=some r)(m:bS):KY p.1 g m=xq (fM p g.1) (cO m):=by
 unfold KY;rw[h,kX h]
theorem QS{p:bY}{now:Int}{q:Option bG}{g:bG}{r:dw}(h:p.1[g.1.toNat]?=some r):yR p now q g=false↔g.1<(p.1.length:Int)∧jB p.1 now g=false∧(∀a,q=some a→LG a g.1 g.2.1)∧oP p g:=by
 unfold yR
 cases q with
 |none=>
  simp only[alW,amk,Bool.not_eq_false',alF,alM,RJ h];exact⟨fun⟨a,b,_,d⟩=>⟨by omega,b,fun _ e=>(by cases e),d⟩,fun⟨a,b,_,d⟩=>⟨by omega,b,trivial,d⟩⟩
 |some x=>
  simp only[alW,amk,Bool.not_eq_false',alF,alM,RJ h];exact⟨fun⟨a,b,c,d⟩=>⟨by omega,b,fun _ e=>(by cases e;exact yB.1 c),d⟩,fun⟨a,b,c,d⟩=>⟨by omega,b,yB.2 (c x rfl),d⟩⟩
theorem UN{p:bY}{now:Int}:∀{gs:List bG} {q:Option bG},La p gs→Ee gs→(∀a,q=some a→∀b∈gs,LG a b.1 b.2.1)→(∀g∈gs,jB p.1 now g=false∧oP p g)→y9 (yR p now) q gs=true
 | [],_,_,_,_,_=>rfl
 |g::r,q,h,hu,hq,hk=>by
  obtain⟨u1,u2⟩:=amx.1 hu;obtain⟨hv,rt,hr,rr⟩:=h g (by simp);have hlt:=(akX.1 hr).1;have h1:=hv.rt;unfold y9;rw[alu];refine⟨?_,UN (fun x hx=>h x (by simp[hx])) u2 (fun a ha b hb=>by cases ha;exact u1 b hb) (fun x hx=>hk x (by simp[hx]))⟩;rw[am5,QS hr];exact⟨by omega,(hk g (by simp)).1,fun a ha=>hq a ha g (by simp),(hk g (by simp)).2⟩
theorem Fj{p:bY}{now:Int}{gs:List bG}(hg:La p gs)(h:y9 (yR p now) none gs=true):∀g∈gs,oP p g:=by
 intro g hg';obtain⟨q,hb⟩:=Ef h g hg';obtain⟨_,r,hr,_⟩:=hg g hg';exact((QS hr).1 hb).2.2.2
theorem Ee.map{gs:List bG}(h:Ee gs)(f:bG→bG)(hf:∀g,(f g).1=g.1∧(f g).2.1=g.2.1):Ee (gs.map f):=by
 unfold Ee at h ⊢;refine List.pairwise_map.2 (h.imp fun {a b} hab=> ?_);unfold LG at hab ⊢;rw[(hf a).1,(hf a).2,(hf b).1,(hf b).2];exact hab
theorem Ee.sub{gs l:List bG}(h:Ee gs)(hs:l.Sublist gs):Ee l:=List.Pairwise.sublist hs h
theorem IQ(p:bY)(now:Int)(gs:List bG):(iQ p now gs).Sublist gs:=List.filter_sublist
theorem nT{p:bY}{now:Int}{gs:List bG}{g:bG}(h:g∈iQ p now gs):g∈gs∧jB p.1 now g=false:=by
 obtain⟨a,b⟩:=am3.1 h;exact⟨a,by simpa using b⟩
theorem NV{p:bY}{s:InT}(h:VI p s){now:Int}(hn:0≤now∧now≤8589934592){gs:List bG}(hg:La p gs)(hu:Ee gs)(hk:∀g∈gs,oP p g)(hl:(iQ p now gs).length≤64):
  VI p (now,iQ p now gs,dM s,gy s,()):=
 ⟨h.iN,hn,hl,h.Ou,h.next,h.ids,UN (fun g hg'=>hg g (nT hg').1) (hu.sub (IQ p now gs)) (fun _ ha=>by cases ha) (fun g hg'=>⟨(nT hg').2,hk g (nT hg').1⟩)⟩
theorem A7(se wa ir t a:Int):∀(rem kept:List bS) (du:Int),∀m∈(kE se wa ir t a kept du rem).1,∃x∈kept++rem,cO x=cO m
 | [],kept,du,m,hm=>⟨m,by simpa[kE]using hm,rfl⟩
 |y::r,kept,du,m,hm=>by
  unfold kE at hm;split at hm
  ·split at hm
   ·obtain⟨x,hx,e⟩:=A7 se wa ir t a r _ _ m hm;simp only[alx,alV]at hx;rcases hx with(hx|rfl)|hx
    ·exact⟨x,by simp[hx],e⟩
    ·exact⟨y,by simp,e⟩
    ·exact⟨x,by simp[hx],e⟩
   ·obtain⟨x,hx,e⟩:=A7 se wa ir t a r _ _ m hm;simp only[alx]at hx;rcases hx with hx|hx
    ·exact⟨x,by simp[hx],e⟩
    ·exact⟨x,by simp[hx],e⟩
  ·obtain⟨x,hx,e⟩:=A7 se wa ir t a r _ _ m hm;simp only[alx,alV]at hx;rcases hx with(hx|rfl)|hx
   ·exact⟨x,by simp[hx],e⟩
   ·exact⟨x,by simp,e⟩
   ·exact⟨x,by simp[hx],e⟩
theorem oP.of{p:bY}{g g':bG}(h:oP p g)(h1:g'.1=g.1)(h2:g'.2.1=g.2.1)(hm:∀m∈aM g',∃x∈aM g,cO x=cO m):oP p g':=by
 intro m hm';obtain⟨x,hx,e⟩:=hm m hm';rw[h1,h2,←e];exact h x hx
theorem R6(p:bY)(now:Int)(g:bG):∀m∈aM (xw p now g),∃x∈aM g,cO x=cO m:=by
 intro m hm;unfold xw EA at hm;split at hm
 ·exact⟨m,hm,rfl⟩
 ·obtain⟨x,hx,e⟩:=A7 _ _ _ _ _ _ _ _ m hm;exact⟨x,by simpa using hx,e⟩
theorem WK(p:bY)(sl:List lW)(now:Int)(fs:List (List LT))(g:bG):∀m∈aM (jF p sl now fs g),∃x∈aM g,cO x=cO m:=by
 intro m hm;unfold jF o7 mW at hm;split at hm
 ·exact⟨m,hm,rfl⟩
 ·dsimp only at hm;split at hm
  ·obtain⟨x,hx,_,e⟩:=Af.1 hm;exact⟨x,hx,by rw[e];rfl⟩
  ·exact⟨m,hm,rfl⟩
theorem aa8{p:bY}(hp:wF p){s:InT}(hs:tF s)(h:VI p s){now:Int}(hn:0≤now∧now≤8589934592):VI p (uh p s now):=by
 have tk:=h.tk hp hs hn;have iX:=h.iX hp hs;have hk:=Fj iX h.rT;have g2:=AQ tk;refine NV h hn g2 (((ql h.rT).1.map _ (rR p now)).map _ (jZ p _ now _)) (fun g hg=> ?_) ?_
 ·unfold xD jH at hg;simp only[amb]at hg;obtain⟨g1,⟨g0,hg0,rfl⟩,rfl⟩:=hg;exact((hk g0 hg0).of (rR p now g0).1 (rR p now g0).2 (R6 p now g0)).of (jZ p _ now _ _).1 (jZ p _ now _ _).2 (WK p _ now _ _)
 ·have h1:=(IQ p now (xD p s now)).length_le;have h2:(xD p s now).length=(bq s).length:=(ald ..).trans (ald ..);have:=h.len;omega
theorem Yo(g:bG)(r:dw)(l:List LT)(on:Bool)(t:Int):∀m∈(fq g r l on t).2.2,(∃x∈aM g,cO x=cO m)∨cO m=l:=by
 intro m hm;unfold fq at hm;dsimp only at hm;by_cases hh:hit (bF (aW l)) (aM g)=true
 ·rw[if_pos hh]at hm;obtain⟨y,hy,_⟩:=oz hh;rw[hy]at hm;dsimp only at hm;have hym:=alb hy
  have set_case:∀z:bS,cO z=cO y→m∈(aM g).set (pos (bF (aW l)) (aM g)) z→(∃x∈aM g,cO x=cO m)∨cO m=l:=by
   intro z hz hmz;rcases mem_set hmz with hmz|rfl
   ·exact .inl ⟨m,hmz,rfl⟩
   ·exact .inl ⟨y,hym,hz.symm⟩
  split at hm
  ·exact set_case (qi y t) rfl hm
  ·split at hm
   ·exact set_case (stepM (qi y t) true t) rfl hm
   ·split at hm
    ·exact set_case (stepM (qi y t) false t) rfl hm
    ·rcases alx.1 hm with hm|hm
     ·exact .inl ⟨m,List.mem_of_mem_take hm,rfl⟩
     ·exact .inl ⟨m,List.mem_of_mem_drop hm,rfl⟩
 ·rw[if_neg hh]at hm;split at hm
  ·split at hm
   ·cases hm
   ·simp only[alx,alV]at hm;rcases hm with(hm|rfl)|hm
    ·exact .inl ⟨m,List.mem_of_mem_take hm,rfl⟩
    ·exact .inr rfl
    ·exact .inl ⟨m,List.mem_of_mem_drop hm,rfl⟩
  ·exact .inl ⟨m,hm,rfl⟩
theorem Uu{p:bY}{a:kM}{gs gs':List bG}{i:Nat}(hk:∀g∈gs,oP p g)(e:mO p a gs i=some gs'):∀g∈gs',oP p g:=by
 unfold mO at e;split at e
 ·cases e;exact hk
 ·split at e
  ·cases e
  ·rename_i h0;simp only[ne_eq,Decidable.not_not]at h0;cases e;obtain⟨g,hg,g1,g2,hm⟩:=yU p a gs i;have ha:NM p a gs i=fq g (fM p (i:Int)) a.2.1 a.2.2.1 a.1:=by unfold NM;rw[hg];rfl
   have hg0:oP p g:=by
    rcases hm with hm|rfl
    ·exact hk g hm
    ·exact fun m hm'=>by cases hm'
   rw[ha]at h0 ⊢;obtain⟨k1,k2⟩:=zB h0;intro x hx;rcases mem_set hx with hx|rfl
   ·unfold Sr at hx;split at hx
    ·exact hk x hx
    ·simp only[alx,alV]at hx;rcases hx with(hx|rfl)|hx
     ·exact hk x (List.mem_of_mem_take hx)
     ·exact fun m hm'=>by cases hm'
     ·exact hk x (List.mem_of_mem_drop hx)
   ·intro m hm'
    show xq (fM p (fq g (fM p (i:Int)) a.2.1 a.2.2.1 a.1).2.1.1) (cO m)=(fq g (fM p (i:Int)) a.2.1 a.2.2.1 a.1).2.1.2.1
    rw[k1,k2];rcases Yo _ _ _ _ _ m hm' with⟨y,hy,e⟩|e
    ·rw[←e];exact hg0 y hy
    ·rw[e,g1,g2];rfl
theorem Mh{p:bY}{a:kM}:∀{l:List Nat} {gs gs':List bG},(∀g∈gs,oP p g)→y8 p a l gs=some gs'→∀g∈gs',oP p g
 | [],gs,gs',h,e=>by cases e;exact h
 |i::r,gs,gs',h,e=>by
  obtain⟨g1,e1,e2⟩:=ame.1 e;exact Mh (Uu h e1) e2
theorem VA{p:bY}(hp:wF p){s:InT}(hs:tF s)(a:kM)(h0:(bI p s a).1=0):VI p (bI p s a).2:=by
 unfold bI at h0 ⊢;split at h0
 ·cases h0
 rename_i hv;rw[if_neg hv];simp only[not_or,Bool.not_eq_false]at hv;have h:=Jo.1 hv.1;split at h0
 ·rename_i hc;exact absurd h0 hc
 rename_i hc;rw[if_neg hc];simp only[ne_eq,Decidable.not_not]at hc;obtain⟨n0,n1,n2⟩:=wW hc h.now.1;have hck:=(gP h.iN).1;have iX:=h.iX hp hs;obtain⟨f1,f2⟩:=wC hp hck a.2.1
 cases hr:y8 p a (eT p.1 a.2.1) (bq s)with
 |none=>rw[hr]at h0;cases h0
 |some gs=>
  rw[hr]at h0;simp only at h0 ⊢;have inv:=vF hv.2 ⟨n0,n1⟩ f1 (⟨iX,(ql h.rT).1,h.len⟩:rX p (bq s) 64) hr;split at h0
  ·cases h0
  ·rename_i hl;rw[if_neg hl];exact NV h ⟨n0,n1⟩ inv.iX inv.up (Mh (Fj iX h.rT) hr) (by omega)
end Go.Proofs.YtchnmpafhfjimaaGreatDoor
namespace Go.Proofs.YtchnmpafhfjimaaGreatDoor
open Go Go.Abs
def aH(p:bY)(t:Int):Nat→InT→List gZ→Int×InT×List gZ×Nat
 |0,s,nt=>if(gK (bq s)).2=false∨(gK (bq s)).1≥t then(0,s,nt,0)else(5,s,nt,0)
 |k+1,s,nt=>if(gK (bq s)).2=false∨(gK (bq s)).1≥t then(0,s,nt,k+1)
  else aH p t k (uh p s (max (gK (bq s)).1 (cZ s))) (nt++kQ p s (max (gK (bq s)).1 (cZ s)))
theorem qp{gs:List bG}(h:∀g∈gs,VG g): -1≤(gK gs).1∧(gK gs).1≤8589934592:=by
 unfold gK
 have key:∀(l:List bG) (a:Int×Bool),(∀g∈l,VG g)→(-1≤a.1∧a.1≤8589934592)→ -1≤(l.foldl kr a).1∧(l.foldl kr a).1≤8589934592:=by
  intro l
  induction l with
  |nil=>intro a _ ha;exact ha
  |cons g r ih=>
   intro a hl ha;refine ih _ (fun x hx=>hl x (by simp[hx])) ?_;unfold kr;cases (dI g != -1&&(!a.2||decide (dI g<a.1)))
   ·exact ha
   ·exact(hl g (by simp)).due
 exact key gs (0,false) h (by decide)
theorem Lh(p:bY)(s:InT)(now:Int):(kQ p s now).length≤(bq s).length:=by
 unfold kQ
 have key:∀l:List bG,(l.flatMap (dZ p (dM s) now (iA p s now))).length≤l.length:=by
  intro l
  induction l with
  |nil=>simp
  |cons g r ih=>
   rw[ams,alz,alI]
   have:(dZ p (dM s) now (iA p s now) g).length≤1:=by
    unfold dZ;cases (o7 p (dM s) now (iA p s now) g).1<;>simp
   omega
 have:=key (jH p s now);rw[show(jH p s now).length=(bq s).length from ald ..]at this;exact this
theorem VI.z{p:bY}(hp:wF p){s:InT}(h:VI p s)(hg:La p (bq s))(hs:ML (dM s)):tF s:=
 ⟨by have:=h.len;omega,fun g hg'=>by
  obtain⟨hv,r,hr,_⟩:=hg g hg';have h1:=(akX.1 hr).1;have h2:=wM (gP h.iN).1;have h3:=hv.rt;exact⟨hv,by omega⟩,hs⟩
theorem wQ{p:bY}(hp:wF p){s:InT}(hs:tF s)(h:VI p s){now:Int}(hn:0≤now∧now≤8589934592):VI p (uh p s now)∧tF (uh p s now):=by
 have hv:=aa8 hp hs h hn;have g2:=AQ (h.tk hp hs hn);exact⟨hv,hv.z hp (fun g hg=>g2 g (nT hg).1) hs.Ou⟩
theorem ae3(a b:Int):(if a>b then a else b)=max b a:=by
 rw[Int.max_def];by_cases h:a>b
 ·rw[if_pos h,if_pos (by omega)]
 ·rw[if_neg h];by_cases h2:b≤a
  ·rw[if_pos h2];omega
  ·rw[if_neg h2]
theorem Rm{p:bY}(hp:wF p)(t:Int):∀(k:Nat) (s:InT) (nt:List gZ),VI p s→tF s→k≤1000→nt.length+k*64≤4000000→∀(o n:Nat) (blk:List bG),o+n≤blk.length→(blk.drop o).take n=bq s→
  ∃(o' n':Nat) (blk':List bG) (tk:Int),aA nG ((t,()),((p.1,p.2.1,p.2.2.1,cZ s,(o,n),gy s,((1000-k:Nat):Int),()),()),blk,dM s,nt,())=
   some (((aH p t k s nt).1,()),((p.1,p.2.1,p.2.2.1,cZ (aH p t k s nt).2.1,(o',n'),gy (aH p t k s nt).2.1,tk,()),()),blk',dM (aH p t k s nt).2.1,(aH p t k s nt).2.2.1,())∧
   o'+n'≤blk'.length∧(blk'.drop o').take n'=bq (aH p t k s nt).2.1∧((aH p t k s nt).1=0→tk=((1000-(aH p t k s nt).2.2.2:Nat):Int)):=by
 intro k
 induction k with
 |zero=>
  intro s nt h hs hk hnt o n blk ho hb;have q:=XW s hs.len;have c1:decide (o+n≤blk.length)=true:=akW ho;have w1:aS (((1000-0:Nat):Int)+1)=1001:=bK (by decide) (by decide);unfold aH;have hs4:((cZ s,bq s,dM s,gy s,()):InT)=s:=rfl;by_cases h1:(gK (bq s)).2=false
  ·rw[if_pos (.inl h1)];refine⟨o,n,blk,_,aB ?_,ho,hb,fun _=>rfl⟩;simp only[nG,c1,hb,hs4,q,h1,aly,au,sS]
  ·have h1':(gK (bq s)).2=true:=by simpa using h1
   by_cases h2:(gK (bq s)).1≥t
   ·rw[if_pos (.inr h2)];refine⟨o,n,blk,_,aB ?_,ho,hb,fun _=>rfl⟩;simp only[nG,c1,hb,hs4,q,h1',h2,amr,al2,au,sS]
   ·rw[if_neg (by simp[h1',h2])];refine⟨o,n,blk,1001,aB ?_,ho,hb,fun e=>by cases e⟩;have c2:decide ((1001:Int)>1000)=true:=by decide
    simp only[nG,c1,hb,hs4,q,h1',h2,w1,c2,amy,al2,au,sS]
 |succ k ih=>
  intro s nt h hs hk hnt o n blk ho hb;have q:=XW s hs.len;have c1:decide (o+n≤blk.length)=true:=akW ho;have w1:aS (((1000-(k+1):Nat):Int)+1)=((1000-k:Nat):Int):=by rw[bK (by omega) (by omega)];omega
  have c2:decide (((1000-k:Nat):Int)>1000)=false:=akY (by omega);have hs4:((cZ s,bq s,dM s,gy s,()):InT)=s:=rfl;have hp4:((p.1,p.2.1,p.2.2.1,()):bY)=p:=rfl;have iX:=h.iX hp hs;have hd:=qp (fun g hg=>(iX g hg).1);have hnow:=h.now;have hl:=h.len;unfold aH;by_cases h1:(gK (bq s)).2=false
  ·rw[if_pos (.inl h1)];refine⟨o,n,blk,_,aB ?_,ho,hb,fun _=>rfl⟩;simp only[nG,c1,hb,hs4,q,h1,aly,au,sS]
  ·have h1':(gK (bq s)).2=true:=by simpa using h1
   by_cases h2:(gK (bq s)).1≥t
   ·rw[if_pos (.inr h2)];refine⟨o,n,blk,_,aB ?_,ho,hb,fun _=>rfl⟩;simp only[nG,c1,hb,hs4,q,h1',h2,amr,al2,au,sS]
   ·rw[if_neg (by simp[h1',h2])];have hn:0≤max (gK (bq s)).1 (cZ s)∧max (gK (bq s)).1 (cZ s)≤8589934592:=⟨by omega,by omega⟩
    obtain⟨v1,z1⟩:=wQ hp hs h hn;have hnl:=Lh p s (max (gK (bq s)).1 (cZ s));have tp:=aeo (h.tk hp hs hn);unfold Fp at tp;obtain⟨n',blk',e,e1,e2⟩:=tp;have mx:=ae3 (cZ s) (gK (bq s)).1;obtain⟨o2,n2,b2,tk,r1,r2,r3,r4⟩:=ih (uh p s (max (gK (bq s)).1 (cZ s))) (nt++kQ p s (max (gK (bq s)).1 (cZ s))) v1 z1 (by omega) (by rw[alz];omega) 0 n' blk' (by omega) (by rw[al9];exact e2);refine⟨o2,n2,b2,tk,(aD ?_).trans r1,r2,r3,r4⟩;have c3:decide (nt.length+(kQ p s (max (gK (bq s)).1 (cZ s))).length≤4294967296)=true:=akW (by omega);simp only[nG,c1,hb,hs4,hp4,q,h1',h2,w1,c2,mx,amy,al2,au,sS];refine aR _ e ?_;simp only[c3,au,sS];rfl
theorem Qs:QE=nG:=rfl
def aO(p:bY):List kM→Nat→InT→List gZ→Int×InT×List gZ×Nat
 | [],k,s,nt=>(0,s,nt,k)
 |a::r,k,s,nt=>
  if(aH p a.1 k s nt).1≠0 then aH p a.1 k s nt
  else if(bI p (aH p a.1 k s nt).2.1 a).1≠0 then((bI p (aH p a.1 k s nt).2.1 a).1,s,nt,0)
  else aO p r (aH p a.1 k s nt).2.2.2 (bI p (aH p a.1 k s nt).2.1 a).2 (aH p a.1 k s nt).2.2.1
theorem oU{p:bY}(hp:wF p)(t:Int):∀(k:Nat) (s:InT) (nt:List gZ),VI p s→tF s→
  VI p (aH p t k s nt).2.1∧tF (aH p t k s nt).2.1∧(aH p t k s nt).2.2.2≤k∧(aH p t k s nt).2.2.1.length+(aH p t k s nt).2.2.2*64≤nt.length+k*64
 |0,s,nt,h,hs=>by
  unfold aH;split<;>exact⟨h,hs,alj _,alj _⟩
 |k+1,s,nt,h,hs=>by
  unfold aH;split
  ·exact⟨h,hs,alj _,alj _⟩
  ·have iX:=h.iX hp hs;have hd:=qp (fun g hg=>(iX g hg).1);have hnow:=h.now;have hl:=h.len;obtain⟨v1,z1⟩:=wQ hp hs h (now:=max (gK (bq s)).1 (cZ s)) ⟨by omega,by omega⟩;obtain⟨a,b,c,d⟩:=oU hp t k (uh p s (max (gK (bq s)).1 (cZ s))) (nt++kQ p s (max (gK (bq s)).1 (cZ s))) v1 z1;have hnl:=Lh p s (max (gK (bq s)).1 (cZ s));rw[alz]at d;exact⟨a,b,by omega,by omega⟩
theorem nX{p:bY}(hp:wF p){s:InT}(h:VI p s)(hs:tF s)(a:kM)(h0:(bI p s a).1=0):VI p (bI p s a).2∧tF (bI p s a).2:=by
 have hv:=VA hp hs a h0
 have hsil:dM (bI p s a).2=dM s∨dM (bI p s a).2=[]:=by
  unfold bI;split
  ·exact .inr rfl
  ·split
   ·exact .inr rfl
   ·split
    ·exact .inr rfl
    ·split
     ·exact .inr rfl
     ·exact .inl rfl
 have hss:ML (dM (bI p s a).2):=by
  rcases hsil with e|e
  ·rw[e];exact hs.Ou
  ·rw[e];exact⟨alD _,fun x hx=>by cases hx⟩
 refine⟨hv,hv.z hp ?_ hss⟩;intro g hg;have hgrp:=hv.rT;unfold bI at h0 hg;split at h0
 ·cases h0
 rename_i c1;rw[if_neg c1]at hg;simp only[not_or,Bool.not_eq_false]at c1;split at h0
 ·rename_i c2;exact absurd h0 c2
 rename_i c2;rw[if_neg c2]at hg;simp only[ne_eq,Decidable.not_not]at c2;obtain⟨n0,n1,n2⟩:=wW c2 h.now.1;have iX:=h.iX hp hs;obtain⟨f1,f2⟩:=wC hp (gP h.iN).1 a.2.1
 cases hr:y8 p a (eT p.1 a.2.1) (bq s)with
 |none=>rw[hr]at h0;cases h0
 |some gs=>
  rw[hr]at h0 hg;simp only at h0 hg;have inv:=vF c1.2 ⟨n0,n1⟩ f1 (⟨iX,(ql h.rT).1,h.len⟩:rX p (bq s) 64) hr;split at h0
  ·cases h0
  ·rename_i hl;rw[if_neg hl]at hg;exact inv.iX g (nT hg).1
abbrev RunT:=Int×InT×List gZ
def KI(p:bY)(un:Int)(A:Int×InT×List gZ×Nat):RunT:=
 if A.1≠0 then(A.1,mJ,[])else if(aH p (un+1) A.2.2.2 A.2.1 A.2.2.1).1≠0 then((aH p (un+1) A.2.2.2 A.2.1 A.2.2.1).1,mJ,[])
 else(0,(aH p (un+1) A.2.2.2 A.2.1 A.2.2.1).2.1,(aH p (un+1) A.2.2.2 A.2.1 A.2.2.1).2.2.1)
def qO(p:bY)(al:List kM)(un:Int):RunT:=
 if xA p≠0 then(xA p,mJ,[])else if al.length>256 then(5,mJ,[])else if un<0∨un>8589934592 then(1,mJ,[])
 else KI p un (aO p al 1000 (0,[],[],1,()) [])
abbrev jA:InT:=(0,[],[],1,())
theorem Bu{p:bY}(h:xA p=0):VI p jA:=⟨h,⟨by decide,by decide⟩,by decide,rfl,by decide,fun x hx=>(by cases hx),rfl⟩
theorem H9:tF jA:=⟨by decide,fun g hg=>(by cases hg),⟨by decide,fun x hx=>(by cases hx)⟩⟩
theorem O6{p:bY}(hp:wF p)(al:List kM)(hal:al.length≤256)(hk:∀a∈al,F8 a.2.1)(un:Int):∀(d i k:Nat) (s:InT) (nt:List gZ),i+d=al.length→VI p s→tF s→k≤1000→nt.length+k*64≤64000→
  ∀(o n:Nat) (blk:List bG),o+n≤blk.length→(blk.drop o).take n=bq s→
  ∃b,aA og (((i:Int),al,un,(al.length:Int),()),((0,0,()),()),((p.1,p.2.1,p.2.2.1,cZ s,(o,n),gy s,((1000-k:Nat):Int),()),()),(p,()),blk,dM s,nt,())=some b∧
   ((aO p (al.drop i) k s nt).1≠0→b= .inl (((aO p (al.drop i) k s nt).1,()),((0,0,()),()),[],()))∧
   ((aO p (al.drop i) k s nt).1=0→∃(o' n':Nat) (blk':List bG),b= .inr ((un,()),((0,0,()),()),((p.1,p.2.1,p.2.2.1,cZ (aO p (al.drop i) k s nt).2.1,(o',n'),gy (aO p (al.drop i) k s nt).2.1,((1000-(aO p (al.drop i) k s nt).2.2.2:Nat):Int),()),()),blk',dM (aO p (al.drop i) k s nt).2.1,(aO p (al.drop i) k s nt).2.2.1,())∧
     o'+n'≤blk'.length∧(blk'.drop o').take n'=bq (aO p (al.drop i) k s nt).2.1):=by
 intro d
 induction d with
 |zero=>
  intro i k s nt hi h hs hk1 hnt o n blk ho hb;obtain rfl:i=al.length:=by omega
  rw[alZ];refine⟨_,aB (by simp only[og,fZ,au,sS];rfl),fun e=>absurd rfl e,fun _=>⟨o,n,blk,rfl,ho,hb⟩⟩
 |succ d ih=>
  intro i k s nt hi h hs hk1 hnt o n blk ho hb;obtain⟨a,ha,hd⟩:=drop_at (l:=al) (i:=i) (by omega);have hil:i<al.length:=by omega
  have hw:=aI (i:=i) (by omega);obtain⟨o1,n1,b1,tk,q,q2,q3,q4⟩:=Rm hp a.1 k s nt h hs hk1 (by omega) o n blk ho hb;obtain⟨u1,u2,u3,u4⟩:=oU hp a.1 k s nt h hs;have qa:=Yx hp u2 a (hk a (alb ha));unfold agN at qa;obtain⟨n2,b2,qa,qa2,qa3⟩:=qa;have hs4:((cZ (aH p a.1 k s nt).2.1,bq (aH p a.1 k s nt).2.1,dM (aH p a.1 k s nt).2.1,gy (aH p a.1 k s nt).2.1,()):InT)=(aH p a.1 k s nt).2.1:=rfl;have an:=nX hp u1 u2 a
  have hE:aO p (a::al.drop (i+1)) k s nt=if(aH p a.1 k s nt).1≠0 then aH p a.1 k s nt
    else if(bI p (aH p a.1 k s nt).2.1 a).1≠0 then((bI p (aH p a.1 k s nt).2.1 a).1,s,nt,0)
    else aO p (al.drop (i+1)) (aH p a.1 k s nt).2.2.2 (bI p (aH p a.1 k s nt).2.1 a).2 (aH p a.1 k s nt).2.2.1:=rfl
  rw[hd];generalize aH p a.1 k s nt=U at q q3 q4 u1 u2 u3 u4 qa qa3 hs4 an hE;have c1:decide (o1+n1≤b1.length)=true:=akW q2;by_cases hU:U.1=0
  ·have htk:=q4 hU;subst htk;rw[if_neg (by simpa using hU)]at hE;by_cases hA:(bI p U.2.1 a).1=0
   ·rw[if_neg (by simpa using hA)]at hE;rw[hE];obtain⟨v1,v2⟩:=an hA;obtain⟨b,r1,r2⟩:=ih (i+1) U.2.2.2 (bI p U.2.1 a).2 U.2.2.1 (by omega) v1 v2 (by omega) (by omega) 0 n2 b2 (by omega) (by rw[al9];exact qa3);refine⟨b,(aD ?_).trans r1,r2⟩;simp only[og,eu hil,aK,aF ha,q,hU,c1,q3,hs4,qa,hA,alC,hw,eq_self,au,sS]
   ·rw[if_pos hA]at hE;rw[hE];refine⟨_,aB (by simp only[og,eu hil,aK,aF ha,q,hU,c1,q3,hs4,qa,alY.2 hA,alC,eq_self,au,sS]),fun _=>rfl,fun e=>absurd e hA⟩
  ·rw[if_pos hU]at hE;rw[hE];refine⟨_,aB (by simp only[og,eu hil,aK,aF ha,q,alY.2 hU,eq_self,au,sS]),fun _=>rfl,fun e=>absurd e hU⟩
def abq(V:RunT)(x:Option ((Int×Unit)×((Int×(Nat×Nat)×Int×Unit)×Unit)×List gZ×List bG×List lW×Unit)):Prop:=
 ∃(o n:Nat) (blk:List bG),x=some ((V.1,()),((V.2.1.1,(o,n),V.2.1.2.2.2.1,()),()),V.2.2,blk,V.2.1.2.2.1,())∧o+n≤blk.length∧(blk.drop o).take n=V.2.1.2.1
theorem Bo{p:bY}(hp:wF p):∀(r:List kM) (k:Nat) (s:InT) (nt:List gZ),VI p s→tF s→(aO p r k s nt).1=0→
  VI p (aO p r k s nt).2.1∧tF (aO p r k s nt).2.1∧(aO p r k s nt).2.2.2≤k∧(aO p r k s nt).2.2.1.length+(aO p r k s nt).2.2.2*64≤nt.length+k*64
 | [],k,s,nt,h,hs,_=>⟨h,hs,alj _,alj _⟩
 |a::r,k,s,nt,h,hs,e=>by
  obtain⟨u1,u2,u3,u4⟩:=oU hp a.1 k s nt h hs;unfold aO at e ⊢;split at e
  ·rename_i c;exact absurd e c
  rename_i c;rw[if_neg c];split at e
  ·rename_i c2;exact absurd e c2
  rename_i c2;rw[if_neg c2];obtain⟨v1,v2⟩:=nX hp u1 u2 a (by simpa using c2);obtain⟨w1,w2,w3,w4⟩:=Bo hp r _ _ _ v1 v2 e;exact⟨w1,w2,by omega,by omega⟩
theorem agQ{p:bY}(hp:wF p)(al:List kM)(hk:∀a∈al,F8 a.2.1)(un:Int):abq (qO p al un) (m15 ((p,al,un,()),())):=by
 have q1:=OJ p hp;have err:∀e:Int,abq (e,mJ,[]) (some ((e,()),((0,(0,0),0,()),()),[],[],[],())):=fun e=>⟨0,0,[],rfl,alj _,rfl⟩
 unfold qO;by_cases h1:xA p=0
 ·rw[if_neg (by simpa using h1)];rw[h1]at q1;by_cases h2:al.length>256
  ·have c:decide ((al.length:Int)>256)=true:=akW (by omega);rw[if_pos h2];unfold m15;simp only[q1,c,alC,au,sS];exact err _
  ·have c:decide ((al.length:Int)>256)=false:=akY (by omega);rw[if_neg h2];by_cases h3:un<0
   ·rw[if_pos (.inl h3)];unfold m15;simp only[q1,c,h3,amr,alC,au,sS];exact err _
   ·by_cases h4:un>8589934592
    ·rw[if_pos (.inr h4)];unfold m15;simp only[q1,c,h3,h4,amr,amy,alC,au,sS];exact err _
    ·rw[if_neg (by omega)];obtain⟨b,r1,r2,r3⟩:=O6 hp al (by omega) hk un al.length 0 1000 jA [] (by omega) (Bu h1) H9 (alj _) (by decide) 0 0 [] (alj _) rfl;rw[al9]at r2 r3;dsimp only[cZ,dM,gy]at r1;unfold m15 m26;simp only[q1,c,h3,h4,amy,alC,au,sS];have w1:aS (un+1)=un+1:=bK (by omega) (by omega);have r1':aA og (((0:Int),al,un,(al.length:Int),()),((0,0,()),()),((p.1,p.2.1,p.2.2.1,0,(0,0),1,0,()),()),(p,()),[],[],[],())=some b:=r1;rw[r1'];unfold KI;by_cases hA:(aO p al 1000 jA []).1=0
     ·rw[if_neg (by simpa using hA)];obtain⟨o,n,blk,rfl,e1,e2⟩:=r3 hA;obtain⟨a1,a2,a3,a4⟩:=Bo hp al 1000 jA [] (Bu h1) H9 hA;generalize aO p al 1000 jA []=A at e2 a1 a2 a3 a4 ⊢;simp only[List.length_nil,alQ]at a4;obtain⟨o2,n2,b2,tk,q,q2,q3,q4⟩:=Rm hp (un+1) A.2.2.2 A.2.1 A.2.2.1 a1 a2 a3 (by omega) o n blk e1 e2;simp only[Qs,w1,au,sS];rw[q];generalize aH p (un+1) A.2.2.2 A.2.1 A.2.2.1=U at q3 ⊢;by_cases hU:U.1=0
      ·rw[if_neg (by simpa using hU)];simp only[hU,alC,eq_self,au,sS];exact⟨o2,n2,b2,rfl,q2,q3⟩
      ·rw[if_pos hU];simp only[alY.2 hU,eq_self,au,sS];exact err _
     ·rw[if_pos hA,r2 hA];exact err _
 ·rw[if_pos h1];unfold m15;simp only[q1,alY.2 h1,au,sS];exact err _
def U3(n:gZ):Prop:=n.2.2.2.2.1.length≤256∧n.2.2.2.2.2.1.length≤256
theorem P8{g:bG}(h:VG g)(r:dw)(t:Int)(mu:List ByteArray):(mW g r t mu).2.2.2.2.1.length≤256∧(mW g r t mu).2.2.2.2.2.length≤256:=by
 have hl:=h.len;have h1:=FO mu (aM g);have h2:=FY mu (aM g);unfold mW;split
 ·exact⟨alD _,alD _⟩
 ·dsimp only;split
  ·exact⟨by dsimp only;omega,by dsimp only;omega⟩
  ·exact⟨alD _,alD _⟩
theorem Oa{p:bY}{s:InT}{now:Int}(h:Ur p s now):∀n∈kQ p s now,U3 n:=by
 intro n hn;unfold kQ at hn;obtain⟨g,hg,hn⟩:=amC.1 hn;have hv:=(uM h g hg).1;unfold dZ at hn;cases hc:(o7 p (dM s) now (iA p s now) g).1
 ·rw[hc]at hn;cases hn
 ·rw[hc]at hn;rw[alV.1 hn];exact P8 hv _ _ _
theorem uP{p:bY}(hp:wF p)(t:Int):∀(k:Nat) (s:InT) (nt:List gZ),VI p s→tF s→(∀n∈nt,U3 n)→∀n∈(aH p t k s nt).2.2.1,U3 n
 |0,s,nt,h,hs,hn=>by
  unfold aH;split<;>exact hn
 |k+1,s,nt,h,hs,hn=>by
  unfold aH;split
  ·exact hn
  ·have iX:=h.iX hp hs;have hd:=qp (fun g hg=>(iX g hg).1);have hnow:=h.now;have hm:0≤max (gK (bq s)).1 (cZ s)∧max (gK (bq s)).1 (cZ s)≤8589934592:=⟨by omega,by omega⟩
   obtain⟨v1,z1⟩:=wQ hp hs h hm
   exact uP hp t k _ _ v1 z1 (fun n hn'=>by
    rcases alx.1 hn' with hn'|hn'
    ·exact hn n hn'
    ·exact Oa (h.tk hp hs hm) n hn')
end Go.Proofs.YtchnmpafhfjimaaGreatDoor
namespace Go.Proofs.YtchnmpafhfjimaaGreatDoor
open Go Go.Abs Go.Lab
def yC(p s:List UInt8):Bool:=s.take p.length==p
theorem Zl(s:ByteArray)(k:Nat):bl (s.extract k s.size)=(bl s).drop k:=by
 rw[iL,alP (by rw[alH,aY];omega)]
theorem BP(s:ByteArray)(k:Nat):s.extract k s.size=bF ((bl s).drop k):=oO (by rw[Zl,kN])
theorem AL(s:ByteArray)(k:Nat):s.extract 0 k=bF ((bl s).take k):=oO (by rw[iL,kN,al9,Nat.sub_zero])
theorem JH{p s:List UInt8}(h:yC p s=true):p.length≤s.length:=by
 have:=congrArg List.length (eq_of_beq h);rw[alv]at this;omega
end Go.Proofs.YtchnmpafhfjimaaGreatDoor
