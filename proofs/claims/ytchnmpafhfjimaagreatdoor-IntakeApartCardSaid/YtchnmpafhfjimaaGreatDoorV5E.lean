/- Lemmas for the statement of the last text of this claim. -/
import Derived.Test.YtchnmpafhfjimaaGreatDoorV5D
set_option linter.unusedSimpArgs false
set_option linter.unusedVariables false
namespace Go.Proofs.YtchnmpafhfjimaaGreatDoor
open Go Go.Abs Go.Lab
abbrev yR:Type:=List MT×List MT×List ByteArray×Unit
abbrev big:Nat:=9223372036854775807
def Gh(a b:List LT)(ks:List ByteArray):Bool:=ks.any fun k=> !decide (uR a k=uR b k)
theorem aad(a b:List LT)(ha:a.length≤big)(hb:b.length≤big)(ks:List ByteArray)(hk:ks.length≤big):∀(k i:Nat),i+k=ks.length→
  ∃j:Nat,aB pW (((i:Int),ks,(ks.length:Int),()),((a,()),((b,()),())))=some (if Gh a b (ks.drop i)then .inl (((j:Int),()),((a,()),((b,()),())))else .inr ((),((a,()),((b,()),())))):=by
 intro k
 induction k with
 |zero=>
  intro i h;refine⟨0,?_⟩;rw[ald (by omega)];refine aA ?_;have:decide ((i:Int)<(ks.length:Int))=false:=ak9 (by omega);simp only[pW,this,au,sS];rfl
 |succ k ih=>
  intro i h;obtain⟨e,he,hd⟩:=drop_at (l:=ks) (i:=i) (by omega);have hlt:decide ((i:Int)<(ks.length:Int))=true:=ak7 (by omega);have hw:aQ ((i:Int)+1)=((i+1:Nat):Int):=aG (by unfold big at hk;omega);have q1:=JV a e ha;have q2:=JV b e hb;rw[hd,show Gh a b (e::ks.drop (i+1))=((!decide (uR a e=uR b e))||Gh a b (ks.drop (i+1)))from List.any_cons];cases hq:decide (uR a e=uR b e)
  ·refine⟨i,aA ?_⟩;simp only[pW,aI,aF he,hlt,q1,q2,bg,jK,hq,au,sS];rfl
  ·obtain⟨j,hj⟩:=ih (i+1) (by omega);refine⟨j,?_⟩;rw[akY,akK,←hj];refine aD ?_;simp only[pW,aI,aF he,hlt,q1,q2,bg,jK,hq,au,sS,hw]
theorem XH(a b:List LT)(ha:a.length≤big)(hb:b.length≤big)(ks:List ByteArray)(hk:ks.length≤big):XO ((a,b,ks,()),())=some ((!Gh a b ks,()),()):=by
 obtain⟨j,h⟩:=aad a b ha hb ks hk ks.length 0 (by omega);rw[alg]at h;unfold XO;rw[show aB pW ((0,ks,(ks.length:Int),()),((a,()),((b,()),())))=_ from h];cases Gh a b ks
 ·simp only[au,sS,akN,if_false]
 ·simp only[au,sS,if_true,ak7 (show(j:Int)≥0 by omega)]
def RSz(r:yR):Prop:=PSs r.1∧PSs r.2.1∧r.2.2.1.length≤big
def RSs(l:List yR):Prop:=l.length≤big∧∀r∈l,RSz r
def FSs(f:List (List LT)):Prop:=f.length≤big∧∀l∈f,K6 l
def T9(r:yR)(x f:List LT):Bool:=allM r.1 f&&(!allM r.2.1 f&& !Gh x f r.2.2.1)
def Tc(x:List LT)(fs:List (List LT))(r:yR):Bool:=allM r.2.1 x&&fs.any (T9 r x)
def zV(l:List yR)(x:List LT)(fs:List (List LT)):Bool:=l.any (Tc x fs)
theorem YJ(r:yR)(hr:RSz r)(x:List LT)(hx:K6 x)(fs:List (List LT))(hf:FSs fs)(l:List yR)(n o:Int):∀(k i:Nat),i+k=fs.length→
  aB qi (((i:Int),x,fs,fs,l,n,o,(fs.length:Int),()),((r,()),()))=some (if(fs.drop i).any (T9 r x)then .inl ((true,()),())else .inr ((x,fs,l,n,o,()),())):=by
 intro k
 induction k with
 |zero=>
  intro i h;rw[ald (by omega)];refine aA ?_;have:decide ((i:Int)<(fs.length:Int))=false:=ak9 (by omega);simp only[qi,this,au,sS];rfl
 |succ k ih=>
  intro i h;obtain⟨e,he,hd⟩:=drop_at (l:=fs) (i:=i) (by omega);have hlt:decide ((i:Int)<(fs.length:Int))=true:=ak7 (by omega);have hlen:=hf.1;have hw:aQ ((i:Int)+1)=((i+1:Nat):Int):=aG (by unfold big at hlen;omega);have hze:=hf.2 e (akC he);have q1:=rq r.1 e hr.1 hze;have q2:=rq r.2.1 e hr.2.1 hze;have q3:=XH x e hx.1 hze.1 r.2.2.1 hr.2.2;rw[hd,List.any_cons]
  have go:∀b,T9 r x e=b→qi (((i:Int),x,fs,fs,l,n,o,(fs.length:Int),()),((r,()),()))=(if b then some (.inr (.inl ((true,()),())))else some (.inl ((((i+1:Nat):Int),x,fs,fs,l,n,o,(fs.length:Int),()),((r,()),())))):=by
   intro b hb;unfold T9 at hb;subst hb;simp only[qi,aI,aF he,hlt,q1,q2,q3,au,sS];cases allM r.1 e<;>cases allM r.2.1 e<;>cases Gh x e r.2.2.1<;>simp only[au,sS,hw]<;>rfl
  cases hq:T9 r x e
  ·rw[akK,←ih (i+1) (by omega)];exact aD (go false hq)
  ·exact aA (go true hq)
theorem ZR(l:List yR)(hl:RSs l)(x:List LT)(hx:K6 x)(fs:List (List LT))(hf:FSs fs):∀(k i:Nat),i+k=l.length→
  aB vT (((i:Int),x,fs,l,(l.length:Int),()),())=some (if(l.drop i).any (Tc x fs)then .inl ((true,()),())else .inr ((),())):=by
 intro k
 induction k with
 |zero=>
  intro i h;rw[ald (by omega)];refine aA ?_;have:decide ((i:Int)<(l.length:Int))=false:=ak9 (by omega);simp only[vT,this,au,sS];rfl
 |succ k ih=>
  intro i h;obtain⟨e,he,hd⟩:=drop_at (l:=l) (i:=i) (by omega);have hlt:decide ((i:Int)<(l.length:Int))=true:=ak7 (by omega);have hlen:=hl.1;have hw:aQ ((i:Int)+1)=((i+1:Nat):Int):=aG (by unfold big at hlen;omega);have hze:=hl.2 e (akC he);have q1:=rq e.2.1 x hze.2.1 hx;have q2:=YJ e hze x hx fs hf l (l.length:Int) (i:Int) fs.length 0 (by omega);rw[alg]at q2;rw[hd,List.any_cons]
  have go:∀b,Tc x fs e=b→vT (((i:Int),x,fs,l,(l.length:Int),()),())=(if b then some (.inr (.inl ((true,()),())))else some (.inl ((((i+1:Nat):Int),x,fs,l,(l.length:Int),()),()))):=by
   intro b hb;unfold Tc at hb;subst hb;simp only[vT,aI,aF he,hlt,q1,au,sS];cases allM e.2.1 x
   ·simp only[au,sS,hw];rfl
   ·simp only[au,sS];rw[show aB qi ((0,x,fs,fs,l,(l.length:Int),(i:Int),(fs.length:Int),()),((e,()),()))=_ from q2];cases fs.any (T9 e x)
    ·simp only[akN,if_false,au,sS,hw]
    ·simp only[if_true,au,sS]
  cases hq:Tc x fs e
  ·rw[akK,←ih (i+1) (by omega)];exact aD (go false hq)
  ·exact aA (go true hq)
theorem ZA(l:List yR)(hl:RSs l)(x:List LT)(hx:K6 x)(fs:List (List LT))(hf:FSs fs):ZK ((l,x,fs,()),())=some ((zV l x fs,()),()):=by
 have h:=ZR l hl x hx fs hf l.length 0 (by omega);rw[alg]at h;unfold ZK;refine aP _ h ?_;unfold zV;cases l.any (Tc x fs)<;>rfl
def vY(r:yR):Prop:=r.1.length≤8∧r.2.1.length≤8∧(∀m∈r.1,lY m)∧(∀m∈r.2.1,lY m)∧r.2.2.1.Sublist fV∧r.1≠ []∧r.2.1≠ []
theorem vY.z{r:yR}(h:vY r):RSz r:=by
 obtain⟨h1,h2,h3,h4,h5,_⟩:=h;refine⟨⟨by omega,fun m hm=>(h3 m hm).p⟩,⟨by omega,fun m hm=>(h4 m hm).p⟩,?_⟩;have:=h5.length_le;rw[show fV.length=4 from rfl]at this;unfold big;omega
theorem aa2:lY ((bs [115,101,118]),(0,((bs [99,114,105,116]),()))):=by
 unfold lY;decide+kernel
theorem WN:∀(n:Nat) (i:Int) (d:iK) (l:List yR),sU d→i=n→l.length+n≤1000→(∀r∈l,vY r)→
  ∃(l':List yR) (d':iK),aB El ((i,()),((d,()),(l,())))=some ((),((d',()),(l',())))∧sU d'∧l'.length=l.length+n∧∀r∈l',vY r:=by
 intro n
 induction n with
 |zero=>
  intro i d l hd hi hl hg;refine⟨l,d,aA ?_,hd,rfl,hg⟩;have:decide (i>0)=false:=ak9 (by omega);simp only[El,this,au,sS]
 |succ n ih=>
  intro i d l hd hi hl hg;obtain⟨s,d1,e1,hd1,hs,hsg⟩:=pO 1 d hd (by omega) (by omega);obtain⟨t,d2,e2,hd2,ht,htg⟩:=pO 1 d1 hd1 (by omega) (by omega);obtain⟨m,d3,e3,hd3,hm⟩:=AQ d2 hd2;obtain⟨ks,d4,e4,hd4,hk⟩:=FY d3 hd3;have h0:decide (i>0)=true:=ak7 (by omega);have b1:decide (s.length+([((bs [115,101,118]),(0,((bs [99,114,105,116]),())))]:List MT).length≤4294967296)=true:=ak7 (by simp;omega);have b2:decide (t.length+([m]:List MT).length≤4294967296)=true:=ak7 (by simp;omega);have b3:∀r:yR,decide (l.length+([r]:List yR).length≤4294967296)=true:=fun r=>ak7 (by simp;omega)
  obtain⟨l',d',e5,hd',hl',hg'⟩:=ih (i-1) d4 (l++ [(s++ [((bs [115,101,118]),(0,((bs [99,114,105,116]),())))],(t++ [m],(ks,())))]) hd4 (by omega) (by simp;omega) (fun x hx=>by
   rcases akU.1 hx with h|h
   ·exact hg x h
   ·simp only[al3]at h;subst h;refine⟨by simp;omega,by simp;omega,fun y hy=> ?_,fun y hy=> ?_,hk,by simp,by simp⟩
    ·rcases akU.1 hy with h|h
     ·exact hsg y h
     ·simp only[al3]at h;subst h;exact aa2
    ·rcases akU.1 hy with h|h
     ·exact htg y h
     ·simp only[al3]at h;subst h;exact hm)
  refine⟨l',d',?_,hd',by rw[hl'];simp;omega,hg'⟩;rw[←e5];refine aD ?_;simp only[El,h0,e1,e2,e3,e4,au,sS,b1,b2,b3,bH (x:=i-1) (by omega) (by omega)]
theorem Uy(d:iK)(hd:sU d):∃(l:List yR) (d':iK),m51 ((),((d,()),()))=some ((),((d',()),(l,())))∧sU d'∧l.length≤3∧∀r∈l,vY r:=by
 obtain⟨a,d1,e1,hd1,b1,_⟩:=fq 3 d hd (by omega);have b1:=b1 (by omega);obtain⟨l',d',e2,hd',hl',hg'⟩:=WN a.toNat a d1 [] hd1 (by omega) (by simp;omega) (fun m hm=>by cases hm);refine⟨l',d',?_,hd',by rw[hl'];simp;omega,hg'⟩;unfold m51;simp only[e1,aly,e2]
def fI{S E B:Type}(step:Nat→S→E→S⊕B)(fin:S→B):Nat→List E→S→B
 |_,[],s=>fin s
 |i,e::r,s=>match step i s e with
  | .inl s'=>fI step fin (i+1) r s'
  | .inr b=>b
theorem BZ{A B S E:Type}{f:A→Option (A⊕B)}(l:List E)(st:Nat→S→A)(step:Nat→S→E→S⊕B)(fin:S→B)(I:Nat→S→Prop)
  (h1:∀i e s,l[i]?=some e→i<l.length→I i s→f (st i s)=some (match step i s e with| .inl s'=>.inl (st (i+1) s')| .inr b=>.inr b))
  (hI:∀i e s s',l[i]?=some e→I i s→step i s e= .inl s'→I (i+1) s')
  (h2:∀s,I l.length s→f (st l.length s)=some (.inr (fin s))):
  ∀(k i:Nat) (s:S),i+k=l.length→I i s→aB f (st i s)=some (fI step fin i (l.drop i) s):=by
 intro k
 induction k with
 |zero=>
  intro i s h hi;obtain rfl:i=l.length:=by omega
  rw[al7];exact aA (h2 s hi)
 |succ k ih=>
  intro i s h hi;obtain⟨e,he,hd⟩:=drop_at (l:=l) (i:=i) (by omega);have q:=h1 i e s he (by omega) hi;rw[hd];unfold fI
  cases hs:step i s e with
  |inl s'=>
   rw[hs]at q;simp only;rw[←ih (i+1) s' (by omega) (hI i e s s' he hi hs)];exact aD q
  |inr b=>
   rw[hs]at q;exact aA q
theorem dJ{A B S E:Type}{f:A→Option (A⊕B)}(l:List E)(st:Nat→S→A)(step:Nat→S→E→S⊕B)(fin:S→B)
  (h1:∀i e s,l[i]?=some e→i<l.length→f (st i s)=some (match step i s e with| .inl s'=>.inl (st (i+1) s')| .inr b=>.inr b))
  (h2:∀s,f (st l.length s)=some (.inr (fin s))) (s:S):aB f (st 0 s)=some (fI step fin 0 l s):=by
 have:=BZ l st step fin (fun _ _=>True) (fun i e s he hl _=>h1 i e s he hl) (fun _ _ _ _ _ _ _=>trivial) (fun s _=>h2 s) l.length 0 s (by omega) trivial
 rwa [alg]at this
theorem qJ{S E B:Type}(g:S→E→S)(fin:S→B):∀(l:List E) (i:Nat) (s:S),fI (fun _ s e=>.inl (g s e)) fin i l s=fin (l.foldl g s):=by
 intro l
 induction l with
 |nil=>intro i s;rfl
 |cons e r ih=>intro i s;exact ih (i+1) (g s e)
theorem nE{A B E:Type}{f:A→Option (A⊕B)}(l:List E)(st:Nat→A)(fin:B)
  (h1:∀i e,l[i]?=some e→i<l.length→f (st i)=some (.inl (st (i+1)))) (h2:f (st l.length)=some (.inr fin)):aB f (st 0)=some fin:=by
 have:=dJ (S:=Unit) l (fun i _=>st i) (fun _ _ _=>.inl ()) (fun _=>fin) (fun i e _ he hi=>h1 i e he hi) (fun _=>h2) ();exact this.trans (congrArg some (qJ (fun _ _=>()) (fun _=>fin) l 0 ()))
theorem jV{A B:Type}{f:A→Option (A⊕B)}{Q:B→Prop}(I:Nat→A→Prop)(n:Nat)
  (h1:∀i a,i<n→I i a→∃a',f a=some (.inl a')∧I (i+1) a') (h2:∀a,I n a→∃b,f a=some (.inr b)∧Q b):∀a,I 0 a→∃b,aB f a=some b∧Q b:=by
 have:∀(k i:Nat) a,i+k=n→I i a→∃b,aB f a=some b∧Q b:=by
  intro k
  induction k with
  |zero=>
   intro i a h hi;obtain rfl:i=n:=by omega
   obtain⟨b,h,hq⟩:=h2 a hi;exact⟨b,aA h,hq⟩
  |succ k ih=>
   intro i a h hi;obtain⟨a',h,hi'⟩:=h1 i a (by omega) hi;obtain⟨b,hb,hq⟩:=ih (i+1) a' (by omega) hi';exact⟨b,by rw[←hb];exact aD h,hq⟩
 exact fun a h=>this n 0 a (by omega) h
theorem dU{i n:Nat}(h:i<n):decide ((i:Int)<(n:Int))=true:=ak7 (by omega)
theorem fH(n:Nat):decide ((n:Int)<(n:Int))=false:=ak9 (by omega)
abbrev lH:Type:=Int×Int×Int×Int×List MT×Unit
def SSz(s:lH):Prop:=s.2.2.2.2.1.length≤4294967296∧∀m∈s.2.2.2.2.1,PSz m∧SF m
def L8(l:List lH):Prop:=l.length≤1000∧∀s∈l,SSz s
theorem SSz.p{s:lH}(h:SSz s):PSs s.2.2.2.2.1:=⟨by have:=h.1;omega,fun m hm=>(h.2 m hm).1⟩
theorem L8.at{l:List lH}(h:L8 l){i:Nat}{e:lH}(he:l[i]?=some e):SSz e:=h.2 e (akC he)
def ag1(x:List LT)(t:Int)(s:lH):Bool:=decide (s.2.1≤t)&&(decide (t<s.2.2.1)&&allM s.2.2.2.2.1 x)
def UE(x:List LT)(t:Int)(a:Int×Bool)(s:lH):Int×Bool:=bif ag1 x t s&&(!a.2||decide (s.1<a.1))then(s.1,true)else a
def GA(x:List LT)(t:Int)(l:List lH):Int×Bool:=l.foldl (UE x t) (0,false)
theorem YM(l:List lH)(hl:L8 l)(x:List LT)(hx:K6 x)(t:Int):XM ((l,x,t,()),())=some (((GA x t l).1,(GA x t l).2,()),()):=by
 have h:=dJ (f:=zb) l (fun i (a:Int×Bool)=>(((i:Int),a.1,a.2,x,t,l,(l.length:Int),()),())) (fun _ a e=>.inl (UE x t a e)) (fun a=>((a.2,a.1,()),())) ?_ ?_ (0,false)
 ·rw[qJ]at h;unfold XM;exact aP _ h rfl
 ·intro i e ⟨a1,a2⟩ he hi;have hl1:=hl.1;have q:=rq e.2.2.2.2.1 x (hl.at he).p hx;have hw:aQ ((i:Int)+1)=((i+1:Nat):Int):=aG (by omega);unfold UE ag1;simp only[zb,aI,aF he,dU hi,q,au,sS];cases decide (e.2.1≤t)<;>cases decide (t<e.2.2.1)<;>cases allM e.2.2.2.2.1 x<;>cases a2<;>cases decide (e.1<a1)<;>simp only[au,sS,hw,akY,akV,alb,akQ,akM,akK]
 ·intro a;simp only[zb,fH,au,sS]
theorem kY{E B:Type}(p:E→Bool)(b:Nat→B)(fin:B):∀(l:List E) (i:Nat),∃j,i≤j∧fI (fun i (_:Unit) e=>bif p e then .inr (b i)else .inl ()) (fun _=>fin) i l ()=bif l.any p then b j else fin:=by
 intro l
 induction l with
 |nil=>intro i;exact⟨i,akJ _,rfl⟩
 |cons e r ih=>
  intro i;cases h:p e
  ·obtain⟨j,h1,h2⟩:=ih (i+1);refine⟨j,by omega,?_⟩;simp only[fI,h,alI,List.any_cons,akK];exact h2
  ·exact⟨i,akJ _,by simp only[fI,h,cond_true,List.any_cons,akQ]⟩
theorem Ju(m:MT)(hm:SF m):Tz ((m,()),())=some ((!bC m,()),()):=by
 unfold Tz;exact aP _ (Qm m hm) rfl
theorem Az{E:Type}(p:E→Bool)(l:List E):(l.any fun e=> !p e)= !l.all p:=by
 induction l with
 |nil=>rfl
 |cons e r ih=>rw[List.any_cons,List.all_cons,ih,Bool.not_and]
theorem UL(ms:List MT)(hs:ms.length≤big)(hm:∀m∈ms,SF m):∃j:Nat,aB uD ((0,ms,(ms.length:Int),()),())=some (bif ms.all bC then .inr ((),())else .inl (((j:Int),()),())):=by
 have h:=dJ (f:=uD) ms (fun i (_:Unit)=>(((i:Int),ms,(ms.length:Int),()),())) (fun i _ e=>bif !bC e then .inr (.inl (((i:Int),()),()))else .inl ()) (fun _=>.inr ((),())) ?_ ?_ ()
 ·obtain⟨j,_,hj⟩:=kY (fun e=> !bC e) (fun i:Nat=>(Sum.inl (((i:Int),()),()):((Int×Unit)×Unit)⊕(Unit×Unit))) (.inr ((),())) ms 0;refine⟨j,?_⟩;refine h.trans (congrArg some (hj.trans ?_));rw[Az];cases ms.all bC<;>rfl
 ·intro i e _ he hi;unfold big at hs;have hw:aQ ((i:Int)+1)=((i+1:Nat):Int):=aG (by omega);simp only[uD,aI,aF he,dU hi,Ju e (hm e (akC he)),au,sS];cases bC e<;>simp only[au,sS,hw,akY,akV]
 ·intro _;simp only[uD,fH,au,sS]
def wZ(last:Int)(s:lH):Int:=
 bif decide (s.1<1)||decide (s.1≤last)then 6
 else bif decide (s.2.1<0)||(decide (s.2.1≥s.2.2.1)||(decide (s.2.2.1>8589934592)||decide (s.2.2.2.1<0)))then 1
 else bif (s.2.2.2.2.1.length:Int)==0 then 7
 else bif decide ((s.2.2.2.2.1.length:Int)>8)then 5
 else bif s.2.2.2.2.1.all bC then 0 else 8
theorem aa8(s:lH)(hs:SSz s)(last:Int):Zk ((s,last,()),())=some ((wZ last s,()),()):=by
 obtain⟨j,hj⟩:=UL s.2.2.2.2.1 (by have:=hs.1;unfold big;omega) (fun m h=>(hs.2 m h).2);unfold Zk wZ;have hj0:decide ((j:Int)≥0)=true:=ak7 (by omega);cases decide (s.1<1)<;>cases decide (s.1≤last)<;>simp only[au,sS,alb,akQ,akM,akK];cases decide (s.2.1<0)<;>simp only[au,sS,alb,akQ,akM,akK];cases decide (s.2.1≥s.2.2.1)<;>simp only[au,sS,alb,akQ,akM,akK];cases decide (s.2.2.1>8589934592)<;>simp only[au,sS,alb,akQ,akM,akK];cases decide (s.2.2.2.1<0)<;>simp only[au,sS,alb,akQ,akM,akK];cases ((s.2.2.2.2.1.length:Int)==0)<;>simp only[au,sS];cases decide ((s.2.2.2.2.1.length:Int)>8)<;>simp only[au,sS];rw[hj];cases s.2.2.2.2.1.all bC<;>simp only[au,sS,hj0]
def Od:Int→List lH→Int
 |_,[]=>0
 |last,s::r=>bif wZ last s !=0 then wZ last s else Od s.1 r
def J2(l:List lH):Int:=bif decide ((l.length:Int)>24)then 5 else Od 0 l
theorem Wl{B:Type}(f:Int→B)(fin:B):∀(l:List lH) (i:Nat) (last:Int),∃b,fI (fun _ last e=>bif wZ last e !=0 then .inr (f (wZ last e))else .inl e.1) (fun _=>fin) i l last=b∧(Od last l=0∧b=fin∨Od last l≠0∧b=f (Od last l)):=by
 intro l
 induction l with
 |nil=>intro i last;exact⟨fin,rfl,.inl ⟨rfl,rfl⟩⟩
 |cons s r ih=>
  intro i last;cases h:(wZ last s !=0)
  ·obtain⟨b,h1,h2⟩:=ih (i+1) s.1;refine⟨b,?_,?_⟩
   ·simp only[fI,h,alI];exact h1
   ·simp only[Od,h,alI];exact h2
  ·refine⟨f (wZ last s),?_,.inr ⟨?_,?_⟩⟩
   ·simp only[fI,h,cond_true]
   ·simp only[Od,h,cond_true];exact al6.1 h
   ·simp only[Od,h,cond_true]
theorem abP(l:List lH)(hl:L8 l):m81 ((l,()),())=some ((J2 l,()),()):=by
 unfold m81 J2;cases decide ((l.length:Int)>24)
 ·simp only[au,sS];have h:=dJ (f:=Eh) l (fun i (last:Int)=>(((i:Int),last,l,(l.length:Int),()),())) (fun _ last e=>bif wZ last e !=0 then .inr (.inl ((wZ last e,()),()))else .inl e.1) (fun _=>.inr ((),())) ?_ ?_ 0
  ·obtain⟨b,h1,h2⟩:=Wl (fun c:Int=>(Sum.inl ((c,()),()):((Int×Unit)×Unit)⊕(Unit×Unit))) (.inr ((),())) l 0 0;refine aP b (h.trans (congrArg some h1)) ?_;rcases h2 with⟨e1,rfl⟩|⟨e1,rfl⟩
   ·rw[e1]
   ·rfl
  ·intro i e last he hi;have hl1:=hl.1;have hw:aQ ((i:Int)+1)=((i+1:Nat):Int):=aG (by omega);simp only[Eh,aI,aF he,dU hi,aa8 e (hl.at he) last,au,sS];cases wZ last e !=0<;>simp only[au,sS,hw]
  ·intro _;simp only[Eh,fH,au,sS]
 ·simp only[au,sS]
theorem Yi(l:List lH)(hl:L8 l):TK ((l,()),())=some ((),(l,())):=by
 have hl1:=hl.1;have h:=nE (f:=yZ) l (fun i=>(((i:Int),(l.length:Int),()),(l,()))) ((),(l,())) ?_ ?_
 ·unfold TK acG;have hb:decide (l.length≤4294967296)=true:=ak7 (by omega);simp only[hb,au,sS];exact aP _ h rfl
 ·intro i e he hi;have hw:aQ ((i:Int)+1)=((i+1:Nat):Int):=aG (by omega);have hb:decide ((0:Int)≤(i:Int)∧(i:Int)<(l.length:Int))=true:=ak7 (by omega);have hc:decide (e.2.2.2.2.1.length≤4294967296)=true:=ak7 (hl.at he).1
  have hs:l.set i (e.1,(e.2.1,(e.2.2.1,(e.2.2.2.1,(e.2.2.2.2.1,())))))=l:=by
   obtain⟨hlt,rfl⟩:=ak8.1 he;exact List.set_getElem_self hlt
  simp only[yZ,ady,dU hi,hb,akA,he,hc,hs,hw,au,sS]
 ·simp only[yZ,fH,au,sS]
theorem L8.app{l:List lH}(hl:L8 l)(h1:l.length≤999){s:lH}(hs:SSz s):L8 (l++ [s]):=
 ⟨by simp;omega,fun x hx=>by
  rcases akU.1 hx with h|h
  ·exact hl.2 x h
  ·simp at h;subst h;exact hs⟩
theorem aaf:∀(l:List lH) (last:Int),Od last l=0→∀s∈l,last<s.1:=by
 intro l
 induction l with
 |nil=>intro last _ s hs;cases hs
 |cons e r ih=>
  intro last h s hs;unfold Od at h;cases hc:(wZ last e !=0)
  ·rw[hc]at h;simp only[alI]at h;have h0:wZ last e=0:=by simpa using hc
   have hlt:last<e.1:=by
    unfold wZ at h0;cases h1:decide (e.1≤last)
    ·have:=amc h1;omega
    ·rw[h1,alb]at h0;cases h0
   rcases als.1 hs with rfl|hs
   ·exact hlt
   ·have:=ih _ h s hs;omega
  ·rw[hc]at h;simp only[cond_true]at h;rw[h]at hc;cases hc
theorem TB:∀(a:List lH) (last:Int) (s:lH) (b:List lH),Od last (a++s::b)=0→∀y∈b,s.1<y.1:=by
 intro a
 induction a with
 |nil=>
  intro last s b h;rw[amm]at h;unfold Od at h;cases hc:(wZ last s !=0)
  ·rw[hc]at h;exact aaf b s.1 h
  ·rw[hc]at h;simp only[cond_true]at h;rw[h]at hc;cases hc
 |cons e r ih=>
  intro last s b h;rw[amb]at h;unfold Od at h;cases hc:(wZ last e !=0)
  ·rw[hc]at h;exact ih e.1 s b h
  ·rw[hc]at h;simp only[cond_true]at h;rw[h]at hc;cases hc
theorem adb{l:List lH}(h:J2 l=0):Od 0 l=0∧l.length≤24:=by
 unfold J2 at h;cases hc:decide ((l.length:Int)>24)
 ·rw[hc]at h;exact⟨h,by have:=amc hc;omega⟩
 ·rw[hc]at h;cases h
def GoodS(s:lH):Prop:=0≤s.2.1∧s.2.1<s.2.2.1∧s.2.2.1≤2000∧0≤s.2.2.2.1∧s.2.2.2.2.1≠ []∧s.2.2.2.2.1.length≤8∧∀m∈s.2.2.2.2.1,lY m
theorem GoodS.z{s:lH}(h:GoodS s):SSz s:=⟨by have:=h.2.2.2.2.2.1;omega,fun m hm=>⟨(h.2.2.2.2.2.2 m hm).p,(h.2.2.2.2.2.2 m hm).z⟩⟩
theorem H9{l:List MT}(h:∀m∈l,lY m):l.all bC=true:=alm.2 fun m hm=>(h m hm).1
def KC(l:List lH):Prop:=l.length≤3∧Od 0 l=0∧∀s∈l,s.1≤2*(l.length:Int)∧GoodS s
theorem KC.iy{l:List lH}(h:KC l):J2 l=0:=by
 unfold J2;rw[ak9 (by have:=h.1;omega),alI,h.2.1]
theorem KC.z{l:List lH}(h:KC l):L8 l:=⟨by have:=h.1;omega,fun s hs=>(h.2.2 s hs).2.z⟩
def yg{E:Type}(bad:Option E→E→Bool):Option E→List E→Bool
 |_,[]=>true
 |p,e::r=> !bad p e&&yg bad (some e) r
theorem nu{A B E:Type}{f:A→Option (A⊕B)}(l:List E)(st:Nat→A)(bad:Option E→E→Bool)(no yes:B)
  (h1:∀i e,l[i]?=some e→i<l.length→f (st i)=some (bif bad (if i=0 then none else l[i-1]?) e then .inr no else .inl (st (i+1)))) (h2:f (st l.length)=some (.inr yes)):
  aB f (st 0)=some (bif yg bad none l then yes else no):=by
 have key:∀(k i:Nat),i+k=l.length→aB f (st i)=some (bif yg bad (if i=0 then none else l[i-1]?) (l.drop i)then yes else no):=by
  intro k
  induction k with
  |zero=>
   intro i h;obtain rfl:i=l.length:=by omega
   rw[al7];exact aA h2
  |succ k ih=>
   intro i h;obtain⟨e,he,hd⟩:=drop_at (l:=l) (i:=i) (by omega);have q:=h1 i e he (by omega);rw[hd];unfold yg;cases hb:bad (if i=0 then none else l[i-1]?) e
   ·rw[hb]at q;have:=ih (i+1) (by omega);rw[if_neg (by omega),Nat.add_sub_cancel,he]at this;rw[akV,alq,←this];exact aD q
   ·rw[hb]at q;exact aA q
 have:=key l.length 0 (by omega);rw[alg]at this;exact this
theorem kH{E:Type}{l:List E}{i:Nat}(hi:i<l.length):i=0∨∃p,0<i∧l[i-1]?=some p∧(i≤9223372036854775807→aQ ((i:Int)-1)=((i-1:Nat):Int)):=by
 by_cases h:i=0
 ·exact .inl h
 ·obtain⟨p,hp⟩:=getD_some (l:=l) (i:=i-1) (by omega);exact .inr ⟨p,by omega,hp,fun hb=>by rw[bH (by omega) (by omega)];omega⟩
def leB(a b:ByteArray):Bool:=Op.bytesLess a.toList b.toList||a.toList==b.toList
def Fa(p:Option ByteArray)(k:ByteArray):Bool:= !kM k||(match p with|none=>false|some q=>leB k q)
def j5(l:List ByteArray):Bool:=yg Fa none l
theorem aac(s:ByteArray)(hs:s.size≤big):ZN ((s,()),())=some ((kM s,()),()):=by
 unfold ZN;exact aP _ (KE s hs) rfl
theorem Rj(l:List ByteArray)(hl:l.length≤big)(hs:∀k∈l,k.size≤big):UK ((l,()),())=some ((j5 l,()),()):=by
 have h:=nu (f:=vK) l (fun i=>(((i:Int),l,l,(l.length:Int),()),())) Fa (.inl ((false,()),())) (.inr ((),())) ?_ ?_
 ·unfold UK;refine aP _ h ?_;unfold j5;cases yg Fa none l<;>rfl
 ·intro i e he hi;unfold big at hl;have hw:aQ ((i:Int)+1)=((i+1:Nat):Int):=aG (by omega);have q:=aac e (hs e (akC he));rcases kH hi with h0|⟨p,h0,hp,hp1⟩
  ·rw[if_pos h0];have:decide ((i:Int)>0)=false:=ak9 (by omega);unfold Fa;simp only[vK,aI,aF he,dU hi,q,this,au,sS];cases kM e<;>simp only[au,sS,hw,akM]
  ·rw[if_neg (by omega),hp];have:decide ((i:Int)>0)=true:=ak7 (by omega);unfold Fa leB;simp only[vK,aI,aF he,dU hi,q,this,hp1 (by omega),aF hp,au,sS];cases kM e<;>cases Op.bytesLess e.toList p.toList||e.toList==p.toList<;>simp only[au,sS,hw,akM,alb]
 ·simp only[vK,fH,au,sS]
theorem aaG(l:List ByteArray)(hl:l.length≤big)(hs:∀k∈l,k.size≤big):Z0 ((l,()),())=some ((j5 l,()),()):=by
 have h:=nu (f:=uP) l (fun i=>(((i:Int),l,()),())) Fa (.inl ((false,()),())) (.inr ((),())) ?_ ?_
 ·unfold Z0;refine aP _ h ?_;unfold j5;cases yg Fa none l<;>rfl
 ·intro i e he hi;unfold big at hl;have hw:aQ ((i:Int)+1)=((i+1:Nat):Int):=aG (by omega);have q:=J6 e (hs e (akC he));rcases kH hi with h0|⟨p,h0,hp,hp1⟩
  ·rw[if_pos h0];have:decide ((i:Int)>0)=false:=ak9 (by omega);unfold Fa;simp only[uP,aI,aF he,dU hi,q,this,au,sS];cases kM e<;>simp only[au,sS,hw,akM]
  ·rw[if_neg (by omega),hp];have:decide ((i:Int)>0)=true:=ak7 (by omega);unfold Fa leB;simp only[uP,aI,aF he,dU hi,q,this,hp1 (by omega),aF hp,au,sS];cases kM e<;>cases Op.bytesLess e.toList p.toList||e.toList==p.toList<;>simp only[au,sS,hw,akM,alb]
 ·simp only[uP,fH,au,sS]
def La{E:Type}(iy:E→Int):List E→Int
 | []=>0
 |e::r=>bif iy e !=0 then iy e else La iy r
theorem FM{A B E:Type}{f:A→Option (A⊕B)}(l:List E)(st:Nat→A)(iy:E→Int)(no:Int→B)(yes:B)
  (h1:∀i e,l[i]?=some e→i<l.length→f (st i)=some (bif iy e !=0 then .inr (no (iy e))else .inl (st (i+1)))) (h2:f (st l.length)=some (.inr yes)):
  aB f (st 0)=some (bif La iy l !=0 then no (La iy l)else yes):=by
 have key:∀(k i:Nat),i+k=l.length→aB f (st i)=some (bif La iy (l.drop i) !=0 then no (La iy (l.drop i))else yes):=by
  intro k
  induction k with
  |zero=>
   intro i h;obtain rfl:i=l.length:=by omega
   rw[al7];exact aA h2
  |succ k ih=>
   intro i h;obtain⟨e,he,hd⟩:=drop_at (l:=l) (i:=i) (by omega);have q:=h1 i e he (by omega);rw[hd];unfold La;cases hb:(iy e !=0)
   ·rw[hb]at q;rw[alI,←ih (i+1) (by omega)];exact aD q
   ·rw[hb]at q;rw[cond_true,hb];exact aA q
 have:=key l.length 0 (by omega);rw[alg]at this;exact this
def TSz(r:yR):Prop:=(r.1.length≤big∧∀m∈r.1,SF m)∧(r.2.1.length≤big∧∀m∈r.2.1,SF m)∧r.2.2.1.length≤big∧∀k∈r.2.2.1,k.size≤big
def Kr(r:yR):Int:=
 bif (r.1.length:Int)==0||(r.2.1.length:Int)==0 then 7
 else bif decide ((r.1.length:Int)>8)||(decide ((r.2.1.length:Int)>8)||decide ((r.2.2.1.length:Int)>12))then 5
 else bif !r.1.all bC||(!r.2.1.all bC|| !j5 r.2.2.1)then 8 else 0
def Cu(l:List yR):Int:=bif decide ((l.length:Int)>12)then 5 else La Kr l
theorem Na(ms:List MT)(hs:ms.length≤big)(hm:∀m∈ms,SF m):∃j:Nat,aB tu ((0,ms,(ms.length:Int),()),())=some (bif ms.all bC then .inr ((),())else .inl (((j:Int),()),()))∧
  aB uj ((0,ms,(ms.length:Int),()),())=some (bif ms.all bC then .inr ((),())else .inl (((j:Int),()),())):=by
 have h:=dJ (f:=tu) ms (fun i (_:Unit)=>(((i:Int),ms,(ms.length:Int),()),())) (fun i _ e=>bif !bC e then .inr (.inl (((i:Int),()),()))else .inl ()) (fun _=>.inr ((),())) ?_ ?_ ();have g:=dJ (f:=uj) ms (fun i (_:Unit)=>(((i:Int),ms,(ms.length:Int),()),())) (fun i _ e=>bif !bC e then .inr (.inl (((i:Int),()),()))else .inl ()) (fun _=>.inr ((),())) ?_ ?_ ()
 ·obtain⟨j,_,hj⟩:=kY (fun e=> !bC e) (fun i:Nat=>(Sum.inl (((i:Int),()),()):((Int×Unit)×Unit)⊕(Unit×Unit))) (.inr ((),())) ms 0
  have hh:(bif (ms.any fun e=> !bC e)then(Sum.inl (((j:Int),()),()):((Int×Unit)×Unit)⊕(Unit×Unit))else .inr ((),()))=(bif ms.all bC then .inr ((),())else .inl (((j:Int),()),())):=by
   rw[Az];cases ms.all bC<;>rfl
  exact⟨j,h.trans (congrArg some (hj.trans hh)),g.trans (congrArg some (hj.trans hh))⟩
 ·intro i e _ he hi;unfold big at hs;have hw:aQ ((i:Int)+1)=((i+1:Nat):Int):=aG (by omega);simp only[uj,aI,aF he,dU hi,Ju e (hm e (akC he)),au,sS];cases bC e<;>simp only[au,sS,hw,akY,akV]
 ·intro _;simp only[uj,fH,au,sS]
 ·intro i e _ he hi;unfold big at hs;have hw:aQ ((i:Int)+1)=((i+1:Nat):Int):=aG (by omega);simp only[tu,aI,aF he,dU hi,Ju e (hm e (akC he)),au,sS];cases bC e<;>simp only[au,sS,hw,akY,akV]
 ·intro _;simp only[tu,fH,au,sS]
theorem aam(r:yR)(hr:TSz r):XL ((r,()),())=some ((Kr r,()),()):=by
 obtain⟨⟨a1,a2⟩,⟨b1,b2⟩,c1,c2⟩:=hr;obtain⟨j,hj,_⟩:=Na r.1 a1 a2;obtain⟨k,_,hk⟩:=Na r.2.1 b1 b2;have q:=Rj r.2.2.1 c1 c2;have hj0:decide ((j:Int)≥0)=true:=ak7 (by omega);have hk0:decide ((k:Int)≥0)=true:=ak7 (by omega);unfold XL Kr;cases ((r.1.length:Int)==0)<;>simp only[au,sS,alb,akQ,akM,akK];cases ((r.2.1.length:Int)==0)<;>simp only[au,sS,alb,akQ,akM,akK];cases decide ((r.1.length:Int)>8)<;>simp only[au,sS,alb,akQ,akM,akK];cases decide ((r.2.1.length:Int)>8)<;>simp only[au,sS,alb,akQ,akM,akK];cases decide ((r.2.2.1.length:Int)>12)<;>simp only[au,sS,alb,akQ,akM,akK];rw[hj,hk];cases r.1.all bC<;>simp only[au,sS,hj0,q,akY,akV,alb,akQ,akM,akK];cases r.2.1.all bC<;>simp only[au,sS,hk0,akY,akV,alb,akQ,akM,akK];cases j5 r.2.2.1<;>simp only[au,sS,akY,akV]
theorem ach(l:List yR)(hl:l.length≤big)(hr:∀r∈l,TSz r):m79 ((l,()),())=some ((Cu l,()),()):=by
 unfold m79 Cu;cases decide ((l.length:Int)>12)
 ·simp only[au,sS];have h:=FM (f:=DL) l (fun i=>(((i:Int),l,(l.length:Int),()),())) Kr (fun c=>.inl ((c,()),())) (.inr ((),())) ?_ ?_
  ·refine aP _ h ?_;cases hc:(La Kr l !=0)
   ·have:La Kr l=0:=by simpa using hc
    rw[this];rfl
   ·rfl
  ·intro i e he hi;unfold big at hl;have hw:aQ ((i:Int)+1)=((i+1:Nat):Int):=aG (by omega);simp only[DL,aI,aF he,dU hi,aam e (hr e (akC he)),au,sS];cases Kr e !=0<;>simp only[au,sS,hw]
  ·simp only[DL,fH,au,sS]
 ·simp only[au,sS]
theorem Yg(r:List yR)(hr:RSs r)(l:List lH)(hl:L8 l)(x:List LT)(hx:K6 x)(f:List (List LT))(hf:FSs f)(t:Int):aal ((r,l,x,f,t,()),())=some (((GA x t l).2||zV r x f,()),()):=by
 unfold aal;simp only[YM l hl x hx,ZA r hr x hx f hf,au,sS];cases (GA x t l).2<;>rfl
theorem Un(a b:ByteArray):bl (a++b)=bl a++bl b:=by
 show(a++b).data.toList=_
 rw[ByteArray.data_append,Array.toList_append]
theorem WS(a b:ByteArray):(a++b).size=a.size+b.size:=ByteArray.size_append
theorem jw(a b:List UInt8):bR a++bR b=bR (a++b):=pU (by rw[Un,kr,kr,kr])
theorem abJ(s:ByteArray)(b:List UInt8):s++bR b=bR (bl s++b):=pU (by rw[Un,kr,kr])
theorem VJ:ByteArray.empty=bR []:=rfl
theorem UQ{A:Type}{o:Option A}{x:A}(h:∃r,o=some r∧r=x):o=some x:=by
 obtain⟨r,h1,rfl⟩:=h;exact h1
def BS(p:Option LT)(x:LT):Bool:= !kM x.1||(!tQ x.2.1||(x.2.1.toList==ByteArray.empty.toList||(match p with|none=>false|some q=>leB x.1 q.1)))
def bO(l:List LT):Bool:= !decide ((l.length:Int)>12)&&yg BS none l
def IV(l:List LT):Prop:=l.length≤big∧∀x∈l,x.1.size≤big∧x.2.1.size≤big
theorem BG(l:List LT)(hl:IV l):m66 ((l,()),())=some ((bO l,()),()):=by
 unfold m66 bO;cases hc:decide ((l.length:Int)>12)
 ·simp only[au,sS];have h:=nu (f:=Ar) l (fun i=>(((i:Int),l,l,(l.length:Int),()),())) BS (.inl ((false,()),())) (.inr ((),())) ?_ ?_
  ·refine aP _ h ?_;cases yg BS none l<;>rfl
  ·intro i e he hi;have hl1:=hl.1;unfold big at hl1;have hw:aQ ((i:Int)+1)=((i+1:Nat):Int):=aG (by omega);obtain⟨z1,z2⟩:=hl.2 e (akC he);have q1:=KE e.1 z1;have q2:=QZ e.2.1 z2;rcases kH hi with h0|⟨p,h0,hp,hp1⟩
   ·rw[if_pos h0];have:decide ((i:Int)>0)=false:=ak9 (by omega);unfold BS;simp only[Ar,aI,aF he,dU hi,q1,q2,this,au,sS];cases kM e.1<;>cases tQ e.2.1<;>cases (e.2.1.toList==ByteArray.empty.toList)<;>simp only[au,sS,hw,akM,alb,akK,akQ]
   ·rw[if_neg (by omega),hp];have:decide ((i:Int)>0)=true:=ak7 (by omega);unfold BS leB;simp only[Ar,aI,aF he,dU hi,q1,q2,this,hp1 (by omega),aF hp,au,sS];cases kM e.1<;>cases tQ e.2.1<;>cases (e.2.1.toList==ByteArray.empty.toList)<;>cases Op.bytesLess e.1.toList p.1.toList||e.1.toList==p.1.toList<;>simp only[au,sS,hw,akM,alb,akK,akQ]
  ·simp only[Ar,fH,au,sS]
 ·simp only[au,sS]
theorem PD(l:List LT)(hl:IV l):m57 ((l,()),())=some ((bO l,()),()):=by
 unfold m57 bO;cases hc:decide ((l.length:Int)>12)
 ·simp only[au,sS];have h:=nu (f:=zL) l (fun i=>(((i:Int),l,()),())) BS (.inl ((false,()),())) (.inr ((),())) ?_ ?_
  ·refine aP _ h ?_;cases yg BS none l<;>rfl
  ·intro i e he hi;have hl1:=hl.1;unfold big at hl1;have hw:aQ ((i:Int)+1)=((i+1:Nat):Int):=aG (by omega);obtain⟨z1,z2⟩:=hl.2 e (akC he);have q1:=J6 e.1 z1;have q2:=Qx e.2.1 z2;rcases kH hi with h0|⟨p,h0,hp,hp1⟩
   ·rw[if_pos h0];have:decide ((i:Int)>0)=false:=ak9 (by omega);unfold BS;simp only[zL,aI,aF he,dU hi,q1,q2,this,au,sS];cases kM e.1<;>cases tQ e.2.1<;>cases (e.2.1.toList==ByteArray.empty.toList)<;>simp only[au,sS,hw,akM,alb,akK,akQ]
   ·rw[if_neg (by omega),hp];have:decide ((i:Int)>0)=true:=ak7 (by omega);unfold BS leB;simp only[zL,aI,aF he,dU hi,q1,q2,this,hp1 (by omega),aF hp,au,sS];cases kM e.1<;>cases tQ e.2.1<;>cases (e.2.1.toList==ByteArray.empty.toList)<;>cases Op.bytesLess e.1.toList p.1.toList||e.1.toList==p.1.toList<;>simp only[au,sS,hw,akM,alb,akK,akQ]
  ·simp only[zL,fH,au,sS]
 ·simp only[au,sS]
theorem DU{E:Type}{bad:Option E→E→Bool}:∀{l:List E} {p:Option E},yg bad p l=true→∀x∈l,∃q,bad q x=false
 | [],_,_,x,hx=>by cases hx
 |e::r,p,h,x,hx=>by
  unfold yg at h;rw[akS]at h;rcases als.1 hx with rfl|hx
  ·exact⟨p,by simpa using h.1⟩
  ·exact DU h.2 x hx
theorem Yb{q:Option LT}{x:LT}(h:BS q x=false):kM x.1=true∧tQ x.2.1=true∧x.2.1≠ByteArray.empty:=by
 unfold BS at h;simp only[al4]at h;refine⟨by simpa using h.1,by simpa using h.2.1,fun e=> ?_⟩;rw[e]at h;simp at h
theorem gK{l:List LT}(h:bO l=true):l.length≤12∧∀x∈l,kM x.1=true∧tQ x.2.1=true∧x.2.1≠ByteArray.empty:=by
 unfold bO at h;rw[akS]at h;refine⟨?_,fun x hx=> ?_⟩
 ·have:decide ((l.length:Int)>12)=false:=by simpa using h.1
  have:=amc this;omega
 ·obtain⟨q,hq⟩:=DU h.2 x hx;exact Yb hq
theorem zO{s:ByteArray}(h:kM s=true):s.size≤24:=by
 have:=(QK (s:=bl s) h).2.1
 rwa [aX]at this
theorem rT{s:ByteArray}(h:tQ s=true):s.size≤64:=by
 have h:ZW (bl s)=true:=h;unfold ZW at h;rw[akS]at h;have:=akI h.2
 rwa [aX]at this
theorem Rx:∀(a b:List UInt8),esc (a++b)=esc a++esc b
 | [],b=>rfl
 |c::a,b=>by
  rw[amb];simp only[esc];rw[Rx a b];split<;>rfl
theorem Ew(s:ByteArray):(kF s).size≤2*s.size+2:=by
 unfold kF;rw[size_mk];have:=wh s.data.toList;have e:s.data.toList.length=s.size:=aX s;simp;omega
theorem aa3(s:ByteArray)(hs:s.size≤1048576):aaw ((s,()),())=some ((kF s,()),()):=by
 have h:=jV (f:=uS) (Q:=fun b=>b=((bR (34::esc (bl s)),()),())) (fun i st=>st=(((i:Int),s,bR (34::esc ((bl s).take i)),()),())) s.size ?_ ?_ _ rfl
 ·obtain⟨b,h1,rfl⟩:=h;unfold aaw;refine aP _ (show aB uS ((0,s,bs [34],()),())=_ from h1) ?_;have hl:=wh (bl s);rw[aX]at hl;have hb:decide ((bR (34::esc (bl s))).size+1≤4294967296)=true:=ak7 (by rw[size_mk,alo];omega);simp only[hb,au,sS];unfold kF;rw[show bs [34]=bR [34]from rfl,jw];rfl
 ·rintro i _ hi rfl;obtain⟨c,hc⟩:=getD_some (l:=bl s) (i:=i) (by rw[aX];exact hi);have hlt:decide ((i:Int)<(s.size:Int))=true:=ak7 (by omega);have hbd:decide ((0:Int)≤(i:Int)∧(i:Int)<(s.size:Int))=true:=ak7 (by omega);have hw:aQ ((i:Int)+1)=((i+1:Nat):Int):=aG (by omega);have h0:decide ((0:Int)≤(i:Int))=true:=ak7 (by omega);have h1:decide ((0:Int)≤((i+1:Nat):Int))=true:=ak7 (by omega);have h2:decide (i≤i+1∧i+1≤s.size)=true:=ak7 (by omega)
  have hx:s.extract i (i+1)=bR [c]:=pU (by
   have hcl:i<(bl s).length:=by rw[aX];exact hi
   rw[ic,kr,List.drop_eq_getElem_cons hcl,show i+1-i=1 by omega,List.take_succ_cons,amq];rw[(ak8.1 hc).2])
  have htk:(bl s).take (i+1)=(bl s).take i++ [c]:=by rw[amj,hc];rfl
  have hl:=wh ((bl s).take i);rw[akT]at hl;have hsz:∀b:List UInt8,b.length≤2→decide ((bR (34::(esc ((bl s).take i)++b))).size+1≤4294967296)=true:=fun b hb=>ak7 (by rw[size_mk];simp;omega)
  have hs0:decide ((bR (34::esc ((bl s).take i))).size+1≤4294967296)=true:=by have:=hsz [] (by simp);rwa [alk]at this
  have hs1:(bR [c]).size=1:=rfl
  have hs92:bR (34::esc ((bl s).take i))++bs [92]=bR (34::(esc ((bl s).take i)++ [92])):=by
   rw[show bs [92]=bR [92]from rfl,jw];rfl
  have e34:(u8 c==34)=decide (c=34):=by
   by_cases h:c=34
   ·subst h;rfl
   ·rw[ak9 h];exact akR.2 fun e=>h (UInt8.toNat_inj.1 (by unfold u8 at e;show c.toNat=34;omega))
  have e92:(u8 c==92)=decide (c=92):=by
   by_cases h:c=92
   ·subst h;rfl
   ·rw[ak9 h];exact akR.2 fun e=>h (UInt8.toNat_inj.1 (by unfold u8 at e;show c.toNat=92;omega))
  refine⟨_,?_,rfl⟩;rw[htk,Rx];simp only[uS,hlt,hbd,byte_at hc,e34,e92,au,sS];by_cases c34:c=34
  ·have he:esc [c]=[92,c]:=by simp[esc,c34]
   simp only[ak7 c34,au,sS,hs0,hs92,h0,hw,h1,akA,h2,hx,hs1,hsz [92] (by simp),jw,he];simp
  ·by_cases c92:c=92
   ·have he:esc [c]=[92,c]:=by simp[esc,c92]
    simp only[ak9 c34,ak7 c92,au,sS,hs0,hs92,h0,hw,h1,akA,h2,hx,hs1,hsz [92] (by simp),jw,he];simp
   ·have he:esc [c]=[c]:=by simp[esc,c34,c92]
    simp only[ak9 c34,ak9 c92,au,sS,hs0,h0,hw,h1,akA,h2,hx,hs1,jw,he];simp
 ·rintro _ rfl;refine⟨_,?_,rfl⟩;have:decide ((s.size:Int)<(s.size:Int))=false:=ak9 (by omega);simp only[uS,this,au,sS];rw[alv (by rw[aX];exact akJ _)]
theorem Cz:∀l:List (List UInt8),Lib.join l [44]=commas l
 | []=>rfl
 | [x]=>Lib.join_one x [44]
 |x::y::l=>by
  rw[Lib.join_cons,vL x (by simp),←Cz (y::l),Lib.join_cons];simp[Lib.joinTail]
def bq(x:LT):List UInt8:=item (bl x.1) [61] (bl x.2.1)
def bV(l:List LT):List UInt8:=123::(commas (l.map bq)++ [125])
def Di(l:List LT):ByteArray:=if bO l then bR (bV l)else ByteArray.empty
theorem JY(x:LT):(x.1++bs [61])++kF x.2.1=bR (bq x):=by
 rw[show bs [61]=bR [61]from rfl,abJ];unfold kF bq item;rw[jw];simp[bl]
theorem NN{x:LT}(h1:kM x.1=true)(h2:tQ x.2.1=true):(bq x).length≤160:=by
 have a:=zO h1;have b:=rT h2;have:=wh (bl x.2.1);rw[aX]at this;unfold bq item;simp[aX];omega
theorem qC{l:List LT}(h:bO l=true)(i:Nat):(commas ((l.map bq).take i)).length≤2000:=by
 obtain⟨h1,h2⟩:=gK h
 have:=Ev ((l.map bq).take i) 160 (fun x hx=>by
  obtain⟨y,hy,rfl⟩:=al9.1 (List.mem_of_mem_take hx);exact NN (h2 y hy).1 (h2 y hy).2.1)
 have hl:((l.map bq).take i).length≤12:=by rw[akT,akD];omega
 have:=akP 161 hl;omega
theorem KG(l:List LT)(hl:IV l):TL ((l,()),())=some ((Di l,()),()):=by
 unfold TL Di;simp only[BG l hl,au,sS];cases hv:bO l
 ·simp only[au,sS,akN,if_false]
 ·obtain⟨h1,h2⟩:=gK hv;simp only[au,sS,if_true];have h:=jV (f:=uX) (Q:=fun b=>b=((),(l.map fun x=>bR (bq x),()))) (fun i st=>st=(((i:Int),l,(l.length:Int),()),((l.take i).map fun x=>bR (bq x),()))) l.length ?_ ?_ _ rfl
  ·obtain⟨b,h3,rfl⟩:=h;refine aP _ (show aB uX ((0,l,(l.length:Int),()),([],()))=_ from h3) ?_
   have hj:sJ (l.map fun x=>bR (bq x)) (bs [44])=bR (commas (l.map bq)):=by
    unfold sJ;rw[alO];exact congrArg bR (Cz _)
   have hp:=qC hv l.length;rw[alv (by rw[akD];exact akJ _)]at hp;have b1:decide (List.length (l.map fun x=>bR (bq x))≤4294967296∧(bR (commas (l.map bq))).size≤140737488355328)=true:=ak7 (by rw[akD,size_mk];omega);have b2:decide (1+(bR (commas (l.map bq))).size≤4294967296)=true:=ak7 (by rw[size_mk];omega);have b3:decide ((bR (123::commas (l.map bq))).size+1≤4294967296)=true:=ak7 (by rw[size_mk,alo];omega);simp only[hj,b1,b2,au,sS];rw[show bs [123]=bR [123]from rfl,jw,show [123]++commas (l.map bq)=123::commas (l.map bq)from rfl,b3,show bs [125]=bR [125]from rfl,jw];rfl
  ·rintro i _ hi rfl;obtain⟨e,he⟩:=getD_some (l:=l) (i:=i) hi;obtain⟨k1,k2,_⟩:=h2 e (akC he);have z1:=zO k1;have z2:=rT k2;have z3:=Ew e.2.1;have hw:aQ ((i:Int)+1)=((i+1:Nat):Int):=aG (by omega);have b1:decide (e.1.size+1≤4294967296)=true:=ak7 (by omega);have b2:decide (e.2.1.size≤4294967296)=true:=ak7 (by omega);have b3:decide ((e.1++(bs [61])).size+(kF e.2.1).size≤4294967296)=true:=ak7 (by rw[WS];show e.1.size+1+_≤_;omega);have b4:decide (((l.take i).map fun x=>bR (bq x)).length+ [bR (bq e)].length≤4294967296)=true:=ak7 (by simp;omega);refine⟨_,?_,rfl⟩;rw[show l.take (i+1)=l.take i++ [e] by rw[amj,he];rfl,alh];simp only[uX,aI,aF he,dU hi,b1,b2,b3,JY,b4,hw,au,sS];rfl
  ·rintro _ rfl;refine⟨_,?_,rfl⟩;simp only[uX,fH,au,sS];rw[alv (akJ _)]
theorem CY:∀(l:List (List UInt8)) (x:List UInt8),l≠ []→commas (l++ [x])=commas l++44::x
 | [],_,h=>absurd rfl h
 | [a],x,_=>rfl
 |a::b::l,x,_=>by
  rw[amb,vL a (by simp),CY (b::l) x (by simp),vL a (by simp)];simp
theorem Xc(l:List LT)(hl:IV l):m59 ((l,()),())=some ((Di l,()),()):=by
 unfold m59 Di;simp only[PD l hl,au,sS];cases hv:bO l
 ·simp only[au,sS,akN,if_false]
 ·obtain⟨h1,h2⟩:=gK hv;simp only[au,sS,if_true];have h:=jV (f:=wE) (Q:=fun b=>b=((bR (123::commas (l.map bq)),()),())) (fun i st=>st=(((i:Int),l,bR (123::commas ((l.map bq).take i)),()),())) l.length ?_ ?_ _ rfl
  ·obtain⟨b,h3,rfl⟩:=h;refine aP _ (show aB wE ((0,l,bs [123],()),())=_ from h3) ?_;have hp:=qC hv l.length;rw[alv (by rw[akD];exact akJ _)]at hp;have b3:decide ((bR (123::commas (l.map bq))).size+1≤4294967296)=true:=ak7 (by rw[size_mk,alo];omega);simp only[b3,au,sS];rw[show bs [125]=bR [125]from rfl,jw];rfl
  ·rintro i _ hi rfl;obtain⟨e,he⟩:=getD_some (l:=l) (i:=i) hi;obtain⟨k1,k2,_⟩:=h2 e (akC he);have z1:=zO k1;have z2:=rT k2;have z3:=Ew e.2.1;have q:=aa3 e.2.1 (by omega);have hp:=qC hv i;have hl2:=NN k1 k2;have hw:aQ ((i:Int)+1)=((i+1:Nat):Int):=aG (by omega);have b1:decide (e.1.size+1≤4294967296)=true:=ak7 (by omega);have b3:decide ((e.1++(bs [61])).size+(kF e.2.1).size≤4294967296)=true:=ak7 (by rw[WS];show e.1.size+1+_≤_;omega);have hm:(l.map bq)[i]?=some (bq e):=by rw[akE,he];rfl
   have htk:(l.map bq).take (i+1)=(l.map bq).take i++ [bq e]:=by rw[amj,hm];rfl
   refine⟨_,?_,rfl⟩;rw[htk];by_cases h0:i=0
   ·subst h0;have b5:decide ((bR (123::commas ((l.map bq).take 0))).size+(bR (bq e)).size≤4294967296)=true:=ak7 (by rw[size_mk,size_mk,alo];omega);have d0:decide (((0:Nat):Int)>0)=false:=rfl;simp only[wE,aI,aF he,dU hi,d0,b1,q,b3,JY,b5,hw,jw,au,sS];rfl
   ·have d0:decide ((i:Int)>0)=true:=ak7 (by omega);have b4:decide ((bR (123::commas ((l.map bq).take i))).size+1≤4294967296)=true:=ak7 (by rw[size_mk,alo];omega)
    have e44:bR (123::commas ((l.map bq).take i))++bs [44]=bR (123::(commas ((l.map bq).take i)++ [44])):=by
     rw[show bs [44]=bR [44]from rfl,jw];rfl
    have b5:decide ((bR (123::(commas ((l.map bq).take i)++ [44]))).size+(bR (bq e)).size≤4294967296)=true:=ak7 (by rw[size_mk,size_mk,alo,akW];simp;omega)
    have hne:(l.map bq).take i≠ []:=by
     intro h;have:=congrArg List.length h;rw[akT,akD,List.length_nil]at this;omega
    simp only[wE,aI,aF he,dU hi,d0,b4,e44,b1,q,b3,JY,b5,hw,jw,au,sS];rw[CY _ _ hne];simp
  ·rintro _ rfl;refine⟨_,?_,rfl⟩;simp only[wE,fH,au,sS];rw[alv (by rw[akD];exact akJ _)]
def gU(ks:List ByteArray)(l:List LT):List LT:=l.filter fun x=>ks.any fun k=>decide (k=x.1)
theorem Le(ks:List ByteArray)(x:List LT):(gU ks x).Sublist x:=List.filter_sublist
theorem Y2(ks:List ByteArray)(s:ByteArray)(hk:ks.length≤big):∃j:Nat,aag ((ks,s,()),())=some ((bif ks.any (fun k=>decide (k=s))then(j:Int)else -1,()),()):=by
 have h:=dJ (f:=zA) ks (fun i (_:Unit)=>(((i:Int),ks,s,(ks.length:Int),()),())) (fun i _ e=>bif decide (e=s)then .inr (.inl (((i:Int),()),()))else .inl ()) (fun _=>.inr ((),())) ?_ ?_ ()
 ·obtain⟨j,_,hj⟩:=kY (fun e=>decide (e=s)) (fun i:Nat=>(Sum.inl (((i:Int),()),()):((Int×Unit)×Unit)⊕(Unit×Unit))) (.inr ((),())) ks 0;refine⟨j,?_⟩;unfold aag;refine aP _ (h.trans (congrArg some hj)) ?_
  cases ks.any fun k=>decide (k=s)<;>rfl
 ·intro i e _ he hi;unfold big at hk;have hw:aQ ((i:Int)+1)=((i+1:Nat):Int):=aG (by omega)
  have hc:(s.toList==e.toList)=decide (e=s):=by
   rw[bg,bg,jK];exact alM.2 ⟨Eq.symm,Eq.symm⟩
  simp only[zA,aI,aF he,dU hi,hc,au,sS];cases decide (e=s)<;>simp only[au,sS,hw]
 ·intro _;simp only[zA,fH,au,sS]
theorem Q9(ks:List ByteArray)(s:ByteArray)(hk:ks.length≤big):Jt ((ks,s,()),())=some ((ks.any (fun k=>decide (k=s)),()),()):=by
 obtain⟨j,h⟩:=Y2 ks s hk;unfold Jt;refine aP _ h ?_
 cases ks.any fun k=>decide (k=s)
 ·rfl
 ·simp only[cond_true,ak7 (show(j:Int)≥0 by omega)]
theorem YF(l:List LT)(ks:List ByteArray)(hl:l.length≤1048576)(hk:ks.length≤big):aa6 ((l,ks,()),())=some ((),(gU ks l,())):=by
 have h:=jV (f:=vH) (Q:=fun b=>b=((),(gU ks l,()))) (fun i st=>st=(((i:Int),ks,l,(l.length:Int),()),(gU ks (l.take i),()))) l.length ?_ ?_ _ rfl
 ·obtain⟨b,h3,rfl⟩:=h;unfold aa6;exact aP _ (show aB vH ((0,ks,l,(l.length:Int),()),([],()))=_ from h3) rfl
 ·rintro i _ hi rfl;obtain⟨e,he⟩:=getD_some (l:=l) (i:=i) hi;have hw:aQ ((i:Int)+1)=((i+1:Nat):Int):=aG (by omega)
  have hlen:(gU ks (l.take i)).length≤i:=by
   have:=alZ (fun x:LT=>ks.any fun k=>decide (k=x.1)) (l.take i);rw[akT]at this;unfold gU;omega
  have b1:decide ((gU ks (l.take i)).length+ [e].length≤4294967296)=true:=ak7 (by simp;omega);refine⟨_,?_,rfl⟩;rw[show l.take (i+1)=l.take i++ [e] by rw[amj,he];rfl,show gU ks (l.take i++ [e])=gU ks (l.take i)++gU ks [e]from alP ..];simp only[vH,aI,aF he,dU hi,Q9 ks e.1 hk,au,sS]
  cases hc:ks.any fun k=>decide (k=e.1)
  ·simp only[au,sS,hw];rw[show gU ks [e]=[] by unfold gU;simp[List.filter_cons,hc],alk]
  ·simp only[au,sS,b1,hw];rw[show gU ks [e]=[e] by unfold gU;simp[List.filter_cons,hc]]
 ·rintro _ rfl;refine⟨_,?_,rfl⟩;simp only[vH,fH,au,sS];rw[alv (akJ _)]
theorem ZJ(l:List LT)(ks:List ByteArray)(hk:ks.length≤big)(n:Nat)(e:LT)(he:l[n]?=some e)(o:List LT)(ho:o.length≤1048576):
  aB Aa ((l,ks,(n:Int),0,()),(o,()))=some ((l,ks,(n:Int),()),(o++gU ks [e],())):=by
 have h:=dJ (f:=Aa) ks (fun i (_:Unit)=>((l,ks,(n:Int),(i:Int),()),(o,()))) (fun i _ k=>bif decide (k=e.1)then .inr ((l,ks,(n:Int),()),(o++ [e],()))else .inl ()) (fun _=>((l,ks,(n:Int),()),(o,()))) ?_ ?_ ()
 ·obtain⟨j,_,hj⟩:=kY (fun k=>decide (k=e.1)) (fun _:Nat=>((l,ks,(n:Int),()),(o++ [e],()))) ((l,ks,(n:Int),()),(o,())) ks 0;refine h.trans (congrArg some (hj.trans ?_));unfold gU
  cases hc:ks.any fun k=>decide (k=e.1)
  ·simp[List.filter_cons,hc]
  ·simp[List.filter_cons,hc]
 ·intro i k _ hki hi;unfold big at hk;have hw:aQ ((i:Int)+1)=((i+1:Nat):Int):=aG (by omega);have b1:decide (o.length+ [e].length≤4294967296)=true:=ak7 (by simp;omega);simp only[Aa,aI,aF hki,aF he,dU hi,bg,jK,au,sS];cases decide (k=e.1)<;>simp only[au,sS,b1,hw]
 ·intro _;simp only[Aa,fH,au,sS]
theorem adF(l:List LT)(ks:List ByteArray)(hl:l.length≤1048576)(hk:ks.length≤big):m60 ((l,ks,()),())=some ((),(gU ks l,())):=by
 have h:=jV (f:=zK) (Q:=fun b=>b=((),(gU ks l,()))) (fun i st=>st=(((i:Int),l,ks,()),(gU ks (l.take i),()))) l.length ?_ ?_ _ rfl
 ·obtain⟨b,h3,rfl⟩:=h;unfold m60;exact aP _ (show aB zK ((0,l,ks,()),([],()))=_ from h3) rfl
 ·rintro i _ hi rfl;obtain⟨e,he⟩:=getD_some (l:=l) (i:=i) hi;have hw:aQ ((i:Int)+1)=((i+1:Nat):Int):=aG (by omega)
  have hlen:(gU ks (l.take i)).length≤i:=by
   have:=alZ (fun x:LT=>ks.any fun k=>decide (k=x.1)) (l.take i);rw[akT]at this;unfold gU;omega
  refine⟨_,?_,rfl⟩;rw[show l.take (i+1)=l.take i++ [e] by rw[amj,he];rfl,show gU ks (l.take i++ [e])=gU ks (l.take i)++gU ks [e]from alP ..];simp only[zK,dU hi,au,sS];refine aP _ (ZJ l ks hk i e he _ (by omega)) ?_;simp only[hw]
 ·rintro _ rfl;refine⟨_,?_,rfl⟩;simp only[zK,fH,au,sS];rw[alv (akJ _)]
abbrev dx:Type:=Int×List MT×Int×List ByteArray×Int×Int×Int×Bool×Unit
def KI(r:dx):Prop:=(r.2.1.length≤big∧∀m∈r.2.1,SF m)∧r.2.2.2.1.length≤big∧∀k∈r.2.2.2.1,k.size≤big
def og(r:dx):Bool:=decide (r.2.2.1<0)||(decide (r.2.2.2.2.1<0)||(decide (r.2.2.2.2.1>r.2.2.2.2.2.1)||(decide (r.2.2.2.2.2.1>r.2.2.2.2.2.2.1)||(decide (r.2.2.2.2.2.2.1>604800)||(r.2.2.2.2.2.2.1==0)))))
def gu(r:dx):Int:=
 bif decide ((r.2.1.length:Int)>8)||decide ((r.2.2.2.1.length:Int)>12)then 5
 else bif !r.2.1.all bC|| !j5 r.2.2.2.1 then 8 else bif og r then 1 else 0
def lM(i:Nat)(r:dx):Bool:=if i=0 then r.1 != -1 else decide (r.1<0)||decide (r.1≥(i:Int))
def sM(i:Nat)(r:dx):Int:=bif lM i r then 3 else gu r
def Bc{E:Type}(iy:Nat→E→Int):Nat→List E→Int
 |_,[]=>0
 |i,e::r=>bif iy i e !=0 then iy i e else Bc iy (i+1) r
theorem vC{A B E:Type}{f:A→Option (A⊕B)}(l:List E)(st:Nat→A)(iy:Nat→E→Int)(no:Int→B)(yes:B)
  (h1:∀i e,l[i]?=some e→i<l.length→f (st i)=some (bif iy i e !=0 then .inr (no (iy i e))else .inl (st (i+1)))) (h2:f (st l.length)=some (.inr yes)):
  aB f (st 0)=some (bif Bc iy 0 l !=0 then no (Bc iy 0 l)else yes):=by
 have key:∀(k i:Nat),i+k=l.length→aB f (st i)=some (bif Bc iy i (l.drop i) !=0 then no (Bc iy i (l.drop i))else yes):=by
  intro k
  induction k with
  |zero=>
   intro i h;obtain rfl:i=l.length:=by omega
   rw[al7];exact aA h2
  |succ k ih=>
   intro i h;obtain⟨e,he,hd⟩:=drop_at (l:=l) (i:=i) (by omega);have q:=h1 i e he (by omega);rw[hd];unfold Bc;cases hb:(iy i e !=0)
   ·rw[hb]at q;rw[alI,←ih (i+1) (by omega)];exact aD q
   ·rw[hb]at q;rw[cond_true,hb];exact aA q
 have:=key l.length 0 (by omega);rw[alg]at this;exact this
theorem vX{E:Type}{iy:Nat→E→Int}:∀{l:List E} {i:Nat},Bc iy i l=0→∀(k:Nat) (e:E),l[k]?=some e→iy (i+k) e=0
 | [],_,_,k,e,h=>by simp at h
 |x::r,i,h,k,e,he=>by
  unfold Bc at h;cases hc:(iy i x !=0)
  ·rw[hc]at h
   cases k with
   |zero=>simp at he;subst he;simpa using hc
   |succ k=>
    have:=vX (i:=i+1) h k e (by simpa using he)
    rwa [show i+1+k=i+(k+1) by omega]at this
  ·rw[hc]at h;simp only[cond_true]at h;rw[h]at hc;cases hc
def jX(l:List dx):Int:=
 bif (l.length:Int)==0 then 7 else bif decide ((l.length:Int)>24)then 5 else bif Bc sM 0 l !=0 then Bc sM 0 l
 else match l[0]? with|some e=>bif decide ((e.2.1.length:Int)>0)then 8 else 0|none=>0
theorem aaq(m:MT)(hm:SF m):Yd ((m,()),())=some ((!bC m,()),()):=by
 unfold Yd;exact aP _ (Qm m hm) rfl
theorem Wi(ms:List MT)(hs:ms.length≤big)(hm:∀m∈ms,SF m):∃j:Nat,aB uI ((0,ms,(ms.length:Int),()),())=some (bif ms.all bC then .inr ((),())else .inl (((j:Int),()),())):=by
 have h:=dJ (f:=uI) ms (fun i (_:Unit)=>(((i:Int),ms,(ms.length:Int),()),())) (fun i _ e=>bif !bC e then .inr (.inl (((i:Int),()),()))else .inl ()) (fun _=>.inr ((),())) ?_ ?_ ()
 ·obtain⟨j,_,hj⟩:=kY (fun e=> !bC e) (fun i:Nat=>(Sum.inl (((i:Int),()),()):((Int×Unit)×Unit)⊕(Unit×Unit))) (.inr ((),())) ms 0;refine⟨j,h.trans (congrArg some (hj.trans ?_))⟩;rw[Az];cases ms.all bC<;>rfl
 ·intro i e _ he hi;unfold big at hs;have hw:aQ ((i:Int)+1)=((i+1:Nat):Int):=aG (by omega);simp only[uI,aI,aF he,dU hi,aaq e (hm e (akC he)),au,sS];cases bC e<;>simp only[au,sS,hw,akY,akV]
 ·intro _;simp only[uI,fH,au,sS]
theorem Nv(i:Nat)(r:dx):(i=0∧lM i r=(r.1 != -1))∨(0<i∧lM i r=(decide (r.1<0)||decide (r.1≥(i:Int)))):=by
 unfold lM;by_cases h:i=0
 ·exact .inl ⟨h,by rw[if_pos h]⟩
 ·exact .inr ⟨by omega,by rw[if_neg h]⟩
theorem Yw(r:dx)(hr:KI r)(i:Nat):Ym ((r,(i:Int),()),())=some ((sM i r,()),()):=by
 obtain⟨⟨a1,a2⟩,c1,c2⟩:=hr;obtain⟨j,hj⟩:=Wi r.2.1 a1 a2;have q:=Rj r.2.2.2.1 c1 c2;have hj0:decide ((j:Int)≥0)=true:=ak7 (by omega)
 have key:((bif ((i:Int)==0)then(bif ((r.1:Int) !=(-1))then(some ((true,()),((r,()),())))else(bif (decide ((i:Int)>0))then(bif (decide ((r.1:Int)<0))then(some ((true,()),((r,()),())))else(some (((decide ((r.1:Int)≥(i:Int))),()),((r,()),()))))else(some ((false,()),((r,()),())))))
   else(bif (decide ((i:Int)>0))then(bif (decide ((r.1:Int)<0))then(some ((true,()),((r,()),())))else(some (((decide ((r.1:Int)≥(i:Int))),()),((r,()),()))))else(some ((false,()),((r,()),()))))):Option ((Bool×Unit)×((dx×Unit)×Unit)))=some ((lM i r,()),((r,()),())):=by
  rcases Nv i r with⟨rfl,hb⟩|⟨h0,hb⟩
  ·rw[hb,show(((0:Nat):Int)==0)=true from rfl,show decide (((0:Nat):Int)>0)=false from rfl];cases (r.1 != -1)<;>rfl
  ·rw[hb,akR.2 (show(i:Int)≠0 by omega),ak7 (show(i:Int)>0 by omega)];cases decide (r.1<0)<;>cases decide (r.1≥(i:Int))<;>rfl
 unfold Ym;refine aP _ key ?_;unfold sM;cases lM i r<;>simp only[au,sS];unfold gu;cases decide ((r.2.1.length:Int)>8)<;>simp only[au,sS,alb,akQ,akM,akK];cases decide ((r.2.2.2.1.length:Int)>12)<;>simp only[au,sS,alb,akQ,akM,akK];rw[hj];cases r.2.1.all bC<;>simp only[au,sS,hj0,q,akY,akV,alb,akQ,akM,akK];cases j5 r.2.2.2.1<;>simp only[au,sS,akY,akV];unfold og;cases decide (r.2.2.1<0)<;>simp only[au,sS,alb,akQ,akM,akK];cases decide (r.2.2.2.2.1<0)<;>simp only[au,sS,alb,akQ,akM,akK];cases decide (r.2.2.2.2.1>r.2.2.2.2.2.1)<;>simp only[au,sS,alb,akQ,akM,akK];cases decide (r.2.2.2.2.2.1>r.2.2.2.2.2.2.1)<;>simp only[au,sS,alb,akQ,akM,akK];cases decide (r.2.2.2.2.2.2.1>604800)<;>simp only[au,sS,alb,akQ,akM,akK];cases (r.2.2.2.2.2.2.1==0)<;>simp only[au,sS]
theorem aaj(r:dx)(hr:KI r):aah ((r,()),())=some ((gu r,()),()):=by
 obtain⟨⟨a1,a2⟩,c1,c2⟩:=hr;have q:=aaG r.2.2.2.1 c1 c2
 have hj:aB vM ((0,()),((r,()),()))=some (bif r.2.1.all bC then .inr ((),((r,()),()))else .inl ((8,()),())):=by
  have h:=dJ (f:=vM) r.2.1 (fun i (_:Unit)=>(((i:Int),()),((r,()),()))) (fun i _ e=>bif !bC e then .inr (.inl ((8,()),()))else .inl ()) (fun _=>.inr ((),((r,()),()))) ?_ ?_ ()
  ·obtain⟨j,_,hj⟩:=kY (fun e=> !bC e) (fun _:Nat=>(Sum.inl ((8,()),()):((Int×Unit)×Unit)⊕(Unit×(dx×Unit)×Unit))) (.inr ((),((r,()),()))) r.2.1 0;refine h.trans (congrArg some (hj.trans ?_));rw[Az];cases r.2.1.all bC<;>rfl
  ·intro i e _ he hi;unfold big at a1;have hw:aQ ((i:Int)+1)=((i+1:Nat):Int):=aG (by omega);simp only[vM,aI,aF he,dU hi,Yu e (a2 e (akC he)),au,sS];cases bC e<;>simp only[au,sS,hw,akY,akV]
  ·intro _;simp only[vM,fH,au,sS]
 unfold aah gu;cases decide ((r.2.1.length:Int)>8)<;>simp only[au,sS,alb,akQ,akM,akK];cases decide ((r.2.2.2.1.length:Int)>12)<;>simp only[au,sS,alb,akQ,akM,akK];rw[hj];cases r.2.1.all bC<;>simp only[au,sS,q,akY,akV,alb,akQ,akM,akK];cases j5 r.2.2.2.1<;>simp only[au,sS,akY,akV];unfold og;cases decide (r.2.2.1<0)<;>simp only[au,sS,alb,akQ,akM,akK];cases decide (r.2.2.2.2.1<0)<;>simp only[au,sS,alb,akQ,akM,akK];cases decide (r.2.2.2.2.1>r.2.2.2.2.2.1)<;>simp only[au,sS,alb,akQ,akM,akK];cases decide (r.2.2.2.2.2.1>r.2.2.2.2.2.2.1)<;>simp only[au,sS,alb,akQ,akM,akK];cases decide (r.2.2.2.2.2.2.1>604800)<;>simp only[au,sS,alb,akQ,akM,akK];cases (r.2.2.2.2.2.2.1==0)<;>simp only[au,sS]
def PN(l:List dx):Prop:=l.length≤1048576∧∀r∈l,KI r
theorem KP(l:List dx)(hl:PN l):m78 ((l,()),())=some ((jX l,()),()):=by
 unfold m78 jX;cases hz:((l.length:Int)==0)
 ·simp only[au,sS];cases decide ((l.length:Int)>24)
  ·simp only[au,sS];have h:=vC (f:=En) l (fun i=>(((i:Int),l,l,(l.length:Int),()),())) sM (fun c=>.inl ((c,()),())) (.inr ((l,()),())) ?_ ?_
   ·refine aP _ h ?_;cases hc:(Bc sM 0 l !=0)
    ·obtain⟨e,he⟩:=getD_some (l:=l) (i:=0) (by have:=(akR.1 hz);omega);rw[he];simp only[alI,au,aI];rw[show qQ l 0 _=qQ l ((0:Nat):Int) _ from rfl,aF he];cases decide ((e.2.1.length:Int)>0)<;>rfl
    ·rfl
   ·intro i e he hi;have hl1:=hl.1;have hw:aQ ((i:Int)+1)=((i+1:Nat):Int):=aG (by omega);simp only[En,aI,aF he,dU hi,Yw e (hl.2 e (akC he)) i,au,sS];cases sM i e !=0<;>simp only[au,sS,hw]
   ·simp only[En,fH,au,sS]
  ·simp only[au,sS]
 ·simp only[au,sS]
theorem UY(l:List dx)(hl:PN l):m56 ((l,()),())=some ((jX l,()),()):=by
 unfold m56 jX;cases hz:((l.length:Int)==0)
 ·simp only[au,sS];cases decide ((l.length:Int)>24)
  ·simp only[au,sS];have h:=vC (f:=AO) l (fun i=>(((i:Int),l,()),())) sM (fun c=>.inl ((c,()),())) (.inr ((l,()),())) ?_ ?_
   ·refine aP _ h ?_;cases hc:(Bc sM 0 l !=0)
    ·obtain⟨e,he⟩:=getD_some (l:=l) (i:=0) (by have:=(akR.1 hz);omega);rw[he];simp only[alI,au,aI];rw[show qQ l 0 _=qQ l ((0:Nat):Int) _ from rfl,aF he];cases decide ((e.2.1.length:Int)>0)<;>rfl
    ·rfl
   ·intro i e he hi;have hl1:=hl.1;have hw:aQ ((i:Int)+1)=((i+1:Nat):Int):=aG (by omega);have q:=aaj e (hl.2 e (akC he));unfold sM;rcases Nv i e with⟨rfl,hb⟩|⟨h0,hb⟩
    ·rw[hb];simp only[AO,aI,aF he,dU hi,show(((0:Nat):Int)==0)=true from rfl,show decide (((0:Nat):Int)>0)=false from rfl,au,sS];cases (e.1 != -1)
     ·simp only[au,sS,aI,aF he,q];cases gu e !=0<;>simp only[au,sS,hw]
     ·simp only[au,sS];rfl
    ·rw[hb];simp only[AO,aI,aF he,dU hi,akR.2 (show(i:Int)≠0 by omega),ak7 (show(i:Int)>0 by omega),au,sS];cases decide (e.1<0)<;>simp only[au,sS,akK,akQ]
     ·cases decide (e.1≥(i:Int))<;>simp only[au,sS,aI,aF he,q]
      ·cases gu e !=0<;>simp only[au,sS,hw]
      ·rfl
     ·rfl
   ·simp only[AO,fH,au,sS]
  ·simp only[au,sS]
 ·simp only[au,sS]
structure I9(l:List dx):Prop where
 pos:0<l.length
 len:l.length≤24
 root:∀r,l[0]?=some r→r.1= -1∧r.2.1=[]
 par:∀(k:Nat) (r:dx),l[k]?=some r→0<k→0≤r.1∧r.1<(k:Int)
 one:∀r∈l,r.2.1.length≤8∧(∀m∈r.2.1,bC m=true)∧j5 r.2.2.2.1=true∧r.2.2.2.1.length≤12
theorem adH{r:dx}(h:gu r=0):r.2.1.length≤8∧(∀m∈r.2.1,bC m=true)∧j5 r.2.2.2.1=true∧r.2.2.2.1.length≤12:=by
 unfold gu at h;cases h1:(decide ((r.2.1.length:Int)>8)||decide ((r.2.2.2.1.length:Int)>12))
 ·rw[h1]at h;simp only[al4]at h1;have a:=amc h1.1;have b:=amc h1.2;cases h2:(!r.2.1.all bC|| !j5 r.2.2.2.1)
  ·simp only[al4,Bool.not_eq_false']at h2;exact⟨by omega,alm.1 h2.1,h2.2,by omega⟩
  ·rw[h2]at h;cases h
 ·rw[h1]at h;cases h
theorem Po{l:List dx}(h:jX l=0):I9 l:=by
 unfold jX at h;cases h1:((l.length:Int)==0)
 ·rw[h1]at h;cases h2:decide ((l.length:Int)>24)
  ·rw[h2]at h;simp only[alI]at h;cases h3:(Bc sM 0 l !=0)
   ·rw[h3]at h;simp only[alI]at h;have hz:Bc sM 0 l=0:=by simpa using h3
    have all:=vX hz;simp only[alx]at all;have hpos:0<l.length:=by have:=akR.1 h1;omega
    have hone:∀(k:Nat) (e:dx),l[k]?=some e→lM k e=false∧gu e=0:=by
     intro k e he;have:=all k e he;unfold sM at this;cases hb:lM k e
     ·rw[hb]at this;exact⟨rfl,this⟩
     ·rw[hb]at this;cases this
    refine⟨hpos,by have:=amc h2;omega,fun r hr=> ?_,fun k r hr h0=> ?_,fun r hr=> ?_⟩
    ·have hb:=(hone 0 r hr).1;unfold lM at hb;rw[if_pos rfl]at hb;rw[hr]at h;simp only at h;refine⟨by simpa using hb,?_⟩;cases hl:decide ((r.2.1.length:Int)>0)
     ·have:=amc hl;exact amg.1 (by omega)
     ·rw[hl]at h;cases h
    ·have hb:=(hone k r hr).1;unfold lM at hb;rw[if_neg (by omega)]at hb;simp only[al4]at hb;have a:=amc hb.1;have b:=amc hb.2;omega
    ·obtain⟨k,hk,rfl⟩:=List.mem_iff_getElem.1 hr;exact adH (hone k _ (akH hk)).2
   ·rw[h3]at h;simp only[cond_true]at h;rw[h]at h3;cases h3
  ·rw[h2]at h;cases h
 ·rw[h1]at h;cases h
theorem I9.psz{l:List dx}(h:I9 l){r:dx}(hr:r∈l):PSs r.2.1:=by
 obtain⟨h1,h2,_⟩:=h.one r hr;refine⟨by omega,fun m hm=> ?_⟩;have:=h2 m hm;unfold bC at this;simp only[akS]at this;have:=rT this.2.2.2;unfold PSz;omega
def yD(l:List dx)(i:Int)(k:Nat):Bool:=match l[k]? with|some r=>r.1==i|none=>false
def yu(l:List dx)(i:Int):List Nat:=(List.range l.length).filter (yD l i)
abbrev ints(l:List Nat):List Int:=l.map fun k:Nat=>(k:Int)
theorem Rp{l:List dx}{i:Int}{k:Nat}:k∈yu l i↔∃r,l[k]?=some r∧r.1=i:=by
 unfold yu yD;rw[amd,amr];constructor
 ·rintro⟨h1,h2⟩;obtain⟨r,hr⟩:=getD_some h1;rw[hr]at h2;exact⟨r,hr,by simpa using h2⟩
 ·rintro⟨r,hr,rfl⟩;refine⟨(ak8.1 hr).1,?_⟩;rw[hr];simp
theorem ru(l:List dx)(i:Int):(yu l i).Pairwise (· < ·):=List.Pairwise.filter _ (List.pairwise_lt_range)
theorem Ib(p:Nat→Bool)(i:Nat):(List.range (i+1)).filter p=(List.range i).filter p++(if p i then [i]else []):=by
 rw[List.range_succ,alP];cases h:p i<;>simp[List.filter_cons,h]
theorem Zr(l:List dx)(hl:l.length≤1048576)(i:Int):ZC ((l,i,()),())=some ((),(ints (yu l i),())):=by
 have h:=jV (f:=uy) (Q:=fun b=>b=((),(ints (yu l i),()))) (fun k st=>st=(((k:Int),i,l,(l.length:Int),()),(ints ((List.range k).filter (yD l i)),()))) l.length ?_ ?_ _ rfl
 ·obtain⟨b,h3,rfl⟩:=h;unfold ZC;exact aP _ (show aB uy ((0,i,l,(l.length:Int),()),([],()))=_ from h3) rfl
 ·rintro k _ hk rfl;obtain⟨e,he⟩:=getD_some (l:=l) (i:=k) hk;have hw:aQ ((k:Int)+1)=((k+1:Nat):Int):=aG (by omega)
  have hlen:(ints ((List.range k).filter (yD l i))).length≤k:=by
   have:=alZ (yD l i) (List.range k);rw[List.length_range]at this;rw[akD];exact this
  have b1:decide ((ints ((List.range k).filter (yD l i))).length+ [(k:Int)].length≤4294967296)=true:=ak7 (by simp only[alo,List.length_nil];omega);have hc:yD l i k=(e.1==i):=by unfold yD;rw[he]
  refine⟨_,?_,rfl⟩;rw[Ib,hc];simp only[uy,aI,aF he,dU hk,au,sS];cases (e.1==i)
  ·simp only[au,sS,hw,akN,if_false,alk]
  ·simp only[au,sS,b1,hw,if_true,alh,akZ,alp]
 ·rintro _ rfl;refine⟨_,?_,rfl⟩;simp only[uy,fH,au,sS];rfl
theorem aaB(l:List dx)(hl:l.length≤1048576)(i:Int):YZ ((l,i,()),())=some ((),(ints (yu l i),())):=by
 have h:=jV (f:=uf) (Q:=fun b=>b=((),(ints (yu l i),()))) (fun k st=>st=(((k:Int),i,l,()),(ints ((List.range k).filter (yD l i)),()))) l.length ?_ ?_ _ rfl
 ·obtain⟨b,h3,rfl⟩:=h;unfold YZ;exact aP _ (show aB uf ((0,i,l,()),([],()))=_ from h3) rfl
 ·rintro k _ hk rfl;obtain⟨e,he⟩:=getD_some (l:=l) (i:=k) hk;have hw:aQ ((k:Int)+1)=((k+1:Nat):Int):=aG (by omega)
  have hlen:(ints ((List.range k).filter (yD l i))).length≤k:=by
   have:=alZ (yD l i) (List.range k);rw[List.length_range]at this;rw[akD];exact this
  have b1:decide ((ints ((List.range k).filter (yD l i))).length+ [(k:Int)].length≤4294967296)=true:=ak7 (by simp only[alo,List.length_nil];omega);have hc:yD l i k=(e.1==i):=by unfold yD;rw[he]
  refine⟨_,?_,rfl⟩;rw[Ib,hc];simp only[uf,aI,aF he,dU hk,au,sS];cases (e.1==i)
  ·simp only[au,sS,hw,akN,if_false,alk]
  ·simp only[au,sS,b1,hw,if_true,alh,akZ,alp]
 ·rintro _ rfl;refine⟨_,?_,rfl⟩;simp only[uf,fH,au,sS];rfl
def goC(rec:Nat→List Nat)(l:List dx)(x:List LT):List Nat→List Nat
 | []=> []
 |k::ks=>match l[k]? with
  |none=> []
  |some r=>bif allM r.2.1 x then rec k++(bif r.2.2.2.2.2.2.2.1 then goC rec l x ks else [])else goC rec l x ks
def cZ(l:List dx)(x:List LT):Nat→Nat→List Nat
 |0,_=> []
 |n+1,i=>if goC (cZ l x n) l x (yu l (i:Int))=[]then [i]else goC (cZ l x n) l x (yu l (i:Int))
theorem WZ{a:Nat}(h:0<a):2 ^(a-1)+2 ^(a-1)=2 ^ a:=by
 obtain⟨b,rfl⟩:∃b,a=b+1:=⟨a-1,by omega⟩
 rw[Nat.add_sub_cancel,Nat.pow_succ];omega
theorem Ra{rec:Nat→List Nat}{l:List dx}{x:List LT}:∀{ks:List Nat} {j:Nat},ks.Pairwise (· < ·)→(∀k∈ks,j≤k∧k<l.length∧(rec k).length≤2 ^(l.length-k-1))→(goC rec l x ks).length+1≤2 ^(l.length-j)
 | [],j,_,_=>Nat.one_le_two_pow
 |k::ks,j,hp,h=>by
  obtain⟨h1,h2,h3⟩:=h k (alQ ..)
  have ih:=Ra (x:=x) (ks:=ks) (j:=k+1) (alX.1 hp).2 (fun y hy=>by
   obtain⟨_,a,b⟩:=h y (alN _ hy);exact⟨(alX.1 hp).1 y hy,a,b⟩)
  have e1:l.length-(k+1)=l.length-k-1:=by omega
  rw[e1]at ih;have e2:=WZ (a:=l.length-k) (by omega);have e3:2 ^(l.length-k)≤2 ^(l.length-j):=Nat.pow_le_pow_right (by omega) (by omega);unfold goC;obtain⟨r,hr⟩:=getD_some h2;rw[hr];simp only;cases allM r.2.1 x
  ·simp only[alI];omega
  ·simp only[cond_true,akW];cases r.2.2.2.2.2.2.2.1
   ·simp only[alI,List.length_nil];have:1≤2 ^(l.length-k-1):=Nat.one_le_two_pow;omega
   ·simp only[cond_true];omega
theorem xk{l:List dx}(h:I9 l){i k:Nat}(hk:k∈yu l (i:Int)):i<k∧k<l.length:=by
 obtain⟨r,hr,hi⟩:=Rp.1 hk;have hlt:=(ak8.1 hr).1;refine⟨?_,hlt⟩;by_cases h0:k=0
 ·subst h0;have:=(h.root r hr).1;omega
 ·have:=(h.par k r hr (by omega)).2;omega
theorem BI{l:List dx}(h:I9 l)(x:List LT):∀(n i:Nat),i<l.length→(cZ l x n i).length≤2 ^(l.length-i-1)
 |0,_,_=>alj _
 |n+1,i,hi=>by
  unfold cZ
  have:=Ra (rec:=cZ l x n) (x:=x) (j:=i+1) (ru l (i:Int)) (fun k hk=>by
   obtain⟨a,b⟩:=xk h hk;exact⟨a,b,BI h x n k b⟩)
  rw[show l.length-(i+1)=l.length-i-1 by omega]at this;split
  ·exact Nat.one_le_two_pow
  ·omega
theorem small{l:List dx}(h:I9 l){a:List Nat}(k:Nat)(ha:a.length≤2 ^(l.length-k)):a.length≤16777216:=by
 have:=h.len;have e:2 ^(l.length-k)≤2 ^ 24:=Nat.pow_le_pow_right (by omega) (by omega);have:(2:Nat)^ 24=16777216:=rfl;omega
theorem J7(l:List dx)(hl:I9 l)(x:List LT)(hx:K6 x)(n:Nat)(rc:(((List dx)×Int×List LT×Unit)×Unit)→Option (Unit×(List Int×Unit)))
  (hrc:∀k:Nat,k<l.length→l.length-k≤n→rc ((l,(k:Int),x,()),())=some ((),(ints (cZ l x n k),()))) (o:Int) (ch:List Nat) (hs:ch.Pairwise (· < ·)) (hc:∀k∈ch,k<l.length∧l.length-k≤n):
  ∀(k i:Nat) (out:List Int),i+k=ch.length→out.length≤16777216*i→aB (nW rc) (((i:Int),o,l,x,((ch.length:Nat):Int),()),(out,(ints ch,())))=some ((o,()),(out++ints (goC (cZ l x n) l x (ch.drop i)),())):=by
 have hcl:ch.length≤24:=by
  have:=hl.len
  have:ch.length≤l.length:=by
   have hsub:ch.Sublist (List.range l.length):=by
    have h1:ch=(List.range l.length).filter (fun k=>decide (k∈ch)):=by
     apply List.Perm.eq_of_pairwise (le:=(· < ·)) (fun a b _ _ h1 h2=>absurd h1 (by omega)) hs (List.Pairwise.filter _ List.pairwise_lt_range);refine(List.perm_ext_iff_of_nodup (hs.imp (fun h=>by omega)) ((List.nodup_range).filter _)).2 fun a=> ?_
     rw[amd,amr,alr];exact⟨fun h=>⟨(hc a h).1,h⟩,fun h=>h.2⟩
    rw[h1];exact List.filter_sublist
   have:=hsub.length_le
   rwa [List.length_range]at this
  omega
 intro k
 induction k with
 |zero=>
  intro i out h ho;obtain rfl:i=ch.length:=by omega
  rw[al7];refine aA ?_;simp only[nW,fH,au,sS];simp[goC]
 |succ k ih=>
  intro i out h ho;obtain⟨e,he,hd⟩:=drop_at (l:=ch) (i:=i) (by omega);obtain⟨he1,he2⟩:=hc e (akC he);obtain⟨r,hr⟩:=getD_some he1;have hp:=hl.psz (akC hr);have hei:(ints ch)[i]?=some (e:Int):=by rw[akE,he];rfl
  have hb:decide ((0:Int)≤(i:Int)∧(i:Int)<(((ints ch).length:Nat):Int))=true:=ak7 (by rw[akD];omega);have hlt:decide ((i:Int)<((ch.length:Nat):Int))=true:=ak7 (by omega);have hw:aQ ((i:Int)+1)=((i+1:Nat):Int):=aG (by omega);have hfl:(cZ l x n e).length≤16777216:=small hl (e+1) (by have:=BI hl x n e he1;rwa [show l.length-(e+1)=l.length-e-1 by omega]);have hmul:16777216*i≤16777216*24:=Nat.mul_le_mul_left _ (by omega);have hb2:decide (out.length+(ints (cZ l x n e)).length≤4294967296)=true:=ak7 (by rw[akD];omega);rw[hd];unfold goC;rw[hr];simp only;cases hq:allM r.2.1 x
  ·simp only[alI];rw[←ih (i+1) out (by omega) (by omega)];refine aD ?_;simp only[nW,hlt,hb,akA,hei,aI,aF hr,rq r.2.1 x hp hx,hq,hw,au,au,sS]
  ·simp only[cond_true];cases hcont:r.2.2.2.2.2.2.2.1
   ·simp only[alI,alk];refine aA ?_;simp only[nW,hlt,hb,akA,hei,aI,aF hr,rq r.2.1 x hp hx,hq,hrc e he1 he2,hb2,hcont,au,au,sS]
   ·simp only[cond_true]
    rw[show ints (cZ l x n e++goC (cZ l x n) l x (ch.drop (i+1)))=ints (cZ l x n e)++ints (goC (cZ l x n) l x (ch.drop (i+1)))from alh,←ale,
     ←ih (i+1) (out++ints (cZ l x n e)) (by omega) (by rw[akW,akD];omega)]
    refine aD ?_;simp only[nW,hlt,hb,akA,hei,aI,aF hr,rq r.2.1 x hp hx,hq,hrc e he1 he2,hb2,hcont,hw,au,au,sS]
theorem ZX(l:List dx)(hl:I9 l)(x:List LT)(hx:K6 x):∀(n i:Nat),i<l.length→l.length-i≤n→IZ n ((l,(i:Int),x,()),())=some ((),(ints (cZ l x n i),())):=by
 intro n
 induction n with
 |zero=>intro i h1 h2;omega
 |succ n ih=>
  intro i hi hn;have hlen:=hl.len;have q:=Zr l (by omega) (i:Int)
  have q2:=J7 l hl x hx n (IZ n) (fun k h1 h2=>ih k h1 h2) (i:Int) (yu l (i:Int)) (ru l _) (fun k hk=>by
   obtain⟨a,b⟩:=xk hl hk;exact⟨b,by omega⟩) (yu l (i:Int)).length 0 [] (by omega) (by simp)
  rw[alg,amm]at q2
  show WO (IZ n) ((l,(i:Int),x,()),())=_
  unfold WO;simp only[q,au,sS];rw[akD];refine aP _ (show aB (nW (IZ n)) ((0,(i:Int),l,x,(((yu l (i:Int)).length:Nat):Int),()),([],(ints (yu l (i:Int)),())))=_ from q2) ?_;unfold cZ;by_cases h:goC (cZ l x n) l x (yu l (i:Int))=[]
  ·rw[if_pos h,h];rfl
  ·rw[if_neg h]
   have:(((ints (goC (cZ l x n) l x (yu l (i:Int)))).length:Int)==0)=false:=akR.2 (by
    rw[akD];intro e;exact h (amg.1 (by omega)))
   simp only[this,au,sS]
theorem acP{l:List dx}(hl:I9 l)(i:Int):(yu l i).length≤24:=by
 have:=alZ (yD l i) (List.range l.length);rw[List.length_range]at this;have:=hl.len;unfold yu;omega
theorem Jc(l:List dx)(hl:I9 l)(x:List LT)(hx:K6 x)(n:Nat)(rc:(((List dx)×Int×List LT×Unit)×Unit)→Option (Unit×(List Int×Unit)))
  (hrc:∀k:Nat,k<l.length→l.length-k≤n→rc ((l,(k:Int),x,()),())=some ((),(ints (cZ l x n k),()))) (o:Int) (ch:List Nat) (hcl:ch.length≤24) (hc:∀k∈ch,k<l.length∧l.length-k≤n):
  ∀(k i:Nat) (out:List Int),i+k=ch.length→out.length≤16777216*i→aB (qV rc) (((i:Int),o,l,x,()),(ints ch,(out,())))=some ((o,()),(out++ints (goC (cZ l x n) l x (ch.drop i)),())):=by
 intro k
 induction k with
 |zero=>
  intro i out h ho;obtain rfl:i=ch.length:=by omega
  rw[al7];refine aA ?_;have:decide ((ch.length:Int)<(((ints ch).length:Nat):Int))=false:=ak9 (by rw[akD];omega);simp only[qV,this,au,sS];simp[goC]
 |succ k ih=>
  intro i out h ho;obtain⟨e,he,hd⟩:=drop_at (l:=ch) (i:=i) (by omega);obtain⟨he1,he2⟩:=hc e (akC he);obtain⟨r,hr⟩:=getD_some he1;have hp:=hl.psz (akC hr);have hei:(ints ch)[i]?=some (e:Int):=by rw[akE,he];rfl
  have hb:decide ((0:Int)≤(i:Int)∧(i:Int)<(((ints ch).length:Nat):Int))=true:=ak7 (by rw[akD];omega);have hlt:decide ((i:Int)<(((ints ch).length:Nat):Int))=true:=ak7 (by rw[akD];omega);have hw:aQ ((i:Int)+1)=((i+1:Nat):Int):=aG (by omega);have hfl:(cZ l x n e).length≤16777216:=small hl (e+1) (by have:=BI hl x n e he1;rwa [show l.length-(e+1)=l.length-e-1 by omega]);have hmul:16777216*i≤16777216*24:=Nat.mul_le_mul_left _ (by omega);have hb2:decide (out.length+(ints (cZ l x n e)).length≤4294967296)=true:=ak7 (by rw[akD];omega);rw[hd];unfold goC;rw[hr];simp only;cases hq:allM r.2.1 x
  ·simp only[alI];rw[←ih (i+1) out (by omega) (by omega)];refine aD ?_;simp only[qV,hlt,hb,akA,hei,aI,aF hr,JU r.2.1 x hp hx,hq,hw,au,au,sS]
  ·simp only[cond_true];cases hcont:r.2.2.2.2.2.2.2.1
   ·simp only[alI,alk];refine aA ?_;simp only[qV,hlt,hb,akA,hei,aI,aF hr,JU r.2.1 x hp hx,hq,hrc e he1 he2,hb2,hcont,au,au,sS]
   ·simp only[cond_true]
    rw[show ints (cZ l x n e++goC (cZ l x n) l x (ch.drop (i+1)))=ints (cZ l x n e)++ints (goC (cZ l x n) l x (ch.drop (i+1)))from alh,←ale,
     ←ih (i+1) (out++ints (cZ l x n e)) (by omega) (by rw[akW,akD];omega)]
    refine aD ?_;simp only[qV,hlt,hb,akA,hei,aI,aF hr,JU r.2.1 x hp hx,hq,hrc e he1 he2,hb2,hcont,hw,au,au,sS]
theorem ZB(l:List dx)(hl:I9 l)(x:List LT)(hx:K6 x):∀(n i:Nat),i<l.length→l.length-i≤n→RX n ((l,(i:Int),x,()),())=some ((),(ints (cZ l x n i),())):=by
 intro n
 induction n with
 |zero=>intro i h1 h2;omega
 |succ n ih=>
  intro i hi hn;have hlen:=hl.len;have q:=aaB l (by omega) (i:Int)
  have q2:=Jc l hl x hx n (RX n) (fun k h1 h2=>ih k h1 h2) (i:Int) (yu l (i:Int)) (acP hl _) (fun k hk=>by
   obtain⟨a,b⟩:=xk hl hk;exact⟨b,by omega⟩) (yu l (i:Int)).length 0 [] (by omega) (by simp)
  rw[alg,amm]at q2
  show adN (RX n) ((l,(i:Int),x,()),())=_
  unfold adN;simp only[q,au,sS];refine aP _ (show aB (qV (RX n)) ((0,(i:Int),l,x,()),(ints (yu l (i:Int)),([],())))=_ from q2) ?_;unfold cZ;by_cases h:goC (cZ l x n) l x (yu l (i:Int))=[]
  ·rw[if_pos h,h];rfl
  ·rw[if_neg h]
   have:(((ints (goC (cZ l x n) l x (yu l (i:Int)))).length:Int)==0)=false:=akR.2 (by
    rw[akD];intro e;exact h (amg.1 (by omega)))
   simp only[this,au,sS]
def gB(l:List dx)(x:List LT):List Nat:=if jX l=0∧bO x=true then cZ l x 400 0 else []
theorem Ei{x:List LT}(h:bO x=true):K6 x:=by
 obtain⟨h1,h2⟩:=gK h;exact⟨by omega,fun y hy=>by have:=rT (h2 y hy).2.1;omega⟩
theorem ado(l:List dx)(hl:PN l)(x:List LT)(hx:IV x):m68 ((l,x,()),())=some ((),(ints (gB l x),())):=by
 unfold m68 gB;by_cases h:jX l=0
 ·have hb:(jX l !=0)=false:=by rw[h];rfl
  have hk:=Po h;simp only[KP l hl,BG x hx,hb,au,sS];cases hv:bO x
  ·simp only[au,sS];rw[if_neg (by simp)];rfl
  ·have q:=ZX l hk x (Ei hv) 400 0 hk.pos (by have:=hk.len;omega);simp only[au,sS];rw[if_pos ⟨h,trivial⟩];exact aP _ q rfl
 ·have hb:(jX l !=0)=true:=al6.2 h;simp only[KP l hl,hb,au,sS];rw[if_neg (fun e=>h e.1)];rfl
theorem acC(l:List dx)(hl:PN l)(x:List LT)(hx:IV x):m19 ((l,x,()),())=some ((),(ints (gB l x),())):=by
 unfold m19 gB;by_cases h:jX l=0
 ·have hb:(jX l !=0)=false:=by rw[h];rfl
  have hk:=Po h;simp only[UY l hl,PD x hx,hb,au,sS];cases hv:bO x
  ·simp only[au,sS];rw[if_neg (by simp)];rfl
  ·have q:=ZB l hk x (Ei hv) 400 0 hk.pos (by have:=hk.len;omega);simp only[au,sS];rw[if_pos ⟨h,trivial⟩];exact aP _ q rfl
 ·have hb:(jX l !=0)=true:=al6.2 h;simp only[UY l hl,hb,au,sS];rw[if_neg (fun e=>h e.1)];rfl
def iN(l:List dx):Nat→Nat→List Nat
 |0,_=> []
 |n+1,i=>if i=0 then [0]else match l[i]? with|some r=>iN l n r.1.toNat++ [i]|none=> []
def xZ(r:dx)(x:List LT):ByteArray:=if bO x then Di (gU r.2.2.2.1 x)else ByteArray.empty
theorem UB{ks:List ByteArray}{x:List LT}(h:IV x):IV (gU ks x):=⟨alz (Le ks x).length_le h.1,fun y hy=>h.2 y ((Le ks x).subset hy)⟩
theorem Ux(r:dx)(x:List LT)(hx:IV x)(hr:r.2.2.2.1.length≤big):m69 ((r,x,()),())=some ((xZ r x,()),()):=by
 unfold m69 xZ;simp only[BG x hx,au,sS];cases hv:bO x
 ·rfl
 ·have:=(gK hv).1;simp only[YF x r.2.2.2.1 (by omega) hr,KG _ (UB hx),if_true,au,sS]
theorem Uq(r:dx)(x:List LT)(hx:IV x)(hr:r.2.2.2.1.length≤big):m20 ((r,x,()),())=some ((xZ r x,()),()):=by
 unfold m20 xZ;simp only[PD x hx,au,sS];cases hv:bO x
 ·rfl
 ·have:=(gK hv).1;simp only[adF x r.2.2.2.1 (by omega) hr,Xc _ (UB hx),if_true,au,sS]
theorem Mk:∀{l:List ByteArray} {p:Option ByteArray},(∀k∈l,kM k=true)→l.Pairwise (fun a b=>leB b a=false)→(∀q,p=some q→∀k∈l,leB k q=false)→yg Fa p l=true
 | [],_,_,_,_=>rfl
 |k::l,p,h1,h2,h3=>by
  unfold yg;have h2:=alX.1 h2;rw[Mk (p:=some k) (fun y hy=>h1 y (alN _ hy)) h2.2 (fun q hq y hy=>by cases hq;exact h2.1 y hy),Bool.and_true];unfold Fa;rw[h1 k (alQ ..)]
  cases p with
  |none=>rfl
  |some q=>simp only;rw[h3 q rfl k (alQ ..)];rfl
theorem Im:fV.Pairwise (fun a b=>leB b a=false):=by decide+kernel
theorem NH{l:List ByteArray}(h:l.Sublist fV):j5 l=true:=Mk (fun k hk=>(vG k (h.subset hk)).1) (Im.sublist h) (fun q hq=>by cases hq)
theorem EK:∀{l:List LT} {p:Option LT},(∀x∈l,kM x.1=true∧tQ x.2.1=true∧x.2.1≠ByteArray.empty)→(l.map (·.1)).Pairwise (fun a b=>leB b a=false)→(∀q,p=some q→∀x∈l,leB x.1 q.1=false)→yg BS p l=true
 | [],_,_,_,_=>rfl
 |x::l,p,h1,h2,h3=>by
  unfold yg;rw[akZ]at h2;have h2:=alX.1 h2;rw[EK (p:=some x) (fun y hy=>h1 y (alN _ hy)) h2.2 (fun q hq y hy=>by cases hq;exact h2.1 y.1 (List.mem_map_of_mem hy)),Bool.and_true];obtain⟨a,b,c⟩:=h1 x (alQ ..);unfold BS;rw[a,b];have c:(x.2.1.toList==ByteArray.empty.toList)=false:=by rw[bg,bg,jK];exact ak9 c
  rw[c]
  cases p with
  |none=>rfl
  |some q=>simp only;rw[h3 q rfl x (alQ ..)];rfl
theorem Oh{l:List LT}(h:jT fV l):bO l=true:=by
 unfold bO;have h4:=h.1.length_le;rw[akD,show fV.length=4 from rfl]at h4;rw[ak9 (by omega),EK (fun x hx=>⟨(vG x.1 (h.1.subset (List.mem_map_of_mem hx))).1,(NC _ (h.2 x hx).1).1,(h.2 x hx).2⟩) (Im.sublist h.1) (fun q hq=>by cases hq)];rfl
theorem U0{l:List LT}(h:jT fV l):IV l:=by
 have g:=Tv h;exact⟨by have:=g.1;unfold big;omega,fun x hx=>by have:=g.2 x hx;unfold big;omega⟩
def Ih(r:dx):Prop:=(r.2.1.length≤8∧∀m∈r.2.1,lY m)∧r.2.2.2.1.Sublist fV∧og r=false∧r.2.2.2.2.2.1≤1000∧0≤r.2.2.2.2.2.1∧0≤r.2.2.2.2.2.2.1∧r.2.2.2.2.2.2.1≤10000
theorem Ih.z{r:dx}(h:Ih r):KI r:=by
 obtain⟨⟨h1,h2⟩,h3,_⟩:=h;have h4:=h3.length_le;rw[show fV.length=4 from rfl]at h4;exact⟨⟨by unfold big;omega,fun m hm=>(h2 m hm).z⟩,by unfold big;omega,fun k hk=>by have:=(vG k (h3.subset hk)).2;unfold big;omega⟩
theorem Ih.one{r:dx}(h:Ih r):gu r=0:=by
 obtain⟨⟨h1,h2⟩,h3,h4,_⟩:=h;have h5:=h3.length_le;rw[show fV.length=4 from rfl]at h5;unfold gu;rw[ak9 (show¬(r.2.1.length:Int)>8 by omega),ak9 (show¬(r.2.2.2.1.length:Int)>12 by omega),alm.2 (fun m hm=>(h2 m hm).1),NH h3,h4];rfl
theorem Wp{E:Type}{iy:Nat→E→Int}:∀{l:List E} {i:Nat},(∀(k:Nat) (e:E),l[k]?=some e→iy (i+k) e=0)→Bc iy i l=0
 | [],_,_=>rfl
 |x::r,i,h=>by
  unfold Bc;have h0:=h 0 x rfl;rw[aml]at h0;rw[h0]
  exact Wp (i:=i+1) fun k e he=>by
   have:=h (k+1) e (by simpa using he)
   rwa [show i+(k+1)=i+1+k by omega]at this
structure vV(l:List dx):Prop where
 pos:0<l.length
 len:l.length≤24
 root:∀r,l[0]?=some r→r.1= -1∧r.2.1=[]
 par:∀(k:Nat) (r:dx),l[k]?=some r→0<k→0≤r.1∧r.1<(k:Int)
 good:∀r∈l,Ih r
theorem abZ{l:List dx}(pos:0<l.length)(len:l.length≤24)(root:∀r,l[0]?=some r→r.1= -1∧r.2.1=[])(par:∀(k:Nat) (r:dx),l[k]?=some r→0<k→0≤r.1∧r.1<(k:Int))(one:∀r∈l,gu r=0):jX l=0:=by
 unfold jX;rw[akR.2 (show(l.length:Int)≠0 by omega),ak9 (show¬(l.length:Int)>24 by omega),Wp (fun k e he=> ?_)]
 ·obtain⟨r,hr⟩:=getD_some pos;rw[hr];simp only[(root r hr).2];rfl
 ·rw[alx];unfold sM lM
  have:(if k=0 then e.1 != -1 else decide (e.1<0)||decide (e.1≥(k:Int)))=false:=by
   by_cases h0:k=0
   ·subst h0;rw[if_pos rfl,(root e he).1];rfl
   ·rw[if_neg h0];obtain⟨a,b⟩:=par k e he (by omega);rw[ak9 (by omega),ak9 (by omega)];rfl
  rw[this];exact one e (akC he)
theorem vV.iy{l:List dx}(h:vV l):jX l=0:=abZ h.pos h.len h.root h.par (fun r hr=>(h.good r hr).one)
theorem vV.z{l:List dx}(h:vV l):PN l:=⟨by have:=h.len;omega,fun r hr=>(h.good r hr).z⟩
theorem mem3{x a b c:Int}(h:x∈ [a,b,c]):x=a∨x=b∨x=c:=by simpa using h
theorem aj8{x a b c d:Int}(h:x∈ [a,b,c,d]):x=a∨x=b∨x=c∨x=d:=by simpa using h
theorem Eu(d:iK)(hd:sU d):∃(p w i r:Int) (c:Bool) (by_:List ByteArray) (d':iK),m24 ((),((d,()),()))=some ((),((d',()),(((-1),p,w,i,r,c,()),()),by_,()))∧sU d'∧
  ∀(q:Int) (ms:List MT),(ms.length≤8∧∀m∈ms,lY m)→Ih (q,ms,p,by_,w,i,r,c,()):=by
 obtain⟨a1,d1,e1,hd1,b1⟩:=pX [0,30,10,60] d hd (by simp) (by simp);obtain⟨a2,d2,e2,hd2,b2⟩:=pX [20,300,40] d1 hd1 (by simp) (by simp);obtain⟨a3,d3,e3,hd3,b3,_⟩:=fq 3 d2 hd2 (by omega);have b3:=b3 (by omega);obtain⟨ks,d4,e4,hd4,hk⟩:=FY d3 hd3;obtain⟨a5,d5,e5,hd5,b5⟩:=pX [0,3600,100] d4 hd4 (by simp) (by simp);obtain⟨c,d6,e6,hd6⟩:=IK 2 d5 hd5 (by omega) (by omega);have b1:=aj8 b1;have b2:=mem3 b2;have b5:=mem3 b5;have w1:aQ (a1+a2)=a1+a2:=bH (by omega) (by omega);have w2:aQ (a1+a2+a5)=a1+a2+a5:=bH (by omega) (by omega);refine⟨a3,a1,a1+a2,a1+a2+a5,c,ks,d6,?_,hd6,fun q ms hms=>⟨hms,hk,?_,?_,?_,?_,?_⟩⟩
 ·unfold m24;simp only[e1,e2,e3,e4,e5,e6,w1,w2,au,sS]
 ·unfold og;simp only[al4];exact⟨ak9 (by omega),ak9 (by omega),ak9 (by omega),ak9 (by omega),ak9 (by omega),akR.2 (by omega)⟩
 all_goals simp only;omega
theorem Ma:∀(n:Nat) (i:Int) (d:iK) (l:List dx),sU d→i=n→l.length+n≤20→vV l→
  ∃(l':List dx) (d':iK),aB DX ((i,()),((d,()),(l,())))=some ((),((d',()),(l',())))∧sU d'∧vV l'∧l'.length=l.length+n:=by
 intro n
 induction n with
 |zero=>
  intro i d l hd hi hl hg;refine⟨l,d,aA ?_,hd,hg,rfl⟩;have:decide (i>0)=false:=ak9 (by omega);simp only[DX,this,au,sS]
 |succ n ih=>
  intro i d l hd hi hl hg;have hpos:=hg.pos;obtain⟨p,w,t,r,c,ks,d1,e1,hd1,hr⟩:=Eu d hd;obtain⟨a,d2,e2,hd2,b2,_⟩:=fq ((l.length:Nat):Int) d1 hd1 (by omega);have b2:=b2 (by omega);obtain⟨ms,d3,e3,hd3,hn,hm⟩:=pO 2 d2 hd2 (by omega) (by omega);have hgood:=hr a ms ⟨by omega,hm⟩
  obtain⟨l',d',e4,hd',hl',hlen⟩:=ih (i-1) d3 (l++ [(a,ms,p,ks,w,t,r,c,())]) hd3 (by omega) (by simp;omega) ⟨by simp,by simp;omega,fun y hr=>hg.root y (by rwa [akO hpos]at hr),fun k y hr h0=>by
    by_cases hk:k<l.length
    ·rw[akO hk]at hr;exact hg.par k y hr h0
    ·have:k<(l++ [(a,ms,p,ks,w,t,r,c,())]).length:=(ak8.1 hr).1;simp at this;obtain rfl:k=l.length:=by omega
     rw[akL (akJ _),Nat.sub_self]at hr;simp at hr;subst hr;exact⟨b2.1,b2.2⟩,fun x hx=>by
    rcases akU.1 hx with h|h
    ·exact hg.good x h
    ·simp only[al3]at h;subst h;exact hgood⟩
  refine⟨l',d',?_,hd',hl',by rw[hlen];simp;omega⟩;rw[←e4];refine aD ?_;have h0:decide (i>0)=true:=ak7 (by omega);have h1:∀z:dx,decide (l.length+([z]:List dx).length≤4294967296)=true:=fun z=>ak7 (by simp;omega)
  simp only[DX,h0,e1,e2,e3,h1,au,sS,bH (x:=i-1) (by omega) (by omega)]
theorem Nq(n:Int)(d:iK)(hd:sU d)(h0:0≤n)(h1:n≤10):∃(l:List dx) (d':iK),m50 ((n,()),((d,()),()))=some ((),((d',()),(l,())))∧sU d'∧vV l:=by
 obtain⟨p,w,t,r,c,ks,d1,e1,hd1,hr⟩:=Eu d hd;obtain⟨a,d2,e2,hd2,b2,_⟩:=fq (n+1) d1 hd1 (by omega);have b2:=b2 (by omega);have hgood:=hr (-1) [] ⟨by simp,fun m hm=>by cases hm⟩
 obtain⟨l',d',e3,hd',hl',hlen⟩:=Ma a.toNat a d2 [((-1),[],p,ks,w,t,r,c,())] hd2 (by omega) (by simp;omega) ⟨by simp,by simp,fun r hr=>by simp at hr;subst hr;exact⟨rfl,rfl⟩,fun k r hr h0=>by
  have:=(ak8.1 hr).1;simp at this;omega,fun x hx=>by simp only[al3]at hx;subst hx;exact hgood⟩
 refine⟨l',d',?_,hd',hl'⟩;unfold m50;simp only[e1,bH (x:=n+1) (by omega) (by omega),e2,e3,au,sS]
def KW(l:List dx)(x:List LT)(k:Nat):Bool:=match l[k]? with|some r=>allM r.2.1 x|none=>false
def cnt(l:List dx)(k:Nat):Bool:=match l[k]? with|some r=>r.2.2.2.2.2.2.2.1|none=>false
inductive Down(l:List dx)(x:List LT):Nat→Nat→Prop where
 |here (i:Nat) (h:∀c∈yu l (i:Int),KW l x c=false):Down l x i i
 |step (i k j:Nat) (hk:k∈yu l (i:Int)) (hm:KW l x k=true) (hs:∀c∈yu l (i:Int),c<k→KW l x c=true→cnt l c=true) (h:Down l x k j):Down l x i j
theorem JM{rec:Nat→List Nat}{l:List dx}{x:List LT}:∀{ks:List Nat},ks.Pairwise (· < ·)→(∀k∈ks,k<l.length)→∀j∈goC rec l x ks,∃k∈ks,KW l x k=true∧j∈rec k∧∀c∈ks,c<k→KW l x c=true→cnt l c=true
 | [],_,_,j,hj=>by cases hj
 |k::ks,hp,hl,j,hj=>by
  obtain⟨r,hr⟩:=getD_some (hl k (alQ ..));unfold goC at hj;rw[hr]at hj;simp only at hj;have hp:=alX.1 hp;have hm:KW l x k=allM r.2.1 x:=by unfold KW;rw[hr]
  have hc:cnt l k=r.2.2.2.2.2.2.2.1:=by unfold cnt;rw[hr]
  have tail:j∈goC rec l x ks→(KW l x k=true→cnt l k=true)→∃k'∈k::ks,KW l x k'=true∧j∈rec k'∧∀c∈k::ks,c<k'→KW l x c=true→cnt l c=true:=fun h hk=>by
   obtain⟨k',h1,h2,h3,h4⟩:=JM hp.2 (fun y hy=>hl y (alN _ hy)) j h;refine⟨k',alN _ h1,h2,h3,fun c hcm hlt hmc=> ?_⟩;rcases als.1 hcm with rfl|hcm
   ·exact hk hmc
   ·exact h4 c hcm hlt hmc
  cases hq:allM r.2.1 x
  ·rw[hq]at hj;exact tail hj (fun h=>by rw[hm,hq]at h;cases h)
  ·rw[hq]at hj;simp only[cond_true]at hj;rcases akU.1 hj with h|h
   ·refine⟨k,alQ ..,by rw[hm,hq],h,fun c hcm hlt=> ?_⟩;rcases als.1 hcm with rfl|hcm
    ·omega
    ·have:=hp.1 c hcm;omega
   ·cases hco:r.2.2.2.2.2.2.2.1
    ·rw[hco]at h;cases h
    ·rw[hco]at h;exact tail h (fun _=>by rw[hc,hco])
theorem U7(l:List dx)(x:List LT)(n i:Nat):cZ l x (n+1) i≠ []:=by
 unfold cZ;split
 ·simp
 ·assumption
theorem QX{rec:Nat→List Nat}{l:List dx}{x:List LT}:∀{ks:List Nat},(∀k∈ks,k<l.length∧rec k≠ [])→goC rec l x ks=[]→∀c∈ks,KW l x c=false
 | [],_,_,c,hc=>by cases hc
 |k::ks,hl,h,c,hc=>by
  obtain⟨r,hr⟩:=getD_some (hl k (alQ ..)).1;unfold goC at h;rw[hr]at h;simp only at h;have hm:KW l x k=allM r.2.1 x:=by unfold KW;rw[hr]
  cases hq:allM r.2.1 x
  ·rw[hq]at h;rcases als.1 hc with rfl|hc
   ·rw[hm,hq]
   ·exact QX (fun y hy=>hl y (alN _ hy)) h c hc
  ·rw[hq]at h;simp only[cond_true]at h;exact absurd (List.append_eq_nil_iff.1 h).1 (hl k (alQ ..)).2
theorem wT{l:List dx}(hl:I9 l)(x:List LT):∀(n i:Nat),l.length-i≤n→i<l.length→∀j∈cZ l x n i,Down l x i j
 |0,i,h,hi,j,hj=>by omega
 |n+1,i,h,hi,j,hj=>by
  have hc:∀k∈yu l (i:Int),k<l.length∧cZ l x n k≠ []:=fun k hk=>by
   obtain⟨a,b⟩:=xk hl hk;obtain⟨m,rfl⟩:∃m,n=m+1:=⟨n-1,by omega⟩
   exact⟨b,U7 l x m k⟩
  unfold cZ at hj;split at hj
  ·rename_i h0;simp only[al3]at hj;subst hj;exact .here j (QX hc h0)
  ·obtain⟨k,h1,h2,h3,h4⟩:=JM (ru l _) (fun k hk=>(hc k hk).1) j hj;obtain⟨a,b⟩:=xk hl h1;exact .step i k j h1 h2 h4 (wT hl x n k (by omega) b j h3)
theorem Ia{l:List dx}(hl:I9 l):∀(n m i:Nat),i<n→i<m→i<l.length→iN l n i=iN l m i
 |0,_,_,h,_,_=>by omega
 |_+1,0,_,_,h,_=>by omega
 |n+1,m+1,i,hn,hm,hi=>by
  unfold iN;by_cases h0:i=0
  ·rw[if_pos h0,if_pos h0]
  ·rw[if_neg h0,if_neg h0];obtain⟨r,hr⟩:=getD_some hi;obtain⟨p1,p2⟩:=hl.par i r hr (by omega);rw[hr];simp only;rw[Ia hl n m r.1.toNat (by omega) (by omega) (by omega)]
theorem rV{l:List dx}(hl:I9 l){i k:Nat}(hk:k∈yu l (i:Int)):iN l 400 k=iN l 400 i++ [k]:=by
 obtain⟨a,b⟩:=xk hl hk;obtain⟨r,hr,hi⟩:=Rp.1 hk;have hlen:=hl.len;rw[show(400:Nat)=399+1 from rfl]
 conv=>lhs;unfold iN
 rw[if_neg (by omega),hr];simp only;rw[hi,akA,Ia hl 399 (399+1) i (by omega) (by omega) (by omega)]
def Fx(l:List dx)(x:List LT)(p:List Nat):Prop:=
 (∀k∈p,k<l.length∧KW l x k=true)∧∀(k a b:Nat),p[k]?=some a→p[k+1]?=some b→∀c∈yu l (a:Int),c<b→KW l x c=true→cnt l c=true
theorem HZ{l:List dx}(hl:I9 l){i:Nat}(hi:i<l.length):∃q,iN l 400 i=q++ [i]:=by
 have hlen:=hl.len;rw[show(400:Nat)=399+1 from rfl];unfold iN;by_cases h0:i=0
 ·rw[if_pos h0,h0];exact⟨[],rfl⟩
 ·rw[if_neg h0];obtain⟨r,hr⟩:=getD_some hi;rw[hr];exact⟨_,rfl⟩
theorem Tw{l:List dx}(hl:I9 l){x:List LT}{i j:Nat}(h:Down l x i j):i<l.length→Fx l x (iN l 400 i)→∃s,iN l 400 j=iN l 400 i++s∧Fx l x (iN l 400 j)∧j<l.length∧∀c∈yu l (j:Int),KW l x c=false:=by
 induction h with
 |here i h=>intro hi hp;exact⟨[],by simp,hp,hi,h⟩
 |step i k j hk hm hs h ih=>
  intro hi hp;obtain⟨a,b⟩:=xk hl hk;have e:=rV hl hk
  have hp2:Fx l x (iN l 400 k):=by
   rw[e];refine⟨fun y hy=> ?_,fun n a b ha hb=> ?_⟩
   ·rcases akU.1 hy with h|h
    ·exact hp.1 y h
    ·simp only[al3]at h;subst h;exact⟨by assumption,hm⟩
   ·by_cases hn:n+1<(iN l 400 i).length
    ·rw[akO (by omega)]at ha hb;exact hp.2 n a b ha hb
    ·have hlt:=(ak8.1 hb).1;rw[akW,List.length_singleton]at hlt;obtain⟨q,hq⟩:=HZ hl hi;have hl2:(iN l 400 i).length=q.length+1:=by rw[hq];simp
     obtain rfl:n=q.length:=by omega
     rw[akO (by omega),hq,akL (akJ _),Nat.sub_self]at ha;rw[akL (by omega),show q.length+1-(iN l 400 i).length=0 by omega]at hb;simp at ha hb;subst ha;subst hb;exact hs
  obtain⟨s,h1,h2,h3,h4⟩:=ih b hp2;exact⟨[k]++s,by rw[h1,e,ale],h2,h3,h4⟩
theorem RH{l:List dx}(hl:I9 l)(x:List LT):Fx l x (iN l 400 0):=by
 have e:iN l 400 0=[0]:=rfl;rw[e];refine⟨fun k hk=> ?_,fun k a b ha hb=> ?_⟩
 ·simp only[al3]at hk;subst hk;obtain⟨r,hr⟩:=getD_some hl.pos;refine⟨hl.pos,?_⟩;unfold KW;rw[hr];simp only[(hl.root r hr).2];rfl
 ·simp at hb
theorem IU{rec:Nat→List Nat}{l:List dx}{x:List LT}:∀{ks:List Nat},ks.Pairwise (· < ·)→(∀k∈ks,k<l.length∧(rec k).Nodup)→(∀k∈ks,∀k'∈ks,∀j,j∈rec k→j∈rec k'→k=k')→(goC rec l x ks).Nodup
 | [],_,_,_=>List.nodup_nil
 |k::ks,hp,hl,hd=>by
  obtain⟨h1,h2⟩:=hl k (alQ ..);obtain⟨r,hr⟩:=getD_some h1;have hp:=alX.1 hp;have ih:=IU (rec:=rec) (l:=l) (x:=x) hp.2 (fun y hy=>hl y (alN _ hy)) (fun a ha b hb=>hd a (alN _ ha) b (alN _ hb));unfold goC;rw[hr];simp only;cases allM r.2.1 x
  ·exact ih
  ·simp only[cond_true];cases r.2.2.2.2.2.2.2.1
   ·simp only[alI,alk];exact h2
   ·simp only[cond_true];refine List.nodup_append.2 ⟨h2,ih,fun a ha b hb e=> ?_⟩;subst e;obtain⟨k',g1,_,g3,_⟩:=JM hp.2 (fun y hy=>(hl y (alN _ hy)).1) a hb;have:=hd k (alQ ..) k' (alN _ g1) a ha g3;have:=hp.1 k' g1;omega
theorem LY{l:List dx}(hl:I9 l){x:List LT}{i j:Nat}(h:Down l x i j):∃s,iN l 400 j=iN l 400 i++s:=by
 induction h with
 |here i h=>exact⟨[],by simp⟩
 |step i k j hk hm hs h ih=>
  obtain⟨s,hs⟩:=ih;exact⟨[k]++s,by rw[hs,rV hl hk,ale]⟩
theorem Dp{l:List dx}(hl:I9 l)(x:List LT):∀(n i:Nat),l.length-i≤n→i<l.length→(cZ l x n i).Nodup
 |0,_,h,hi=>by omega
 |n+1,i,h,hi=>by
  unfold cZ;split
  ·simp
  ·refine IU (ru l _) (fun k hk=> ?_) (fun k hk k' hk' j hj hj'=> ?_)
   ·obtain⟨a,b⟩:=xk hl hk;exact⟨b,Dp hl x n k (by omega) b⟩
   ·obtain⟨a,b⟩:=xk hl hk;obtain⟨a',b'⟩:=xk hl hk';obtain⟨s,hs⟩:=LY hl (wT hl x n k (by omega) b j hj);obtain⟨s',hs'⟩:=LY hl (wT hl x n k' (by omega) b' j hj');rw[rV hl hk]at hs;rw[rV hl hk',hs,ale,ale]at hs';have:=List.append_cancel_left hs';simp at this;exact this.1
theorem found{l:List dx}(hl:I9 l){x:List LT}{j:Nat}(hj:j∈cZ l x 400 0):
  j<l.length∧(∃q,iN l 400 j=0::q)∧(∃q,iN l 400 j=q++ [j])∧Fx l x (iN l 400 j)∧∀c∈yu l (j:Int),KW l x c=false:=by
 have hlen:=hl.len;obtain⟨s,h1,h2,h3,h4⟩:=Tw hl (wT hl x 400 0 (by omega) hl.pos j hj) hl.pos (RH hl x);exact⟨h3,⟨s,h1⟩,HZ hl h3,h2,h4⟩
abbrev bS:Type:=ByteArray×List LT×Int×Int×Bool×Bool×Unit
abbrev bF:Type:=Int×ByteArray×List bS×Int×Int×Unit
abbrev aK(m:bS):ByteArray:=m.1
abbrev cB(m:bS):List LT:=m.2.1
abbrev EH(m:bS):Int:=m.2.2.1
abbrev nS(m:bS):Int:=m.2.2.2.1
abbrev bY(m:bS):Bool:=m.2.2.2.2.1
abbrev dL(m:bS):Bool:=m.2.2.2.2.2.1
abbrev aM(g:bF):List bS:=g.2.2.1
abbrev gm(g:bF):Int:=g.2.2.2.1
abbrev dm(g:bF):Int:=g.2.2.2.2.1
structure yF(m:bS):Prop where
 lab:bO (cB m)=true
 key:aK m=bR (bV (cB m))
 since:0≤EH m∧EH m≤8589934592
 heard:0≤nS m∧nS m≤8589934592
 told:bY m=true∨dL m=false
abbrev Less(a b:ByteArray):Prop:=leB b a=false
structure VG(g:bF):Prop where
 len:(aM g).length≤256
 rt:0≤g.1
 due: -1≤gm g∧gm g≤8589934592
 sent: -1≤dm g∧dm g≤8589934592
 mem:∀m∈aM g,yF m
 up:((aM g).map aK).Pairwise Less
theorem o9{l:List LT}(h:bO l=true):IV l:=by
 obtain⟨h1,h2⟩:=gK h;refine⟨by unfold big;omega,fun x hx=> ?_⟩;obtain⟨a,b,_⟩:=h2 x hx;have:=zO a;have:=rT b;unfold big;omega
theorem Et{l:List LT}(h:bO l=true):Di l=bR (bV l):=if_pos h
theorem Ba(a b c:Int):EZ ((a,b,c,()),())=some ((decide (b≤a∧a≤c),()),()):=by
 unfold EZ;by_cases h1:a≥b<;>by_cases h2:a≤c<;>simp[h1,h2]
theorem aar{m:bS}(h:yF m):Ze ((m,()),())=some ((true,()),()):=by
 have q1:=BG (cB m) (o9 h.lab);rw[h.lab]at q1;have q2:=KG (cB m) (o9 h.lab);rw[Et h.lab,←h.key]at q2;have d1:decide ((0:Int)≤EH m∧EH m≤8589934592)=true:=ak7 h.since;have d2:decide ((0:Int)≤nS m∧nS m≤8589934592)=true:=ak7 h.heard;have ht:=h.told;obtain⟨k,l,s,hh,f,t,⟨⟩⟩:=m;dsimp only[aK,cB,EH,nS,bY,dL]at q1 q2 d1 d2 ht;unfold Ze;simp only[q1,q2,Ba,d1,d2,au,sS];cases f
 ·have:t=false:=by simpa using ht
  subst this;rfl
 ·rfl
theorem Pt{l:List ByteArray}(h:l.Pairwise Less){i:Nat}{a b:ByteArray}(ha:l[i]?=some a)(hb:l[i+1]?=some b):Less a b:=by
 obtain⟨h1,rfl⟩:=ak8.1 ha;obtain⟨h2,rfl⟩:=ak8.1 hb;exact List.pairwise_iff_getElem.1 h i (i+1) h1 h2 (by omega)
theorem Jj{g:bF}(h:VG g):m82 ((g,()),())=some ((true,()),()):=by
 have hlen:=h.len;have d0:decide (((aM g).length:Int)>256)=false:=ak9 (by omega);have d1:decide (g.1<0)=false:=ak9 (by have:=h.rt;omega);have d2:decide ((-1:Int)≤gm g∧gm g≤8589934592)=true:=ak7 h.due;have d3:decide ((-1:Int)≤dm g∧dm g≤8589934592)=true:=ak7 h.sent
 have hl:aB A7 (((0:Int),aM g,((aM g).length:Int),()),((g,()),()))=some (.inr ((),())):=nE (aM g) (fun i=>(((i:Int),aM g,((aM g).length:Int),()),((g,()),()))) _ (fun i e he hi=>by
  have q:=aar (h.mem e (akC he));have hw:=aG (i:=i) (by omega);obtain⟨rt,ky,ms,du,se,⟨⟩⟩:=g;rcases kH hi with h0|⟨p,h0,hp,hp1⟩
  ·have:decide ((i:Int)>0)=false:=ak9 (by omega);simp only[A7,dU hi,aI,aF he,q,this,hw,au,sS]
  ·have:decide ((i:Int)>0)=true:=ak7 (by omega);have hlt:=Pt h.up (i:=i-1) (a:=aK p) (b:=aK e) (by rw[akE,hp];rfl) (by rw[show i-1+1=i by omega,akE,he];rfl);have hlt:(Op.bytesLess e.1.toList p.1.toList||e.1.toList==p.1.toList)=false:=hlt;simp only[A7,dU hi,aI,aF he,q,this,hp1 (by omega),aF hp,hlt,hw,au,sS]) (by simp only[A7,fH,au,sS])
 obtain⟨rt,ky,ms,du,se,⟨⟩⟩:=g;dsimp only[aM,gm,dm]at d0 d1 d2 d3 hl;unfold m82;simp only[d0,d1,Ba,d2,d3,au,sS];refine aP _ hl ?_;simp only[au,sS]
theorem isNaN(s:ByteArray):Vt ((s,()),())=some ((false,()),()):=by
 unfold Vt;simp
def D7(a b:ByteArray):Int:=if Op.bytesLess a.toList b.toList=true then -1 else if leB a b=false then 1 else 0
theorem Rf(a b:ByteArray):Xm ((a,b,()),())=some ((D7 a b,()),()):=by
 unfold Xm D7 leB;simp only[isNaN,au,sS];cases Op.bytesLess a.toList b.toList
 ·cases (a.toList==b.toList)<;>rfl
 ·rfl
theorem JH(m:bS)(k:ByteArray):Xv ((m,k,()),())=some ((D7 (aK m) k,()),()):=by
 unfold Xv;simp only[Rf,au,sS]
theorem Wh:∀x:List UInt8,Op.bytesLess x x=false
 | []=>rfl
 |a::x=>by
  have:=Wh x;simp[Op.bytesLess,this]
theorem Np:∀{x y z:List UInt8},Op.bytesLess x y=true→Op.bytesLess y z=true→Op.bytesLess x z=true
 |_,[],_,h,_=>by cases ‹List UInt8›<;>simp[Op.bytesLess]at h
 |_,_::_,[],_,h=>by simp[Op.bytesLess]at h
 | [],_::_,_::_,_,_=>by simp[Op.bytesLess]
 |a::x,b::y,c::z,h1,h2=>by
  simp only[Op.bytesLess,amn,alr,akS,beq_iff_eq]at h1 h2 ⊢;rcases h1 with h1|⟨rfl,h1⟩
  ·rcases h2 with h2|⟨rfl,h2⟩
   ·exact .inl (UInt8.lt_trans h1 h2)
   ·exact .inl h1
  ·rcases h2 with h2|⟨rfl,h2⟩
   ·exact .inl h2
   ·exact .inr ⟨rfl,Np h1 h2⟩
theorem Xd:∀(x y:List UInt8),Op.bytesLess x y=true∨x=y∨Op.bytesLess y x=true
 | [],[]=>.inr (.inl rfl)
 | [],_::_=>.inl rfl
 |_::_,[]=>.inr (.inr rfl)
 |a::x,b::y=>by
  simp only[Op.bytesLess,amn,alr,akS,beq_iff_eq];rcases Nat.lt_trichotomy a.toNat b.toNat with h|h|h
  ·exact .inl (.inl (UInt8.lt_iff_toNat_lt.2 h))
  ·have h:=UInt8.toNat_inj.1 h;subst h;rcases Xd x y with h|h|h
   ·exact .inl (.inr ⟨rfl,h⟩)
   ·exact .inr (.inl (by rw[h]))
   ·exact .inr (.inr (.inr ⟨rfl,h⟩))
  ·exact .inr (.inr (.inl (UInt8.lt_iff_toNat_lt.2 h)))
abbrev Lt(a b:ByteArray):Prop:=Op.bytesLess a.toList b.toList=true
theorem KF{a b:ByteArray}(h:a.toList=b.toList):a=b:=pU (by rw[←bg,←bg,h])
theorem lQ(a:ByteArray):¬ Lt a a:=fun h=>by rw[Lt,Wh]at h;cases h
theorem lt_trans{a b c:ByteArray}(h:Lt a b)(k:Lt b c):Lt a c:=Np h k
theorem Kq(a b:ByteArray):Lt a b∨a=b∨Lt b a:=by
 rcases Xd a.toList b.toList with h|h|h
 ·exact .inl h
 ·exact .inr (.inl (KF h))
 ·exact .inr (.inr h)
theorem fU{a b:ByteArray}:Less a b↔Lt a b:=by
 unfold Less leB;rw[al4];constructor
 ·rintro⟨h1,h2⟩;rcases Kq a b with h|h|h
  ·exact h
  ·subst h;simp at h2
  ·rw[h]at h1;cases h1
 ·intro h;refine⟨?_,?_⟩
  ·cases hc:Op.bytesLess b.toList a.toList
   ·rfl
   ·exact absurd (lt_trans h hc) (lQ a)
  ·cases hc:(b.toList==a.toList)
   ·rfl
   ·have:b=a:=KF (by simpa using hc);subst this;exact absurd h (lQ b)
theorem LH{a b:ByteArray}:D7 a b<0↔Lt a b:=by
 unfold D7;by_cases h:Lt a b
 ·rw[if_pos h];exact⟨fun _=>h,fun _=>by omega⟩
 ·rw[if_neg h];constructor
  ·intro h2;split at h2<;>omega
  ·exact fun h2=>absurd h2 h
theorem wG{a b:ByteArray}:D7 a b=0↔a=b:=by
 unfold D7;by_cases h:Lt a b
 ·rw[if_pos h];exact⟨fun h2=>by omega,fun h2=>by subst h2;exact absurd h (lQ a)⟩
 ·rw[if_neg h];by_cases h2:leB a b=false
  ·rw[if_pos h2];have h3:=fU.1 (show Less b a from h2);exact⟨fun h=>by omega,fun h=>by subst h;exact absurd h3 (lQ a)⟩
  ·rw[if_neg h2];refine⟨fun _=> ?_,fun _=>rfl⟩;rcases Kq a b with h3|h3|h3
   ·exact absurd h3 h
   ·exact h3
   ·exact absurd (fU.2 h3) h2
theorem half(i j:Nat)(h:i+j≤1000000):aQ (Al .u64 (IntKind.wrap .u64 (aQ ((i:Int)+(j:Int)))) 1)=(((i+j)/ 2:Nat):Int):=by
 have h1:aQ ((i:Int)+(j:Int))=(i:Int)+(j:Int):=bH (by omega) (by omega);rw[h1]
 have h2:IntKind.wrap .u64 ((i:Int)+(j:Int))=(i:Int)+(j:Int):=by
  have hp:(2:Int)^ IntKind.u64.bits=18446744073709551616:=rfl;simp only[IntKind.wrap,hp,show IntKind.u64.signed=false from rfl,alH,akN,if_false];omega
 rw[h2]
 have h3:Al .u64 ((i:Int)+(j:Int)) 1=(((i+j)/ 2:Nat):Int):=by
  unfold Al;rw[show(2:Int)^(min (1:Int).toNat IntKind.u64.bits)=2 from rfl,Int.fdiv_eq_ediv_of_nonneg _ (by omega)];omega
 rw[h3];exact bH (by omega) (by omega)
theorem acW{g:bF}(hlen:(aM g).length≤256)(hup0:((aM g).map aK).Pairwise Less)(k:ByteArray):∃(i:Nat) (o:Bool),Mw ((g,k,()),())=some (((i:Int),o,()),())∧i≤(aM g).length∧(∀m∈(aM g).take i,Lt (aK m) k)∧
  (∀m∈(aM g).drop i,¬ Lt (aK m) k)∧(o=true→∃m,(aM g)[i]?=some m∧aK m=k)∧(o=false→∀m∈aM g,aK m≠k):=by
 have hup:=List.pairwise_iff_getElem.1 hup0
 have mono:∀(a b:Nat) (x y:bS),(aM g)[a]?=some x→(aM g)[b]?=some y→a≤b→¬ Lt (aK x) k→¬ Lt (aK y) k:=by
  intro a b x y ha hb hab hx hy;by_cases e:a=b
  ·subst e;rw[ha]at hb;injection hb with hb;subst hb;exact hx hy
  ·obtain⟨h1,h1'⟩:=ak8.1 ha;obtain⟨h2,h2'⟩:=ak8.1 hb;have:=hup a b (by rw[akD];exact h1) (by rw[akD];exact h2) (by omega);rw[List.getElem_map,List.getElem_map,h1',h2']at this;exact hx (lt_trans (fU.1 this) hy)
 have key:∃i:Nat,aB nQ ((k,aM g,((aM g).length:Int),0,((aM g).length:Int),()),())=some ((k,(i:Int),aM g,((aM g).length:Int),()),())∧i≤(aM g).length∧
   (∀j m,j<i→(aM g)[j]?=some m→Lt (aK m) k)∧(∀j m,i≤j→(aM g)[j]?=some m→¬ Lt (aK m) k):=by
  have go:∀(d lo hi:Nat),hi-lo≤d→lo≤hi→hi≤(aM g).length→(∀j m,j<lo→(aM g)[j]?=some m→Lt (aK m) k)→(∀j m,hi≤j→(aM g)[j]?=some m→¬ Lt (aK m) k)→
    ∃i:Nat,aB nQ ((k,aM g,(hi:Int),(lo:Int),((aM g).length:Int),()),())=some ((k,(i:Int),aM g,((aM g).length:Int),()),())∧i≤(aM g).length∧
     (∀j m,j<i→(aM g)[j]?=some m→Lt (aK m) k)∧(∀j m,i≤j→(aM g)[j]?=some m→¬ Lt (aK m) k):=by
   intro d
   induction d with
   |zero=>
    intro lo hi h0 h1 h2 h3 h4;have:lo=hi:=by omega
    subst this;refine⟨lo,aA ?_,h2,h3,h4⟩;simp only[nQ,fH,au,sS]
   |succ d ih=>
    intro lo hi h0 h1 h2 h3 h4;by_cases hlt:lo<hi
    ·have hm:=half lo hi (by omega);have hmid:(lo+hi)/ 2<(aM g).length:=by omega
     obtain⟨e,he⟩:=getD_some hmid;have dl:decide ((lo:Int)<(hi:Int))=true:=ak7 (by omega);have d1:decide ((0:Int)≤1)=true:=rfl;have hw:aQ ((((lo+hi)/ 2:Nat):Int)+1)=(((lo+hi)/ 2+1:Nat):Int):=aG (by omega);by_cases hc:Lt (aK e) k
     ·have dc:decide (D7 (aK e) k<0)=true:=ak7 (LH.2 hc)
      obtain⟨i,q,r⟩:=ih ((lo+hi)/ 2+1) hi (by omega) (by omega) h2 (fun j m hj hjm=>by
       by_cases hx:Lt (aK m) k
       ·exact hx
       ·exact absurd hc (mono j _ m e hjm he (by omega) hx)) h4
      refine⟨i,(aD ?_).trans q,r⟩;simp only[nQ,dl,d1,hm,aI,aF he,JH,dc,hw,au,sS]
     ·have dc:decide (D7 (aK e) k<0)=false:=ak9 (fun h=>hc (LH.1 h));obtain⟨i,q,r⟩:=ih lo ((lo+hi)/ 2) (by omega) (by omega) (by omega) h3 (fun j m hj hjm=>mono _ j e m he hjm hj hc);refine⟨i,(aD ?_).trans q,r⟩;simp only[nQ,dl,d1,hm,aI,aF he,JH,dc,au,sS]
    ·have:lo=hi:=by omega
     subst this;refine⟨lo,aA ?_,h2,h3,h4⟩;simp only[nQ,fH,au,sS]
  exact go _ 0 _ (akJ _) (alj _) (akJ _) (fun j m hj=>by omega) (fun j m hj hjm=>by
   have:=(ak8.1 hjm).1;omega)
 obtain⟨i,q,h1,h2,h3⟩:=key
 have ht:∀m∈(aM g).take i,Lt (aK m) k:=fun m hm=>by
  obtain⟨j,hj,rfl⟩:=List.mem_take_iff_getElem.1 hm;exact h2 j _ (by omega) (akH _)
 have hd:∀m∈(aM g).drop i,¬ Lt (aK m) k:=fun m hm=>by
  obtain⟨j,hj,rfl⟩:=List.mem_drop_iff_getElem.1 hm;exact h3 (i+j) _ (by omega) (akH _)
 have hne:(∀m,(aM g)[i]?=some m→aK m≠k)→∀m∈aM g,aK m≠k:=by
  intro hi m hm e;obtain⟨j,hj,rfl⟩:=List.mem_iff_getElem.1 hm;rcases Nat.lt_trichotomy j i with hji|hji|hji
  ·have:=h2 j _ hji (akH hj);rw[e]at this;exact lQ _ this
  ·subst hji;exact hi _ (akH hj) e
  ·have hil:i<(aM g).length:=by omega
   have a:=hup i j (by rw[akD];exact hil) (by rw[akD];exact hj) hji;rw[List.getElem_map,List.getElem_map]at a;have b:=h3 i _ (akJ _) (akH hil);have c:=fU.1 a;rw[e]at c;exact b c
 by_cases hil:i<(aM g).length
 ·obtain⟨e,he⟩:=getD_some hil;have dl:decide ((i:Int)<((aM g).length:Int))=true:=ak7 (by omega);refine⟨i,D7 (aK e) k==0,?_,h1,ht,hd,fun ho=>⟨e,he,wG.1 (by simpa using ho)⟩,fun ho=>hne fun m hm hk=> ?_⟩
  ·unfold Mw;refine aP _ q ?_;simp only[dl,aI,aF he,JH,au,sS]
  ·rw[he]at hm;injection hm with hm;subst hm;have:=wG.2 hk;rw[this]at ho;cases ho
 ·have dl:decide ((i:Int)<((aM g).length:Int))=false:=ak9 (by omega);refine⟨i,false,?_,h1,ht,hd,fun ho=>(by cases ho),fun _=>hne fun m hm=> ?_⟩
  ·unfold Mw;refine aP _ q ?_;simp only[dl,au,sS]
  ·have:=(ak8.1 hm).1;omega
abbrev OB:=Int×ByteArray×Int×Int×Unit
def cor(g:bF):OB:=(g.1,g.2.1,gm g,dm g,())
theorem KS{g:bF}(h:VG g):O8 ((g,()),())=some ((),((cor g,()),(aM g,()))):=by
 have hlen:=h.len;obtain⟨rt,ky,ms,du,se,⟨⟩⟩:=g;dsimp only[aM]at hlen;have d0:decide (ms.length≤4294967296)=true:=ak7 (by omega)
 have hl:aB AJ (((0:Int),(ms.length:Int),()),(((rt,ky,du,se,()),()),(((0,ByteArray.empty,0,0,()),()),(ms,()))))=some ((),(((((0,ByteArray.empty,0,0,()):OB),()),((((rt,ky,du,se,()):OB),()),(ms,()))))):=by
  refine nE ms (fun i=>(((i:Int),(ms.length:Int),()),(((rt,ky,du,se,()),()),(((0,ByteArray.empty,0,0,()),()),(ms,()))))) _ (fun i e he hi=> ?_) (by simp only[AJ,fH,au,sS]);have hw:=aG (i:=i) (by omega);have d2:decide ((0:Int)≤(i:Int)∧(i:Int)<(ms.length:Int))=true:=ak7 (by omega);have hm:=h.mem e (akC he);have hv:=(gK hm.lab).1;have d3:decide (e.2.1.length≤4294967296)=true:=ak7 (by dsimp only[cB]at hv;omega)
  have hset:ms.set i (e.1,e.2.1,e.2.2)=ms:=by
   have:=(ak8.1 he).2;rw[←this];exact List.set_getElem_self _
  simp only[AJ,dU hi,d2,akA,he,Xe,d3,hset,hw,au,sS]
 unfold O8;simp only[adk,d0,au,sS];refine aP _ hl ?_;rfl
theorem YV(t:Int):MH ((t,()),())=some (((if t>8589934592 then -1 else t),()),()):=by
 unfold MH;by_cases h:t>8589934592
 ·simp only[h,if_true,au,sS]
 ·simp only[h,if_false,au,sS]
abbrev inst(t:Int):Bool:=decide (0≤t∧t≤8589934592)
def strip(r:dx):dx:=(-1,[],r.2.2)
def BK(r:dx):Bool:=gu (strip r)==0
theorem Y6{r:dx}(h:KI r):KI (strip r):=⟨⟨alj _,fun m hm=>by cases hm⟩,h.2⟩
theorem O3(r:dx):jX [strip r]=gu (strip r):=by
 have h1:sM 0 (strip r)=gu (strip r):=rfl;have h2:(([strip r]:List dx)[0]?)=some (strip r):=rfl;have h3:decide (((strip r).2.1.length:Int)>0)=false:=rfl;unfold jX;simp only[Bc,h1,h2,h3,List.length_singleton];by_cases h:gu (strip r)=0
 ·rw[h];rfl
 ·rw[al6.2 h];simp only[cond_true];rw[al6.2 h];rfl
theorem JX(r:dx)(hr:KI r):Tt ((r,()),())=some ((BK r,()),()):=by
 unfold Tt;refine aP _ (KP [strip r] ⟨by simp,fun x hx=>by simp at hx;subst hx;exact Y6 hr⟩) ?_;rw[O3];rfl
abbrev l8(r:dx):Int:=r.2.2.2.2.1
abbrev fB(r:dx):Int:=r.2.2.2.2.2.1
abbrev rA(r:dx):Int:=r.2.2.2.2.2.2.1
structure RR(r:dx):Prop where
 z:KI r
 ok:BK r=true
 pol:0≤r.2.2.1
 wait:0≤l8 r
 int:l8 r≤fB r
 KX:fB r≤rA r
 max:rA r≤604800
 pos:rA r≠0
theorem ah7{r:dx}(z:KI r)(h:BK r=true):RR r:=by
 have h0:gu (strip r)=0:=by unfold BK at h;simpa using h
 unfold gu at h0;cases h1:(decide (((strip r).2.1.length:Int)>8)||decide (((strip r).2.2.2.1.length:Int)>12))
 ·rw[h1]at h0;cases h2:(!(strip r).2.1.all bC|| !j5 (strip r).2.2.2.1)
  ·rw[h2]at h0;cases h3:og (strip r)
   ·unfold og at h3;simp only[al4,alL,akR]at h3;obtain⟨a,b,c,d,e,f⟩:=h3;have a:¬ r.2.2.1<0:=a;have b:¬ r.2.2.2.2.1<0:=b;have c:¬ r.2.2.2.2.1>r.2.2.2.2.2.1:=c;have d:¬ r.2.2.2.2.2.1>r.2.2.2.2.2.2.1:=d;have e:¬ r.2.2.2.2.2.2.1>604800:=e;exact⟨z,h,by omega,by unfold l8;omega,by unfold l8 fB;omega,by unfold fB rA;omega,by unfold rA;omega,f⟩
   ·rw[h3]at h0;cases h0
  ·rw[h2]at h0;cases h0
 ·rw[h1]at h0;cases h0
def pos(k:ByteArray):List bS→Nat
 | []=>0
 |m::r=>if Op.bytesLess (aK m).toList k.toList=true then pos k r+1 else 0
def hit(k:ByteArray)(l:List bS):Bool:=match l[pos k l]? with|some m=>decide (aK m=k)|none=>false
theorem OH{k:ByteArray}:∀{l:List bS} {i:Nat},i≤l.length→(∀m∈l.take i,Lt (aK m) k)→(∀m∈l.drop i,¬ Lt (aK m) k)→pos k l=i
 | [],i,h,_,_=>by simp at h;subst h;rfl
 |m::r,0,_,_,h=>by
  unfold pos;rw[if_neg (h m (by simp))]
 |m::r,i+1,h0,h1,h2=>by
  unfold pos;rw[if_pos (h1 m (by simp)),OH (by simpa using h0) (fun x hx=>h1 x (by rw[List.take_succ_cons];exact alN _ hx)) (fun x hx=>h2 x (by simpa using hx))]
theorem O1(k:ByteArray):∀l:List bS,pos k l≤l.length
 | []=>akJ _
 |m::r=>by
  unfold pos;have:=O1 k r;split<;>simp<;>omega
theorem zl{k:ByteArray}:∀{l:List bS},∀m∈l.take (pos k l),Lt (aK m) k
 | [],m,h=>by simp at h
 |x::r,m,h=>by
  unfold pos at h;split at h
  ·rename_i hx;rw[List.take_succ_cons]at h;rcases als.1 h with rfl|h
   ·exact hx
   ·exact zl m h
  ·simp at h
theorem pos_at{k:ByteArray}:∀{l:List bS} {m:bS},l[pos k l]?=some m→¬ Lt (aK m) k
 | [],m,h=>by simp at h
 |x::r,m,h=>by
  unfold pos at h;split at h
  ·exact pos_at (by simpa using h)
  ·rename_i hx;simp at h;subst h;exact hx
theorem Yh{l:List bS}(h:(l.map aK).Pairwise Less){i:Nat}{e m:bS}(he:l[i]?=some e)(hm:m∈l.drop (i+1)):Less (aK e) (aK m):=by
 obtain⟨j,hj,rfl⟩:=List.mem_drop_iff_getElem.1 hm;obtain⟨h1,rfl⟩:=ak8.1 he;have:=List.pairwise_iff_getElem.1 h i (i+1+j) (by rw[akD];exact h1) (by rw[akD];omega) (by omega)
 rwa [List.getElem_map,List.getElem_map]at this
theorem EB{k:ByteArray}{l:List bS}(h:(l.map aK).Pairwise Less)(hh:hit k l=false):∀m∈l.drop (pos k l),Lt k (aK m):=by
 intro m hm;by_cases hl:pos k l<l.length
 ·obtain⟨e,he,hd⟩:=drop_at hl;have h1:=pos_at he
  have h2:aK e≠k:=by
   unfold hit at hh;rw[he]at hh;simpa using hh
  have h3:Lt k (aK e):=by
   rcases Kq (aK e) k with h|h|h
   ·exact absurd h h1
   ·exact absurd h h2
   ·exact h
  rw[hd]at hm;rcases als.1 hm with rfl|hm
  ·exact h3
  ·exact lt_trans h3 (fU.1 (Yh h he hm))
 ·rw[ald (by omega)]at hm;cases hm
theorem tN{k:ByteArray}{l:List bS}(h:hit k l=true):∃m,l[pos k l]?=some m∧aK m=k:=by
 unfold hit at h;split at h
 ·rename_i m hm;exact⟨m,hm,by simpa using h⟩
 ·cases h
theorem Lh{g:bF}(hlen:(aM g).length≤256)(hup:((aM g).map aK).Pairwise Less)(k:ByteArray):Mw ((g,k,()),())=some (((pos k (aM g):Int),hit k (aM g),()),()):=by
 obtain⟨i,o,e,h1,h2,h3,h4,h5⟩:=acW hlen hup k;have hi:=OH h1 h2 h3
 have ho:hit k (aM g)=o:=by
  unfold hit;rw[hi];cases o
  ·split
   ·rename_i m hm;exact ak9 (h5 rfl m (akC hm))
   ·rfl
  ·obtain⟨m,hm,hk⟩:=h4 rfl;rw[hm];exact ak7 hk
 rw[e,hi,ho]
theorem find_eq{g:bF}(h:VG g)(k:ByteArray):Mw ((g,k,()),())=some (((pos k (aM g):Int),hit k (aM g),()),()):=Lh h.len h.up k
def K8(t:Int):Int:=if t>8589934592 then -1 else t
def kX(se wait int t:Int):Int:=if se= -1 then t+wait else if se+int>t then se+int else t
def gD(du se wait int t:Int):Int:=K8 (if du= -1 then kX se wait int t else if du<kX se wait int t then du else kX se wait int t)
theorem o6(t:Int):MH ((t,()),())=some ((K8 t,()),()):=YV t
abbrev AR:OB:=(0,ByteArray.empty,0,0,())
abbrev yA(g:bF)(d:Int):OB:=(g.1,g.2.1,d,dm g,())
def vD(m:bS)(t:Int):bS:=(m.1,m.2.1,m.2.2.1,t,m.2.2.2.2)
def stepM(m:bS)(on:Bool)(t:Int):bS:=(m.1,m.2.1,t,nS m,on,on,())
abbrev Vs(g:bF)(r:dx)(t:Int):Int:=gD (gm g) (dm g) (l8 r) (fB r) t
def xH(g:bF)(ms:List bS):Int:=if ms.length=0 then -1 else gm g
def ji(g:bF)(r:dx)(l:List LT)(on:Bool)(t:Int):Int×OB×List bS:=
 let k:=bR (bV l)
 let ms:=aM g
 let i:=pos k ms
 if hit k ms=true then
  match ms[i]? with
  |none=>(0,AR,[])
  |some m=>
   if bY m=on then(0,yA g (gm g),ms.set i (vD m t))
   else if on=true then(0,yA g (gm g),ms.set i (stepM (vD m t) true t))
   else if dL m=true then(0,yA g (Vs g r t),ms.set i (stepM (vD m t) false t))
   else(0,yA g (xH g (ms.take i++ms.drop (i+1))),ms.take i++ms.drop (i+1))
 else if on=true then
  if ms.length=256 then(5,AR,[])else(0,yA g (Vs g r t),ms.take i++ [(k,l,t,t,true,false,())]++ms.drop i)
 else(0,yA g (xH g ms),ms)
abbrev UG(x:Int×OB×List bS):Option ((Int×Unit)×((OB×Unit)×(List bS×Unit))):=some ((x.1,()),((x.2.1,()),(x.2.2,())))
theorem adr{l:List bS}{i:Nat}{e:bS}(h:l[i]?=some e)(x:bS):(l.set i x)[i]?=some x:=by
 rw[List.getElem?_set_self (ak8.1 h).1]
theorem xC(l:List bS)(i:Nat)(x:bS):(l.set i x).take i=l.take i:=by
 rw[List.take_set,List.set_eq_of_length_le (by rw[akT];omega)]
theorem GU(l:List bS)(i:Nat)(x:bS):(l.set i x).drop (i+1)=l.drop (i+1):=by
 rw[List.drop_set,if_pos (by omega)]
theorem aev(l:List bS):(((l.length:Nat):Int)==0)=decide (l.length=0):=by
 rw[dz];exact alM.2 (by omega)
theorem afJ{g:bF}(h:VG g){r:dx}(hr:RR r){l:List LT}(hl:bO l=true)(on:Bool){t:Int}(ht:0≤t∧t≤8589934592):
  m73 ((g,r,l,on,t,()),())=UG (ji g r l on t):=by
 have q1:=Jj h;have q2:=JX r hr.z;rw[hr.ok]at q2;have q3:=BG l (o9 hl);rw[hl]at q3;have q4:=KG l (o9 hl);rw[Et hl]at q4;have q5:=find_eq h (bR (bV l));have q6:=KS h;have dt:decide ((0:Int)≤t∧t≤8589934592)=true:=ak7 ht;have hlen:=h.len;have hsent:=h.sent;have hdue:=h.due;have hv:=(gK hl).1;have hw:=hr.wait;have hi:=hr.int;have hp:=hr.KX;have hx:=hr.max;have w1:aQ (dm g+fB r)=dm g+fB r:=bH (by omega) (by omega);have w2:aQ (t+l8 r)=t+l8 r:=bH (by omega) (by omega);have hple:=O1 (bR (bV l)) (aM g);obtain⟨rt,ky,ms,du,se,⟨⟩⟩:=g;obtain⟨pa,mt,po,gb,wa,ir,rp,co,⟨⟩⟩:=r;dsimp only[aM,gm,dm,l8,fB,rA,cor]at *;unfold m73;simp only[q1,q2,q3,q4,q5,q6,Ba,dt,akA,al2,au,sS];unfold ji;dsimp only[aM,gm,dm,l8,fB,rA,yA,Vs];have hx0:hit (bR (bV l)) ms=match ms[pos (bR (bV l)) ms]? with|some m=>decide (aK m=(bR (bV l)))|none=>false:=rfl
 generalize pos (bR (bV l)) ms=i at *;cases hh:hit (bR (bV l)) ms
 ·simp only[akN,if_false,au,sS];cases on
  ·have b0:((ms.length:Int)==0)=decide (ms.length=0):=by
    rw[dz];exact alM.2 (by omega)
   simp only[xH,aM,gm,b0,eq_self,akN,if_false,au,sS];by_cases h0:ms.length=0
   ·simp only[h0,eq_self,if_true,au,sS]
   ·simp only[h0,eq_self,if_false,au,sS]
  ·by_cases h6:ms.length=256
   ·have b6:((ms.length:Int)==256)=true:=by rw[dz];exact ak7 (by omega)
    simp only[b6,eq_self,if_true,au,sS];rw[if_pos h6]
   ·have b6:((ms.length:Int)==256)=false:=by rw[dz];exact ak9 (by omega)
    have d1:decide (l.length≤4294967296)=true:=ak7 (by omega);have d2:decide ((0:Int)≤(i:Int)∧(i:Int)≤(ms.length:Int)∧ms.length≤4294967295)=true:=ak7 (by omega)
    have b0:((((ms.take i++ [(bR (bV l),l,t,t,true,false,())]++ms.drop i).length:Nat):Int)==0)=false:=by
     rw[dz];exact ak9 (by simp only[akW,List.length_singleton];omega)
    simp only[b6,h6,Xe,d1,d2,List.length_singleton,akA,eq_self,and_true,if_true,if_false,au,sS];by_cases hs:se= -1<;>by_cases hd:du= -1
    ·subst hs;subst hd;simp only[w1,w2,gD,kX,o6,b0,eq_self,if_true,if_false,au,sS]
    ·subst hs;have bd:(du != -1)=true:=al6.2 hd;simp only[w1,w2,bd,hd,gD,kX,o6,b0,eq_self,if_true,if_false,au,sS]
    ·subst hd;have bs:(se != -1)=true:=al6.2 hs;simp only[w1,w2,bs,hs,gD,kX,o6,b0,eq_self,if_true,if_false,au,sS]
    ·have bd:(du != -1)=true:=al6.2 hd;have bs:(se != -1)=true:=al6.2 hs;simp only[w1,w2,bd,bs,hd,hs,gD,kX,o6,b0,eq_self,if_true,if_false,au,sS]
 ·have hm:∃m,ms[i]?=some m:=by
   by_cases hil:i<ms.length
   ·exact getD_some hil
   ·rw[al8 (by omega)]at hx0;exact absurd hh (by rw[hx0];simp)
  obtain⟨m,hm⟩:=hm;have hlt:i<ms.length:=(ak8.1 hm).1;have db:decide ((0:Int)≤(i:Int)∧(i:Int)<(ms.length:Int))=true:=ak7 (by omega);have wi:aQ ((i:Int)+1)=((i+1:Nat):Int):=aG (by omega);have dd:decide ((0:Int)≤(i:Int)∧(i:Int)<((i+1:Nat):Int)∧((i+1:Nat):Int)≤(ms.length:Int)∧ms.length≤4294967296)=true:=ak7 (by omega);have sa:=adr hm;have b0:((ms.length:Int)==0)=false:=by rw[dz];exact ak9 (by omega)
  obtain⟨mk,ml,mn,mh,mf,mt',⟨⟩⟩:=m;simp only[hm,sa,db,List.set_set,al2,akA,vD,stepM,aK,cB,nS,bY,dL,eq_self,if_true,au,sS];have ft:(false==true)=false:=rfl;have tf:(true==false)=false:=rfl;cases mf<;>cases on
  ·simp only[b0,al2,eq_self,if_true,au,sS]
  ·simp only[ft,b0,al2,eq_self,if_true,if_false,akN,au,sS]
  ·cases mt'
   ·simp only[tf,wi,dd,xC,GU,xH,aM,gm,aev,al2,akA,eq_self,if_true,if_false,Bool.true_eq_false,akN,au,sS];by_cases h0:(ms.take i++ms.drop (i+1)).length=0
    ·simp only[h0,eq_self,if_true,au,sS]
    ·simp only[h0,eq_self,if_false,au,sS]
   ·simp only[tf,if_true,if_false,Bool.true_eq_false,akN,au,sS];by_cases hs:se= -1<;>by_cases hd:du= -1
    ·subst hs;subst hd;simp only[w1,w2,gD,kX,o6,b0,al2,eq_self,if_true,if_false,au,sS]
    ·subst hs;have bd:(du != -1)=true:=al6.2 hd;simp only[w1,w2,bd,hd,gD,kX,o6,b0,al2,eq_self,if_true,if_false,au,sS]
    ·subst hd;have bs:(se != -1)=true:=al6.2 hs;simp only[w1,w2,bs,hs,gD,kX,o6,b0,al2,eq_self,if_true,if_false,au,sS]
    ·have bd:(du != -1)=true:=al6.2 hd;have bs:(se != -1)=true:=al6.2 hs;simp only[w1,w2,bd,bs,hd,hs,gD,kX,o6,b0,al2,eq_self,if_true,if_false,au,sS]
  ·simp only[b0,al2,eq_self,if_true,au,sS]
end Go.Proofs.YtchnmpafhfjimaaGreatDoor
namespace Go.Proofs.YtchnmpafhfjimaaGreatDoor
open Go Go.Abs Go.Lab
def Yq(m:bS)(t a:Int):Bool:=bY m&&decide (nS m≤t-a)
def jU(se wa ir t a:Int):List bS→Int→List bS→List bS×Int
 |kept,du,[]=>(kept,du)
 |kept,du,m::r=>
  if Yq m t a=true then
   if dL m=true then jU se wa ir t a (kept++ [stepM m false t]) (gD du se wa ir t) r
   else jU se wa ir t a kept (if(kept++r).length=0 then -1 else du) r
  else jU se wa ir t a (kept++ [m]) du r
def Hr(g:bF)(r:dx)(t a:Int):Int×OB×List bS:=
 if a=0 then(0,yA g (gm g),aM g)
 else(0,yA g (jU (dm g) (l8 r) (fB r) t a [] (gm g) (aM g)).2,(jU (dm g) (l8 r) (fB r) t a [] (gm g) (aM g)).1)
theorem Yo{A B:List bS}{m:bS}(h:((A++m::B).map aK).Pairwise Less):pos (aK m) (A++m::B)=A.length∧hit (aK m) (A++m::B)=true:=by
 rw[alh,akZ,List.pairwise_append]at h;obtain⟨h1,h2,h3⟩:=h;have h2:=alX.1 h2
 have hp:pos (aK m) (A++m::B)=A.length:=by
  refine OH (by simp) (fun x hx=> ?_) (fun x hx=> ?_)
  ·rw[List.take_left' rfl]at hx;exact fU.1 (h3 (aK x) (List.mem_map_of_mem hx) (aK m) (by simp))
  ·rw[List.drop_left' rfl]at hx;rcases als.1 hx with rfl|hx
   ·exact lQ _
   ·exact fun hc=>lQ _ (lt_trans (fU.1 (h2.1 (aK x) (List.mem_map_of_mem hx))) hc)
 refine⟨hp,?_⟩;unfold hit;rw[hp,akL (akJ _),Nat.sub_self];simp
theorem PG(A:List bS)(m:bS)(B:List bS):(A++m::B)[A.length]?=some m:=by
 rw[akL (akJ _),Nat.sub_self];rfl
theorem Qt(A:List bS)(m x:bS)(B:List bS):(A++m::B).set A.length x=A++x::B:=by
 rw[List.set_append_right _ _ (akJ _),Nat.sub_self];rfl
theorem Vz(A:List bS)(m:bS)(B:List bS):(A++m::B).take A.length=A:=List.take_left' rfl
theorem Xu(A:List bS)(m:bS)(B:List bS):(A++m::B).drop (A.length+1)=B:=by
 rw[List.drop_append,ald (by omega),amm];simp
theorem U9{du se wa ir t:Int}(h1:0≤t∧t≤8589934592)(h2:0≤wa)(h3: -1≤du∧du≤8589934592)(h4: -1≤se)(h5:0≤ir): -1≤gD du se wa ir t∧gD du se wa ir t≤8589934592:=by
 unfold gD kX K8;split<;>split<;>(repeat' split)<;>omega
theorem Pz(rt:Int)(ky:ByteArray)(se t a:Int){r:dx}(hr:RR r)(gms:List bS)(hse: -1≤se∧se≤8589934592)(ht:0≤t∧t≤8589934592)(ha:0≤a∧a≤604800)(hg:gms.length≤256):∀(rem:List bS) (i:Nat) (kept:List bS) (du:Int),gms.drop i=rem→i≤gms.length→
  ((kept++rem).map aK).Pairwise Less→kept.length≤i→ -1≤du∧du≤8589934592→
  aB qj (((i:Int),t,a,gms,(gms.length:Int),()),(((rt,ky,du,se,()),()),((r,()),((AR,()),(kept++rem,())))))=
   some ((),((AR,()),(((rt,ky,(jU se (l8 r) (fB r) t a kept du rem).2,se,()),()),((jU se (l8 r) (fB r) t a kept du rem).1,())))):=by
 intro rem
 induction rem with
 |nil=>
  intro i kept du hd hi hup hk hdu
  have:i=gms.length:=by
   have:=congrArg List.length hd;rw[aln]at this;simp at this;omega
  subst this;refine aA ?_;simp only[qj,fH,jU,alk,au,sS]
 |cons m rem ih=>
  intro i kept du hd hi hup hk hdu
  have hlt:i<gms.length:=by
   have:=congrArg List.length hd;rw[aln]at this;simp at this;omega
  obtain⟨e,he,hd2⟩:=drop_at hlt;rw[hd2]at hd;injection hd with hd0 hd1;subst hd0
  have hrl:rem.length+(i+1)=gms.length:=by
   rw[←hd1,aln];omega
  have hw:=aG (i:=i) (by omega);have hkl:(kept++e::rem).length≤256:=by simp;omega
  obtain⟨hp,hh⟩:=Yo hup;have q:=Lh (g:=(rt,ky,kept++e::rem,du,se,())) hkl hup (aK e);dsimp only[aM]at q;rw[hp,hh]at q;have hup1:((kept++ [e]++rem).map aK).Pairwise Less:=by rw[ale];exact hup
  have next:=fun x (hx:aK x=aK e) du' hdu'=>ih (i+1) (kept++ [x]) du' hd1 (by omega) (by
   rw[ale];rw[alh,alh,akZ,alp,hx];rw[alh,akZ]at hup;exact hup) (by simp;omega) hdu'
  have w3:aQ (t-a)=t-a:=bH (by omega) (by omega);obtain⟨pa,mt,po,gb,wa,ir,rp,co,⟨⟩⟩:=r;have hwa:=hr.wait;have hir:=hr.int;have hrp:=hr.KX;have hmx:=hr.max;dsimp only[l8,fB,rA]at *;obtain⟨mk,ml,mn,mh,mf,mt',⟨⟩⟩:=e;dsimp only[aK]at *;unfold jU;by_cases ho:Yq (mk,ml,mn,mh,mf,mt',()) t a=true
  ·rw[if_pos ho];unfold Yq at ho;dsimp only[bY,nS]at ho;rw[akS]at ho;obtain⟨rfl,ho⟩:=ho;have hkl2:kept.length+(rem.length+1)≤256:=by simpa using hkl
   have db:decide ((0:Int)≤(kept.length:Int)∧(kept.length:Int)<((kept.length+(rem.length+1):Nat):Int))=true:=ak7 (by omega);have wk:aQ ((kept.length:Int)+1)=((kept.length+1:Nat):Int):=aG (by omega);have dd:decide ((0:Int)≤(kept.length:Int)∧(kept.length:Int)<((kept.length+1:Nat):Int)∧((kept.length+1:Nat):Int)≤((kept.length+(rem.length+1):Nat):Int)∧kept.length+(rem.length+1)≤4294967296)=true:=ak7 (by omega);have tf:(true==false)=false:=rfl;have sl:∀x:bS,(kept++x::rem).length=kept.length+(rem.length+1):=fun x=>by simp
   have sz:((((kept.length+(rem.length+1):Nat):Int))==0)=false:=by rw[dz];exact ak9 (by omega)
   cases mt'
   ·have n0:(if dL ((mk,ml,mn,mh,true,false,()):bS)=true then jU se wa ir t a (kept++ [stepM (mk,ml,mn,mh,true,false,()) false t]) (gD du se wa ir t) rem else jU se wa ir t a kept (if(kept++rem).length=0 then -1 else du) rem)=jU se wa ir t a kept (if(kept++rem).length=0 then -1 else du) rem:=rfl;rw[n0]
    have q2:=ih (i+1) kept (if(kept++rem).length=0 then -1 else du) hd1 (by omega) (by
     rw[alh,akZ]at hup;rw[alh];exact hup.sublist (List.Sublist.append (List.Sublist.refl _) (List.sublist_cons_self _ _))) (by omega) (by split<;>omega)
    rw[←q2];refine aD ?_;simp only[qj,dU hlt,aI,aF he,q,w3,ho,au,sS];simp only[sl,db,akA,PG,tf,wk,dd,Vz,Xu,aev,eq_self,au,sS];by_cases h0:(kept++rem).length=0
    ·simp only[h0,hw,eq_self,if_true,au,sS]
    ·simp only[h0,hw,eq_self,if_false,au,sS]
   ·have n0:(if dL ((mk,ml,mn,mh,true,true,()):bS)=true then jU se wa ir t a (kept++ [stepM (mk,ml,mn,mh,true,true,()) false t]) (gD du se wa ir t) rem else jU se wa ir t a kept (if(kept++rem).length=0 then -1 else du) rem)=jU se wa ir t a (kept++ [stepM (mk,ml,mn,mh,true,true,()) false t]) (gD du se wa ir t) rem:=rfl;rw[n0,←next (stepM (mk,ml,mn,mh,true,true,()) false t) rfl (gD du se wa ir t) (U9 ht hwa hdu hse.1 (by omega)),ale];refine aD ?_;have w1:aQ (se+ir)=se+ir:=bH (by omega) (by omega);have w2:aQ (t+wa)=t+wa:=bH (by omega) (by omega);simp only[qj,dU hlt,aI,aF he,q,w3,ho,au,sS];simp only[sl,db,akA,PG,Qt,tf,alV,stepM,nS,eq_self,au,sS];by_cases hs:se= -1<;>by_cases hd:du= -1
    ·subst hs;subst hd;simp only[w1,w2,gD,kX,o6,sl,sz,hw,eq_self,if_true,if_false,au,sS]
    ·subst hs;have bd:(du != -1)=true:=al6.2 hd;simp only[w1,w2,bd,hd,gD,kX,o6,sl,sz,hw,eq_self,if_true,if_false,au,sS]
    ·subst hd;have bs:(se != -1)=true:=al6.2 hs;simp only[w1,w2,bs,hs,gD,kX,o6,sl,sz,hw,eq_self,if_true,if_false,au,sS]
    ·have bd:(du != -1)=true:=al6.2 hd;have bs:(se != -1)=true:=al6.2 hs;simp only[w1,w2,bd,bs,hd,hs,gD,kX,o6,sl,sz,hw,eq_self,if_true,if_false,au,sS]
  ·rw[if_neg ho];rw[←next _ rfl du hdu,ale];refine aD ?_;unfold Yq at ho;dsimp only[bY,nS]at ho;simp only[qj,dU hlt,aI,aF he,q,w3,au,sS];cases mf
   ·simp only[hw,alV,au,sS]
   ·have:decide (mh≤t-a)=false:=by simpa using ho
    simp only[this,hw,alV,au,sS]
theorem agP{g:bF}(h:VG g){r:dx}(hr:RR r){t a:Int}(ht:0≤t∧t≤8589934592)(ha:0≤a∧a≤604800):Y0 ((g,r,t,a,()),())=UG (Hr g r t a):=by
 have q1:=Jj h;have q2:=JX r hr.z;rw[hr.ok]at q2;have q6:=KS h;have dt:decide ((0:Int)≤t∧t≤8589934592)=true:=ak7 ht;have da:decide ((0:Int)≤a∧a≤604800)=true:=ak7 ha;have hl:=Pz g.1 g.2.1 (dm g) t a hr (aM g) h.sent ht ha h.len (aM g) 0 [] (gm g) rfl (alj _) h.up (alj _) h.due;obtain⟨rt,ky,ms,du,se,⟨⟩⟩:=g;dsimp only[aM,gm,dm,cor]at *;unfold Y0 Hr;simp only[q1,q2,q6,Ba,dt,da,au,sS];by_cases h0:a=0
 ·subst h0;simp only[eq_self,if_true,alF,au,sS]
 ·have b0:(a==0)=false:=akR.2 h0;rw[if_neg h0,b0];simp only[au,sS];exact aP _ hl rfl
abbrev Ul:=Int×Int×Int×ByteArray×Unit
abbrev qx:Ul:=(0,0,0,ByteArray.empty,())
def Ed(mu:List ByteArray)(k:ByteArray):Bool:=mu.any fun x=>decide (x=k)
def fG(mu:List ByteArray)(ms:List bS):List ByteArray:=(ms.filter fun m=> !Ed mu (aK m)&&bY m).map aK
def jf(mu:List ByteArray)(ms:List bS):List ByteArray:=(ms.filter fun m=> !Ed mu (aK m)&& !bY m).map aK
def Gg(mu:List ByteArray)(ms:List bS):Bool:=ms.any fun m=> !Ed mu (aK m)&&(bY m&& !dL m)
def mq(F:List ByteArray)(m:bS):bS:=(m.1,m.2.1,m.2.2.1,m.2.2.2.1,m.2.2.2.2.1,dL m||Ed F (aK m),())
def qZ(F R:List ByteArray)(ms:List bS):List bS:=(ms.filter fun m=> !Ed R (aK m)).map (mq F)
def Fp(ms:List bS):Bool:=ms.any fun m=> !dL m
def FZ(se KX t:Int)(F:List ByteArray):Bool:=decide (0<F.length)&&(se != -1)&&decide (se+KX≤t)
def Fw(se KX t:Int)(mu:List ByteArray)(ms:List bS):Bool:=Gg mu ms||FZ se KX t (fG mu ms)||decide (0<(jf mu ms).length)
def mr(se int KX t:Int)(o:Bool):Int:=K8 (max (if o=true∨se+KX≤t then t+int else se+KX) (t+1))
abbrev LkT:=Bool×OB×Ul×List bS×List ByteArray×List ByteArray
def oM(g:bF)(r:dx)(t:Int)(mu:List ByteArray):LkT:=
 if gm g= -1∨gm g>t then(false,yA g (gm g),qx,aM g,[],[])
 else
  let F:=fG mu (aM g)
  let R:=jf mu (aM g)
  if Fw (dm g) (rA r) t mu (aM g)=true then
   (true,(g.1,g.2.1,(if(qZ F R (aM g)).length=0 then -1 else mr t (fB r) (rA r) t (Fp (qZ F R (aM g)))),t,()),(t,g.1,r.2.2.1,g.2.1,()),qZ F R (aM g),F,R)
  else(false,yA g (if(aM g).length=0 then -1 else mr (dm g) (fB r) (rA r) t (Fp (aM g))),qx,aM g,[],[])
theorem gM{A:Type}{l:List A}{i:Nat}{e:A}(he:l[i]?=some e):l.take (i+1)=l.take i++ [e]:=by
 rw[amj,he];rfl
theorem Uh(mu:List ByteArray)(l:List bS)(e:bS):fG mu (l++ [e])=fG mu l++(if !Ed mu (aK e)&&bY e then [aK e]else []):=by
 unfold fG;rw[alP,alh];cases h:(!Ed mu (aK e)&&bY e)<;>simp[h]
theorem SY(mu:List ByteArray)(l:List bS)(e:bS):jf mu (l++ [e])=jf mu l++(if !Ed mu (aK e)&& !bY e then [aK e]else []):=by
 unfold jf;rw[alP,alh];cases h:(!Ed mu (aK e)&& !bY e)<;>simp[h]
theorem Ug(mu:List ByteArray)(l:List bS)(e:bS):Gg mu (l++ [e])=(Gg mu l||(!Ed mu (aK e)&&(bY e&& !dL e))):=by
 unfold Gg;rw[List.any_append];simp
theorem FC(mu:List ByteArray)(l:List bS):(fG mu l).length≤l.length:=by
 unfold fG;rw[akD];exact alZ _ _
theorem EW(mu:List ByteArray)(l:List bS):(jf mu l).length≤l.length:=by
 unfold jf;rw[akD];exact alZ _ _
theorem Qs(mu:List ByteArray)(k:ByteArray)(h:mu.length≤big):Jt ((mu,k,()),())=some ((Ed mu k,()),()):=Q9 mu k h
theorem Ve(ms:List bS)(mu:List ByteArray)(t:Int)(nc:Ul)(r:dx)(c:OB)(hl:ms.length≤256)(hm:mu.length≤big):
  aB tO (((0:Int),false,mu,t,((ms.length:Nat):Int),()),(ms,(nc,()),(qx,()),(r,()),(c,()),[],[],()))=
   some ((Gg mu ms,t,()),(ms,(qx,()),(nc,()),(r,()),(c,()),fG mu ms,jf mu ms,())):=by
 have:=nE (f:=tO) ms (fun i=>(((i:Int),Gg mu (ms.take i),mu,t,((ms.length:Nat):Int),()),(ms,(nc,()),(qx,()),(r,()),(c,()),fG mu (ms.take i),jf mu (ms.take i),())))
  ((Gg mu ms,t,()),(ms,(qx,()),(nc,()),(r,()),(c,()),fG mu ms,jf mu ms,())) ?_ ?_
 ·exact this
 ·intro i e he hi;have hw:aQ ((i:Int)+1)=((i+1:Nat):Int):=aG (by omega);have hb:decide ((0:Int)≤(i:Int)∧(i:Int)<(ms.length:Int))=true:=ak7 (by omega);have f1:=FC mu (ms.take i);have f2:=EW mu (ms.take i);rw[akT]at f1 f2;have c1:decide ((fG mu (ms.take i)).length+ [aK e].length≤4294967296)=true:=ak7 (by simp;omega);have c2:decide ((jf mu (ms.take i)).length+ [aK e].length≤4294967296)=true:=ak7 (by simp;omega);have q:=Qs mu (aK e) hm;obtain⟨mk,ml,mn,mh,mf,mt',⟨⟩⟩:=e;dsimp only[aK]at q c1 c2;rw[gM he,Uh,SY,Ug];simp only[tO,dU hi,hb,akA,he,q,aK,bY,dL,au,sS];cases Ed mu mk
  ·cases mf
   ·simp only[c2,hw,alk,akM,if_true,if_false,akN,au,sS]
   ·simp only[c1,hw,alk,akM,if_true,if_false,akN,au,sS];cases Gg mu (ms.take i)<;>simp only[hw,akQ,akK,au,sS]
  ·simp only[hw,alk,akM,if_true,if_false,akN,au,sS]
 ·rw[alC];simp only[tO,fH,au,sS]
abbrev qh(R:List ByteArray)(m:bS):Bool:= !Ed R (aK m)
theorem Z5(ms:List bS)(nc:Ul)(F R:List ByteArray)(hl:ms.length≤256)(hR:R.length≤big):
  (aB jH (((0:Int),((ms.length:Nat):Int),()),(ms,(nc,()),F,R,()))=some (.inr ((),(ms,(nc,()),F,R,())))∧ms.filter (qh R)=ms)∨
  ∃j,j<ms.length∧aB jH (((0:Int),((ms.length:Nat):Int),()),(ms,(nc,()),F,R,()))=some (.inl (((j:Int),()),(ms,(nc,()),F,R,())))∧(ms.take (j+1)).filter (qh R)=ms.take j:=by
 have key:∀(d i:Nat),i+d=ms.length→(ms.take i).filter (qh R)=ms.take i→
   (aB jH (((i:Int),((ms.length:Nat):Int),()),(ms,(nc,()),F,R,()))=some (.inr ((),(ms,(nc,()),F,R,())))∧ms.filter (qh R)=ms)∨
   ∃j,j<ms.length∧aB jH (((i:Int),((ms.length:Nat):Int),()),(ms,(nc,()),F,R,()))=some (.inl (((j:Int),()),(ms,(nc,()),F,R,())))∧(ms.take (j+1)).filter (qh R)=ms.take j:=by
  intro d
  induction d with
  |zero=>
   intro i h h2;obtain rfl:i=ms.length:=by omega
   rw[alC]at h2;refine .inl ⟨aA ?_,h2⟩;simp only[jH,fH,au,sS]
  |succ d ih=>
   intro i h h2;obtain⟨e,he⟩:=getD_some (l:=ms) (i:=i) (by omega);have hi:i<ms.length:=by omega
   have hw:aQ ((i:Int)+1)=((i+1:Nat):Int):=aG (by omega);have hb:decide ((0:Int)≤(i:Int)∧(i:Int)<(ms.length:Int))=true:=ak7 (by omega);have q:=Qs R (aK e) hR;dsimp only[aK]at q;cases hr:Ed R (aK e)
   ·dsimp only[aK]at hr
    have h3:(ms.take (i+1)).filter (qh R)=ms.take (i+1):=by
     rw[gM he,alP,h2];simp[qh,hr]
    have hs:jH (((i:Int),((ms.length:Nat):Int),()),(ms,(nc,()),F,R,()))=some (.inl ((((i+1:Nat):Int),((ms.length:Nat):Int),()),(ms,(nc,()),F,R,()))):=by
     simp only[jH,dU hi,hb,akA,he,q,hr,hw,eq_self,au,sS]
    rw[aD hs];exact ih (i+1) (by omega) h3
   ·dsimp only[aK]at hr;refine .inr ⟨i,hi,aA ?_,?_⟩
    ·simp only[jH,dU hi,hb,akA,he,q,hr,hw,eq_self,au,sS]
    ·rw[gM he,alP,h2];simp[qh,hr]
 exact key ms.length 0 (by omega) rfl
theorem WB(ms:List bS)(nc:Ul)(F R:List ByteArray)(hl:ms.length≤256)(hR:R.length≤big):∀(d src dst:Nat) (blk:List bS),src+d=ms.length→dst<src→blk.length=ms.length→
  blk.take dst=(ms.take src).filter (qh R)→blk.drop src=ms.drop src→
  ∃(dst':Nat) (blk':List bS),aB oo (((src:Int),(dst:Int),()),(blk,(nc,()),F,R,()))=some (((dst':Int),()),(blk',(nc,()),F,R,()))∧dst'≤ms.length∧blk'.length=ms.length∧blk'.take dst'=ms.filter (qh R):=by
 intro d
 induction d with
 |zero=>
  intro src dst blk h1 h2 h3 h4 h5;obtain rfl:src=ms.length:=by omega
  rw[alC]at h4;refine⟨dst,blk,aA ?_,by omega,h3,h4⟩;have:decide ((ms.length:Int)<((blk.length:Nat):Int))=false:=ak9 (by omega);simp only[oo,this,au,sS]
 |succ d ih=>
  intro src dst blk h1 h2 h3 h4 h5;obtain⟨e,he⟩:=getD_some (l:=ms) (i:=src) (by omega)
  have he':blk[src]?=some e:=by
   have:=congrArg (fun l=>l[0]?) h5;simp only[alW,aml]at this;rw[this,he]
  have c1:decide ((src:Int)<((blk.length:Nat):Int))=true:=ak7 (by omega);have c2:decide ((0:Int)≤(src:Int)∧(src:Int)<(blk.length:Int))=true:=ak7 (by omega);have c3:decide ((0:Int)≤(dst:Int)∧(dst:Int)<(blk.length:Int))=true:=ak7 (by omega);have c4:decide (dst<blk.length)=true:=ak7 (by omega);have w1:aQ ((src:Int)+1)=((src+1:Nat):Int):=aG (by omega);have w2:aQ ((dst:Int)+1)=((dst+1:Nat):Int):=aG (by omega);have q:=Qs R (aK e) hR;dsimp only[aK]at q;cases hr:Ed R (aK e)
  ·dsimp only[aK]at hr
   have hs:oo (((src:Int),(dst:Int),()),(blk,(nc,()),F,R,()))=some (.inl ((((src+1:Nat):Int),((dst+1:Nat):Int),()),(blk.set dst e,(nc,()),F,R,()))):=by
    simp only[oo,c1,c2,akA,he',q,hr,c3,c4,w1,w2,eq_self,au,sS]
   rw[aD hs];refine ih (src+1) (dst+1) (blk.set dst e) (by omega) (by omega) (by rw[al2,h3]) ?_ ?_
   ·rw[gM he,alP,←h4];rw[gM (e:=e) (by rw[List.getElem?_set_self (by omega)]),xC];simp[qh,hr]
   ·rw[List.drop_set,if_pos (by omega)];rw[←amh,←amh,h5]
  ·dsimp only[aK]at hr
   have hs:oo (((src:Int),(dst:Int),()),(blk,(nc,()),F,R,()))=some (.inl ((((src+1:Nat):Int),(dst:Int),()),(blk,(nc,()),F,R,()))):=by
    simp only[oo,c1,c2,akA,he',q,hr,w1,eq_self,au,sS]
   rw[aD hs];refine ih (src+1) dst blk (by omega) (by omega) h3 ?_ ?_
   ·rw[gM he,alP,←h4];simp[qh,hr]
   ·rw[←amh,←amh,h5]
abbrev PgT:=Int×ByteArray×(Nat×Nat)×Int×Int×Unit
theorem acX(M T:List bS)(nc:Ul)(g:PgT)(c0:OB)(n0:Ul)(r:dx)(F R:List ByteArray)(ok:Bool)(t:Int)(hl:M.length≤256)(hF:F.length≤big)(hg:g.2.2.1=(0,M.length)):
  aB qg (((0:Int),(0,M.length),ok,t,((M.length:Nat):Int),()),((nc,()),(g,()),M++T,(c0,()),(n0,()),(r,()),F,R,()))=
   some ((ok,t,()),((c0,()),(n0,()),(nc,()),(g,()),(r,()),F,R,M.map (mq F)++T,())):=by
 obtain⟨rt,ky,pt,du,se,⟨⟩⟩:=g;dsimp only at hg;subst hg;have:=nE (f:=qg) M (fun i=>(((i:Int),(0,M.length),ok,t,((M.length:Nat):Int),()),((nc,()),((rt,ky,(0,M.length),du,se,()),()),(M.take i).map (mq F)++(M.drop i++T),(c0,()),(n0,()),(r,()),F,R,())))
  ((ok,t,()),((c0,()),(n0,()),(nc,()),((rt,ky,(0,M.length),du,se,()),()),(r,()),F,R,M.map (mq F)++T,())) ?_ ?_
 ·exact this
 ·intro i e he hi;obtain⟨e',he',hd⟩:=drop_at hi;rw[he]at he';injection he' with he';subst he';have hw:aQ ((i:Int)+1)=((i+1:Nat):Int):=aG (by omega);have hb:decide ((0:Int)≤(i:Int)∧(i:Int)<(M.length:Int))=true:=ak7 (by omega);have hA:((M.take i).map (mq F)).length=i:=by simp;omega
  rw[hd,amb]
  have at1:∀B:List bS,((M.take i).map (mq F)++e::B)[i]?=some e:=fun B=>by
   have:=PG ((M.take i).map (mq F)) e B
   rwa [hA]at this
  have st1:∀(x:bS) (B:List bS),((M.take i).map (mq F)++e::B).set i x=(M.take i).map (mq F)++x::B:=fun x B=>by
   have:=Qt ((M.take i).map (mq F)) e x B
   rwa [hA]at this
  have q:=Qs F (aK e) hF;dsimp only[aK]at q
  have hx:(M.take (i+1)).map (mq F)++(M.drop (i+1)++T)=(M.take i).map (mq F)++mq F e::(M.drop (i+1)++T):=by
   rw[gM he,alh,ale];rfl
  rw[hx];obtain⟨mk,ml,mn,mh,mf,mt',⟨⟩⟩:=e;dsimp only at q;simp only[qg,dU hi,hb,akA,alx,at1,st1,q,hw,au,sS];cases mt'<;>simp only[st1,hw,mq,dL,aK,akQ,akK,au,sS]
 ·rw[alC,al7,amm];simp only[qg,fH,au,sS]
theorem ac0(l:List bS)(hl:l.length≤256):∃j:Nat,aB tH (((0:Int),l,(l.length:Int),()),())=some (bif Fp l then .inl (((j:Int),()),())else .inr ((),())):=by
 have h:=dJ (f:=tH) l (fun i (_:Unit)=>(((i:Int),l,(l.length:Int),()),())) (fun i _ e=>bif !dL e then .inr (.inl (((i:Int),()),()))else .inl ()) (fun _=>.inr ((),())) ?_ ?_ ()
 ·obtain⟨j,_,hj⟩:=kY (fun e:bS=> !dL e) (fun i:Nat=>(Sum.inl (((i:Int),()),()):((Int×Unit)×Unit)⊕(Unit×Unit))) (.inr ((),())) l 0;exact⟨j,h.trans (congrArg some hj)⟩
 ·intro i e _ he hi;have hw:aQ ((i:Int)+1)=((i+1:Nat):Int):=aG (by omega);have q:acO ((e,()),())=some ((!dL e,()),()):=rfl;simp only[tH,aI,aF he,dU hi,q,au,sS];cases dL e<;>simp only[au,sS,hw]
 ·intro _;simp only[tH,fH,au,sS]
def EU(x:LkT)(o:Option ((Bool×Int×Unit)×((PgT×Unit)×(Ul×Unit)×List bS×List ByteArray×List ByteArray×Unit))):Prop:=
 ∃(n:Nat) (blk:List bS),o=some ((x.1,0,()),(((x.2.1.1,x.2.1.2.1,(0,n),x.2.1.2.2.1,x.2.1.2.2.2.1,()),()),(x.2.2.1,()),blk,x.2.2.2.2.1,x.2.2.2.2.2,()))∧n≤blk.length∧blk.take n=x.2.2.2.1
theorem Ch{A:Type}{y:LkT}{o:Option A}{f:A→Option ((Bool×Int×Unit)×((PgT×Unit)×(Ul×Unit)×List bS×List ByteArray×List ByteArray×Unit))}(x:A)(h:o=some x)(h2:EU y (f x)):EU y (o.bind f):=by
 rw[h];exact h2
theorem Ye{A:Type}{y:LkT}{o:Option A}{f:A→Option ((Bool×Int×Unit)×((PgT×Unit)×(Ul×Unit)×List bS×List ByteArray×List ByteArray×Unit))}(P:A→Prop)(h:∃x,o=some x∧P x)(h2:∀x,P x→EU y (f x)):EU y (o.bind f):=by
 obtain⟨x,rfl,hp⟩:=h;exact h2 x hp
theorem exb{A B:Type}{o:Option A}{f:A→Option B}{Q:B→Prop}(x:A)(h:o=some x)(h2:∃b,f x=some b∧Q b):∃b,o.bind f=some b∧Q b:=by
 rw[h];exact h2
theorem exP{A B:Type}{o:Option A}{f:A→Option B}{Q:B→Prop}(P:A→Prop)(h:∃x,o=some x∧P x)(h2:∀x,P x→∃b,f x=some b∧Q b):∃b,o.bind f=some b∧Q b:=by
 obtain⟨x,rfl,hp⟩:=h;exact h2 x hp
theorem Wt(n:Nat):(((n:Nat):Int)==0)=decide (n=0):=by
 rw[dz];exact alM.2 (by omega)
theorem abY{g:bF}(h:VG g){r:dx}(hr:RR r){t:Int}(ht:0≤t∧t≤8589934592){mu:List ByteArray}(hm:mu.length≤big):EU (oM g r t mu) (Y7 ((g,r,t,mu,()),())):=by
 have q1:=Jj h;have q2:=JX r hr.z;rw[hr.ok]at q2;have q6:=KS h;have dt:decide ((0:Int)≤t∧t≤8589934592)=true:=ak7 ht;have hlen:=h.len;have hsent:=h.sent;have hdue:=h.due;have hir:=hr.int;have hwa:=hr.wait;have hrp:=hr.KX;have hmx:=hr.max;obtain⟨rt,ky,ms,du,se,⟨⟩⟩:=g;obtain⟨pa,mt,po,gb,wa,ir,rp,co,⟨⟩⟩:=r;dsimp only[aM,gm,dm,l8,fB,rA,cor]at *;have qn:=fun nc c=>Ve ms mu t nc (pa,mt,po,gb,wa,ir,rp,co,()) c hlen hm
 unfold Y7 oM;dsimp only[aM,gm,dm,fB,rA,yA];simp only[q1,q2,q6,Ba,dt,au,sS];have w1:aQ (se+rp)=se+rp:=bH (by omega) (by omega);have w2:aQ (t+1)=t+1:=bH (by omega) (by omega);have w3:aQ (t+ir)=t+ir:=bH (by omega) (by omega);have w4:aQ (t+rp)=t+rp:=bH (by omega) (by omega);by_cases h1:du= -1
 ·subst h1;rw[if_pos (.inl rfl)];simp only[alF,au,sS];exact⟨ms.length,ms,rfl,akJ _,alC⟩
 have b1:(du== -1)=false:=akR.2 h1;rw[b1];by_cases h2:du>t
 ·rw[if_pos (.inr h2)];simp only[ak7 h2,au,sS];exact⟨ms.length,ms,rfl,akJ _,alC⟩
 rw[if_neg (by rintro(h|h)<;>contradiction)];simp only[ak9 h2,qn,au,sS];have fl:=FC mu ms;have rl:=EW mu ms;refine Ch ((FZ se rp t (fG mu ms),Gg mu ms,()),ms,(qx,()),((t,rt,po,ky,()),()),fG mu ms,jf mu ms,()) ?_ ?_
 ·unfold FZ;rw[show decide (((fG mu ms).length:Int)>0)=decide (0<(fG mu ms).length)from alM.2 (by omega),w1];cases decide (0<(fG mu ms).length)<;>cases (se != -1)<;>simp only[au,sS]
 dsimp only;refine Ch ((Fw se rp t mu ms,()),ms,((t,rt,po,ky,()),()),fG mu ms,jf mu ms,()) ?_ ?_
 ·unfold Fw;rw[show decide (((jf mu ms).length:Int)>0)=decide (0<(jf mu ms).length)from alM.2 (by omega)];cases Gg mu ms<;>cases FZ se rp t (fG mu ms)<;>simp only[akQ,akK,au,sS]
 dsimp only;rw[show decide (ms.length=ms.length)=true from ak7 rfl,cond_true]
 refine Ye (fun x=>∃(ok:Bool) (se':Int) (n:Nat) (blk:List bS) (F' R':List ByteArray) (nc:Ul) (c0:OB) (n0:Ul),x=((ok,t,()),(c0,()),(n0,()),(nc,()),((rt,ky,(0,n),du,se',()),()),((pa,mt,po,gb,wa,ir,rp,co,()),()),F',R',blk,())∧
  n≤blk.length∧blk.length≤256∧(-1≤se'∧se'≤8589934592)∧(if Fw se rp t mu ms=true then
   ((true,(rt,ky,(if(qZ (fG mu ms) (jf mu ms) ms).length=0 then -1 else mr t ir rp t (Fp (qZ (fG mu ms) (jf mu ms) ms))),t,()),(t,rt,po,ky,()),qZ (fG mu ms) (jf mu ms) ms,fG mu ms,jf mu ms):LkT)
   else(false,(rt,ky,(if ms.length=0 then -1 else mr se ir rp t (Fp ms)),se,()),qx,ms,[],[]))=(ok,(rt,ky,(if(blk.take n).length=0 then -1 else mr se' ir rp t (Fp (blk.take n))),se',()),nc,blk.take n,F',R')) ?_ ?_
 ·cases Fw se rp t mu ms
  ·refine⟨_,rfl,false,se,ms.length,ms,[],[],qx,AR,qx,rfl,akJ _,hlen,hsent,?_⟩;rw[alC];rfl
  ·rw[cond_true];refine exP (fun x=>∃(n:Nat) (blk:List bS),x=((true,t,()),((t,rt,po,ky,()),()),((rt,ky,(0,n),du,t,()),()),(AR,()),(qx,()),((pa,mt,po,gb,wa,ir,rp,co,()),()),fG mu ms,jf mu ms,blk,())∧n≤blk.length∧blk.length=ms.length∧blk.take n=ms.filter (qh (jf mu ms))) ?_ ?_
   ·rcases Z5 ms (t,rt,po,ky,()) (fG mu ms) (jf mu ms) hlen (by unfold big;omega)with⟨e,hf⟩|⟨j,hj,e,hf⟩
    ·rw[e];simp only[eq_self,alF,au,sS];exact⟨_,rfl,ms.length,ms,rfl,akJ _,rfl,by rw[alC,hf]⟩
    ·have bj:((j:Int)== -1)=false:=akR.2 (by omega);have wj:aQ ((j:Int)+1)=((j+1:Nat):Int):=aG (by omega);rw[e];simp only[eq_self,bj,wj,au,sS];obtain⟨dst,blk,e2,h3,h4,h5⟩:=WB ms (t,rt,po,ky,()) (fG mu ms) (jf mu ms) hlen (by unfold big;omega) (ms.length-(j+1)) (j+1) j ms (by omega) (by omega) rfl hf.symm rfl;refine exb _ e2 ?_;have d1:decide ((0:Int)≤(dst:Int))=true:=ak7 (by omega);have d2:decide (dst≤blk.length∧True)=true:=ak7 ⟨by omega,trivial⟩;have d3:decide (dst+(blk.length-dst)≤blk.length)=true:=ak7 (by omega);have d0:decide (dst≤blk.length∧blk.length≤blk.length)=true:=ak7 (by omega)
     have sl:(cu blk dst (List.replicate (blk.length-dst) ((ByteArray.empty,[],0,0,false,false,()):bS))).length=blk.length:=by
      unfold cu;simp;omega
     have st:(cu blk dst (List.replicate (blk.length-dst) ((ByteArray.empty,[],0,0,false,false,()):bS))).take dst=blk.take dst:=by
      unfold cu;rw[ale,List.take_append_of_le_length (by rw[akT];omega),alv (by rw[akT];omega)]
     have d4:decide (0≤dst∧dst≤blk.length)=true:=ak7 (by omega);have d5:decide (blk.length=ms.length)=true:=ak7 h4;simp only[d1,d0,d3,d4,d5,sl,akA,eq_self,au,sS];exact⟨_,rfl,dst,_,rfl,by rw[sl];omega,by rw[sl,h4],by rw[st,h5]⟩
   ·rintro _ ⟨n,blk,rfl,h1,h2,h3⟩;dsimp only;have hMl:(blk.take n).length=n:=by rw[akT];omega
    have q:=acX (blk.take n) (blk.drop n) (t,rt,po,ky,()) (rt,ky,(0,n),du,t,()) AR qx (pa,mt,po,gb,wa,ir,rp,co,()) (fG mu ms) (jf mu ms) true t (by rw[hMl];omega) (by unfold big;omega) (by rw[hMl]);rw[alU,hMl]at q;refine exb _ q ?_
    have ht2:(List.map (mq (fG mu ms)) (List.take n blk)++List.drop n blk).take n=qZ (fG mu ms) (jf mu ms) ms:=by
     rw[List.take_append_of_le_length (by rw[akD,hMl];exact akJ _),alv (by rw[akD,hMl];exact akJ _),h3];rfl
    refine⟨_,rfl,true,t,n,_,fG mu ms,jf mu ms,(t,rt,po,ky,()),AR,qx,rfl,by simp;omega,by simp;omega,by omega,?_⟩;rw[ht2];rfl
 ·rintro _ ⟨ok,se',n,blk,F',R',nc,c0,n0,rfl,h3,h4,h5,h6⟩;rw[h6];dsimp only;have w5:aQ (se'+rp)=se'+rp:=bH (by omega) (by omega);have d1:decide (0+n≤blk.length)=true:=ak7 (by omega);obtain⟨j,ho⟩:=ac0 (blk.take n) (by rw[akT];omega);have hl:(blk.take n).length=n:=by rw[akT];omega
  rw[hl]at ho;simp only[d1,alg,hl,w2,w3,w5,au,sS];refine Ch ((Fp (blk.take n),()),()) ?_ ?_
  ·refine aP _ ho ?_;have dj:decide ((j:Int)≥0)=true:=ak7 (by omega);cases Fp (blk.take n)<;>simp only[dj,au,sS]
  dsimp only;have mx:∀d:Int,(if t+1>d then t+1 else d)=max d (t+1):=fun d=>by split<;>omega
  unfold mr;cases Fp (blk.take n)
  ·by_cases hp:se'+rp≤t
   ·simp only[ak7 hp,w3,w2,mx,o6,Wt,hp,or_true,if_true,eq_self,au,sS];by_cases hn:n=0
    ·simp only[hn,eq_self,if_true,au,sS];exact⟨0,blk,rfl,alj _,rfl⟩
    ·simp only[hn,if_false,au,sS];exact⟨n,blk,rfl,h3,rfl⟩
   ·simp only[ak9 hp,w3,w2,mx,o6,Wt,hp,or_self,akN,if_false,eq_self,au,sS];by_cases hn:n=0
    ·simp only[hn,eq_self,if_true,au,sS];exact⟨0,blk,rfl,alj _,rfl⟩
    ·simp only[hn,if_false,au,sS];exact⟨n,blk,rfl,h3,rfl⟩
  ·simp only[w3,w2,mx,o6,Wt,true_or,if_true,eq_self,au,sS];by_cases hn:n=0
   ·simp only[hn,eq_self,if_true,au,sS];exact⟨0,blk,rfl,alj _,rfl⟩
   ·simp only[hn,if_false,au,sS];exact⟨n,blk,rfl,h3,rfl⟩
theorem Ws(F R:List ByteArray)(l:List bS):(qZ F R l).length≤l.length:=by
 unfold qZ;rw[akD];exact alZ _ _
def tX(c:OB)(ms:List bS):bF:=(c.1,c.2.1,ms,c.2.2.1,c.2.2.2.1,())
theorem Yk:VG (tX AR []):=⟨by decide,by decide,by decide,by decide,fun m hm=>(by cases hm),List.Pairwise.nil⟩
theorem key_inj{ms:List bS}(h:(ms.map aK).Pairwise Less){a b:bS}(ha:a∈ms)(hb:b∈ms)(e:aK a=aK b):a=b:=by
 obtain⟨i,hi,rfl⟩:=List.mem_iff_getElem.1 ha;obtain⟨j,hj,rfl⟩:=List.mem_iff_getElem.1 hb;have hp:=List.pairwise_iff_getElem.1 h;rcases Nat.lt_trichotomy i j with hij|hij|hij
 ·have:=hp i j (by rwa [akD]) (by rwa [akD]) hij;rw[List.getElem_map,List.getElem_map,e]at this;exact absurd (fU.1 this) (lQ _)
 ·subst hij;rfl
 ·have:=hp j i (by rwa [akD]) (by rwa [akD]) hij;rw[List.getElem_map,List.getElem_map,e]at this;exact absurd (fU.1 this) (lQ _)
theorem WQ{ms:List bS}{i:Nat}{m x:bS}(h:ms[i]?=some m)(e:aK x=aK m):(ms.set i x).map aK=ms.map aK:=by
 rw[List.map_set,e];obtain⟨hi,rfl⟩:=ak8.1 h;have:aK ms[i]=(ms.map aK)[i]'(by rwa [akD]):=by rw[List.getElem_map]
 rw[this,List.set_getElem_self]
theorem mem_set{A:Type}{l:List A}{i:Nat}{x y:A}(h:y∈l.set i x):y∈l∨y=x:=List.mem_or_eq_of_mem_set h
theorem EL{du se wa ir t:Int}(h1:0≤t∧t≤8589934592)(h2:0≤wa)(h3: -1≤du∧du≤8589934592)(h4: -1≤se)(h5:0≤ir): -1≤gD du se wa ir t∧gD du se wa ir t≤8589934592:=U9 h1 h2 h3 h4 h5
theorem TV{t:Int}(h: -1≤t): -1≤K8 t∧K8 t≤8589934592:=by unfold K8;split<;>omega
theorem Og{se ir rp t:Int}{o:Bool}(h:0≤t): -1≤mr se ir rp t o∧mr se ir rp t o≤8589934592:=by
 unfold mr;exact TV (by omega)
theorem Gd{m:bS}(h:yF m){t:Int}(ht:0≤t∧t≤8589934592):yF (vD m t):=⟨h.lab,h.key,h.since,ht,h.told⟩
theorem step_ok{m:bS}(h:yF m){t:Int}(ht:0≤t∧t≤8589934592)(on:Bool):yF (stepM m on t):=
 ⟨h.lab,h.key,ht,h.heard,by show on=true∨on=false;cases on<;>simp⟩
theorem Xx{l:List LT}(hl:bO l=true){t:Int}(ht:0≤t∧t≤8589934592):yF (bR (bV l),l,t,t,true,false,()):=⟨hl,rfl,ht,ht,.inl rfl⟩
theorem adQ{g:bF}(h:VG g){r:dx}(hr:RR r){l:List LT}(hl:bO l=true)(on:Bool){t:Int}(ht:0≤t∧t≤8589934592):VG (tX (ji g r l on t).2.1 (ji g r l on t).2.2):=by
 have hw:=EL ht hr.wait h.due h.sent.1 (by have:=hr.wait;have:=hr.int;omega:(0:Int)≤fB r)
 have hrest:∀ms,-1≤xH g ms∧xH g ms≤8589934592:=fun ms=>by
  have:=h.due;unfold xH;split<;>omega
 have hlen:=h.len;unfold ji;dsimp only;by_cases hh:hit (bR (bV l)) (aM g)=true
 ·rw[if_pos hh];obtain⟨m,hm,hk⟩:=tN hh;have hmo:=h.mem m (akC hm);rw[hm];dsimp only
  have hset:∀(x:bS) (d:Int),aK x=aK m→yF x→(-1≤d∧d≤8589934592)→VG (tX (yA g d) ((aM g).set (pos (bR (bV l)) (aM g)) x)):=fun x d hx ho hd=>
   ⟨by show((aM g).set _ x).length≤256;rw[al2];exact hlen,h.rt,hd,h.sent,fun y hy=>by
    rcases mem_set hy with hy|rfl
    ·exact h.mem y hy
    ·exact ho,by show(((aM g).set _ x).map aK).Pairwise Less;rw[WQ hm hx];exact h.up⟩
  split
  ·exact hset _ _ rfl (Gd hmo ht) h.due
  ·split
   ·exact hset _ _ rfl (step_ok (Gd hmo ht) ht true) h.due
   ·split
    ·exact hset _ _ rfl (step_ok (Gd hmo ht) ht false) hw
    ·have hsub:((aM g).take (pos (bR (bV l)) (aM g))++(aM g).drop (pos (bR (bV l)) (aM g)+1)).Sublist (aM g):=by
      conv=>rhs;rw[←alU (pos (bR (bV l)) (aM g)) (aM g)]
      exact(List.Sublist.refl _).append (List.drop_sublist_drop_left _ (by omega))
     exact⟨alz hsub.length_le hlen,h.rt,hrest _,h.sent,fun y hy=>h.mem y (hsub.subset hy),h.up.sublist (hsub.map aK)⟩
 ·rw[if_neg hh];split
  ·split
   ·exact Yk
   ·have hp:=O1 (bR (bV l)) (aM g);refine⟨?_,h.rt,hw,h.sent,fun y hy=> ?_,?_⟩
    ·show(List.take _ _++_++List.drop _ _).length≤256
     simp;omega
    ·have hy:y∈List.take _ _++ [_]++List.drop _ _:=hy;simp only[akU,al3]at hy;rcases hy with(hy|rfl)|hy
     ·exact h.mem y (List.mem_of_mem_take hy)
     ·exact Xx hl ht
     ·exact h.mem y (List.mem_of_mem_drop hy)
    ·show((List.take (pos (bR (bV l)) (aM g)) (aM g)++ [(bR (bV l),l,t,t,true,false,())]++List.drop (pos (bR (bV l)) (aM g)) (aM g)).map aK).Pairwise Less
     rw[ale,alh,alh,List.pairwise_append];have hup:=h.up;rw[←alU (pos (bR (bV l)) (aM g)) (aM g),alh,List.pairwise_append]at hup;have ha:∀m∈(aM g).take (pos (bR (bV l)) (aM g)),Lt (aK m) (bR (bV l)):=zl;have hb:=EB h.up (by simpa using hh:hit (bR (bV l)) (aM g)=false);refine⟨hup.1,?_,fun a ha' b hb'=> ?_⟩
     ·rw[akZ,alp,alV];refine alX.2 ⟨fun k hk=> ?_,hup.2.1⟩;obtain⟨m,hm,rfl⟩:=al9.1 hk;exact fU.2 (hb m hm)
     ·obtain⟨m,hm,rfl⟩:=al9.1 ha';rw[akZ,alp,alV]at hb';rcases als.1 hb' with rfl|hb'
      ·exact fU.2 (ha m hm)
      ·obtain⟨m',hm',rfl⟩:=al9.1 hb';exact fU.2 (lt_trans (ha m hm) (hb m' hm'))
  ·exact⟨hlen,h.rt,hrest _,h.sent,h.mem,h.up⟩
theorem DJ{se wa ir t a:Int}(ht:0≤t∧t≤8589934592)(hwa:0≤wa)(hir:0≤ir)(hse: -1≤se):∀(rem kept:List bS) (du:Int),(∀m∈kept++rem,yF m)→((kept++rem).map aK).Pairwise Less→(-1≤du∧du≤8589934592)→
  (∀m∈(jU se wa ir t a kept du rem).1,yF m)∧(((jU se wa ir t a kept du rem).1).map aK).Pairwise Less∧(-1≤(jU se wa ir t a kept du rem).2∧(jU se wa ir t a kept du rem).2≤8589934592)∧(jU se wa ir t a kept du rem).1.length≤kept.length+rem.length
 | [],kept,du,h1,h2,h3=>by rw[alk]at h1 h2;exact⟨h1,h2,h3,akJ _⟩
 |m::rem,kept,du,h1,h2,h3=>by
  have e:∀x:bS,kept++ [x]++rem=kept++x::rem:=fun x=>by rw[ale];rfl
  have hm:yF m:=h1 m (by simp)
  have put:∀x:bS,aK x=aK m→yF x→(∀y∈kept++ [x]++rem,yF y)∧((kept++ [x]++rem).map aK).Pairwise Less:=fun x hx ho=>by
   rw[e];refine⟨fun y hy=> ?_,?_⟩
   ·rcases akU.1 hy with hy|hy
    ·exact h1 y (List.mem_append_left _ hy)
    ·rcases als.1 hy with rfl|hy
     ·exact ho
     ·exact h1 y (List.mem_append_right _ (alN _ hy))
   ·rw[alh,akZ,hx];rw[alh,akZ]at h2;exact h2
  unfold jU;split
  ·split
   ·obtain⟨p1,p2⟩:=put (stepM m false t) rfl (step_ok hm ht false);obtain⟨a1,a2,a3,a4⟩:=DJ ht hwa hir hse rem (kept++ [stepM m false t]) (gD du se wa ir t) p1 p2 (EL ht hwa h3 hse hir);exact⟨a1,a2,a3,by simp at a4 ⊢;omega⟩
   ·have hs:(kept++rem).Sublist (kept++m::rem):=(List.Sublist.refl _).append (List.sublist_cons_self _ _);obtain⟨a1,a2,a3,a4⟩:=DJ (a:=a) ht hwa hir hse rem kept (if(kept++rem).length=0 then -1 else du) (fun y hy=>h1 y (hs.subset hy)) (h2.sublist (hs.map aK)) (by split<;>omega);exact⟨a1,a2,a3,by have:(m::rem).length=rem.length+1:=rfl;omega⟩
  ·obtain⟨p1,p2⟩:=put m rfl hm;obtain⟨a1,a2,a3,a4⟩:=DJ (a:=a) ht hwa hir hse rem (kept++ [m]) du p1 p2 h3;exact⟨a1,a2,a3,by simp at a4 ⊢;omega⟩
theorem adP{g:bF}(h:VG g){r:dx}(hr:RR r){t:Int}(a:Int)(ht:0≤t∧t≤8589934592):VG (tX (Hr g r t a).2.1 (Hr g r t a).2.2):=by
 have hlen:=h.len;unfold Hr;split
 ·exact⟨hlen,h.rt,h.due,h.sent,h.mem,h.up⟩
 ·obtain⟨a1,a2,a3,a4⟩:=DJ (a:=a) ht hr.wait (by have:=hr.wait;have:=hr.int;omega:(0:Int)≤fB r) h.sent.1 (aM g) [] (gm g) h.mem h.up h.due;exact⟨by simp only[List.length_nil,alx]at a4;exact alz a4 hlen,h.rt,a3,h.sent,a1,a2⟩
theorem rO{mu:List ByteArray}{k:ByteArray}:Ed mu k=true↔k∈mu:=by
 unfold Ed;rw[List.any_eq_true];constructor
 ·rintro⟨x,hx,e⟩;have:x=k:=by simpa using e
  exact this ▸ hx
 ·exact fun h=>⟨k,h,by simp⟩
theorem QJ{mu:List ByteArray}{k:ByteArray}(h:k∉mu):Ed mu k=false:=by
 cases hc:Ed mu k
 ·rfl
 ·exact absurd (rO.1 hc) h
theorem QF{mu:List ByteArray}{ms:List bS}{k:ByteArray}:k∈fG mu ms↔∃m∈ms,aK m=k∧k∉mu∧bY m=true:=by
 unfold fG;rw[al9];constructor
 ·rintro⟨m,hm,rfl⟩;rw[amd,akS,amf]at hm;exact⟨m,hm.1,rfl,fun hc=>by rw[rO.2 hc]at hm;exact absurd hm.2.1 (by simp),hm.2.2⟩
 ·rintro⟨m,hm,rfl,h1,h2⟩;refine⟨m,amd.2 ⟨hm,?_⟩,rfl⟩;rw[akS,amf];exact⟨QJ h1,h2⟩
theorem QW{mu:List ByteArray}{ms:List bS}{k:ByteArray}:k∈jf mu ms↔∃m∈ms,aK m=k∧k∉mu∧bY m=false:=by
 unfold jf;rw[al9];constructor
 ·rintro⟨m,hm,rfl⟩;rw[amd,akS,amf]at hm;exact⟨m,hm.1,rfl,fun hc=>by rw[rO.2 hc]at hm;exact absurd hm.2.1 (by simp),by simpa using hm.2.2⟩
 ·rintro⟨m,hm,rfl,h1,h2⟩;refine⟨m,amd.2 ⟨hm,?_⟩,rfl⟩;rw[akS,amf];exact⟨QJ h1,by simpa using h2⟩
theorem Vk(F R:List ByteArray)(ms:List bS):(qZ F R ms).map aK=(ms.filter fun m=> !Ed R (aK m)).map aK:=by
 unfold qZ;rw[alO];rfl
theorem DV{F R:List ByteArray}{ms:List bS}{x:bS}:x∈qZ F R ms↔∃m∈ms,aK m∉R∧x=mq F m:=by
 unfold qZ;rw[al9];constructor
 ·rintro⟨m,hm,rfl⟩;rw[amd,amf]at hm;exact⟨m,hm.1,fun hc=>by rw[rO.2 hc]at hm;exact absurd hm.2 (by simp),rfl⟩
 ·rintro⟨m,hm,h1,rfl⟩;refine⟨m,amd.2 ⟨hm,?_⟩,rfl⟩;cases hc:Ed R (aK m)
  ·rfl
  ·exact absurd (rO.1 hc) h1
theorem acK{g:bF}(h:VG g)(mu:List ByteArray)(R:List ByteArray)(du se:Int)(hd: -1≤du∧du≤8589934592)(hs: -1≤se∧se≤8589934592):VG (tX (g.1,g.2.1,du,se,()) (qZ (fG mu (aM g)) R (aM g))):=by
 refine⟨alz (Ws _ _ _) h.len,h.rt,hd,hs,fun x hx=> ?_,?_⟩
 ·obtain⟨m,hm,_,rfl⟩:=DV.1 hx;have ho:=h.mem m hm;refine⟨ho.lab,ho.key,ho.since,ho.heard,?_⟩
  show bY m=true∨(dL m||Ed (fG mu (aM g)) (aK m))=false
  rcases ho.told with hf|hf
  ·exact .inl hf
  ·cases hc:Ed (fG mu (aM g)) (aK m)
   ·exact .inr (by rw[hf];rfl)
   ·obtain⟨m',hm',e,_,hf'⟩:=QF.1 (rO.1 hc);rw[key_inj h.up hm' hm e]at hf';exact .inl hf'
 ·show((qZ _ _ _).map aK).Pairwise Less
  rw[Vk];exact h.up.sublist ((List.filter_sublist).map aK)
theorem Zg{g:bF}(h:VG g)(r:dx){t:Int}(mu:List ByteArray)(ht:0≤t∧t≤8589934592):VG (tX (oM g r t mu).2.1 (oM g r t mu).2.2.2.1):=by
 have hn:∀(ms:List bS) se o,-1≤(if ms.length=0 then -1 else mr se (fB r) (rA r) t o)∧(if ms.length=0 then -1 else mr se (fB r) (rA r) t o)≤8589934592:=fun ms se o=>by
  have:=Og (se:=se) (ir:=fB r) (rp:=rA r) (o:=o) ht.1;split<;>omega
 unfold oM;split
 ·exact⟨h.len,h.rt,h.due,h.sent,h.mem,h.up⟩
 ·dsimp only;split
  ·exact acK h mu _ _ _ (hn _ _ _) (by omega)
  ·exact⟨h.len,h.rt,hn _ _ _,h.sent,h.mem,h.up⟩
end Go.Proofs.YtchnmpafhfjimaaGreatDoor
namespace Go.Proofs.YtchnmpafhfjimaaGreatDoor
open Go Go.Abs Go.Lab
end Go.Proofs.YtchnmpafhfjimaaGreatDoor
namespace Go.Proofs.YtchnmpafhfjimaaGreatDoor
open Go Go.Abs
abbrev bX:Type:=List dx×List yR×Int×Unit
abbrev InT:Type:=Int×List bF×List lH×Int×Unit
abbrev rD:Type:=Int×List LT×Bool×Unit
abbrev dw(s:InT):Int:=s.1
abbrev bB(s:InT):List bF:=s.2.1
abbrev dQ(s:InT):List lH:=s.2.2.1
abbrev fJ(s:InT):Int:=s.2.2.2.1
structure wW(p:bX):Prop where
 rt:PN p.1
 inl:p.2.1.length≤big
 inh:∀r∈p.2.1,TSz r
 rs:RSs p.2.1
def rH(p:bX):Int:=if jX p.1≠0 then jX p.1 else if Cu p.2.1≠0 then Cu p.2.1 else if p.2.2.1<0∨p.2.2.1>604800 then 1 else 0
theorem OY(p:bX)(hp:wW p):m34 ((p,()),())=some ((rH p,()),()):=by
 unfold m34 rH;refine aP _ (KP p.1 hp.rt) ?_;by_cases h1:jX p.1=0
 ·simp only[h1,ali,alI,ne_eq,not_true_eq_false,if_false];refine aP _ (ach p.2.1 hp.inl hp.inh) ?_;by_cases h2:Cu p.2.1=0
  ·simp only[h2,ali,alI,not_true_eq_false,if_false];by_cases h3:p.2.2.1<0
   ·simp[h3]
   ·by_cases h4:p.2.2.1>604800<;>simp[h3,h4]
  ·simp only[al6.2 h2,cond_true,h2,amo,if_true]
 ·simp only[al6.2 h1,cond_true,ne_eq,h1,amo,if_true]
theorem iD{p:bX}(h:rH p=0):jX p.1=0∧Cu p.2.1=0∧0≤p.2.2.1∧p.2.2.1≤604800:=by
 unfold rH at h;split at h
 ·rename_i h1;exact absurd h h1
 ·rename_i h1;split at h
  ·rename_i h2;exact absurd h h2
  ·rename_i h2;split at h
   ·cases h
   ·rename_i h3;exact⟨by simpa using h1,by simpa using h2,by omega,by omega⟩
theorem RQ{r:dx}(h:gu r=0):BK r=true:=by
 unfold BK
 have e:gu (strip r)=0:=by
  unfold gu strip at *;cases h1:(decide ((r.2.1.length:Int)>8)||decide ((r.2.2.2.1.length:Int)>12))
  ·rw[h1]at h;cases h2:(!r.2.1.all bC|| !j5 r.2.2.2.1)
   ·rw[h2]at h;simp only[al4]at h1 h2;simp only[h1.2,h2.2,List.length_nil,List.all_nil];exact h
   ·rw[h2]at h;cases h
  ·rw[h1]at h;cases h
 rw[e];rfl
theorem F8{l:List dx}(hl:PN l)(h:jX l=0):∀r∈l,RR r:=by
 intro r hr;refine ah7 (hl.2 r hr) (RQ ?_);unfold jX at h;cases h0:((l.length:Int)==0)
 ·rw[h0]at h;cases h1:decide ((l.length:Int)>24)
  ·rw[h1]at h
   have h2:Bc sM 0 l=0:=by
    cases h2:(Bc sM 0 l !=0)
    ·simpa using h2
    ·rw[h2]at h;simp only[alI,cond_true]at h;rw[h]at h2;cases h2
   obtain⟨k,hk,rfl⟩:=List.mem_iff_getElem.1 hr;have:=vX h2 k _ (akH hk);unfold sM at this;cases hb:lM (0+k) l[k]
   ·rw[hb]at this;exact this
   ·rw[hb]at this;cases this
  ·rw[h1]at h;cases h
 ·rw[h0]at h;cases h
theorem wH{l:List dx}(h:jX l=0):l.length≤24:=by
 unfold jX at h;cases h0:((l.length:Int)==0)
 ·rw[h0]at h;cases h1:decide ((l.length:Int)>24)
  ·have:=amc h1;omega
  ·rw[h1]at h;cases h
 ·rw[h0]at h;cases h
def jG(rs:List dx)(now:Int)(g:bF):Bool:=
 decide ((aM g).length=0)&&(decide (dm g= -1)||match rs[g.1.toNat]? with|some r=>decide (dm g+fB r≤now)|none=>false)
theorem W9(p:bX)(g:bF)(now:Int)(hg:VG g){r:dx}(h:p.1[g.1.toNat]?=some r)(hr:RR r):ZU ((p,g,now,()),())=some ((jG p.1 now g,()),()):=by
 have h1:=hg.sent;have h2:=hg.rt;have h3:=hr.int;have h4:=hr.KX;have h5:=hr.max;have h6:=hr.wait;obtain⟨rt,ky,ms,du,se,⟨⟩⟩:=g;dsimp only[dm,fB,l8,rA]at h h1 h2 h3 h4 h5 h6;have hw:aQ (se+r.2.2.2.2.2.1)=se+r.2.2.2.2.2.1:=bH (by omega) (by omega);unfold ZU abR jG;dsimp only[aM,dm];simp only[aI,jo h2 h,hw];rw[h]
 have e0:((ms.length:Int)==0)=decide (ms.length=0):=by
  by_cases h:ms.length=0
  ·simp[h]
  ·rw[akR.2 (by omega),ak9 h]
 simp only[e0,aly,dz];cases decide (ms.length=0)<;>cases decide (se= -1)<;>rfl
def jS(a:bF)(rt:Int)(k:ByteArray):Bool:=decide (a.1<rt)||(decide (a.1=rt)&&Op.bytesLess a.2.1.toList k.toList)
def rz(a:bF)(rt:Int)(k:ByteArray):Int:=if a.1=rt then D7 a.2.1 k else a.1-rt
theorem Pp(a:bF)(rt:Int)(k:ByteArray)(h1:0≤a.1∧a.1≤1048576)(h2:0≤rt∧rt≤1048576):m84 ((a,rt,k,()),())=some ((rz a rt k,()),()):=by
 unfold m84 rz;by_cases h:a.1=rt
 ·simp only[h,ali,alI,if_true];refine aP _ (Rf a.2.1 k) rfl
 ·simp only[al6.2 h,cond_true,if_neg h,bH (x:=a.1-rt) (by omega) (by omega)]
theorem Bh(a:bF)(rt:Int)(k:ByteArray):decide (rz a rt k<0)=jS a rt k:=by
 unfold rz jS D7;by_cases h:a.1=rt
 ·simp only[h,if_true,Int.lt_irrefl,alY,alR,alq,akK];cases Op.bytesLess a.2.1.toList k.toList
  ·simp only[akN,if_false];split<;>rfl
  ·rfl
 ·rw[if_neg h];simp only[h,alY,alH,akM];exact alM.2 (by omega)
def KD(now t:Int):Int:=if t<now then 6 else if t>8589934592 then 1 else 0
theorem PV{A B E:Type}{f:A→Option (A⊕B)}(l:List E)(st:Nat→A)(p:E→Bool)(no:Nat→B)(yes:B)
  (h1:∀i e,l[i]?=some e→i<l.length→f (st i)=some (bif p e then .inl (st (i+1))else .inr (no i))) (h2:f (st l.length)=some (.inr yes)):
  ∃j:Nat,aB f (st 0)=some (bif l.all p then yes else no j):=by
 have key:∀(k i:Nat),i+k=l.length→∃j:Nat,aB f (st i)=some (bif (l.drop i).all p then yes else no j):=by
  intro k
  induction k with
  |zero=>
   intro i h;obtain rfl:i=l.length:=by omega
   rw[al7];exact⟨0,aA h2⟩
  |succ k ih=>
   intro i h;obtain⟨e,he,hd⟩:=drop_at (l:=l) (i:=i) (by omega);have q:=h1 i e he (by omega);rw[hd,List.all_cons];cases hb:p e
   ·rw[hb]at q;exact⟨i,aA q⟩
   ·rw[hb]at q;rw[alq];obtain⟨j,hj⟩:=ih (i+1) (by omega);exact⟨j,(aD q).trans hj⟩
 have:=key l.length 0 (by omega);rw[alg]at this;exact this
def Kh(rs:List dx)(g:bF)(m:bS):ByteArray:=match rs[g.1.toNat]? with|some r=>xZ r (cB m)|none=>ByteArray.empty
def yP(p:bX)(now:Int)(q:Option bF)(g:bF):Bool:=
 decide (g.1≥(p.1.length:Int))||(jG p.1 now g||((match q with|none=>false|some a=> !jS a g.1 g.2.1)|| !(aM g).all fun m=>decide (Kh p.1 g m=g.2.1)))
def xR(p:bX)(s:InT):Bool:=
 decide (rH p=0)&&(inst (dw s)&&(decide ((bB s).length≤64)&&(decide (J2 (dQ s)=0)&&(decide (1≤fJ s)&&((dQ s).all (fun x=>decide (x.1<fJ s))&&yg (yP p (dw s)) none (bB s))))))
structure w9(s:InT):Prop where
 len:(bB s).length≤1048576
 tX:∀g∈bB s,VG g∧g.1≤1048576
 R7:L8 (dQ s)
theorem MF{l:List dx}{g:bF}(hg:VG g)(h:¬ g.1≥(l.length:Int)):∃r,l[g.1.toNat]?=some r:=by
 have:=hg.rt;exact⟨_,akH (by omega)⟩
theorem ac9(p:bX){g:bF}(hg:VG g){r:dx}(h:p.1[g.1.toNat]?=some r)(hz:r.2.2.2.1.length≤big)(p0:Int):
  ∃j:Nat,aB AP (((0:Int),aM g,((aM g).length:Int),()),((p,()),((g,()),())))=
   some (bif (aM g).all (fun m=>decide (Kh p.1 g m=g.2.1))then .inr ((),((p,()),((g,()),())))else .inl (((j:Int),()),((p,()),((g,()),())))):=by
 have hl:=hg.len;have h2:=hg.rt;refine PV (f:=AP) (aM g) (fun i=>(((i:Int),aM g,((aM g).length:Int),()),((p,()),((g,()),())))) (fun m=>decide (Kh p.1 g m=g.2.1)) (fun i=>.inl (((i:Int),()),((p,()),((g,()),())))) _ ?_ ?_
 ·intro i e he hi;have hw:=aG (i:=i) (by omega);have q:=Ux r (cB e) (o9 (hg.mem e (akC he)).lab) hz;have q2:Kh p.1 g e=xZ r (cB e):=by unfold Kh;rw[h]
  dsimp only[cB]at q;rw[q2];simp only[AP,dU hi,aI,aF he,jo h2 h,q,bg,jK,hw,au,sS];cases decide (xZ r e.2.1=g.2.1)<;>simp only[hw,au,sS]
 ·simp only[AP,fH,au,sS]
theorem X9(p:bX)(hp:wW p)(h0:jX p.1=0)(s:InT)(hs:w9 s):
  aB qR (((0:Int),bB s,((bB s).length:Int),()),((p,()),((s,()),())))=some (bif yg (yP p (dw s)) none (bB s)then .inr ((),())else .inl ((false,()),())):=by
 have hlen:=hs.len;have hrl:=wH h0;refine nu (f:=qR) (bB s) (fun i=>(((i:Int),bB s,((bB s).length:Int),()),((p,()),((s,()),())))) (yP p (dw s)) (.inl ((false,()),())) (.inr ((),())) ?_ ?_
 ·intro i e he hi;obtain⟨hv,hv2⟩:=hs.tX e (akC he);have hw:=aG (i:=i) (by omega);have q1:=Jj hv;have h2:=hv.rt;unfold yP;by_cases hr:e.1≥(p.1.length:Int)
  ·simp only[qR,dU hi,aI,aF he,q1,ak7 hr,akQ,akK,akM,akY,akV,au,sS]
  ·obtain⟨r,hr2⟩:=MF hv hr;have hrr:=F8 hp.rt h0 r (akC hr2);have q2:=W9 p e (dw s) hv hr2 hrr;obtain⟨j,q3⟩:=ac9 p hv hr2 hrr.z.2.1 0;dsimp only[dw,aM]at q2 q3;have hj:decide ((j:Int)≥0)=true:=ak7 (by omega);rcases kH hi with h0|⟨a,h0,ha,ha1⟩
   ·rw[if_pos h0];have hd:decide ((i:Int)>0)=false:=ak9 (by omega);simp only[qR,dU hi,aI,aF he,q1,ak9 hr,q2,hd,dw,aM,akQ,akK,akM,akY,akV,au,sS];cases jG p.1 s.1 e<;>simp only[akQ,akK,akM,akY,akV,au,sS];rw[q3];cases List.all e.2.2.1 (fun m=>decide (Kh p.1 e m=e.2.1))<;>simp only[hj,hw,akQ,akK,akM,akY,akV,au,sS]
   ·rw[if_neg (by omega),ha];obtain⟨av,av2⟩:=hs.tX a (akC ha);have hd:decide ((i:Int)>0)=true:=ak7 (by omega);have q4:=Pp a e.1 e.2.1 ⟨av.rt,av2⟩ ⟨h2,by omega⟩
    have q5:decide (rz a e.1 e.2.1≥0)= !jS a e.1 e.2.1:=by
     rw[←Bh,←decide_not];exact alM.2 (by omega)
    simp only[qR,dU hi,aI,aF he,q1,ak9 hr,q2,hd,ha1 (by omega),aF ha,q4,q5,dw,aM,akQ,akK,akM,akY,akV,au,sS];cases jG p.1 s.1 e<;>simp only[akQ,akK,akM,akY,akV,au,sS];cases jS a e.1 e.2.1<;>simp only[akQ,akK,akM,akY,akV,au,sS];rw[q3];cases List.all e.2.2.1 (fun m=>decide (Kh p.1 e m=e.2.1))<;>simp only[hj,hw,akQ,akK,akM,akY,akV,au,sS]
 ·simp only[qR,fH,akQ,akK,akM,akY,akV,au,sS]
theorem VP:∀{l:List lH},Od 0 l=0→∀(n:Int),l≠ []→∃x,l[l.length-1]?=some x∧(l.all fun y=>decide (y.1<n))= !decide (x.1≥n):=by
 intro l h n hne;obtain⟨a,x,rfl⟩:∃a x,l=a++ [x]:=⟨l.dropLast,l.getLast hne,(List.dropLast_concat_getLast hne).symm⟩
 refine⟨x,by simp,?_⟩
 have hs:∀y∈a,y.1<x.1:=by
  intro y hy;obtain⟨b,c,rfl⟩:=List.mem_iff_append.1 hy;have:=TB b 0 y (c++ [x]) (by simpa using h);exact this x (by simp)
 rw[List.all_append];by_cases hx:x.1≥n
 ·simp[hx,Int.not_lt.2 hx]
 ·have ha:(a.all fun y=>decide (y.1<n))=true:=alm.2 fun y hy=>ak7 (by have:=hs y hy;omega)
  simp[ha,hx,Int.not_le.1 hx]
theorem adu(p:bX)(hp:wW p)(s:InT)(hs:w9 s):m36 ((p,s,()),())=some ((xR p s,()),()):=by
 unfold m36;have hl:=hs.len;have q2:=abP (dQ s) hs.R7;have hsl:=hs.R7.1;by_cases hc:rH p=0
 ·obtain⟨c1,c2,c3,c4⟩:=iD hc;have q3:=X9 p hp c1 s hs;obtain⟨now,gs,sl,nx,⟨⟩⟩:=s;dsimp only[bB,dQ,dw,fJ]at q2 q3 hl hsl;have q1:=OY p hp;unfold xR;rw[hc]at q1;simp only[q1,q2,hc,dw,bB,dQ,fJ,inst,ali,alR,alq,au,sS];by_cases h1:now<0
  ·have e:decide (0≤now∧now≤8589934592)=false:=ak9 (by omega);simp only[h1,e,alR,alH,au,sS]
  by_cases h2:now>8589934592
  ·have e:decide (0≤now∧now≤8589934592)=false:=ak9 (by omega);simp only[h1,h2,e,alR,alY,alH,au,sS]
  have e:decide (0≤now∧now≤8589934592)=true:=ak7 (by omega);by_cases h3:(gs.length:Int)>64
  ·have e3:decide (gs.length≤64)=false:=ak9 (by omega);simp only[h1,h2,h3,e,e3,alR,alY,alq,alH,au,sS]
  have e3:decide (gs.length≤64)=true:=ak7 (by omega);by_cases h4:J2 sl=0
  ·by_cases h5:nx<1
   ·have e5:decide (1≤nx)=false:=ak9 (by omega);simp only[h1,h2,h3,h4,h5,e,e3,e5,ali,alR,alY,alq,alH,au,sS]
   have e5:decide (1≤nx)=true:=ak7 (by omega);simp only[h1,h2,h3,h4,h5,e,e3,e5,ali,alR,alY,alq,alH,au,sS];by_cases hn:sl=[]
   ·subst hn;simp only[List.length_nil,List.all_nil,alq];have e6:decide ((((0:Nat):Nat):Int)>0)=false:=by decide
    simp only[e6,q3,au,sS];cases yg (yP p now) none gs<;>rfl
   ·obtain⟨x,hx,hx2⟩:=VP (adb h4).1 nx hn;have hpos:0<sl.length:=List.length_pos_iff.2 hn;have e6:decide (((sl.length:Nat):Int)>0)=true:=ak7 (by omega);have e7:aQ (((sl.length:Nat):Int)-1)=((sl.length-1:Nat):Int):=by rw[bH (by omega) (by omega)];omega
    rw[hx2];simp only[e6,e7,aI,aF hx,au,sS];cases decide (x.1≥nx)<;>simp only[q3,akY,akV,alq,alH,au,sS];cases yg (yP p now) none gs<;>rfl
  ·simp only[h1,h2,h3,h4,al6.2 h4,e,e3,alR,alY,alq,alH,au,sS]
 ·have q1:=OY p hp;unfold xR;simp only[q1,al6.2 hc,ak9 hc,alH,au,sS]
end Go.Proofs.YtchnmpafhfjimaaGreatDoor
namespace Go.Proofs.YtchnmpafhfjimaaGreatDoor
open Go Go.Abs Go.Lab
theorem SH{m:bS}(h:yF m):(aK m).size+1≤4294967296:=by
 have h1:=qC h.lab ((cB m).map bq).length;rw[alC]at h1;rw[h.key,size_mk];unfold bV;simp;omega
end Go.Proofs.YtchnmpafhfjimaaGreatDoor
namespace Go.Proofs.YtchnmpafhfjimaaGreatDoor
open Go Go.Abs
def Ik(a:Int×Bool)(g:bF):Int×Bool:=bif (gm g != -1)&&(!a.2||decide (gm g<a.1))then(gm g,true)else a
def iB(l:List bF):Int×Bool:=l.foldl Ik (0,false)
theorem Vf(s:InT)(hl:(bB s).length≤1048576):m30 ((s,()),())=some (((iB (bB s)).1,(iB (bB s)).2,()),()):=by
 have h:=dJ (f:=Ee) (bB s) (fun i (a:Int×Bool)=>(((i:Int),a.1,a.2,bB s,((bB s).length:Int),()),())) (fun _ a e=>.inl (Ik a e)) (fun a=>((a.2,a.1,()),())) ?_ ?_ (0,false)
 ·rw[qJ]at h;unfold m30;exact aP _ h rfl
 ·intro i e ⟨a1,a2⟩ he hi;have hw:aQ ((i:Int)+1)=((i+1:Nat):Int):=aG (by omega);unfold Ik;dsimp only[gm];simp only[Ee,aI,aF he,dU hi,au,sS];cases (e.2.2.2.1 != -1)<;>cases a2<;>cases decide (e.2.2.2.1<a1)<;>simp only[au,sS,hw,akY,akV,alb,akQ,akM,akK,alq,alH]
 ·intro a;simp only[Ee,fH,au,sS]
def KT(p:bX)(l:List bF):Prop:=∀g∈l,VG g∧∃r,p.1[g.1.toNat]?=some r∧RR r
def ja(p:bX)(now:Int)(l:List bF):List bF:=l.filter fun g=> !jG p.1 now g
theorem KT.idle{p:bX}{l:List bF}(h:KT p l){g:bF}(hg:g∈l)(now:Int):ZU ((p,g,now,()),())=some ((jG p.1 now g,()),()):=by
 obtain⟨hv,r,hr,rr⟩:=h g hg;exact W9 p g now hv hr rr
theorem Qu{A:Type}{a:List A}{n:Nat}(h:a.length+1≤n)(x:A):decide (a.length+ [x].length≤n)=true:=ak7 (by simpa using h)
theorem Sn{A B E F:Type}{f:A→Option (A⊕B)}(l:List E)(st:Nat→List F→A)(g:E→List F)(fin:List F→B)(hlen:l.length≤1048576)
  (hg:∀e,(g e).length≤1)
  (h1:∀i e a,l[i]?=some e→i<l.length→a.length≤i→f (st i a)=some (.inl (st (i+1) (a++g e)))) (h2:∀a,f (st l.length a)=some (.inr (fin a))):
  aB f (st 0 [])=some (fin (l.flatMap g)):=by
 have key:∀(k i:Nat) (a:List F),i+k=l.length→a.length≤i→aB f (st i a)=some (fin (a++(l.drop i).flatMap g)):=by
  intro k
  induction k with
  |zero=>
   intro i a h ha;obtain rfl:i=l.length:=by omega
   rw[al7,List.flatMap_nil,alk];exact aA (h2 a)
  |succ k ih=>
   intro i a h ha;obtain⟨e,he,hd⟩:=drop_at (l:=l) (i:=i) (by omega);rw[hd,alS,←ale,←ih (i+1) (a++g e) (by omega) (by have:=hg e;rw[akW];omega)];exact aD (h1 i e a he (by omega) ha)
 have:=key l.length 0 [] (by omega) (akJ _)
 rwa [alg,amm]at this
theorem TQ{A B E:Type}{f:A→Option (A⊕B)}(ms:List E)(keep:E→Bool)(st:Nat→A)(no:B)(yes:Nat→B)
  (h1:∀i e,ms[i]?=some e→i<ms.length→f (st i)=some (bif keep e then .inl (st (i+1))else .inr (yes i))) (h2:f (st ms.length)=some (.inr no)):
  (aB f (st 0)=some no∧ms.filter keep=ms)∨∃j,j<ms.length∧aB f (st 0)=some (yes j)∧(ms.take (j+1)).filter keep=ms.take j:=by
 have key:∀(d i:Nat),i+d=ms.length→(ms.take i).filter keep=ms.take i→
   (aB f (st i)=some no∧ms.filter keep=ms)∨∃j,j<ms.length∧aB f (st i)=some (yes j)∧(ms.take (j+1)).filter keep=ms.take j:=by
  intro d
  induction d with
  |zero=>
   intro i h h3;obtain rfl:i=ms.length:=by omega
   rw[alC]at h3;exact .inl ⟨aA h2,h3⟩
  |succ d ih=>
   intro i h h3;obtain⟨e,he⟩:=getD_some (l:=ms) (i:=i) (by omega);have q:=h1 i e he (by omega);cases hr:keep e
   ·rw[hr]at q;refine .inr ⟨i,by omega,aA q,?_⟩;rw[gM he,alP,h3];simp[hr]
   ·rw[hr]at q;rw[aD q];refine ih (i+1) (by omega) ?_;rw[gM he,alP,h3];simp[hr]
 exact key ms.length 0 (by omega) rfl
theorem O5{A B E:Type}{f:A→Option (A⊕B)}(ms:List E)(keep:E→Bool)(st:Nat→Nat→List E→A)(fin:Nat→List E→B)
  (h1:∀src dst blk e,src<ms.length→dst<src→blk.length=ms.length→blk[src]?=some e→e∈ms→f (st src dst blk)=some (.inl (bif keep e then st (src+1) (dst+1) (blk.set dst e)else st (src+1) dst blk)))
  (h2:∀dst blk,blk.length=ms.length→f (st ms.length dst blk)=some (.inr (fin dst blk))):∀(d src dst:Nat) (blk:List E),src+d=ms.length→dst<src→blk.length=ms.length→
  blk.take dst=(ms.take src).filter keep→blk.drop src=ms.drop src→
  ∃(dst':Nat) (blk':List E),aB f (st src dst blk)=some (fin dst' blk')∧dst'≤ms.length∧blk'.length=ms.length∧blk'.take dst'=ms.filter keep:=by
 intro d
 induction d with
 |zero=>
  intro src dst blk a1 a2 a3 a4 a5;obtain rfl:src=ms.length:=by omega
  rw[alC]at a4;exact⟨dst,blk,aA (h2 dst blk a3),by omega,a3,a4⟩
 |succ d ih=>
  intro src dst blk a1 a2 a3 a4 a5;obtain⟨e,he⟩:=getD_some (l:=ms) (i:=src) (by omega)
  have he':blk[src]?=some e:=by
   have:=congrArg (fun l=>l[0]?) a5;simp only[alW,aml]at this;rw[this,he]
  have q:=h1 src dst blk e (by omega) a2 a3 he' (akC he);cases hr:keep e
  ·rw[hr]at q;rw[aD q];refine ih (src+1) dst blk (by omega) (by omega) a3 ?_ ?_
   ·rw[gM he,alP,←a4];simp[hr]
   ·rw[←amh,←amh,a5]
  ·rw[hr]at q;rw[aD q];refine ih (src+1) (dst+1) (blk.set dst e) (by omega) (by omega) (by rw[al2,a3]) ?_ ?_
   ·rw[gM he,alP,←a4];rw[gM (e:=e) (by rw[List.getElem?_set_self (by omega)])];rw[show(blk.set dst e).take dst=blk.take dst from by rw[List.take_set,List.set_eq_of_length_le (by rw[akT];omega)]];simp[hr]
   ·rw[List.drop_set,if_pos (by omega)];rw[←amh,←amh,a5]
def qy(acc:List bS)(m:bS):List bS:=if bY m=true∧hit (aK m) acc=false then acc.take (pos (aK m) acc)++ [m]++acc.drop (pos (aK m) acc)else acc
def H8(gs:List bF)(acc:List bS):List bS:=gs.foldl (fun a g=>(aM g).foldl qy a) acc
def zN(gs:List bF):List bS:=H8 gs []
theorem Xz(acc:List bS)(m:bS):(qy acc m).length≤acc.length+1:=by
 unfold qy;split
 ·simp;omega
 ·omega
theorem TF:∀(ms:List bS) (acc:List bS),(ms.foldl qy acc).length≤acc.length+ms.length:=by
 intro ms
 induction ms with
 |nil=>intro acc;exact akJ _
 |cons m r ih=>intro acc;have:=ih (qy acc m);have:=Xz acc m;simp only[List.foldl_cons,alo];omega
theorem ZF{a b:ByteArray}(h:Lt a b):bl a<bl b:=by
 unfold Lt at h;rw[bg,bg,Go.Proofs.bytesLess_eq]at h;exact akI h
theorem Jd{k:ByteArray}{l:List bS}(h:(l.map aK).Pairwise Less):hit k l=true↔k∈l.map aK:=by
 constructor
 ·intro hh;obtain⟨m,hm,rfl⟩:=tN hh;exact al9.2 ⟨m,akC hm,rfl⟩
 ·intro hk;obtain⟨m,hm,rfl⟩:=al9.1 hk;cases hh:hit (aK m) l
  ·exfalso
   rw[←alU (pos (aK m) l) l,akU]at hm;rcases hm with hm|hm
   ·exact lQ _ (zl m hm)
   ·exact lQ _ (EB h hh m hm)
  ·rfl
theorem ad5{m:bS}{l:List bS}(h:(l.map aK).Pairwise Less)(hh:hit (aK m) l=false):((l.take (pos (aK m) l)++ [m]++l.drop (pos (aK m) l)).map aK).Pairwise Less:=by
 rw[ale,alh,alh,List.pairwise_append];have hup:=h;rw[←alU (pos (aK m) l) l,alh,List.pairwise_append]at hup;have ha:∀x∈l.take (pos (aK m) l),Lt (aK x) (aK m):=zl;have hb:=EB h hh;refine⟨hup.1,?_,fun a ha' b hb'=> ?_⟩
 ·rw[akZ,alp,alV];refine alX.2 ⟨fun k hk=> ?_,hup.2.1⟩;obtain⟨x,hx,rfl⟩:=al9.1 hk;exact fU.2 (hb x hx)
 ·obtain⟨x,hx,rfl⟩:=al9.1 ha';rw[akZ,alp,alV]at hb';rcases als.1 hb' with rfl|hb'
  ·exact fU.2 (ha x hx)
  ·obtain⟨x',hx',rfl⟩:=al9.1 hb';exact fU.2 (lt_trans (ha x hx) (hb x' hx'))
structure Mv(pre acc:List bS)(ks:List ByteArray):Prop where
 up:(acc.map aK).Pairwise Less
 perm:ks.Perm (acc.map aK)
 lab:∀a∈acc,pre.find? (fun m=>decide (m.1=aK a))=some a
 all:∀m∈pre,aK m∈acc.map aK
theorem Mv.step{pre acc:List bS}{ks:List ByteArray}(h:Mv pre acc ks){m:bS}(hm:bY m=true):
  Mv (pre++ [m]) (qy acc m) (if ks.any (fun x=>decide (x=aK m))then ks else ks++ [aK m]):=by
 have hc:ks.any (fun x=>decide (x=aK m))=hit (aK m) acc:=by
  rw[Bool.eq_iff_iff,Jd h.up,List.any_eq_true,←h.perm.mem_iff];constructor
  ·rintro⟨x,hx,e⟩;rw[←akI e];exact hx
  ·intro hx;exact⟨_,hx,ak7 rfl⟩
 rw[hc]
 have old:∀a∈acc,(pre++ [m]).find? (fun x=>decide (x.1=aK a))=some a:=fun a ha=>by
  rw[List.find?_append,h.lab a ha];rfl
 cases hh:hit (aK m) acc
 ·have e:qy acc m=acc.take (pos (aK m) acc)++ [m]++acc.drop (pos (aK m) acc):=by unfold qy;rw[if_pos ⟨hm,hh⟩]
  have hnot:aK m∉acc.map aK:=fun hk=>by rw[(Jd h.up).2 hk]at hh;cases hh
  rw[e];refine⟨ad5 h.up hh,?_,fun a ha=> ?_,fun x hx=> ?_⟩
  ·simp only[akN,if_false,alh,List.map_take,List.map_drop,akZ,alp];have p1:(ks++ [aK m]).Perm (acc.map aK++ [aK m]):=h.perm.append_right _;refine p1.trans ?_
   conv=>lhs;rw[←alU (pos (aK m) acc) (acc.map aK)]
   rw[ale,ale];exact(List.perm_append_comm).append_left _
  ·simp only[akU,al3]at ha;rcases ha with(ha|rfl)|ha
   ·exact old a (List.mem_of_mem_take ha)
   ·rw[List.find?_append]
    have:pre.find? (fun x=>decide (x.1=aK a))=none:=List.find?_eq_none.2 fun x hx=>by
     have:=h.all x hx;intro e;exact hnot (by rwa [show aK x=aK a from akI e]at this)
    rw[this];simp
   ·exact old a (List.mem_of_mem_drop ha)
  ·have hx':aK x∈acc.map aK∨x=m:=by
    rcases akU.1 hx with hx|hx
    ·exact .inl (h.all x hx)
    ·exact .inr (al3.1 hx)
   rcases hx' with hx'|rfl
   ·obtain⟨y,hy,e⟩:=al9.1 hx';rw[←alU (pos (aK m) acc) acc,akU]at hy;refine al9.2 ⟨y,?_,e⟩;simp only[akU,al3];rcases hy with hy|hy
    ·exact .inl (.inl hy)
    ·exact .inr hy
   ·exact al9.2 ⟨x,by simp,rfl⟩
 ·have e:qy acc m=acc:=by unfold qy;rw[if_neg (by rw[hh];simp)]
  rw[e];refine⟨h.up,by simpa using h.perm,old,fun x hx=> ?_⟩;rcases akU.1 hx with hx|hx
  ·exact h.all x hx
  ·rw[al3.1 hx];exact(Jd h.up).1 hh
theorem Mv.run:∀(ms pre acc:List bS) (ks:List ByteArray),Mv pre acc ks→(∀m∈ms,bY m=true)→Mv (pre++ms) (ms.foldl qy acc) (bP ms ks):=by
 intro ms
 induction ms with
 |nil=>intro pre acc ks h _;rw[alk];exact h
 |cons m r ih=>
  intro pre acc ks h hf;have:=ih (pre++ [m]) _ _ (h.step (hf m (by simp))) (fun x hx=>hf x (by simp[hx]));rw[ale]at this;exact this
theorem RU:∀(ms acc:List bS),(ms.filter fun m=>bY m).foldl qy acc=ms.foldl qy acc:=by
 intro ms
 induction ms with
 |nil=>intro acc;rfl
 |cons m r ih=>
  intro acc;rw[List.filter_cons];by_cases h:bY m=true
  ·rw[if_pos h];exact ih _
  ·rw[if_neg h,ih];have e:qy acc m=acc:=by unfold qy;rw[if_neg (fun c=>h c.1)]
   show _=r.foldl qy (qy acc m)
   rw[e]
theorem UZ:∀(gs:List bF) (acc:List bS),(bT gs).foldl qy acc=H8 gs acc:=by
 intro gs
 induction gs with
 |nil=>intro acc;rfl
 |cons g r ih=>
  intro acc;unfold bT H8;rw[alS,List.foldl_append,List.foldl_cons];have:=RU (aM g) acc;dsimp only[bY,aM]at this ⊢;rw[this];exact ih _
theorem MJ(gs:List bF):Mv (bT gs) (zN gs) (bP (bT gs) []):=by
 have:=Mv.run (bT gs) [] [] [] ⟨List.Pairwise.nil,List.Perm.nil,fun a ha=>(by cases ha),fun m hm=>(by cases hm)⟩ (fun m hm=>by
  unfold bT at hm;obtain⟨g,_,hm⟩:=List.mem_flatMap.1 hm;exact(amd.1 hm).2)
 rw[amm,UZ]at this;exact this
theorem Uf(gs:List bF):pu gs=(zN gs).map cB:=by
 have h:=MJ gs;unfold pu
 have p:((bP (bT gs) []).map (·.data.toList)).mergeSort (fun x y=>decide (x≤y))=((zN gs).map aK).map (·.data.toList):=by
  have e:=mergeSort_of_perm (h.perm.map (·.data.toList));refine e.trans (List.mergeSort_of_pairwise ?_)
  have:((zN gs).map aK).Pairwise (fun a b=>(Go.leB a.data.toList b.data.toList)=true):=h.up.imp fun {a b} hab=>by
   have:=ZF (fU.1 hab);simp only[Go.leB,alr];exact List.le_of_lt this
  exact List.pairwise_map.2 this
 rw[p,alO,alO];refine alu fun a ha=> ?_
 show jm (bT gs) ⟨(aK a).data.toList.toArray⟩=cB a
 have e:(⟨(aK a).data.toList.toArray⟩:ByteArray)=aK a:=rfl;rw[e];unfold jm;rw[h.lab a ha];rfl
abbrev fO:=Int×Int×Int×ByteArray×List ByteArray×List ByteArray×Unit
def oz(p:bX)(n:Int):dx:=(p.1[n.toNat]?).getD (0,[],0,[],0,0,0,false,())
theorem lU{p:bX}{n:Int}{r:dx}(h:p.1[n.toNat]?=some r):oz p n=r:=by unfold oz;rw[h];rfl
def BL(p:bX)(now:Int)(g:bF):bF:=tX (Hr g (oz p g.1) now p.2.2.1).2.1 (Hr g (oz p g.1) now p.2.2.1).2.2
def Dg(p:bX)(sl:List lH)(now:Int)(fs:List (List LT))(ms:List bS):List ByteArray:=ms.flatMap fun m=>bif (GA (cB m) now sl).2||zV p.2.1 (cB m) fs then [aK m]else []
def qb(p:bX)(sl:List lH)(now:Int)(fs:List (List LT))(g:bF):LkT:=oM g (oz p g.1) now (Dg p sl now fs (aM g))
def o8(p:bX)(sl:List lH)(now:Int)(fs:List (List LT))(g:bF):bF:=tX (qb p sl now fs g).2.1 (qb p sl now fs g).2.2.2.1
def aaP(x:LkT):fO:=(x.2.2.1.1,x.2.2.1.2.1,x.2.2.1.2.2.1,x.2.2.1.2.2.2.1,x.2.2.2.2.1,x.2.2.2.2.2,())
def iQ(p:bX)(sl:List lH)(now:Int)(fs:List (List LT))(g:bF):List fO:=bif (qb p sl now fs g).1 then [aaP (qb p sl now fs g)]else []
def jP(p:bX)(s:InT)(now:Int):List bF:=(bB s).map (BL p now)
def qF(p:bX)(s:InT)(now:Int):List (List LT):=(zN (jP p s now)).map cB
def AA(p:bX)(s:InT)(now:Int):List bF:=(jP p s now).map (o8 p (dQ s) now (qF p s now))
def sF(p:bX)(s:InT)(now:Int):List fO:=(jP p s now).flatMap (iQ p (dQ s) now (qF p s now))
def Dj(p:bX)(s:InT)(now:Int):InT:=(now,ja p now (AA p s now),dQ s,fJ s,())
theorem rP(p:bX)(now:Int)(g:bF):(BL p now g).1=g.1∧(BL p now g).2.1=g.2.1:=by
 unfold BL Hr;split<;>exact⟨rfl,rfl⟩
theorem kQ(p:bX)(sl:List lH)(now:Int)(fs:List (List LT))(g:bF):(o8 p sl now fs g).1=g.1∧(o8 p sl now fs g).2.1=g.2.1:=by
 unfold o8 qb oM;split
 ·exact⟨rfl,rfl⟩
 ·dsimp only;split<;>exact⟨rfl,rfl⟩
theorem FO{A B E F:Type}{f:A→Option (A⊕B)}(l:List E)(st:Nat→List E→List F→A)(h:E→E)(g:E→List F)(fin:List E→List F→B)(hg:∀e,(g e).length≤1)
  (h1:∀(i:Nat) (a:List E) (n:List F) (e:E),i<l.length→a.length=l.length→n.length≤i→e∈l→l[i]?=some e→a[i]?=some e→f (st i a n)=some (.inl (st (i+1) (a.set i (h e)) (n++g e))))
  (h2:∀(a:List E) (n:List F),a.length=l.length→f (st l.length a n)=some (.inr (fin a n))):aB f (st 0 l [])=some (fin (l.map h) (l.flatMap g)):=by
 have key:∀(d i:Nat) (a:List E) (n:List F),i+d=l.length→a=(l.take i).map h++l.drop i→n.length≤i→aB f (st i a n)=some (fin (l.map h) (n++(l.drop i).flatMap g)):=by
  intro d
  induction d with
  |zero=>
   intro i a n hi ha hn;obtain rfl:i=l.length:=by omega
   rw[alC,al7,alk]at ha;rw[al7,List.flatMap_nil,alk];subst ha;exact aA (h2 _ n (by simp))
  |succ d ih=>
   intro i a n hi ha hn;obtain⟨e,he,hd⟩:=drop_at (l:=l) (i:=i) (by omega);have hal:a.length=l.length:=by rw[ha];simp;omega
   have hml:((l.take i).map h).length=i:=by rw[akD,akT];omega
   have hae:a[i]?=some e:=by
    rw[ha,akL (by omega),hml,Nat.sub_self,hd];rfl
   rw[hd,alS,←ale,←ih (i+1) (a.set i (h e)) (n++g e) (by omega) ?_ (by have:=hg e;rw[akW];omega)]
   ·exact aD (h1 i a n e (by omega) hal hn (akC he) he hae)
   ·rw[ha,hd,List.set_append_right _ _ (by omega),hml,Nat.sub_self,gM he,alh,ale];rfl
 have:=key l.length 0 l [] (by omega) (by simp) (akJ _);rw[alg,amm]at this;exact this
structure TR(p:bX)(s:InT)(now:Int):Prop where
 len:(bB s).length≤65
 jA:KT p (bB s)
 R7:L8 (dQ s)
 rs:RSs p.2.1
 exp:0≤p.2.2.1∧p.2.2.1≤604800
 now:0≤now∧now≤8589934592
theorem IA(s:InT)(hl:(bB s).length≤1048576)(hs:∀g∈bB s,VG g)(hz:L8 (dQ s)):m64 ((s,()),())=some ((),(((dw s,fJ s,()),()),bB s,dQ s,())):=by
 have hc:ZP ((bB s,()),())=some ((),(bB s,())):=by
  unfold ZP;rw[show decide ((bB s).length≤4294967296)=true from ak7 (by omega)];rfl
 have q:=Yi (dQ s) hz;have h:=FO (F:=Unit) (f:=Ea) (bB s) (fun i a _=>(((i:Int),((bB s).length:Int),()),((dw s,fJ s,()),()),a,((0,0,()),()),dQ s,())) id (fun _=> [])
  (fun a _=>((),((0,0,()),()),((dw s,fJ s,()),()),a,dQ s,())) (fun _=>alj _) ?_ ?_
 ·rw[List.map_id]at h;unfold m64;refine aP _ hc ?_;refine aP _ q ?_;refine aP _ h rfl
 ·intro i a n e hi ha _ hm he hae;have hw:=aG (i:=i) (by omega);have c:=KS (hs e hm);have hb:decide ((0:Int)≤(i:Int)∧(i:Int)<(a.length:Int))=true:=ak7 (by omega);have hb2:decide (i<a.length)=true:=ak7 (by omega);simp only[Ea,dU hi,hb,hb2,akA,hae,c,hw,cor,au,sS];rfl
 ·intro a n ha;simp only[Ea,fH,au,sS]
theorem Mq(p:bX)(s:InT)(now:Int)(h:TR p s now)(x1 x2 z1 z2:Int):
  aB zw (((0:Int),now,((bB s).length:Int),()),(p,()),((x1,x2,()),()),bB s,((z1,z2,()),()),dQ s,())=
   some ((now,()),((x1,x2,()),()),(p,()),((z1,z2,()),()),jP p s now,dQ s,()):=by
 have hl:=h.len;refine FO (F:=Unit) (f:=zw) (bB s) (fun i a _=>(((i:Int),now,((bB s).length:Int),()),(p,()),((x1,x2,()),()),a,((z1,z2,()),()),dQ s,())) (BL p now) (fun _=> [])
  (fun a _=>((now,()),((x1,x2,()),()),(p,()),((z1,z2,()),()),a,dQ s,())) (fun _=>alj _) ?_ ?_
 ·intro i a n e hi ha _ hm he hae;have hw:=aG (i:=i) (by omega);obtain⟨hv,r,hr,rr⟩:=h.jA e hm;have q:=agP hv rr h.now h.exp;have hb:decide ((0:Int)≤(i:Int)∧(i:Int)<(a.length:Int))=true:=ak7 (by omega);have hb2:decide (i<a.length)=true:=ak7 (by omega);have hai:a[((i:Int)).toNat]?=some e:=by rw[akA];exact hae
  unfold BL;rw[lU hr];simp only[zw,dU hi,hb,hai,aI,jo hv.rt hr,q,hw,au,sS];simp only[akA,hb2,tX,au,sS]
 ·intro a n ha;simp only[zw,fH,au,sS]
theorem Qe(p:bX)(sl:List lH)(hsl:L8 sl)(hrs:RSs p.2.1)(now:Int)(fs:List (List LT))(hf:FSs fs)(ms:List bS)(hl:ms.length≤256)(hm:∀m∈ms,yF m)(blk:List bF)(x2:Int):
  aB zo (((0:Int),fs,ms,(ms.length:Int),()),blk,sl,[],((now,x2,()),()),(p,()),())=some ((),blk,sl,Dg p sl now fs ms,()):=by
 refine Sn (f:=zo) ms (fun i a=>(((i:Int),fs,ms,(ms.length:Int),()),blk,sl,a,((now,x2,()),()),(p,()),())) (fun m=>bif (GA (cB m) now sl).2||zV p.2.1 (cB m) fs then [aK m]else []) (fun a=>((),blk,sl,a,())) (by omega) (fun e=>by cases ((GA (cB e) now sl).2||zV p.2.1 (cB e) fs)<;>simp) ?_ ?_
 ·intro i e a he hi ha;have hw:=aG (i:=i) (by omega);have q:=Yg p.2.1 hrs sl hsl (cB e) (Ei (hm e (akC he)).lab) fs hf now;have hs:∀x:ByteArray,decide (a.length+ [x].length≤4294967296)=true:=fun x=>Qu (by omega) x
  dsimp only[cB,aK]at q ⊢;simp only[zo,aI,aF he,dU hi,q,au,sS];cases ((GA e.2.1 now sl).2||zV p.2.1 e.2.1 fs)<;>simp only[hs,hw,alk,au,sS]
 ·intro a;simp only[zo,fH,au,sS]
theorem ab3{p:bX}{l:List bF}(h:KT p l)(f:bF→bF)(h1:∀g,(f g).1=g.1)(h2:∀g∈l,VG (f g)):KT p (l.map f):=by
 intro g hg;obtain⟨x,hx,rfl⟩:=al9.1 hg;obtain⟨_,r,hr,rr⟩:=h x hx;exact⟨h2 x hx,r,by rw[h1];exact hr,rr⟩
theorem tY{p:bX}{s:InT}{now:Int}(h:TR p s now):KT p (jP p s now):=
 ab3 h.jA _ (fun g=>(rP p now g).1) (fun g hg=>by
  obtain⟨hv,r,hr,rr⟩:=h.jA g hg;unfold BL;rw[lU hr];exact adP hv rr _ h.now)
theorem Av{p:bX}{s:InT}{now:Int}(h:TR p s now):KT p (AA p s now):=
 ab3 (tY h) _ (fun g=>(kQ p _ now _ g).1) (fun g hg=>Zg (tY h g hg).1 _ _ h.now)
theorem Xf{gs:List bF}{m:bS}(h:m∈zN gs):∃g∈gs,m∈aM g∧bY m=true:=by
 have:=(MJ gs).lab m h;have hm:=List.mem_of_find?_eq_some this;unfold bT at hm;obtain⟨g,hg,hm⟩:=List.mem_flatMap.1 hm;exact⟨g,hg,(amd.1 hm).1,(amd.1 hm).2⟩
theorem Tp(gs:List bF)(h:∀g∈gs,VG g):(zN gs).length≤gs.length*256:=by
 have key:∀(gs:List bF) (acc:List bS),(∀g∈gs,VG g)→(H8 gs acc).length≤acc.length+gs.length*256:=by
  intro gs
  induction gs with
  |nil=>intro acc _;simp[H8]
  |cons g r ih=>
   intro acc h;have h1:=TF (aM g) acc;have h2:=ih ((aM g).foldl qy acc) (fun x hx=>h x (by simp[hx]));have h3:=(h g (by simp)).len
   show(H8 r ((aM g).foldl qy acc)).length≤_
   rw[alo];omega
 have:=key gs [] h;simpa[zN]using this
theorem aaA{gs:List bF}(h:∀g∈gs,VG g)(hl:gs.length≤1000):FSs ((zN gs).map cB):=by
 refine⟨?_,fun l hl=> ?_⟩
 ·have:=Tp gs h;rw[akD];unfold big;omega
 ·obtain⟨m,hm,rfl⟩:=al9.1 hl;obtain⟨g,hg,hm,_⟩:=Xf hm;exact Ei ((h g hg).mem m hm).lab
theorem Vb{gs:List bF}(h:∀g∈gs,VG g)(hl:gs.length≤1000):xG gs=true:=by
 unfold xG
 have h1:(gs.flatMap fun g=>g.2.2.1).length≤gs.length*256:=by
  clear hl
  induction gs with
  |nil=>simp
  |cons g r ih=>
   have:=ih (fun x hx=>h x (by simp[hx]));have h3:=(h g (by simp)).len;dsimp only[aM]at h3;rw[alS,akW,alo];omega
 simp only[akS,alr,alm];refine⟨by omega,alz h1 (by omega),fun g hg=>⟨?_,fun m hm=>⟨?_,?_⟩⟩⟩
 ·have:=(h g hg).len;dsimp only[aM]at this;omega
 ·have:=SH ((h g hg).mem m hm);dsimp only[aK]at this;omega
 ·have:=(gK ((h g hg).mem m hm).lab).1;dsimp only[cB]at this;omega
theorem Ua(p:bX)(sl:List lH)(now:Int)(fs:List (List LT))(ms:List bS):(Dg p sl now fs ms).length≤ms.length:=by
 unfold Dg
 induction ms with
 |nil=>simp
 |cons m r ih=>
  rw[alS,akW,alo]
  have:(bif (GA (cB m) now sl).2||zV p.2.1 (cB m) fs then [aK m]else []).length≤1:=by
   cases ((GA (cB m) now sl).2||zV p.2.1 (cB m) fs)<;>simp
  omega
theorem RN(p:bX)(sl:List lH)(hsl:L8 sl)(hrs:RSs p.2.1)(now:Int)(hn:0≤now∧now≤8589934592)(fs:List (List LT))(hf:FSs fs)(gs:List bF)(hl:gs.length≤1000)(h:KT p gs)(x2 z1 z2:Int):
  aB uL (((0:Int),fs,now,(gs.length:Int),()),[],((now,x2,()),()),(p,()),gs,((z1,z2,()),()),sl,())=
   some ((),((z1,z2,()),()),gs.flatMap (iQ p sl now fs),((now,x2,()),()),(p,()),gs.map (o8 p sl now fs),sl,()):=by
 refine FO (f:=uL) gs (fun i a n=>(((i:Int),fs,now,(gs.length:Int),()),n,((now,x2,()),()),(p,()),a,((z1,z2,()),()),sl,())) (o8 p sl now fs) (iQ p sl now fs)
  (fun a n=>((),((z1,z2,()),()),n,((now,x2,()),()),(p,()),a,sl,())) (fun e=>by unfold iQ;cases (qb p sl now fs e).1<;>simp) ?_ ?_
 ·intro i a n e hi ha hni hm he hae;have hw:=aG (i:=i) (by omega);obtain⟨hv,r,hr,rr⟩:=h e hm;have q:=Qe p sl hsl hrs now fs hf (aM e) hv.len hv.mem a x2;obtain⟨k,blk,q2,q3,q4⟩:=abY hv rr hn (mu:=Dg p sl now fs (aM e)) (by have:=Ua p sl now fs (aM e);have:=hv.len;unfold big;omega);have hb:decide ((0:Int)≤(i:Int)∧(i:Int)<(a.length:Int))=true:=ak7 (by omega);have hb2:decide (i<a.length)=true:=ak7 (by omega);have hb3:decide (0+k≤blk.length)=true:=ak7 (by omega);have hai:a[((i:Int)).toNat]?=some e:=by rw[akA];exact hae
  have hs:∀x:fO,decide (n.length+ [x].length≤4294967296)=true:=fun x=>Qu (by omega) x
  have e1:qb p sl now fs e=oM e r now (Dg p sl now fs (aM e)):=by unfold qb;rw[lU hr]
  unfold o8 iQ aaP;rw[e1];generalize oM e r now (Dg p sl now fs (aM e))=L at q2 q4 ⊢;dsimp only[aM]at q q2;have hrow:∀{B:Type} (F:dx→Option B),qQ p.1 e.1 F=F r:=fun F=>jo hv.rt hr F
  simp only[uL,dU hi,hb,hai,aI,au,sS];rw[hrow,q];simp only[eq_self,q2,hb,hb3,au,sS];cases hk:L.1<;>simp only[hs,hb2,hw,akA,alg,q4,tX,alk,au,sS]
 ·intro a n ha;simp only[uL,fH,au,sS]
theorem FJ(p:bX)(sl:List lH)(now x2:Int)(gs:List bF)(hl:gs.length≤1000)(h:KT p gs):
  (aB qO (((0:Int),(gs.length:Int),()),gs,(p,()),((now,x2,()),()),sl,())=some (.inr ((),gs,(p,()),((now,x2,()),()),sl,()))∧ja p now gs=gs)∨
  ∃j,j<gs.length∧aB qO (((0:Int),(gs.length:Int),()),gs,(p,()),((now,x2,()),()),sl,())=some (.inl (((j:Int),()),gs,(p,()),((now,x2,()),()),sl,()))∧(gs.take (j+1)).filter (fun g=> !jG p.1 now g)=gs.take j:=by
 refine TQ (f:=qO) gs (fun g=> !jG p.1 now g) (fun i=>(((i:Int),(gs.length:Int),()),gs,(p,()),((now,x2,()),()),sl,())) (.inr ((),gs,(p,()),((now,x2,()),()),sl,())) (fun i=>.inl (((i:Int),()),gs,(p,()),((now,x2,()),()),sl,())) ?_ ?_
 ·intro i e he hi;have hw:=aG (i:=i) (by omega);have hb:decide ((0:Int)≤(i:Int)∧(i:Int)<(gs.length:Int))=true:=ak7 (by omega);have q:=h.idle (akC he) now;simp only[qO,dU hi,hb,akA,he,q,eq_self,au,sS];cases jG p.1 now e<;>simp only[hw,akY,akV,au,sS]
 ·simp only[qO,fH,au,sS]
theorem Cw(p:bX)(sl:List lH)(now x2:Int)(gs:List bF)(hl:gs.length≤1000)(h:KT p gs):∀(d src dst:Nat) (blk:List bF),src+d=gs.length→dst<src→blk.length=gs.length→
  blk.take dst=(gs.take src).filter (fun g=> !jG p.1 now g)→blk.drop src=gs.drop src→
  ∃(dst':Nat) (blk':List bF),aB wB (((src:Int),(dst:Int),()),blk,(p,()),((now,x2,()),()),sl,())=some (((dst':Int),()),blk',(p,()),((now,x2,()),()),sl,())∧dst'≤gs.length∧blk'.length=gs.length∧blk'.take dst'=ja p now gs:=by
 refine O5 (f:=wB) gs (fun g=> !jG p.1 now g) (fun src dst blk=>(((src:Int),(dst:Int),()),blk,(p,()),((now,x2,()),()),sl,())) (fun dst blk=>(((dst:Int),()),blk,(p,()),((now,x2,()),()),sl,())) ?_ ?_
 ·intro src dst blk e h1 h2 h3 he hm;have c1:decide ((src:Int)<((blk.length:Nat):Int))=true:=ak7 (by omega);have c2:decide ((0:Int)≤(src:Int)∧(src:Int)<(blk.length:Int))=true:=ak7 (by omega);have c3:decide ((0:Int)≤(dst:Int)∧(dst:Int)<(blk.length:Int))=true:=ak7 (by omega);have c4:decide (dst<blk.length)=true:=ak7 (by omega);have w1:aQ ((src:Int)+1)=((src+1:Nat):Int):=aG (by omega);have w2:aQ ((dst:Int)+1)=((dst+1:Nat):Int):=aG (by omega);have q:=h.idle hm now;simp only[wB,c1,c2,akA,he,q,eq_self,au,sS];cases jG p.1 now e<;>simp only[c3,c4,w1,w2,akY,akV,au,sS]
 ·intro dst blk h3;have:decide ((gs.length:Int)<((blk.length:Nat):Int))=false:=ak9 (by omega);simp only[wB,this,au,sS]
theorem Cq{A:Type}(l x:List A)(k:Nat)(h:k≤l.length):(cu l k x).take k=l.take k:=by
 unfold cu;rw[ale,List.take_append_of_le_length (by rw[akT];omega),List.take_take,Nat.min_self]
theorem FE{A:Type}(l:List A)(z:A)(k:Nat)(h:k≤l.length):(cu l k (List.replicate (l.length-k) z)).length=l.length:=by
 unfold cu;simp;omega
def ED(p:bX)(s:InT)(now:Int)(o:Option (Unit×((Int×(Nat×Nat)×Int×Unit)×Unit)×List fO×List bF×List lH×Unit)):Prop:=
 ∃(n:Nat) (blk:List bF),o=some ((),((now,(0,n),fJ s,()),()),sF p s now,blk,dQ s,())∧n≤blk.length∧blk.take n=ja p now (AA p s now)
theorem K7{p:bX}{s:InT}{now:Int}{A:Type}{o:Option A}{f:A→Option (Unit×((Int×(Nat×Nat)×Int×Unit)×Unit)×List fO×List bF×List lH×Unit)}(x:A)(h:o=some x)(h2:ED p s now (f x)):ED p s now (o.bind f):=by
 rw[h];exact h2
theorem ad6{p:bX}{s:InT}{now:Int}(h:TR p s now):ED p s now (m75 ((p,s,now,()),())):=by
 have hl:=h.len;have hv:∀g∈bB s,VG g:=fun g hg=>(h.jA g hg).1
 have g1:=tY h;have g2:=Av h;have l1:(jP p s now).length=(bB s).length:=akD ..;have l2:(AA p s now).length=(bB s).length:=(akD ..).trans l1;have hv1:∀g∈jP p s now,VG g:=fun g hg=>(g1 g hg).1
 have q1:=IA s (by omega) hv h.R7;have q2:=Mq p s now h now (fJ s) 0 0;have q3:=RN p (dQ s) h.R7 h.rs now h.now (qF p s now) (aaA hv1 (by omega)) (jP p s now) (by omega) g1 (fJ s) 0 0;have hfe:pu (jP p s now)=qF p s now:=Uf _;have hfb:=Vb hv1 (by omega);unfold m75;refine K7 _ q1 ?_;refine K7 _ q2 ?_;simp only[hfb,hfe,eq_self,au,sS];refine K7 _ q3 ?_;have t2:(jP p s now).map (o8 p (dQ s) now (qF p s now))=AA p s now:=rfl;have tn:(jP p s now).flatMap (iQ p (dQ s) now (qF p s now))=sF p s now:=rfl;rw[t2,tn];unfold ED;generalize AA p s now=G at g2 l2 ⊢;rcases FJ p (dQ s) now (fJ s) G (by omega) g2 with⟨e,hf⟩|⟨j,hj,e,hf⟩
 ·rw[e];simp only[eq_self,alF,au,sS];exact⟨G.length,G,rfl,akJ _,by rw[alC,hf]⟩
 ·have bj:((j:Int)== -1)=false:=akR.2 (by omega);have wj:aQ ((j:Int)+1)=((j+1:Nat):Int):=aG (by omega);rw[e];simp only[eq_self,bj,wj,au,sS];obtain⟨dst,blk,e2,h3,h4,h5⟩:=Cw p (dQ s) now (fJ s) G (by omega) g2 (G.length-(j+1)) (j+1) j G (by omega) (by omega) rfl hf.symm rfl;rw[e2];have c1:decide ((0:Int)≤(dst:Int))=true:=ak7 (by omega);have c2:decide (dst≤blk.length∧blk.length≤blk.length)=true:=ak7 ⟨by omega,akJ _⟩;have c3:decide (dst+(blk.length-dst)≤blk.length)=true:=ak7 (by omega);have hz:∀z:bF,(cu blk dst (List.replicate (blk.length-dst) z)).length=blk.length:=fun z=>FE blk z dst (by omega)
  have c4:∀z:bF,decide (0≤dst∧dst≤(cu blk dst (List.replicate (blk.length-dst) z)).length)=true:=fun z=>ak7 ⟨alj _,by rw[hz];omega⟩
  have c5:∀z:bF,decide ((cu blk dst (List.replicate (blk.length-dst) z)).length=G.length)=true:=fun z=>ak7 (by rw[hz];omega)
  simp only[c1,c2,c3,c4,c5,akA,eq_self,au,sS];exact⟨dst,_,rfl,by rw[hz];omega,(Cq blk _ dst (by omega)).trans h5⟩
structure VI(p:bX)(s:InT):Prop where
 iy:rH p=0
 now:0≤dw s∧dw s≤8589934592
 len:(bB s).length≤64
 R7:J2 (dQ s)=0
 next:1≤fJ s
 ids:∀x∈dQ s,x.1<fJ s
 tX:yg (yP p (dw s)) none (bB s)=true
theorem JI{p:bX}{s:InT}:xR p s=true↔VI p s:=by
 unfold xR inst;simp only[akS,alr,alm];exact⟨fun⟨a,b,c,d,e,f,g⟩=>⟨a,b,c,d,e,f,g⟩,fun h=>⟨h.iy,h.now,h.len,h.R7,h.next,h.ids,h.tX⟩⟩
theorem VI.jA{p:bX}{s:InT}(h:VI p s)(hp:wW p)(hs:w9 s):KT p (bB s):=by
 intro g hg;obtain⟨hv,_⟩:=hs.tX g hg;obtain⟨q,hb⟩:=DU h.tX g hg;unfold yP at hb;simp only[al4,alL]at hb;obtain⟨r,hr⟩:=MF hv hb.1;exact⟨hv,r,hr,F8 hp.rt (iD h.iy).1 r (akC hr)⟩
theorem VI.tk{p:bX}{s:InT}(h:VI p s)(hp:wW p)(hs:w9 s){now:Int}(hn:0≤now∧now≤8589934592):TR p s now:=
 ⟨by have:=h.len;omega,h.jA hp hs,hs.R7,hp.rs,⟨(iD h.iy).2.2.1,(iD h.iy).2.2.2⟩,hn⟩
theorem acJ(s:InT)(t:Int):m67 ((s,t,()),())=some ((KD (dw s) t,()),()):=by
 unfold m67 KD;by_cases h1:t<s.1
 ·simp[h1]
 ·by_cases h2:t>8589934592<;>simp[h1,h2]
theorem wN{now t:Int}(h:KD now t=0)(h0:0≤now):0≤t∧t≤8589934592∧now≤t:=by
 unfold KD at h;split at h
 ·cases h
 ·split at h
  ·cases h
  ·omega
abbrev LG(a:bF)(rt:Int)(k:ByteArray):Prop:=a.1<rt∨(a.1=rt∧Lt a.2.1 k)
theorem yO{a:bF}{rt:Int}{k:ByteArray}:jS a rt k=true↔LG a rt k:=by
 unfold jS LG Lt;simp
theorem F4{a b:bF}{rt:Int}{k:ByteArray}(h:LG a b.1 b.2.1)(h2:LG b rt k):LG a rt k:=by
 rcases h with h|⟨h,h'⟩<;>rcases h2 with h2|⟨h2,h2'⟩
 ·exact .inl (by omega)
 ·exact .inl (by omega)
 ·exact .inl (by omega)
 ·exact .inr ⟨by omega,lt_trans h' h2'⟩
theorem Qj{a:bF}:¬ LG a a.1 a.2.1:=by
 rintro(h|⟨_,h⟩)
 ·omega
 ·exact lQ _ h
def Gv(gs:List bF):Prop:=gs.Pairwise fun a b=>LG a b.1 b.2.1
theorem tF{p:bX}{now:Int}:∀{gs:List bF} {q:Option bF},yg (yP p now) q gs=true→Gv gs∧∀a,q=some a→∀b∈gs,LG a b.1 b.2.1
 | [],_,_=>⟨List.Pairwise.nil,fun _ _ b hb=>by cases hb⟩
 |g::r,q,h=>by
  unfold yg at h;rw[akS]at h;obtain⟨h1,h2⟩:=h;obtain⟨u1,u2⟩:=tF h2;have h1:yP p now q g=false:=by simpa using h1
  refine⟨alX.2 ⟨u2 g rfl,u1⟩,fun a ha b hb=> ?_⟩;subst ha;unfold yP at h1;simp only[al4,Bool.not_eq_false']at h1;have hag:=yO.1 h1.2.2.1;rcases als.1 hb with rfl|hb
  ·exact hag
  ·exact F4 hag (u2 g rfl b hb)
def iH(rt:Int)(k:ByteArray):List bF→Nat
 | []=>0
 |g::r=>if jS g rt k=true then iH rt k r+1 else 0
def zm(rt:Int)(k:ByteArray)(gs:List bF):Bool:=match gs[iH rt k gs]? with|some g=>decide (g.1=rt)&&decide (g.2.1=k)|none=>false
theorem J4(rt:Int)(k:ByteArray):∀gs:List bF,iH rt k gs≤gs.length
 | []=>akJ _
 |g::r=>by
  unfold iH;split
  ·have:=J4 rt k r;simp;omega
  ·exact alj _
theorem Kw{rt:Int}{k:ByteArray}:∀{gs:List bF} {i:Nat},i≤gs.length→(∀(j:Nat) g,j<i→gs[j]?=some g→jS g rt k=true)→(∀(j:Nat) g,i≤j→gs[j]?=some g→jS g rt k=false)→iH rt k gs=i
 | [],i,h,_,_=>by simp at h;subst h;rfl
 |g::r,0,_,_,h2=>by
  unfold iH;rw[if_neg (by rw[h2 0 g (akJ _) rfl];simp)]
 |g::r,i+1,h,h1,h2=>by
  unfold iH;rw[if_pos (h1 0 g (by omega) rfl),Kw (i:=i) (by simpa using h) (fun j x hj hx=>h1 (j+1) x (by omega) (by simpa using hx)) (fun j x hj hx=>h2 (j+1) x (by omega) (by simpa using hx))]
theorem Il{rt:Int}{k:ByteArray}:∀{gs:List bF} {j:Nat} {g:bF},j<iH rt k gs→gs[j]?=some g→jS g rt k=true
 | [],j,g,h,_=>by simp[iH]at h
 |x::r,j,g,h,hg=>by
  unfold iH at h;split at h
  ·rename_i hx
   cases j with
   |zero=>simp at hg;subst hg;exact hx
   |succ j=>exact Il (gs:=r) (j:=j) (by omega) (by simpa using hg)
  ·omega
theorem Q7{rt:Int}{k:ByteArray}:∀{gs:List bF} {g:bF},gs[iH rt k gs]?=some g→jS g rt k=false
 | [],g,h=>by simp at h
 |x::r,g,h=>by
  unfold iH at h;split at h
  ·exact Q7 (gs:=r) (by simpa using h)
  ·rename_i hx;simp at h;subst h;simpa using hx
theorem OJ(a:bF)(rt:Int)(k:ByteArray):(rz a rt k==0)=(decide (a.1=rt)&&decide (a.2.1=k)):=by
 unfold rz;by_cases h:a.1=rt
 ·rw[if_pos h,ak7 h,alq];by_cases hk:a.2.1=k
  ·rw[wG.2 hk,ak7 hk];rfl
  ·rw[ak9 hk];exact akR.2 (fun e=>hk (wG.1 e))
 ·rw[if_neg h,ak9 h,alH];exact akR.2 (by omega)
def GSm(gs:List bF):Prop:=∀g∈gs,0≤g.1∧g.1≤1048576
theorem bsearch(gs:List bF)(hl:gs.length≤1000)(hs:GSm gs)(hu:Gv gs)(rt:Int)(hr:0≤rt∧rt≤1048576)(k:ByteArray):
  aB rX ((k,(gs.length:Int),0,(gs.length:Int),()),gs,(rt,()),())=some ((k,(iH rt k gs:Int),(gs.length:Int),()),gs,(rt,()),()):=by
 have hup:=List.pairwise_iff_getElem.1 hu
 have mono:∀(a b:Nat) (x y:bF),gs[a]?=some x→gs[b]?=some y→a≤b→jS x rt k=false→jS y rt k=false:=by
  intro a b x y ha hb hab hx;by_cases e:a=b
  ·subst e;rw[ha]at hb;injection hb with hb;subst hb;exact hx
  ·obtain⟨h1,h1'⟩:=ak8.1 ha;obtain⟨h2,h2'⟩:=ak8.1 hb;have:=hup a b h1 h2 (by omega);rw[h1',h2']at this;cases hy:jS y rt k
   ·rfl
   ·rw[yO.2 (F4 this (yO.1 hy))]at hx;cases hx
 have go:∀(d lo hi:Nat),hi-lo≤d→lo≤hi→hi≤gs.length→(∀(j:Nat) g,j<lo→gs[j]?=some g→jS g rt k=true)→(∀(j:Nat) g,hi≤j→gs[j]?=some g→jS g rt k=false)→
   aB rX ((k,(hi:Int),(lo:Int),(gs.length:Int),()),gs,(rt,()),())=some ((k,(iH rt k gs:Int),(gs.length:Int),()),gs,(rt,()),()):=by
  intro d
  induction d with
  |zero=>
   intro lo hi h0 h1 h2 h3 h4;have:lo=hi:=by omega
   subst this;rw[Kw h2 h3 h4];refine aA ?_;simp only[rX,fH,au,sS]
  |succ d ih=>
   intro lo hi h0 h1 h2 h3 h4;by_cases hlt:lo<hi
   ·have hm:=half lo hi (by omega);have hmid:(lo+hi)/ 2<gs.length:=by omega
    obtain⟨e,he⟩:=getD_some hmid;have dl:decide ((lo:Int)<(hi:Int))=true:=ak7 (by omega);have d1:decide ((0:Int)≤1)=true:=rfl;have d2:decide ((0:Int)≤(((lo+hi)/ 2:Nat):Int)∧(((lo+hi)/ 2:Nat):Int)<(gs.length:Int))=true:=ak7 (by omega);have hw:aQ ((((lo+hi)/ 2:Nat):Int)+1)=(((lo+hi)/ 2+1:Nat):Int):=aG (by omega);have q:=Pp e rt k (hs e (akC he)) hr;cases hc:jS e rt k
    ·have dc:decide (rz e rt k<0)=false:=by rw[Bh,hc]
     rw[←ih lo ((lo+hi)/ 2) (by omega) (by omega) (by omega) h3 (fun j m hj hjm=>mono _ j e m he hjm hj hc)];refine aD ?_;simp only[rX,dl,d1,hm,d2,akA,he,q,dc,au,sS]
    ·have dc:decide (rz e rt k<0)=true:=by rw[Bh,hc]
     rw[←ih ((lo+hi)/ 2+1) hi (by omega) (by omega) h2 (fun j m hj hjm=>by
      cases hx:jS m rt k
      ·exact absurd (mono j _ m e hjm he (by omega) hx) (by rw[hc];simp)
      ·rfl) h4]
     refine aD ?_;simp only[rX,dl,d1,hm,d2,akA,he,q,dc,hw,au,sS]
   ·have:lo=hi:=by omega
    subst this;rw[Kw h2 h3 h4];refine aA ?_;simp only[rX,fH,au,sS]
 exact go _ 0 gs.length (akJ _) (alj _) (akJ _) (fun j m hj=>by omega) (fun j m hj hjm=>by
  have:=(ak8.1 hjm).1;omega)
def newG(rt:Int)(k:ByteArray):bF:=(rt,k,[],-1,-1,())
def xJ(p:bX)(a:rD)(i:Nat):ByteArray:=xZ (oz p i) a.2.1
def Tm(p:bX)(a:rD)(gs:List bF)(i:Nat):List bF:=
 if zm i (xJ p a i) gs=true then gs else gs.take (iH i (xJ p a i) gs)++ [newG i (xJ p a i)]++gs.drop (iH i (xJ p a i) gs)
def UH(p:bX)(a:rD)(gs:List bF)(i:Nat):Int×OB×List bS:=
 ji (((Tm p a gs i)[iH i (xJ p a i) gs]?).getD (newG 0 ByteArray.empty)) (oz p i) a.2.1 a.2.2.1 a.1
def xI(p:bX)(a:rD)(gs:List bF)(i:Nat):Option (List bF):=
 if zm i (xJ p a i) gs=false∧a.2.2.1=false then some gs
 else if(UH p a gs i).1≠0 then none else some ((Tm p a gs i).set (iH i (xJ p a i) gs) (tX (UH p a gs i).2.1 (UH p a gs i).2.2))
theorem Pg{rt:Int}(k:ByteArray)(h:0≤rt):VG (newG rt k):=⟨alj _,h,⟨by show(-1:Int)≤ -1;omega,by show(-1:Int)≤8589934592;omega⟩,⟨by show(-1:Int)≤ -1;omega,by show(-1:Int)≤8589934592;omega⟩,fun m hm=>(by cases hm),List.Pairwise.nil⟩
structure xX(p:bX)(gs:List bF)(n:Nat):Prop where
 jA:KT p gs
 up:Gv gs
 len:gs.length≤n
theorem xX.small{p:bX}{gs:List bF}{n:Nat}(h:xX p gs n)(hp:p.1.length≤24):GSm gs:=by
 intro g hg;obtain⟨hv,r,hr,_⟩:=h.jA g hg;have h1:=hv.rt;have:=(ak8.1 hr).1;exact⟨h1,by omega⟩
theorem JB(p:bX)(a:rD)(gs:List bF)(i:Nat):∃g,(Tm p a gs i)[iH i (xJ p a i) gs]?=some g∧g.1=i∧g.2.1=xJ p a i∧(g∈gs∨g=newG i (xJ p a i)):=by
 unfold Tm;cases hh:zm i (xJ p a i) gs
 ·rw[if_neg (by simp)];refine⟨newG i (xJ p a i),?_,rfl,rfl,.inr rfl⟩;have hle:=J4 i (xJ p a i) gs;rw[ale,akL (by rw[akT];omega),akT,show iH i (xJ p a i) gs-min (iH i (xJ p a i) gs) gs.length=0 by omega];rfl
 ·rw[if_pos rfl];unfold zm at hh
  cases hg:gs[iH i (xJ p a i) gs]? with
  |none=>rw[hg]at hh;cases hh
  |some g=>
   rw[hg]at hh;simp only[akS,alr]at hh;exact⟨g,rfl,hh.1,hh.2,.inl (akC hg)⟩
theorem Gj{g:bF}{r:dx}{l:List LT}{on:Bool}{t:Int}(h:(ji g r l on t).1=0):(ji g r l on t).2.1.1=g.1∧(ji g r l on t).2.1.2.1=g.2.1:=by
 unfold ji at h ⊢;dsimp only at h ⊢;by_cases hh:hit (bR (bV l)) (aM g)=true
 ·rw[if_pos hh]at h ⊢;obtain⟨m,hm,_⟩:=tN hh;rw[hm]at h ⊢;dsimp only at h ⊢;split
  ·exact⟨rfl,rfl⟩
  ·split
   ·exact⟨rfl,rfl⟩
   ·split<;>exact⟨rfl,rfl⟩
 ·rw[if_neg hh]at h ⊢;split
  ·rename_i hon;rw[if_pos hon]at h;split
   ·rename_i hl;rw[if_pos hl]at h;cases h
   ·exact⟨rfl,rfl⟩
  ·exact⟨rfl,rfl⟩
theorem Wq{gs:List bF}(hu:Gv gs)(rt:Int)(k:ByteArray)(hh:zm rt k gs=false):Gv (gs.take (iH rt k gs)++ [newG rt k]++gs.drop (iH rt k gs)):=by
 have hu':=hu;unfold Gv at hu' ⊢;rw[ale,List.pairwise_append];rw[←alU (iH rt k gs) gs,List.pairwise_append]at hu'
 have ha:∀x∈gs.take (iH rt k gs),LG x rt k:=fun x hx=>by
  obtain⟨j,hj,rfl⟩:=List.mem_take_iff_getElem.1 hx;exact yO.1 (Il (j:=j) (by omega) (akH _))
 have hb:∀x∈gs.drop (iH rt k gs),LG (newG rt k) x.1 x.2.1:=fun x hx=>by
  have hnot:∀y,gs[iH rt k gs]?=some y→LG (newG rt k) y.1 y.2.1:=fun y hy=>by
   have h1:=Q7 hy;unfold zm at hh;rw[hy]at hh;simp only[Bool.and_eq_false_iff,alL]at hh;have h2:¬ LG y rt k:=fun h=>by rw[yO.2 h]at h1;cases h1
   unfold LG at h2 ⊢
   show rt<y.1∨(rt=y.1∧Lt k y.2.1)
   by_cases e:y.1=rt
   ·rcases hh with hh|hh
    ·exact absurd e hh
    ·rcases Kq k y.2.1 with h|h|h
     ·exact .inr ⟨e.symm,h⟩
     ·exact absurd h.symm hh
     ·exact absurd (.inr ⟨e,h⟩) h2
   ·exact .inl (by
     have:¬ y.1<rt:=fun h=>h2 (.inl h)
     omega)
  obtain⟨j,hj,rfl⟩:=List.mem_drop_iff_getElem.1 hx;have hil:iH rt k gs<gs.length:=by omega
  have h0:=hnot _ (akH hil);by_cases e:j=0
  ·subst e;exact h0
  ·have:=(List.pairwise_iff_getElem.1 hu) (iH rt k gs) (iH rt k gs+j) hil (by omega) (by omega);exact F4 h0 this
 refine⟨hu'.1,?_,fun x hx y hy=> ?_⟩
 ·rw[alV];exact alX.2 ⟨hb,hu'.2.1⟩
 ·rw[alV]at hy;rcases als.1 hy with rfl|hy
  ·exact ha x hx
  ·exact hu'.2.2 x hx y hy
theorem adV{gs:List bF}(hu:Gv gs){i:Nat}{g x:bF}(hg:gs[i]?=some g)(h1:x.1=g.1)(h2:x.2.1=g.2.1):Gv (gs.set i x):=by
 unfold Gv at hu ⊢;rw[List.pairwise_iff_getElem]at hu ⊢;obtain⟨hil,hig⟩:=ak8.1 hg
 have rd:∀(j:Nat) (hj:j<(gs.set i x).length),(gs.set i x)[j].1=(gs[j]'(by simpa using hj)).1∧(gs.set i x)[j].2.1=(gs[j]'(by simpa using hj)).2.1:=by
  intro j hj;rw[List.getElem_set];split
  ·rename_i e;subst e;rw[hig];exact⟨h1,h2⟩
  ·exact⟨rfl,rfl⟩
 intro a b ha hb hab;have:=hu a b (by simpa using ha) (by simpa using hb) hab;unfold LG at this ⊢;rw[(rd a ha).1,(rd a ha).2,(rd b hb).1,(rd b hb).2];exact this
theorem Ce{p:bX}{a:rD}{gs gs':List bF}{n i:Nat}(h:xX p gs n)(hi:∃r,p.1[i]?=some r∧RR r)(hl:bO a.2.1=true)(ht:0≤a.1∧a.1≤8589934592)(e:xI p a gs i=some gs'):xX p gs' (n+1):=by
 obtain⟨r,hr,rr⟩:=hi;unfold xI at e;split at e
 ·cases e;exact⟨h.jA,h.up,alz h.len (Nat.le_succ n)⟩
 ·split at e
  ·cases e
  ·rename_i h0;simp only[ne_eq,Decidable.not_not]at h0;cases e;obtain⟨g,hg,g1,g2,hm⟩:=JB p a gs i;have hre:oz p ((i:Nat):Int)=r:=lU (by rw[akA];exact hr)
   have hv:VG g:=by
    rcases hm with hm|rfl
    ·exact(h.jA g hm).1
    ·exact Pg _ (by omega)
   have ha:UH p a gs i=ji g r a.2.1 a.2.2.1 a.1:=by unfold UH;rw[hg,hre];rfl
   rw[ha]at h0 ⊢;obtain⟨k1,k2⟩:=Gj h0;have hx:VG (tX (ji g r a.2.1 a.2.2.1 a.1).2.1 (ji g r a.2.1 a.2.2.1 a.1).2.2):=adQ hv rr hl _ ht
   have inv:xX p (Tm p a gs i) (n+1):=by
    unfold Tm;cases hh:zm i (xJ p a i) gs
    ·rw[if_neg (by simp)];refine⟨fun x hx=> ?_,Wq h.up _ _ hh,?_⟩
     ·simp only[akU,al3]at hx;rcases hx with(hx|rfl)|hx
      ·exact h.jA x (List.mem_of_mem_take hx)
      ·exact⟨Pg _ (by omega),r,by show p.1[((i:Nat):Int).toNat]?=some r;rw[akA];exact hr,rr⟩
      ·exact h.jA x (List.mem_of_mem_drop hx)
     ·have:=h.len;simp only[akW,akT,aln,List.length_singleton];omega
    ·rw[if_pos rfl];exact⟨h.jA,h.up,alz h.len (Nat.le_succ n)⟩
   refine⟨fun x hx'=> ?_,adV inv.up hg k1 k2,by rw[al2];exact inv.len⟩;rcases mem_set hx' with hx'|rfl
   ·exact inv.jA x hx'
   ·exact⟨hx,r,by
     show p.1[((ji g r a.2.1 a.2.2.1 a.1).2.1.1).toNat]?=some r
     rw[k1,g1,akA];exact hr,rr⟩
structure O6(p:bX)(a:rD)(gs:List bF)(i:Nat):Prop where
 inv:xX p gs 1000
 rl:p.1.length≤24
 rt:∃r,p.1[i]?=some r∧RR r
 lab:bO a.2.1=true
 at':0≤a.1∧a.1≤8589934592
theorem O6.key{p:bX}{a:rD}{gs:List bF}{i:Nat}(h:O6 p a gs i){r:dx}(hr:p.1[i]?=some r)(rr:RR r):
  m69 ((r,a.2.1,()),())=some ((xJ p a i,()),())∧m20 ((r,a.2.1,()),())=some ((xJ p a i,()),()):=by
 have hre:oz p ((i:Nat):Int)=r:=lU (by rw[akA];exact hr);unfold xJ;rw[hre];exact⟨Ux r a.2.1 (o9 h.lab) rr.z.2.1,Uq r a.2.1 (o9 h.lab) rr.z.2.1⟩
theorem Qb{p:bX}{a:rD}{gs:List bF}{i:Nat}(h:O6 p a gs i)(hl:gs.length≤900)(l:List Nat)(q:Nat)(hq:l[q]?=some i)(hll:l.length≤1000)(now next:Int)(sl:List lH):
  wF (((q:Int),(l.length:Int),()),((0,0,()),()),((now,next,()),()),(a,()),(p,()),ints l,gs,sl,())=
   some (match xI p a gs i with
    |some gs'=>.inl ((((q+1:Nat):Int),(l.length:Int),()),((0,0,()),()),((now,next,()),()),(a,()),(p,()),ints l,gs',sl,())
    |none=>.inr (.inl ((5,()),((0,0,()),()),()))):=by
 obtain⟨r,hr,rr⟩:=h.rt;have hql:=(ak8.1 hq).1;have hil:=(ak8.1 hr).1;have hrl:=h.rl;have il:(ints l).length=l.length:=by simp[ints]
 have hqi:(ints l)[((q:Int)).toNat]?=some (i:Int):=by rw[akA];simp[ints,hq]
 have b1:decide ((0:Int)≤(q:Int)∧(q:Int)<((ints l).length:Int))=true:=ak7 (by rw[il];omega);have hw:=aG (i:=q) (by omega);have hk:=(h.key hr rr).1;have hbs:=bsearch gs (by omega) (h.inv.small h.rl) h.inv.up (i:Int) ⟨by omega,by omega⟩ (xJ p a i);obtain⟨g,hg,g1,g2,hm⟩:=JB p a gs i;have hre:oz p ((i:Nat):Int)=r:=lU (by rw[akA];exact hr)
 have hv:VG g:=by
  rcases hm with hm|rfl
  ·exact(h.inv.jA g hm).1
  ·exact Pg _ (by omega)
 have hadd:=afJ hv rr h.lab a.2.2.1 h.at';have ha:UH p a gs i=ji g r a.2.1 a.2.2.1 a.1:=by unfold UH;rw[hg,hre];rfl
 have hri:p.1[((i:Int)).toNat]?=some r:=by rw[akA];exact hr
 have hrow:∀{B:Type} (F:dx→Option B),qQ p.1 (i:Int) F=F r:=fun F=>jo (by omega) hri F
 have hple:=J4 (i:Int) (xJ p a i) gs;have hx0:zm i (xJ p a i) gs=match gs[iH i (xJ p a i) gs]? with|some g=>decide (g.1=(i:Int))&&decide (g.2.1=xJ p a i)|none=>false:=rfl
 have hsm:=h.inv.small h.rl;unfold xI;rw[ha];unfold Tm at hg ⊢;generalize xJ p a i=k at *;generalize hP:iH (i:Int) k gs=P at *;unfold wF;simp only[dU hql,b1,hqi,aI,hrow,au,sS];simp only[hk,hbs,au,sS]
 have key:∀{B:Type} (F:((Int×Bool×Unit)×(List bF×(Int×Unit)×Unit))→Option B),
   ((bif decide ((P:Int)<(gs.length:Int))then(bif decide ((0:Int)≤(P:Int)∧(P:Int)<(gs.length:Int))then
     (gs[((P:Int)).toNat]?).bind fun e285=>(m84 ((e285,(i:Int),k,()),())).bind fun u286=>some (((P:Int),(u286.1.1==0),()),(gs,((i:Int),()),()))
     else none)else some (((P:Int),false,()),(gs,((i:Int),()),())):Option ((Int×Bool×Unit)×(List bF×(Int×Unit)×Unit))).bind F)=F (((P:Int),zm i k gs,()),(gs,((i:Int),()),())):=by
  intro B F;rw[hx0];by_cases hpl:P<gs.length
  ·obtain⟨e,he⟩:=getD_some hpl;have d1:decide ((P:Int)<(gs.length:Int))=true:=ak7 (by omega);have d2:decide ((0:Int)≤(P:Int)∧(P:Int)<(gs.length:Int))=true:=ak7 (by omega);have q84:=Pp e (i:Int) k (hsm e (akC he)) ⟨by omega,by omega⟩;simp only[d1,d2,akA,he,q84,OJ,au,sS]
  ·have d1:decide ((P:Int)<(gs.length:Int))=false:=ak9 (by omega);rw[show gs[P]?=none from al8 (by omega)];simp only[d1,au,sS]
 rw[key];simp only[eq_self,au,sS];have hgP:(if zm (i:Int) k gs=true then gs else List.take P gs++ [newG (i:Int) k]++List.drop P gs)[((P:Int)).toNat]?=some g:=by rw[akA];exact hg
 have hlenG:P<(if zm (i:Int) k gs=true then gs else List.take P gs++ [newG (i:Int) k]++List.drop P gs).length:=(ak8.1 hg).1;have c1:∀z:bF,decide ((0:Int)≤(P:Int)∧(P:Int)≤(gs.length:Int)∧gs.length≤4294967295∧ [z].length=1)=true:=fun z=>ak7 ⟨by omega,by omega,by omega,rfl⟩
 cases hh:zm (i:Int) k gs
 ·cases hf:a.2.2.1
  ·simp only[hw,if_true,and_self,akV,au,sS]
  ·rw[hh]at hgP hlenG;simp only[akN,if_false]at hgP hlenG;have c2:decide ((0:Int)≤(P:Int)∧(P:Int)<((List.take P gs++ [newG (i:Int) k]++List.drop P gs).length:Int))=true:=ak7 (by omega);have c3:decide (P<(List.take P gs++ [newG (i:Int) k]++List.drop P gs).length)=true:=ak7 hlenG;rw[hf]at hadd;unfold newG at hgP c2 c3;rw[akA]at hgP;simp only[m72,c1,eq_self,akV,akY,Bool.true_eq_false,akN,and_false,if_false,UG,au,sS];simp only[akA,c2,c3,hgP,hrow,hf,hadd,UG,au,sS];generalize ji g r a.2.1 true a.1=X;by_cases hX:X.1=0
   ·simp only[hX,ali,ne_eq,not_true_eq_false,if_false,hw,tX,newG,au,sS]
   ·simp only[al6.2 hX,ne_eq,hX,amo,if_true,au,sS]
 ·rw[hh]at hgP hlenG;simp only[if_true]at hgP hlenG;have c2:decide ((0:Int)≤(P:Int)∧(P:Int)<(gs.length:Int))=true:=ak7 (by omega);have c3:decide (P<gs.length)=true:=ak7 hlenG;simp only[eq_self,c2,hgP,hrow,hadd,akV,akY,Bool.true_eq_false,akN,false_and,if_false,if_true,UG,au,sS];generalize ji g r a.2.1 a.2.2.1 a.1=X;by_cases hX:X.1=0
  ·simp only[hX,ali,ne_eq,not_true_eq_false,if_false,hw,c3,akA,tX,au,sS]
  ·simp only[al6.2 hX,ne_eq,hX,amo,if_true,au,sS]
def Ai(p:bX)(a:rD):List Nat→List bF→Option (List bF)
 | [],gs=>some gs
 |i::r,gs=>(xI p a gs i).bind (Ai p a r)
theorem vQ{p:bX}{a:rD}(hlab:bO a.2.1=true)(ht:0≤a.1∧a.1≤8589934592):∀{l:List Nat} {gs gs':List bF} {n:Nat},(∀i∈l,∃r,p.1[i]?=some r∧RR r)→xX p gs n→Ai p a l gs=some gs'→xX p gs' (n+l.length)
 | [],gs,gs',n,_,h,e=>by cases e;exact h
 |i::r,gs,gs',n,hl,h,e=>by
  obtain⟨g1,e1,e2⟩:=alD.1 e;have:=vQ hlab ht (fun j hj=>hl j (by simp[hj])) (Ce h (hl i (by simp)) hlab ht e1) e2;rw[alo]
  rwa [show n+1+r.length=n+(r.length+1) by omega]at this
theorem Qk{p:bX}{a:rD}(hlab:bO a.2.1=true)(ht:0≤a.1∧a.1≤8589934592)(hrl:p.1.length≤24)(l:List Nat)(hl:∀i∈l,∃r,p.1[i]?=some r∧RR r)(hll:l.length≤100)(now next:Int)(sl:List lH)(gs:List bF)(hgs:xX p gs 100):
  aB wF (((0:Int),(l.length:Int),()),((0,0,()),()),((now,next,()),()),(a,()),(p,()),ints l,gs,sl,())=
   some (match Ai p a l gs with
    |some gs'=>.inr ((),((0,0,()),()),((now,next,()),()),(p,()),gs',sl,())
    |none=>.inl ((5,()),((0,0,()),()),())):=by
 have key:∀(d q:Nat) (gs:List bF),q+d=l.length→xX p gs (100+q)→
   aB wF (((q:Int),(l.length:Int),()),((0,0,()),()),((now,next,()),()),(a,()),(p,()),ints l,gs,sl,())=
    some (match Ai p a (l.drop q) gs with
     |some gs'=>.inr ((),((0,0,()),()),((now,next,()),()),(p,()),gs',sl,())
     |none=>.inl ((5,()),((0,0,()),()),())):=by
  intro d
  induction d with
  |zero=>
   intro q gs hq h;obtain rfl:q=l.length:=by omega
   rw[al7];refine aA ?_;simp only[wF,fH,Ai,au,sS]
  |succ d ih=>
   intro q gs hq h;obtain⟨i,hi,hd⟩:=drop_at (l:=l) (i:=q) (by omega);have hir:=hl i (akC hi);have hlen:=h.len;have st:=Qb (p:=p) (a:=a) (gs:=gs) (i:=i) ⟨⟨h.jA,h.up,by omega⟩,hrl,hir,hlab,ht⟩ (by omega) l q hi (by omega) now next sl;rw[hd];unfold Ai
   cases hs:xI p a gs i with
   |none=>
    rw[hs]at st;exact aA st
   |some gs'=>
    rw[hs]at st;rw[aD st];exact ih (q+1) gs' (by omega) (by have:=Ce h hir hlab ht hs;rwa [show 100+q+1=100+(q+1) by omega]at this)
 have:=key l.length 0 gs (by omega) hgs;rw[alg]at this;exact this
theorem Ol:R5=qO:=rfl
theorem M8:QD=wB:=rfl
abbrev mD:InT:=(0,[],[],0,())
def dD(p:bX)(s:InT)(a:rD):Int×InT:=
 if xR p s=false∨bO a.2.1=false then(8,mD)else if KD (dw s) a.1≠0 then(KD (dw s) a.1,mD)
 else match Ai p a (gB p.1 a.2.1) (bB s)with
  |none=>(5,mD)
  |some gs=>if(ja p a.1 gs).length>64 then(5,mD)else(0,(a.1,ja p a.1 gs,dQ s,fJ s,()))
theorem zh{p:bX}(hp:wW p)(h:jX p.1=0)(x:List LT):(∀i∈gB p.1 x,∃r,p.1[i]?=some r∧RR r)∧(gB p.1 x).length≤24:=by
 have hl:=wH h;have tok:=Po h;unfold gB;split
 ·have hf:=fun j (hj:j∈cZ p.1 x 400 0)=>(found tok hj).1
  refine⟨fun i hi=> ?_,?_⟩
  ·have:=hf i hi;exact⟨p.1[i],akH this,F8 hp.rt h _ (List.getElem_mem this)⟩
  ·have hnd:=Dp tok x 400 0 (by omega) tok.pos
   have hp2:(cZ p.1 x 400 0).Perm ((List.range p.1.length).filter fun j=>decide (j∈cZ p.1 x 400 0)):=
    (List.perm_ext_iff_of_nodup hnd (List.nodup_range.filter _)).2 fun j=>by
     simp only[amd,amr,alr];exact⟨fun hj=>⟨hf j hj,hj⟩,fun hj=>hj.2⟩
   have h1:=hp2.length_eq;have h2:=alZ (fun j=>decide (j∈cZ p.1 x 400 0)) (List.range p.1.length);rw[List.length_range]at h2;omega
 ·exact⟨fun i hi=>(by cases hi),alj _⟩
def afA(V:Int×InT)(o:Option ((Int×Unit)×((Int×(Nat×Nat)×Int×Unit)×Unit)×List bF×List lH×Unit)):Prop:=
 ∃(n:Nat) (blk:List bF),o=some ((V.1,()),((V.2.1,(0,n),V.2.2.2.2.1,()),()),blk,V.2.2.2.1,())∧n≤blk.length∧blk.take n=V.2.2.1
theorem YK{p:bX}(hp:wW p){s:InT}(hs:w9 s)(a:rD)(ha:IV a.2.1):afA (dD p s a) (m27 ((p,s,a,()),())):=by
 have q1:=adu p hp s hs;have q2:=BG a.2.1 ha;have q3:=acJ s a.1;unfold dD;cases hv:xR p s
 ·rw[if_pos (.inl rfl)];rw[hv]at q1;unfold m27;simp only[q1,au,sS];exact⟨0,[],rfl,akJ _,rfl⟩
 cases hlab:bO a.2.1
 ·rw[if_pos (.inr rfl)];rw[hv]at q1;rw[hlab]at q2;unfold m27;simp only[q1,q2,au,sS];exact⟨0,[],rfl,akJ _,rfl⟩
 rw[if_neg (by simp)];rw[hv]at q1;rw[hlab]at q2;have h:=JI.1 hv;by_cases hc:KD (dw s) a.1=0
 ·rw[if_neg (by simpa using hc)];rw[hc]at q3;obtain⟨n0,n1,n2⟩:=wN hc h.now.1;have hck:=(iD h.iy).1;have jA:=h.jA hp hs;obtain⟨f1,f2⟩:=zh hp hck a.2.1;have hl:=h.len;have q4:=IA s (by omega) (fun g hg=>(jA g hg).1) hs.R7;have q5:=ado p.1 hp.rt a.2.1 ha;have inv0:xX p (bB s) 64:=⟨jA,(tF h.tX).1,hl⟩
  have q6:=Qk hlab ⟨n0,n1⟩ (wH hck) (gB p.1 a.2.1) f1 (by omega) a.1 (fJ s) (dQ s) (bB s) ⟨jA,(tF h.tX).1,by omega⟩;have il:((ints (gB p.1 a.2.1)).length:Int)=((gB p.1 a.2.1).length:Int):=by simp[ints]
  unfold m27;simp only[q1,q2,q3,q4,q5,ali,il,au,sS];rw[q6]
  cases hr:Ai p a (gB p.1 a.2.1) (bB s)with
  |none=>exact⟨0,[],rfl,akJ _,rfl⟩
  |some gs=>
   have inv:=vQ hlab ⟨n0,n1⟩ f1 inv0 hr;have g2:=inv.jA;have l2:=inv.len;simp only[Ol,M8,au,sS];have big64:∀n:Nat,n=(ja p a.1 gs).length→decide (((n:Nat):Int)>64)=decide ((ja p a.1 gs).length>64):=fun n hn=>alM.2 (by omega)
   rcases FJ p (dQ s) a.1 (fJ s) gs (by omega) g2 with⟨e,hf⟩|⟨j,hj,e,hf⟩
   ·rw[e];simp only[eq_self,alF,big64 gs.length (by rw[hf]),au,sS];by_cases hb:(ja p a.1 gs).length>64
    ·rw[if_pos hb];simp only[hb,alR,au,sS];exact⟨0,[],rfl,akJ _,rfl⟩
    ·rw[if_neg hb];simp only[hb,alY,au,sS];exact⟨gs.length,gs,rfl,akJ _,by rw[alC];exact hf.symm⟩
   ·have bj:((j:Int)== -1)=false:=akR.2 (by omega);have wj:aQ ((j:Int)+1)=((j+1:Nat):Int):=aG (by omega);rw[e];simp only[eq_self,bj,wj,au,sS];obtain⟨dst,blk,e2,h3,h4,h5⟩:=Cw p (dQ s) a.1 (fJ s) gs (by omega) g2 (gs.length-(j+1)) (j+1) j gs (by omega) (by omega) rfl hf.symm rfl;rw[e2];have c1:decide ((0:Int)≤(dst:Int))=true:=ak7 (by omega);have c2:decide (dst≤blk.length∧blk.length≤blk.length)=true:=ak7 ⟨by omega,akJ _⟩;have c3:decide (dst+(blk.length-dst)≤blk.length)=true:=ak7 (by omega);have hz:∀z:bF,(cu blk dst (List.replicate (blk.length-dst) z)).length=blk.length:=fun z=>FE blk z dst (by omega)
    have c4:∀z:bF,decide (0≤dst∧dst≤(cu blk dst (List.replicate (blk.length-dst) z)).length)=true:=fun z=>ak7 ⟨alj _,by rw[hz];omega⟩
    have c5:∀z:bF,decide ((cu blk dst (List.replicate (blk.length-dst) z)).length=gs.length)=true:=fun z=>ak7 (by rw[hz];omega)
    have hd:dst=(ja p a.1 gs).length:=by
     have:=congrArg List.length h5;rw[akT]at this;omega
    simp only[c1,c2,c3,c4,c5,akA,eq_self,big64 dst hd,au,sS];by_cases hb:(ja p a.1 gs).length>64
    ·rw[if_pos hb];simp only[hb,alR,au,sS];exact⟨0,[],rfl,akJ _,rfl⟩
    ·rw[if_neg hb];simp only[hb,alY,au,sS];exact⟨dst,_,rfl,by rw[hz];omega,(Cq blk _ dst (by omega)).trans h5⟩
 ·rw[if_pos hc];unfold m27;simp only[q1,q2,q3,al6.2 hc,au,sS];exact⟨0,[],rfl,akJ _,rfl⟩
end Go.Proofs.YtchnmpafhfjimaaGreatDoor
namespace Go.Proofs.YtchnmpafhfjimaaGreatDoor
open Go Go.Abs
end Go.Proofs.YtchnmpafhfjimaaGreatDoor
namespace Go.Proofs.YtchnmpafhfjimaaGreatDoor
open Go Go.Abs
end Go.Proofs.YtchnmpafhfjimaaGreatDoor
namespace Go.Proofs.YtchnmpafhfjimaaGreatDoor
open Go Go.Abs
def o5(p:bX)(g:bF):Prop:=∀m∈aM g,xZ (oz p g.1) (cB m)=g.2.1
theorem Qr{p:bX}{g:bF}{r:dx}(h:p.1[g.1.toNat]?=some r)(m:bS):Kh p.1 g m=xZ (oz p g.1) (cB m):=by
 unfold Kh;rw[h,lU h]
theorem QI{p:bX}{now:Int}{q:Option bF}{g:bF}{r:dx}(h:p.1[g.1.toNat]?=some r):yP p now q g=false↔g.1<(p.1.length:Int)∧jG p.1 now g=false∧(∀a,q=some a→LG a g.1 g.2.1)∧o5 p g:=by
 unfold yP
 cases q with
 |none=>
  simp only[al4,alL,Bool.not_eq_false',alm,alr,Qr h];exact⟨fun⟨a,b,_,d⟩=>⟨by omega,b,fun _ e=>(by cases e),d⟩,fun⟨a,b,_,d⟩=>⟨by omega,b,trivial,d⟩⟩
 |some x=>
  simp only[al4,alL,Bool.not_eq_false',alm,alr,Qr h];exact⟨fun⟨a,b,c,d⟩=>⟨by omega,b,fun _ e=>(by cases e;exact yO.1 c),d⟩,fun⟨a,b,c,d⟩=>⟨by omega,b,yO.2 (c x rfl),d⟩⟩
theorem Uz{p:bX}{now:Int}:∀{gs:List bF} {q:Option bF},KT p gs→Gv gs→(∀a,q=some a→∀b∈gs,LG a b.1 b.2.1)→(∀g∈gs,jG p.1 now g=false∧o5 p g)→yg (yP p now) q gs=true
 | [],_,_,_,_,_=>rfl
 |g::r,q,h,hu,hq,hk=>by
  obtain⟨u1,u2⟩:=alX.1 hu;obtain⟨hv,rt,hr,rr⟩:=h g (by simp);have hlt:=(ak8.1 hr).1;have h1:=hv.rt;unfold yg;rw[akS];refine⟨?_,Uz (fun x hx=>h x (by simp[hx])) u2 (fun a ha b hb=>by cases ha;exact u1 b hb) (fun x hx=>hk x (by simp[hx]))⟩;rw[amf,QI hr];exact⟨by omega,(hk g (by simp)).1,fun a ha=>hq a ha g (by simp),(hk g (by simp)).2⟩
theorem FB{p:bX}{now:Int}{gs:List bF}(hg:KT p gs)(h:yg (yP p now) none gs=true):∀g∈gs,o5 p g:=by
 intro g hg';obtain⟨q,hb⟩:=DU h g hg';obtain⟨_,r,hr,_⟩:=hg g hg';exact((QI hr).1 hb).2.2.2
theorem Gv.map{gs:List bF}(h:Gv gs)(f:bF→bF)(hf:∀g,(f g).1=g.1∧(f g).2.1=g.2.1):Gv (gs.map f):=by
 unfold Gv at h ⊢;refine List.pairwise_map.2 (h.imp fun {a b} hab=> ?_);unfold LG at hab ⊢;rw[(hf a).1,(hf a).2,(hf b).1,(hf b).2];exact hab
theorem Gv.sub{gs l:List bF}(h:Gv gs)(hs:l.Sublist gs):Gv l:=List.Pairwise.sublist hs h
theorem Iq(p:bX)(now:Int)(gs:List bF):(ja p now gs).Sublist gs:=List.filter_sublist
theorem nH{p:bX}{now:Int}{gs:List bF}{g:bF}(h:g∈ja p now gs):g∈gs∧jG p.1 now g=false:=by
 obtain⟨a,b⟩:=amd.1 h;exact⟨a,by simpa using b⟩
theorem NZ{p:bX}{s:InT}(h:VI p s){now:Int}(hn:0≤now∧now≤8589934592){gs:List bF}(hg:KT p gs)(hu:Gv gs)(hk:∀g∈gs,o5 p g)(hl:(ja p now gs).length≤64):
  VI p (now,ja p now gs,dQ s,fJ s,()):=
 ⟨h.iy,hn,hl,h.R7,h.next,h.ids,Uz (fun g hg'=>hg g (nH hg').1) (hu.sub (Iq p now gs)) (fun _ ha=>by cases ha) (fun g hg'=>⟨(nH hg').2,hk g (nH hg').1⟩)⟩
theorem zq(se wa ir t a:Int):∀(rem kept:List bS) (du:Int),∀m∈(jU se wa ir t a kept du rem).1,∃x∈kept++rem,cB x=cB m
 | [],kept,du,m,hm=>⟨m,by simpa[jU]using hm,rfl⟩
 |y::r,kept,du,m,hm=>by
  unfold jU at hm;split at hm
  ·split at hm
   ·obtain⟨x,hx,e⟩:=zq se wa ir t a r _ _ m hm;simp only[akU,al3]at hx;rcases hx with(hx|rfl)|hx
    ·exact⟨x,by simp[hx],e⟩
    ·exact⟨y,by simp,e⟩
    ·exact⟨x,by simp[hx],e⟩
   ·obtain⟨x,hx,e⟩:=zq se wa ir t a r _ _ m hm;simp only[akU]at hx;rcases hx with hx|hx
    ·exact⟨x,by simp[hx],e⟩
    ·exact⟨x,by simp[hx],e⟩
  ·obtain⟨x,hx,e⟩:=zq se wa ir t a r _ _ m hm;simp only[akU,al3]at hx;rcases hx with(hx|rfl)|hx
   ·exact⟨x,by simp[hx],e⟩
   ·exact⟨x,by simp,e⟩
   ·exact⟨x,by simp[hx],e⟩
theorem o5.of{p:bX}{g g':bF}(h:o5 p g)(h1:g'.1=g.1)(h2:g'.2.1=g.2.1)(hm:∀m∈aM g',∃x∈aM g,cB x=cB m):o5 p g':=by
 intro m hm';obtain⟨x,hx,e⟩:=hm m hm';rw[h1,h2,←e];exact h x hx
theorem QU(p:bX)(now:Int)(g:bF):∀m∈aM (BL p now g),∃x∈aM g,cB x=cB m:=by
 intro m hm;unfold BL Hr at hm;split at hm
 ·exact⟨m,hm,rfl⟩
 ·obtain⟨x,hx,e⟩:=zq _ _ _ _ _ _ _ _ m hm;exact⟨x,by simpa using hx,e⟩
theorem V5(p:bX)(sl:List lH)(now:Int)(fs:List (List LT))(g:bF):∀m∈aM (o8 p sl now fs g),∃x∈aM g,cB x=cB m:=by
 intro m hm;unfold o8 qb oM at hm;split at hm
 ·exact⟨m,hm,rfl⟩
 ·dsimp only at hm;split at hm
  ·obtain⟨x,hx,_,e⟩:=DV.1 hm;exact⟨x,hx,by rw[e];rfl⟩
  ·exact⟨m,hm,rfl⟩
theorem ZQ{p:bX}(hp:wW p){s:InT}(hs:w9 s)(h:VI p s){now:Int}(hn:0≤now∧now≤8589934592):VI p (Dj p s now):=by
 have tk:=h.tk hp hs hn;have jA:=h.jA hp hs;have hk:=FB jA h.tX;have g2:=Av tk;refine NZ h hn g2 (((tF h.tX).1.map _ (rP p now)).map _ (kQ p _ now _)) (fun g hg=> ?_) ?_
 ·unfold AA jP at hg;simp only[al9]at hg;obtain⟨g1,⟨g0,hg0,rfl⟩,rfl⟩:=hg;exact((hk g0 hg0).of (rP p now g0).1 (rP p now g0).2 (QU p now g0)).of (kQ p _ now _ _).1 (kQ p _ now _ _).2 (V5 p _ now _ _)
 ·have h1:=(Iq p now (AA p s now)).length_le;have h2:(AA p s now).length=(bB s).length:=(akD ..).trans (akD ..);have:=h.len;omega
theorem Zc(g:bF)(r:dx)(l:List LT)(on:Bool)(t:Int):∀m∈(ji g r l on t).2.2,(∃x∈aM g,cB x=cB m)∨cB m=l:=by
 intro m hm;unfold ji at hm;dsimp only at hm;by_cases hh:hit (bR (bV l)) (aM g)=true
 ·rw[if_pos hh]at hm;obtain⟨y,hy,_⟩:=tN hh;rw[hy]at hm;dsimp only at hm;have hym:=akC hy
  have set_case:∀z:bS,cB z=cB y→m∈(aM g).set (pos (bR (bV l)) (aM g)) z→(∃x∈aM g,cB x=cB m)∨cB m=l:=by
   intro z hz hmz;rcases mem_set hmz with hmz|rfl
   ·exact .inl ⟨m,hmz,rfl⟩
   ·exact .inl ⟨y,hym,hz.symm⟩
  split at hm
  ·exact set_case (vD y t) rfl hm
  ·split at hm
   ·exact set_case (stepM (vD y t) true t) rfl hm
   ·split at hm
    ·exact set_case (stepM (vD y t) false t) rfl hm
    ·rcases akU.1 hm with hm|hm
     ·exact .inl ⟨m,List.mem_of_mem_take hm,rfl⟩
     ·exact .inl ⟨m,List.mem_of_mem_drop hm,rfl⟩
 ·rw[if_neg hh]at hm;split at hm
  ·split at hm
   ·cases hm
   ·simp only[akU,al3]at hm;rcases hm with(hm|rfl)|hm
    ·exact .inl ⟨m,List.mem_of_mem_take hm,rfl⟩
    ·exact .inr rfl
    ·exact .inl ⟨m,List.mem_of_mem_drop hm,rfl⟩
  ·exact .inl ⟨m,hm,rfl⟩
theorem TH{p:bX}{a:rD}{gs gs':List bF}{i:Nat}(hk:∀g∈gs,o5 p g)(e:xI p a gs i=some gs'):∀g∈gs',o5 p g:=by
 unfold xI at e;split at e
 ·cases e;exact hk
 ·split at e
  ·cases e
  ·rename_i h0;simp only[ne_eq,Decidable.not_not]at h0;cases e;obtain⟨g,hg,g1,g2,hm⟩:=JB p a gs i;have ha:UH p a gs i=ji g (oz p (i:Int)) a.2.1 a.2.2.1 a.1:=by unfold UH;rw[hg];rfl
   have hg0:o5 p g:=by
    rcases hm with hm|rfl
    ·exact hk g hm
    ·exact fun m hm'=>by cases hm'
   rw[ha]at h0 ⊢;obtain⟨k1,k2⟩:=Gj h0;intro x hx;rcases mem_set hx with hx|rfl
   ·unfold Tm at hx;split at hx
    ·exact hk x hx
    ·simp only[akU,al3]at hx;rcases hx with(hx|rfl)|hx
     ·exact hk x (List.mem_of_mem_take hx)
     ·exact fun m hm'=>by cases hm'
     ·exact hk x (List.mem_of_mem_drop hx)
   ·intro m hm'
    show xZ (oz p (ji g (oz p (i:Int)) a.2.1 a.2.2.1 a.1).2.1.1) (cB m)=(ji g (oz p (i:Int)) a.2.1 a.2.2.1 a.1).2.1.2.1
    rw[k1,k2];rcases Zc _ _ _ _ _ m hm' with⟨y,hy,e⟩|e
    ·rw[←e];exact hg0 y hy
    ·rw[e,g1,g2];rfl
theorem Nr{p:bX}{a:rD}:∀{l:List Nat} {gs gs':List bF},(∀g∈gs,o5 p g)→Ai p a l gs=some gs'→∀g∈gs',o5 p g
 | [],gs,gs',h,e=>by cases e;exact h
 |i::r,gs,gs',h,e=>by
  obtain⟨g1,e1,e2⟩:=alD.1 e;exact Nr (TH h e1) e2
theorem UM{p:bX}(hp:wW p){s:InT}(hs:w9 s)(a:rD)(h0:(dD p s a).1=0):VI p (dD p s a).2:=by
 unfold dD at h0 ⊢;split at h0
 ·cases h0
 rename_i hv;rw[if_neg hv];simp only[not_or,Bool.not_eq_false]at hv;have h:=JI.1 hv.1;split at h0
 ·rename_i hc;exact absurd h0 hc
 rename_i hc;rw[if_neg hc];simp only[ne_eq,Decidable.not_not]at hc;obtain⟨n0,n1,n2⟩:=wN hc h.now.1;have hck:=(iD h.iy).1;have jA:=h.jA hp hs;obtain⟨f1,f2⟩:=zh hp hck a.2.1
 cases hr:Ai p a (gB p.1 a.2.1) (bB s)with
 |none=>rw[hr]at h0;cases h0
 |some gs=>
  rw[hr]at h0;simp only at h0 ⊢;have inv:=vQ hv.2 ⟨n0,n1⟩ f1 (⟨jA,(tF h.tX).1,h.len⟩:xX p (bB s) 64) hr;split at h0
  ·cases h0
  ·rename_i hl;rw[if_neg hl];exact NZ h ⟨n0,n1⟩ inv.jA inv.up (Nr (FB jA h.tX) hr) (by omega)
end Go.Proofs.YtchnmpafhfjimaaGreatDoor
namespace Go.Proofs.YtchnmpafhfjimaaGreatDoor
open Go Go.Abs
def aR(p:bX)(t:Int):Nat→InT→List fO→Int×InT×List fO×Nat
 |0,s,nt=>if(iB (bB s)).2=false∨(iB (bB s)).1≥t then(0,s,nt,0)else(5,s,nt,0)
 |k+1,s,nt=>if(iB (bB s)).2=false∨(iB (bB s)).1≥t then(0,s,nt,k+1)
  else aR p t k (Dj p s (max (iB (bB s)).1 (dw s))) (nt++sF p s (max (iB (bB s)).1 (dw s)))
theorem uE{gs:List bF}(h:∀g∈gs,VG g): -1≤(iB gs).1∧(iB gs).1≤8589934592:=by
 unfold iB
 have key:∀(l:List bF) (a:Int×Bool),(∀g∈l,VG g)→(-1≤a.1∧a.1≤8589934592)→ -1≤(l.foldl Ik a).1∧(l.foldl Ik a).1≤8589934592:=by
  intro l
  induction l with
  |nil=>intro a _ ha;exact ha
  |cons g r ih=>
   intro a hl ha;refine ih _ (fun x hx=>hl x (by simp[hx])) ?_;unfold Ik;cases (gm g != -1&&(!a.2||decide (gm g<a.1)))
   ·exact ha
   ·exact(hl g (by simp)).due
 exact key gs (0,false) h (by decide)
theorem LW(p:bX)(s:InT)(now:Int):(sF p s now).length≤(bB s).length:=by
 unfold sF
 have key:∀l:List bF,(l.flatMap (iQ p (dQ s) now (qF p s now))).length≤l.length:=by
  intro l
  induction l with
  |nil=>simp
  |cons g r ih=>
   rw[alS,akW,alo]
   have:(iQ p (dQ s) now (qF p s now) g).length≤1:=by
    unfold iQ;cases (qb p (dQ s) now (qF p s now) g).1<;>simp
   omega
 have:=key (jP p s now);rw[show(jP p s now).length=(bB s).length from akD ..]at this;exact this
theorem VI.z{p:bX}(hp:wW p){s:InT}(h:VI p s)(hg:KT p (bB s))(hs:L8 (dQ s)):w9 s:=
 ⟨by have:=h.len;omega,fun g hg'=>by
  obtain⟨hv,r,hr,_⟩:=hg g hg';have h1:=(ak8.1 hr).1;have h2:=wH (iD h.iy).1;have h3:=hv.rt;exact⟨hv,by omega⟩,hs⟩
theorem wJ{p:bX}(hp:wW p){s:InT}(hs:w9 s)(h:VI p s){now:Int}(hn:0≤now∧now≤8589934592):VI p (Dj p s now)∧w9 (Dj p s now):=by
 have hv:=ZQ hp hs h hn;have g2:=Av (h.tk hp hs hn);exact⟨hv,hv.z hp (fun g hg=>g2 g (nH hg).1) hs.R7⟩
theorem abN(a b:Int):(if a>b then a else b)=max b a:=by
 rw[Int.max_def];by_cases h:a>b
 ·rw[if_pos h,if_pos (by omega)]
 ·rw[if_neg h];by_cases h2:b≤a
  ·rw[if_pos h2];omega
  ·rw[if_neg h2]
theorem QE{p:bX}(hp:wW p)(t:Int):∀(k:Nat) (s:InT) (nt:List fO),VI p s→w9 s→k≤1000→nt.length+k*64≤4000000→∀(o n:Nat) (blk:List bF),o+n≤blk.length→(blk.drop o).take n=bB s→
  ∃(o' n':Nat) (blk':List bF) (tk:Int),aB mY ((t,()),((p.1,p.2.1,p.2.2.1,dw s,(o,n),fJ s,((1000-k:Nat):Int),()),()),blk,dQ s,nt,())=
   some (((aR p t k s nt).1,()),((p.1,p.2.1,p.2.2.1,dw (aR p t k s nt).2.1,(o',n'),fJ (aR p t k s nt).2.1,tk,()),()),blk',dQ (aR p t k s nt).2.1,(aR p t k s nt).2.2.1,())∧
   o'+n'≤blk'.length∧(blk'.drop o').take n'=bB (aR p t k s nt).2.1∧((aR p t k s nt).1=0→tk=((1000-(aR p t k s nt).2.2.2:Nat):Int)):=by
 intro k
 induction k with
 |zero=>
  intro s nt h hs hk hnt o n blk ho hb;have q:=Vf s hs.len;have c1:decide (o+n≤blk.length)=true:=ak7 ho;have w1:aQ (((1000-0:Nat):Int)+1)=1001:=bH (by decide) (by decide);unfold aR;have hs4:((dw s,bB s,dQ s,fJ s,()):InT)=s:=rfl;by_cases h1:(iB (bB s)).2=false
  ·rw[if_pos (.inl h1)];refine⟨o,n,blk,_,aA ?_,ho,hb,fun _=>rfl⟩;simp only[mY,c1,hb,hs4,q,h1,akV,au,sS]
  ·have h1':(iB (bB s)).2=true:=by simpa using h1
   by_cases h2:(iB (bB s)).1≥t
   ·rw[if_pos (.inr h2)];refine⟨o,n,blk,_,aA ?_,ho,hb,fun _=>rfl⟩;simp only[mY,c1,hb,hs4,q,h1',h2,alR,akY,au,sS]
   ·rw[if_neg (by simp[h1',h2])];refine⟨o,n,blk,1001,aA ?_,ho,hb,fun e=>by cases e⟩;have c2:decide ((1001:Int)>1000)=true:=by decide
    simp only[mY,c1,hb,hs4,q,h1',h2,w1,c2,alY,akY,au,sS]
 |succ k ih=>
  intro s nt h hs hk hnt o n blk ho hb;have q:=Vf s hs.len;have c1:decide (o+n≤blk.length)=true:=ak7 ho;have w1:aQ (((1000-(k+1):Nat):Int)+1)=((1000-k:Nat):Int):=by rw[bH (by omega) (by omega)];omega
  have c2:decide (((1000-k:Nat):Int)>1000)=false:=ak9 (by omega);have hs4:((dw s,bB s,dQ s,fJ s,()):InT)=s:=rfl;have hp4:((p.1,p.2.1,p.2.2.1,()):bX)=p:=rfl;have jA:=h.jA hp hs;have hd:=uE (fun g hg=>(jA g hg).1);have hnow:=h.now;have hl:=h.len;unfold aR;by_cases h1:(iB (bB s)).2=false
  ·rw[if_pos (.inl h1)];refine⟨o,n,blk,_,aA ?_,ho,hb,fun _=>rfl⟩;simp only[mY,c1,hb,hs4,q,h1,akV,au,sS]
  ·have h1':(iB (bB s)).2=true:=by simpa using h1
   by_cases h2:(iB (bB s)).1≥t
   ·rw[if_pos (.inr h2)];refine⟨o,n,blk,_,aA ?_,ho,hb,fun _=>rfl⟩;simp only[mY,c1,hb,hs4,q,h1',h2,alR,akY,au,sS]
   ·rw[if_neg (by simp[h1',h2])];have hn:0≤max (iB (bB s)).1 (dw s)∧max (iB (bB s)).1 (dw s)≤8589934592:=⟨by omega,by omega⟩
    obtain⟨v1,z1⟩:=wJ hp hs h hn;have hnl:=LW p s (max (iB (bB s)).1 (dw s));have tp:=ad6 (h.tk hp hs hn);unfold ED at tp;obtain⟨n',blk',e,e1,e2⟩:=tp;have mx:=abN (dw s) (iB (bB s)).1;obtain⟨o2,n2,b2,tk,r1,r2,r3,r4⟩:=ih (Dj p s (max (iB (bB s)).1 (dw s))) (nt++sF p s (max (iB (bB s)).1 (dw s))) v1 z1 (by omega) (by rw[akW];omega) 0 n' blk' (by omega) (by rw[alg];exact e2);refine⟨o2,n2,b2,tk,(aD ?_).trans r1,r2,r3,r4⟩;have c3:decide (nt.length+(sF p s (max (iB (bB s)).1 (dw s))).length≤4294967296)=true:=ak7 (by omega);simp only[mY,c1,hb,hs4,hp4,q,h1',h2,w1,c2,mx,alY,akY,au,sS];refine aP _ e ?_;simp only[c3,au,sS];rfl
theorem PE:Q5=mY:=rfl
def aW(p:bX):List rD→Nat→InT→List fO→Int×InT×List fO×Nat
 | [],k,s,nt=>(0,s,nt,k)
 |a::r,k,s,nt=>
  if(aR p a.1 k s nt).1≠0 then aR p a.1 k s nt
  else if(dD p (aR p a.1 k s nt).2.1 a).1≠0 then((dD p (aR p a.1 k s nt).2.1 a).1,s,nt,0)
  else aW p r (aR p a.1 k s nt).2.2.2 (dD p (aR p a.1 k s nt).2.1 a).2 (aR p a.1 k s nt).2.2.1
theorem qm{p:bX}(hp:wW p)(t:Int):∀(k:Nat) (s:InT) (nt:List fO),VI p s→w9 s→
  VI p (aR p t k s nt).2.1∧w9 (aR p t k s nt).2.1∧(aR p t k s nt).2.2.2≤k∧(aR p t k s nt).2.2.1.length+(aR p t k s nt).2.2.2*64≤nt.length+k*64
 |0,s,nt,h,hs=>by
  unfold aR;split<;>exact⟨h,hs,akJ _,akJ _⟩
 |k+1,s,nt,h,hs=>by
  unfold aR;split
  ·exact⟨h,hs,akJ _,akJ _⟩
  ·have jA:=h.jA hp hs;have hd:=uE (fun g hg=>(jA g hg).1);have hnow:=h.now;have hl:=h.len;obtain⟨v1,z1⟩:=wJ hp hs h (now:=max (iB (bB s)).1 (dw s)) ⟨by omega,by omega⟩;obtain⟨a,b,c,d⟩:=qm hp t k (Dj p s (max (iB (bB s)).1 (dw s))) (nt++sF p s (max (iB (bB s)).1 (dw s))) v1 z1;have hnl:=LW p s (max (iB (bB s)).1 (dw s));rw[akW]at d;exact⟨a,b,by omega,by omega⟩
theorem r9{p:bX}(hp:wW p){s:InT}(h:VI p s)(hs:w9 s)(a:rD)(h0:(dD p s a).1=0):VI p (dD p s a).2∧w9 (dD p s a).2:=by
 have hv:=UM hp hs a h0
 have hsil:dQ (dD p s a).2=dQ s∨dQ (dD p s a).2=[]:=by
  unfold dD;split
  ·exact .inr rfl
  ·split
   ·exact .inr rfl
   ·split
    ·exact .inr rfl
    ·split
     ·exact .inr rfl
     ·exact .inl rfl
 have hss:L8 (dQ (dD p s a).2):=by
  rcases hsil with e|e
  ·rw[e];exact hs.R7
  ·rw[e];exact⟨alj _,fun x hx=>by cases hx⟩
 refine⟨hv,hv.z hp ?_ hss⟩;intro g hg;have hgrp:=hv.tX;unfold dD at h0 hg;split at h0
 ·cases h0
 rename_i c1;rw[if_neg c1]at hg;simp only[not_or,Bool.not_eq_false]at c1;split at h0
 ·rename_i c2;exact absurd h0 c2
 rename_i c2;rw[if_neg c2]at hg;simp only[ne_eq,Decidable.not_not]at c2;obtain⟨n0,n1,n2⟩:=wN c2 h.now.1;have jA:=h.jA hp hs;obtain⟨f1,f2⟩:=zh hp (iD h.iy).1 a.2.1
 cases hr:Ai p a (gB p.1 a.2.1) (bB s)with
 |none=>rw[hr]at h0;cases h0
 |some gs=>
  rw[hr]at h0 hg;simp only at h0 hg;have inv:=vQ c1.2 ⟨n0,n1⟩ f1 (⟨jA,(tF h.tX).1,h.len⟩:xX p (bB s) 64) hr;split at h0
  ·cases h0
  ·rename_i hl;rw[if_neg hl]at hg;exact inv.jA g (nH hg).1
abbrev RunT:=Int×InT×List fO
def Yv(p:bX)(un:Int)(A:Int×InT×List fO×Nat):RunT:=
 if A.1≠0 then(A.1,mD,[])else if(aR p (un+1) A.2.2.2 A.2.1 A.2.2.1).1≠0 then((aR p (un+1) A.2.2.2 A.2.1 A.2.2.1).1,mD,[])
 else(0,(aR p (un+1) A.2.2.2 A.2.1 A.2.2.1).2.1,(aR p (un+1) A.2.2.2 A.2.1 A.2.2.1).2.2.1)
def xL(p:bX)(al:List rD)(un:Int):RunT:=
 if rH p≠0 then(rH p,mD,[])else if al.length>256 then(5,mD,[])else if un<0∨un>8589934592 then(1,mD,[])
 else Yv p un (aW p al 1000 (0,[],[],1,()) [])
abbrev kL:InT:=(0,[],[],1,())
theorem Es{p:bX}(h:rH p=0):VI p kL:=⟨h,⟨by decide,by decide⟩,by decide,rfl,by decide,fun x hx=>(by cases hx),rfl⟩
theorem Ml:w9 kL:=⟨by decide,fun g hg=>(by cases hg),⟨by decide,fun x hx=>(by cases hx)⟩⟩
theorem P5{p:bX}(hp:wW p)(al:List rD)(hal:al.length≤256)(hk:∀a∈al,IV a.2.1)(un:Int):∀(d i k:Nat) (s:InT) (nt:List fO),i+d=al.length→VI p s→w9 s→k≤1000→nt.length+k*64≤64000→
  ∀(o n:Nat) (blk:List bF),o+n≤blk.length→(blk.drop o).take n=bB s→
  ∃b,aB nU (((i:Int),al,un,(al.length:Int),()),((0,0,()),()),((p.1,p.2.1,p.2.2.1,dw s,(o,n),fJ s,((1000-k:Nat):Int),()),()),(p,()),blk,dQ s,nt,())=some b∧
   ((aW p (al.drop i) k s nt).1≠0→b= .inl (((aW p (al.drop i) k s nt).1,()),((0,0,()),()),[],()))∧
   ((aW p (al.drop i) k s nt).1=0→∃(o' n':Nat) (blk':List bF),b= .inr ((un,()),((0,0,()),()),((p.1,p.2.1,p.2.2.1,dw (aW p (al.drop i) k s nt).2.1,(o',n'),fJ (aW p (al.drop i) k s nt).2.1,((1000-(aW p (al.drop i) k s nt).2.2.2:Nat):Int),()),()),blk',dQ (aW p (al.drop i) k s nt).2.1,(aW p (al.drop i) k s nt).2.2.1,())∧
     o'+n'≤blk'.length∧(blk'.drop o').take n'=bB (aW p (al.drop i) k s nt).2.1):=by
 intro d
 induction d with
 |zero=>
  intro i k s nt hi h hs hk1 hnt o n blk ho hb;obtain rfl:i=al.length:=by omega
  rw[al7];refine⟨_,aA (by simp only[nU,fH,au,sS];rfl),fun e=>absurd rfl e,fun _=>⟨o,n,blk,rfl,ho,hb⟩⟩
 |succ d ih=>
  intro i k s nt hi h hs hk1 hnt o n blk ho hb;obtain⟨a,ha,hd⟩:=drop_at (l:=al) (i:=i) (by omega);have hil:i<al.length:=by omega
  have hw:=aG (i:=i) (by omega);obtain⟨o1,n1,b1,tk,q,q2,q3,q4⟩:=QE hp a.1 k s nt h hs hk1 (by omega) o n blk ho hb;obtain⟨u1,u2,u3,u4⟩:=qm hp a.1 k s nt h hs;have qa:=YK hp u2 a (hk a (akC ha));unfold afA at qa;obtain⟨n2,b2,qa,qa2,qa3⟩:=qa;have hs4:((dw (aR p a.1 k s nt).2.1,bB (aR p a.1 k s nt).2.1,dQ (aR p a.1 k s nt).2.1,fJ (aR p a.1 k s nt).2.1,()):InT)=(aR p a.1 k s nt).2.1:=rfl;have an:=r9 hp u1 u2 a
  have hE:aW p (a::al.drop (i+1)) k s nt=if(aR p a.1 k s nt).1≠0 then aR p a.1 k s nt
    else if(dD p (aR p a.1 k s nt).2.1 a).1≠0 then((dD p (aR p a.1 k s nt).2.1 a).1,s,nt,0)
    else aW p (al.drop (i+1)) (aR p a.1 k s nt).2.2.2 (dD p (aR p a.1 k s nt).2.1 a).2 (aR p a.1 k s nt).2.2.1:=rfl
  rw[hd];generalize aR p a.1 k s nt=U at q q3 q4 u1 u2 u3 u4 qa qa3 hs4 an hE;have c1:decide (o1+n1≤b1.length)=true:=ak7 q2;by_cases hU:U.1=0
  ·have htk:=q4 hU;subst htk;rw[if_neg (by simpa using hU)]at hE;by_cases hA:(dD p U.2.1 a).1=0
   ·rw[if_neg (by simpa using hA)]at hE;rw[hE];obtain⟨v1,v2⟩:=an hA;obtain⟨b,r1,r2⟩:=ih (i+1) U.2.2.2 (dD p U.2.1 a).2 U.2.2.1 (by omega) v1 v2 (by omega) (by omega) 0 n2 b2 (by omega) (by rw[alg];exact qa3);refine⟨b,(aD ?_).trans r1,r2⟩;simp only[nU,dU hil,aI,aF ha,q,hU,c1,q3,hs4,qa,hA,ali,hw,eq_self,au,sS]
   ·rw[if_pos hA]at hE;rw[hE];refine⟨_,aA (by simp only[nU,dU hil,aI,aF ha,q,hU,c1,q3,hs4,qa,al6.2 hA,ali,eq_self,au,sS]),fun _=>rfl,fun e=>absurd e hA⟩
  ·rw[if_pos hU]at hE;rw[hE];refine⟨_,aA (by simp only[nU,dU hil,aI,aF ha,q,al6.2 hU,eq_self,au,sS]),fun _=>rfl,fun e=>absurd e hU⟩
def abj(V:RunT)(x:Option ((Int×Unit)×((Int×(Nat×Nat)×Int×Unit)×Unit)×List fO×List bF×List lH×Unit)):Prop:=
 ∃(o n:Nat) (blk:List bF),x=some ((V.1,()),((V.2.1.1,(o,n),V.2.1.2.2.2.1,()),()),V.2.2,blk,V.2.1.2.2.1,())∧o+n≤blk.length∧(blk.drop o).take n=V.2.1.2.1
theorem BB{p:bX}(hp:wW p):∀(r:List rD) (k:Nat) (s:InT) (nt:List fO),VI p s→w9 s→(aW p r k s nt).1=0→
  VI p (aW p r k s nt).2.1∧w9 (aW p r k s nt).2.1∧(aW p r k s nt).2.2.2≤k∧(aW p r k s nt).2.2.1.length+(aW p r k s nt).2.2.2*64≤nt.length+k*64
 | [],k,s,nt,h,hs,_=>⟨h,hs,akJ _,akJ _⟩
 |a::r,k,s,nt,h,hs,e=>by
  obtain⟨u1,u2,u3,u4⟩:=qm hp a.1 k s nt h hs;unfold aW at e ⊢;split at e
  ·rename_i c;exact absurd e c
  rename_i c;rw[if_neg c];split at e
  ·rename_i c2;exact absurd e c2
  rename_i c2;rw[if_neg c2];obtain⟨v1,v2⟩:=r9 hp u1 u2 a (by simpa using c2);obtain⟨w1,w2,w3,w4⟩:=BB hp r _ _ _ v1 v2 e;exact⟨w1,w2,by omega,by omega⟩
theorem aeg{p:bX}(hp:wW p)(al:List rD)(hk:∀a∈al,IV a.2.1)(un:Int):abj (xL p al un) (m15 ((p,al,un,()),())):=by
 have q1:=OY p hp;have err:∀e:Int,abj (e,mD,[]) (some ((e,()),((0,(0,0),0,()),()),[],[],[],())):=fun e=>⟨0,0,[],rfl,akJ _,rfl⟩
 unfold xL;by_cases h1:rH p=0
 ·rw[if_neg (by simpa using h1)];rw[h1]at q1;by_cases h2:al.length>256
  ·have c:decide ((al.length:Int)>256)=true:=ak7 (by omega);rw[if_pos h2];unfold m15;simp only[q1,c,ali,au,sS];exact err _
  ·have c:decide ((al.length:Int)>256)=false:=ak9 (by omega);rw[if_neg h2];by_cases h3:un<0
   ·rw[if_pos (.inl h3)];unfold m15;simp only[q1,c,h3,alR,ali,au,sS];exact err _
   ·by_cases h4:un>8589934592
    ·rw[if_pos (.inr h4)];unfold m15;simp only[q1,c,h3,h4,alR,alY,ali,au,sS];exact err _
    ·rw[if_neg (by omega)];obtain⟨b,r1,r2,r3⟩:=P5 hp al (by omega) hk un al.length 0 1000 kL [] (by omega) (Es h1) Ml (akJ _) (by decide) 0 0 [] (akJ _) rfl;rw[alg]at r2 r3;dsimp only[dw,dQ,fJ]at r1;unfold m15 m26;simp only[q1,c,h3,h4,alY,ali,au,sS];have w1:aQ (un+1)=un+1:=bH (by omega) (by omega);have r1':aB nU (((0:Int),al,un,(al.length:Int),()),((0,0,()),()),((p.1,p.2.1,p.2.2.1,0,(0,0),1,0,()),()),(p,()),[],[],[],())=some b:=r1;rw[r1'];unfold Yv;by_cases hA:(aW p al 1000 kL []).1=0
     ·rw[if_neg (by simpa using hA)];obtain⟨o,n,blk,rfl,e1,e2⟩:=r3 hA;obtain⟨a1,a2,a3,a4⟩:=BB hp al 1000 kL [] (Es h1) Ml hA;generalize aW p al 1000 kL []=A at e2 a1 a2 a3 a4 ⊢;simp only[List.length_nil,alx]at a4;obtain⟨o2,n2,b2,tk,q,q2,q3,q4⟩:=QE hp (un+1) A.2.2.2 A.2.1 A.2.2.1 a1 a2 a3 (by omega) o n blk e1 e2;simp only[PE,w1,au,sS];rw[q];generalize aR p (un+1) A.2.2.2 A.2.1 A.2.2.1=U at q3 ⊢;by_cases hU:U.1=0
      ·rw[if_neg (by simpa using hU)];simp only[hU,ali,eq_self,au,sS];exact⟨o2,n2,b2,rfl,q2,q3⟩
      ·rw[if_pos hU];simp only[al6.2 hU,eq_self,au,sS];exact err _
     ·rw[if_pos hA,r2 hA];exact err _
 ·rw[if_pos h1];unfold m15;simp only[q1,al6.2 h1,au,sS];exact err _
def Zq(n:fO):Prop:=n.2.2.2.2.1.length≤256∧n.2.2.2.2.2.1.length≤256
theorem Qg{g:bF}(h:VG g)(r:dx)(t:Int)(mu:List ByteArray):(oM g r t mu).2.2.2.2.1.length≤256∧(oM g r t mu).2.2.2.2.2.length≤256:=by
 have hl:=h.len;have h1:=FC mu (aM g);have h2:=EW mu (aM g);unfold oM;split
 ·exact⟨alj _,alj _⟩
 ·dsimp only;split
  ·exact⟨by dsimp only;omega,by dsimp only;omega⟩
  ·exact⟨alj _,alj _⟩
theorem N7{p:bX}{s:InT}{now:Int}(h:TR p s now):∀n∈sF p s now,Zq n:=by
 intro n hn;unfold sF at hn;obtain⟨g,hg,hn⟩:=List.mem_flatMap.1 hn;have hv:=(tY h g hg).1;unfold iQ at hn;cases hc:(qb p (dQ s) now (qF p s now) g).1
 ·rw[hc]at hn;cases hn
 ·rw[hc]at hn;rw[al3.1 hn];exact Qg hv _ _ _
theorem vk{p:bX}(hp:wW p)(t:Int):∀(k:Nat) (s:InT) (nt:List fO),VI p s→w9 s→(∀n∈nt,Zq n)→∀n∈(aR p t k s nt).2.2.1,Zq n
 |0,s,nt,h,hs,hn=>by
  unfold aR;split<;>exact hn
 |k+1,s,nt,h,hs,hn=>by
  unfold aR;split
  ·exact hn
  ·have jA:=h.jA hp hs;have hd:=uE (fun g hg=>(jA g hg).1);have hnow:=h.now;have hm:0≤max (iB (bB s)).1 (dw s)∧max (iB (bB s)).1 (dw s)≤8589934592:=⟨by omega,by omega⟩
   obtain⟨v1,z1⟩:=wJ hp hs h hm
   exact vk hp t k _ _ v1 z1 (fun n hn'=>by
    rcases akU.1 hn' with hn'|hn'
    ·exact hn n hn'
    ·exact N7 (h.tk hp hs hm) n hn')
end Go.Proofs.YtchnmpafhfjimaaGreatDoor
namespace Go.Proofs.YtchnmpafhfjimaaGreatDoor
open Go Go.Abs Go.Lab
def xS(p s:List UInt8):Bool:=s.take p.length==p
theorem Zp(s:ByteArray)(k:Nat):bl (s.extract k s.size)=(bl s).drop k:=by
 rw[ic,alv (by rw[aln,aX];omega)]
theorem BO(s:ByteArray)(k:Nat):s.extract k s.size=bR ((bl s).drop k):=pU (by rw[Zp,kr])
theorem yT(s:ByteArray)(k:Nat):s.extract 0 k=bR ((bl s).take k):=pU (by rw[ic,kr,alg,Nat.sub_zero])
theorem KM{p s:List UInt8}(h:xS p s=true):p.length≤s.length:=by
 have:=congrArg List.length (eq_of_beq h);rw[akT]at this;omega
end Go.Proofs.YtchnmpafhfjimaaGreatDoor
