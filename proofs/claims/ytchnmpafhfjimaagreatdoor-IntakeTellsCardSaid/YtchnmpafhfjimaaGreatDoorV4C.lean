/- Lemmas for the statement of the last text of this claim. -/
import Derived.Test.YtchnmpafhfjimaaGreatDoorV4B
set_option linter.unusedSimpArgs false
set_option linter.unusedVariables false
namespace Go.Abs
open Go
section
variable{P:Program}{N:FuncId→Note}{ℓ:Lens}
theorem He{o:Oper}{fr:Fr}{H:Heap}{slot:Nat}(hm:makes o.op=false)(c c':CL):aQ P N c o fr H slot=aQ P N c' o fr H slot:=by
 obtain⟨dst,op,type,pos,after,guard⟩:=o
 cases op with
 |call cl=>
  simp only[aQ]
  cases hcal:cl.callee with
  |value f=>
   obtain⟨callee,args,argTypes⟩:=cl;simp only at hcal;subst hcal;cases hm
  |builtin b=>cases b<;>rfl
  |invoke r m=>rfl
 |makeFunc fn first caps=>cases fn<;>rfl
 |makeMap t rv=>cases rv<;>rfl
 |_=>rfl
theorem Pf{H:aV}{slot:Nat}{new:List SB}(h:H[slot]?=some []):(∀g b,bO H g=some b→bO (H.set slot new) g=some b)∧∀(k:Nat) (b:SB),new[k]?=some b→bO (H.set slot new) (slot,k)=some b:=by
 have hlt:slot<H.length:=(akX.1 h).1;refine⟨fun g b hg=> ?_,fun k b hk=> ?_⟩
 ·by_cases e:slot=g.1
  ·simp only[bO,←e,h]at hg;simp at hg
  ·simp only[bO]at hg ⊢;rw[List.getElem?_set_ne e];exact hg
 ·simp[bO,hlt,hk]
theorem vz{H H':aV}{slot:Nat}{mk:Bool}{new:List SB}(h:nO H slot mk new=some H'):
  (∀ℓ:Lens,eH (dH ℓ H) slot mk (new.map (dN ℓ))=some (dH ℓ H'))∧(∀ℓ,gq ℓ H'→gq ℓ H∧xK ℓ slot new)∧(new≠ []→H[slot]?=some []):=by
 cases mk with
 |true=>
  simp only[nO]at h;split at h
  ·rename_i hs;split at h
   ·rename_i hal;cases h;have hal:∀b∈new,b.alive=true:=by simpa using hal
    obtain⟨h1,h2⟩:=Pf (new:=new) hs;refine⟨fun ℓ=> ?_,fun ℓ ha=>⟨fun g b hg=>ha g b (h1 g b hg),fun k b hk=>ha _ b (h2 k b hk)⟩,fun _=>hs⟩;simp only[eH,if_true,dH,List.map_set,amn]
    congr 2
    refine alO fun b hb=> ?_
    simp only[Function.comp,qo (hal b hb)]
   ·cases h
  ·cases h
 |false=>
  simp only[nO]at h;split at h
  ·cases h;exact⟨fun ℓ=>rfl,fun ℓ ha=>⟨ha,fun k b hk=>by simp at hk⟩,fun e=>absurd rfl e⟩
  ·cases h
theorem G6{slot:Nat}:∀(wr:List (Nm×SB)) (H:aV),(iH H wr)[slot]?=some []→H[slot]?=some []:=by
 intro wr
 induction wr with
 |nil=>intro H h;exact h
 |cons p r ih=>
  intro H h;obtain⟨g,b⟩:=p;have:=ih _ h;unfold yS at this;by_cases e:g.1=slot
  ·subst e
   cases hl:H[g.1]? with
   |none=>simp[hl]at this
   |some l=>
    simp[hl]at this;rw[this]
  ·rw[List.getElem?_modify_ne _ _ e]at this;exact this
theorem UX{call:FuncId→gL}(hc:∀f,eZ P f (call f)){o:Oper}{fr:yN}{H H':aV}{slot:Nat}{mk:Bool}{r:fo}(h:(jU P N call o fr H slot).mean=some r)(hg:nO (iH H r.wr) slot mk r.new=some H'):bH H r.wr:=by
 let l:Lens:=fun g=>match bO H g with
  |some b=>b.len
  |none=>match r.new[g.2]? with
   |some b=>b.len
   |none=>0
 have ha:gq l H:=fun g b hb=>by show(match bO H g with|some b=>b.len|none=>_)=_;rw[hb]
 have hn:xK l slot r.new:=by
  intro k b hk;have hs:=G6 r.wr H ((vz hg).2.2 (fun e=>by rw[e]at hk;simp at hk))
  show(match bO H (slot,k)with|some b=>b.len|none=>match r.new[k]? with|some b=>b.len|none=>0)=_
  have:bO H (slot,k)=none:=by simp[bO,hs]
  rw[this,hk]
 exact(Ac hc ha h hn).choose_spec.2.2
def LW(E:Ol)(E':Env):Prop:=E'.P=E.P∧E'.N=E.N∧E'.nt=E.nt∧E'.j6=E.j6∧E'.pairs=E.pairs∧E'.keep=E.keep
theorem I7(fr:yN)(d:Option Nat)(v:SV):putDst (dF ℓ fr) d (dV ℓ v)=dF ℓ (Bc fr d v):=by
 cases d with
 |none=>rfl
 |some d=>exact(ac2 ℓ d v fr).symm
variable{E:Ol}{ops:Array Oper}{base:Nat}
theorem pE{x:SV}{d:Nat}:∀(fr:yN),jm fr d=x→xV x d fr=fr:=by
 intro fr
 induction fr with
 |nil=>intro _;rfl
 |cons p r ih=>
  intro h;obtain⟨s,y⟩:=p;simp only[jm]at h;simp only[xV];split at h
  ·rename_i e;rw[if_pos e,h]
  ·rename_i e;rw[if_neg e,ih h]
theorem MI{call:Nat→FuncId→gL}{i:Nat}(hc:∀f,eZ E.P f (call i f)){s s':tH}{x:Option fo}(h:(O1 E call ops base i s).mean=some (s',x))(ha':gq ℓ s'.hp):
  gq ℓ s.hp∧∃c:CL,Sound E.P c∧∀E':Env,LW E E'→(dY ops i=true→E'.call (bP ops base i)=c)→jc E' ops base i (dS ℓ s)=some (dS ℓ s',x.map (dR ℓ)):=by
 unfold O1 at h;split at h
 ·rename_i ho;have:=Tr.ay h;cases this;refine⟨ha',fun _ _ _=>none,rA,fun E' _ _=> ?_⟩;unfold jc;simp only[ho,Option.map_none]
 ·rename_i o ho;obtain⟨hd,h⟩:=Tr.aN h;simp only at h
  have skip:∀h:(Tr.ret (({s with fr:=Bc s.fr o.dst (.tup [])}:tH),(none:Option fo))).mean=some (s',x),kY ops (dS ℓ s).fr o=some false→
    gq ℓ s.hp∧∃c:CL,Sound E.P c∧∀E':Env,LW E E'→(dY ops i=true→E'.call (bP ops base i)=c)→jc E' ops base i (dS ℓ s)=some (dS ℓ s',x.map (dR ℓ)):=by
   intro h hgo;have:=Tr.ay h;cases this;refine⟨ha',fun _ _ _=>none,rA,fun E' hE _=> ?_⟩;unfold jc;simp only[ho,hE.2.2.1];rw[if_pos hd];simp only[hgo,Option.map_none];have:=I7 (ℓ:=ℓ) s.fr o.dst (.tup []);simp only[pY,alJ]at this;simp only[dS,this]
  have doit:((jU E.P E.N (call i) o s.fr s.hp (bP ops base i)).bind fun r=>
    match nO (iH s.hp r.wr) (bP ops base i) (makes o.op) r.new with
    |some H=>Tr.ret (({fr:=Bc s.fr o.dst r.val,hp:=H}:tH),some r)
    |none=>.fail).mean=some (s',x)→kY ops (dS ℓ s).fr o=some true→
    gq ℓ s.hp∧∃c:CL,Sound E.P c∧∀E':Env,LW E E'→(dY ops i=true→E'.call (bP ops base i)=c)→jc E' ops base i (dS ℓ s)=some (dS ℓ s',x.map (dR ℓ)):=by
   intro h hgo;obtain⟨r,h1,h2⟩:=Tr.aC h;split at h2
   ·rename_i H hH;have:=Tr.ay h2;cases this;obtain⟨g1,g2,g3⟩:=vz hH;have hlen:=UX hc h1 hH;obtain⟨a1,a2⟩:=g2 ℓ ha';have a0:=a1.iH hlen;obtain⟨c,c1,c2,_⟩:=Ac hc a0 h1 a2;refine⟨a0,c,c1,fun E' hE hcall=> ?_⟩;unfold jc;simp only[ho,hE.1,hE.2.1,hE.2.2.1];rw[if_pos hd];simp only[hgo]
    have hop:aQ E.P E.N (E'.call (bP ops base i)) o (dS ℓ s).fr (dS ℓ s).hp (bP ops base i)=some (dR ℓ r):=by
     cases hm:makes o.op with
     |true=>rw[hcall (by rw[iK ho];exact hm)];exact c2
     |false=>rw[He hm _ c];exact c2
    rw[hop];simp only;have:=g1 ℓ;rw[Ep]at this;rw[show eH (aP (dS ℓ s).hp (dR ℓ r).wr) (bP ops base i) (makes o.op) (dR ℓ r).new=some (dH ℓ H)from this];simp only[al4,dS,←I7];rfl
   ·exact(Tr.ax h2).elim
  split at h
  ·rename_i hg;exact doit h (by simp[kY,hg])
  ·rename_i j want hg;split at h
   ·rename_i d hdj;have hlook:look (dS ℓ s).fr d=dV ℓ (jm s.fr d):=wJ ℓ s.fr d;split at h
    ·rename_i b hb
     have hgo:kY ops (dS ℓ s).fr o=some (b==want):=by
      simp only[kY,hg,hdj,hlook,hb,pQ]
     cases want with
     |true=>
      cases b with
      |true=>simp only[Tr.mean,cond_true,pE _ hb]at h;exact doit h hgo
      |false=>simp only[Tr.mean,ami,pE _ hb]at h;exact skip h hgo
     |false=>
      cases b with
      |true=>simp only[Tr.mean,cond_true,pE _ hb]at h;exact skip h hgo
      |false=>simp only[Tr.mean,ami,pE _ hb]at h;exact doit h hgo
    ·rename_i hb;exact skip h (by simp only[kY,hg,hdj,hlook,hb,pY,alJ])
    ·exact(Tr.ax h).elim
   ·exact(Tr.ax h).elim
theorem Ql{call:Nat→FuncId→gL}(hc:∀i f,eZ E.P f (call i f)):∀(l:List Nat) (s s':tH) (xs:List (Option fo)),(Q8 E call ops base l s).mean=some (s',xs)→l.Pairwise (· < ·)→gq ℓ s'.hp→
  gq ℓ s.hp∧∃calls:Nat→CL,(∀k,Sound E.P (calls k))∧∀E':Env,LW E E'→(∀i∈l,dY ops i=true→E'.call (bP ops base i)=calls (bP ops base i))→
   gm E' ops base l (dS ℓ s)=some (dS ℓ s',xs.map (Option.map (dR ℓ))):=by
 intro l
 induction l with
 |nil=>
  intro s s' xs h _ ha;have:=Tr.ay h;cases this;exact⟨ha,fun _ _ _ _=>none,fun _=>rA,fun E' _ _=>rfl⟩
 |cons i r ih=>
  intro s s' xs h hp ha;simp only[Q8]at h;obtain⟨⟨s1,x⟩,h1,h⟩:=Tr.aC h;obtain⟨⟨s2,ys⟩,h2,h⟩:=Tr.aC h;have:=Tr.ay h;cases this;rw[amx]at hp;obtain⟨a1,calls,c1,c2⟩:=ih s1 _ _ h2 hp.2 ha;obtain⟨a0,c,c3,c4⟩:=MI (hc i) h1 a1;refine⟨a0,fun k=>if k=bP ops base i∧dY ops i=true then c else calls k,fun k=> ?_,fun E' hE hcall=> ?_⟩
  ·simp only;split
   ·exact c3
   ·exact c1 k
  ·simp only[gm];rw[c4 E' hE (fun hm=>by rw[hcall i (by simp) hm];exact if_pos ⟨rfl,hm⟩)];simp only;rw[c2 E' hE (fun j hj hm=> ?_)]
   ·rfl
   ·rw[hcall j (by simp[hj]) hm]
    show(if bP ops base j=bP ops base i∧dY ops i=true then c else calls (bP ops base j))=_
    split
    ·rename_i hh;exact absurd hh.1 (Ne.symm (Bp (Nat.ne_of_lt (hp.1 j hj)) hh.2 hm))
    ·rfl
theorem JB{i j:Nat}{x y:Option fo}:rE ops base i j (x.map (dR ℓ)) (y.map (dR ℓ))=rE ops base i j (x.map KL) (y.map KL):=by
 have hw:∀r:fo,(dR ℓ r).wr.map (·.1)=(KL r).wr.map (·.1):=fun r=>by simp[dR,KL,dW]
 have hr:∀r:fo,(dR ℓ r).rd=(KL r).rd:=fun r=>rfl
 cases x<;>cases y<;>simp only[rE,JC,noSlot,Option.map_none,al4,hw,hr]
theorem Vm(j6:List Nat)(fr:yN):clear j6 (dF ℓ fr)=dF ℓ (Qq j6 fr):=by
 simp only[clear,Qq,dF,List.filter_map];rfl
theorem gq.more{H:aV}{n:Nat}(h:gq ℓ (H++List.replicate n [])):gq ℓ H:=h.append
theorem DC{call:Nat→FuncId→gL}(hc:∀i f,eZ E.P f (call i f)){id:Nat}{ops:Array Oper}{draw:Bool}{s s':tH}(h:(oM E call id ops draw s).mean=some s')(ha:gq ℓ s'.hp):
  gq ℓ s.hp∧∃calls:Nat→CL,(∀k,Sound E.P (calls k))∧∀E':Env,LW E E'→E'.call=calls→nL E' id ops draw (dS ℓ s)=some (dS ℓ s'):=by
 unfold oM at h;obtain⟨⟨s1,xs⟩,h1,h2⟩:=Tr.aC h;split at h2
 ·exact(Tr.ax h2).elim
 ·rename_i hd;have:=Tr.ay h2;subst this;obtain⟨a1,calls,c1,c2⟩:=Ql (ℓ:=ℓ) hc _ _ _ _ h1 List.pairwise_lt_range ha;refine⟨a1.more,calls,c1,fun E' hE hcall=> ?_⟩;have:=c2 E' hE (fun i _ _=>by rw[hcall]);unfold nL
  have hrep:dH ℓ (s.hp++List.replicate (oq ops) [])=(dS ℓ s).hp++List.replicate (oq ops) []:=by
   rw[Ch];simp[dS,dH]
  have hlen:(dS ℓ s).hp.length=s.hp.length:=Tm ℓ s.hp;rw[hlen]
  have e:({dS ℓ s with hp:=(dS ℓ s).hp++List.replicate (oq ops) []}:St)=dS ℓ {s with hp:=s.hp++List.replicate (oq ops) []}:=by
   simp only[dS]at hrep ⊢;rw[hrep]
  rw[e,this];simp only
  have hpairs:((E'.pairs id).all fun p=>rE ops s.hp.length p.1 p.2 ((xs.map (Option.map (dR ℓ))).getD p.1 none) ((xs.map (Option.map (dR ℓ))).getD p.2 none))=
    (E.pairs id).all fun q=>rE ops s.hp.length q.1 q.2 ((xs.getD q.1 none).map KL) ((xs.getD q.2 none).map KL):=by
   rw[hE.2.2.2.2.1]
   congr 1
   funext p
   have hgd:∀i,(xs.map (Option.map (dR ℓ))).getD i none=(xs.getD i none).map (dR ℓ):=fun i=>by
    simp only[al8,ale];cases xs[i]?<;>rfl
   rw[hgd,hgd,JB]
  rw[hpairs,if_neg (by simpa using hd)];simp only[dS,hE.2.2.2.1,Vm]
def ae1(H:aV)(v:SV):Bool:=(qg v).all fun g=>(bO H g).isSome
def adS(H:aV)(v:SV):Bool:=(Cj v).all fun g=>(bO H g).isSome
def adR(H:aV):SB→Bool
 | .box _ v=>adS H v
 |_=>true
def Pk(s:tH):Bool:=(s.fr.all fun p=>ae1 s.hp p.2)&&s.hp.all fun l=>l.all (adR s.hp)
section
variable{ℓ':Lens}
theorem Bf{v:SV}(h:∀g∈Cb v,ℓ g=ℓ' g):d1 ℓ v=d1 ℓ' v:=by
 cases v with
 |own t g=>simp only[d1,h g (by simp[Cb])]
 |_=>rfl
theorem xR{d d':SV→AV}{rf:SV→List Nm}(hd:∀v,(∀g∈rf v,ℓ g=ℓ' g)→d v=d' v){l:List SV}(h:∀g∈l.flatMap rf,ℓ g=ℓ' g):l.map d=l.map d':=
 alO fun v hv=>hd v fun g hg=>h g (amC.2 ⟨v,hv,hg⟩)
theorem NC{v:SV}(h:∀g∈Jk v,ℓ g=ℓ' g):dC ℓ v=dC ℓ' v:=by
 cases v with
 |clo f cs=>simp only[dC];rw[xR (fun v hv=>Bf hv) h]
 |own t g=>exact Bf (v:=.own t g) h
 |_=>rfl
theorem yZ{v:SV}(h:∀g∈Cj v,ℓ g=ℓ' g):dA ℓ v=dA ℓ' v:=by
 cases v with
 |agg cs=>simp only[dA];rw[xR (fun v hv=>NC hv) h]
 |clo f cs=>exact NC (v:=.clo f cs) h
 |own t g=>exact Bf (v:=.own t g) h
 |_=>rfl
theorem WS{v:SV}(h:∀g∈qg v,ℓ g=ℓ' g):dV ℓ v=dV ℓ' v:=by
 cases v with
 |tup vs=>simp only[dV];rw[xR (fun v hv=>yZ hv) h]
 |agg cs=>exact yZ (v:=.agg cs) h
 |clo f cs=>exact yZ (v:=.clo f cs) h
 |own t g=>exact Bf (v:=.own t g) h
 |_=>rfl
theorem VT{H:aV}(ha:gq ℓ H)(hb:gq ℓ' H){g:Nm}(h:(bO H g).isSome=true):ℓ g=ℓ' g:=by
 obtain⟨b,hb'⟩:=Option.isSome_iff_exists.1 h;rw[ha g b hb',hb g b hb']
theorem X5{s:tH}(hv:Pk s=true)(ha:gq ℓ s.hp)(hb:gq ℓ' s.hp):dS ℓ s=dS ℓ' s:=by
 simp only[Pk,alu,alF]at hv;obtain⟨h1,h2⟩:=hv;simp only[dS,dF,dH]
 congr 1
 ·refine alO fun p hp=> ?_
  rw[WS fun g hg=>VT ha hb ((alF.1 (h1 p hp)) g hg)]
 ·refine alO fun l hl=>alO fun b hb'=> ?_
  have:=h2 l hl b hb'
  cases b with
  |box sz v=>simp only[dB,yZ fun g hg=>VT ha hb ((alF.1 this) g hg)]
  |_=>rfl
end
end
def lJ{A D:Type}(f:A→Option (A⊕D)):Nat→A→Option D
 |0,_=>none
 |n+1,a=>match f a with
  |some (.inl a')=>lJ f n a'
  |some (.inr d)=>some d
  |none=>none
open Classical in
noncomputable def aA{A D:Type}(f:A→Option (A⊕D))(a:A):Option D:=
 match lJ f 4096 a with
 |some d=>some d
 |none=>if h:∃d,∃n,lJ f n a=some d then some h.choose else none
section
variable{A D:Type}{f:A→Option (A⊕D)}
theorem Pv:∀(n:Nat) (a:A) (d:D),lJ f n a=some d→lJ f (n+1) a=some d:=by
 intro n
 induction n with
 |zero=>intro a d h;cases h
 |succ n ih=>
  intro a d h;rw[lJ]at h ⊢;split at h
  ·rename_i a' e;exact ih a' d h
  ·exact h
  ·cases h
theorem zG{n m:Nat}(hle:n≤m){a:A}{d:D}(h:lJ f n a=some d):lJ f m a=some d:=by
 induction hle with
 |refl=>exact h
 |step _ ih=>exact Pv _ _ _ ih
theorem Td{n m:Nat}{a:A}{d e:D}(h:lJ f n a=some d)(h':lJ f m a=some e):d=e:=by
 have h1:=zG (Nat.le_max_left n m) h;have h2:=zG (Nat.le_max_right n m) h';rw[h1]at h2;exact Option.some.inj h2
theorem wT{a:A}{d:D}:aA f a=some d↔∃n,lJ f n a=some d:=by
 unfold aA;split
 ·rename_i e he;exact⟨fun h=>⟨_,h ▸ he⟩,fun⟨n,h⟩=>by rw[Td he h]⟩
 constructor
 ·intro h;split at h
  ·rename_i hh;cases h;exact hh.choose_spec
  ·cases h
 ·rintro⟨n,h⟩;have hh:∃d,∃n,lJ f n a=some d:=⟨d,n,h⟩
  rw[dif_pos hh];obtain⟨m,hm⟩:=hh.choose_spec;have h1:=zG (Nat.le_max_left n m) h;have h2:=zG (Nat.le_max_right n m) hm;rw[h1]at h2;exact h2.symm
theorem aB{a:A}{d:D}(h:f a=some (.inr d)):aA f a=some d:=wT.2 ⟨1,by rw[lJ,h]⟩
theorem aD{a a':A}(h:f a=some (.inl a')):aA f a=aA f a':=by
 have key:∀d,aA f a=some d↔aA f a'=some d:=by
  intro d;rw[wT,wT];constructor
  ·rintro⟨n,hn⟩
   cases n with
   |zero=>cases hn
   |succ n=>rw[lJ,h]at hn;exact⟨n,hn⟩
  ·rintro⟨n,hn⟩;exact⟨n+1,by rw[lJ,h];exact hn⟩
 cases h1:aA f a' with
 |none=>
  cases h2:aA f a with
  |none=>rfl
  |some d=>rw[(key d).1 h2]at h1;cases h1
 |some d=>exact(key d).2 h1
end
def lX.fit(m:Nat):(o:lX)→Ex→tH→Tr o.den
 | .one e σ,e',s=>.when (Yu e e') (Abs.fit m σ s)
 | .more e σ r,e',s=>match Yu e e' with
  |true=>(Abs.fit m σ s).map .inl
  |false=>(lX.fit m r e' s).map .inr
def lX.split{α:Type}:(o:lX)→o.den→(Ex→tH→Tr α)→Tr α
 | .one e σ,d,k=>k e (σ.un d)
 | .more e σ r,d,k=>.cs d (fun x=>k e (σ.un x)) (fun y=>lX.split r y k)
theorem Ii{a b:Ex}(h:Yu a b=true):a=b:=by
 cases a<;>cases b<;>first|rfl|(cases h;done)|(simp[Yu]at h;rw[h])
theorem lX.spec{α:Type}{m:Nat}{e:Ex}{s:tH}{k:Ex→tH→Tr α}{r:α}:∀(o:lX) (d:o.den),(o.fit m e s).mean=some d→(o.split d k).mean=some r→
  ∃(σ:Sg) (v:σ.den),(Abs.fit m σ s).mean=some v∧(k e (σ.un v)).mean=some r:=by
 intro o
 induction o with
 |one e' σ=>
  intro d h1 h2;obtain⟨h3,h4⟩:=Tr.aN h1;have:=Ii h3;subst this;exact⟨σ,d,h4,h2⟩
 |more e' σ r ih=>
  intro d h1 h2;simp only[lX.fit]at h1;split at h1
  ·rename_i h3;have:=Ii h3;subst this;obtain⟨v,h4,rfl⟩:=Tr.gV h1;exact⟨σ,v,h4,h2⟩
  ·obtain⟨v,h4,rfl⟩:=Tr.gV h1;exact ih v h4 h2
structure LAn where
 σ:Sg
 outs:lX
structure ig where
 reg:Nat→Option Sg:=fun _=>none
 seq:Nat→Option (Sg×Option lX):=fun _=>none
 loop:Nat→Option LAn:=fun _=>none
 inl:Nat→Nat→Nat:=fun _ _=>0
noncomputable def jq(E:Ol)(call:Nat→Nat→FuncId→gL)(an:ig):Code→tH→Tr (Ex×tH)
 | .skip,s=>.ret (.normal,s)
 | .region id ops draw,s=>match an.reg id with
  |none=>(oM E (call id) id ops draw s).bind fun s=>.ret (.normal,s)
  |some σ=>.ask ((oM E (call id) id ops draw s).bind fun s=>fit E.keep σ s).mean fun v=>.ret (.normal,σ.un v)
 | .seq a b,s=>match an.seq (rQ b)with
  |none=>(jq E call an a s).bind fun p=>match p.1 with
   | .normal=>jq E call an b p.2
   |e=>.ret (e,p.2)
  |some (σ,none)=>.ask ((jq E call an a s).bind fun p=>match p.1 with
   | .normal=>fit E.keep σ p.2
   |_=>.fail).mean fun v=>jq E call an b (σ.un v)
  |some (σ,some o)=>.ask ((jq E call an a s).bind fun p=>match p.1 with
   | .normal=>(fit E.keep σ p.2).bind fun v=>.ret (Sum.inl v)
   |e=>(o.fit E.keep e p.2).bind fun d=>.ret (Sum.inr d)).mean fun r=>.cs r (fun v=>jq E call an b (σ.un v)) (fun d=>o.split d fun e s=>.ret (e,s))
 | .cond c a b,s=>match yV s.fr c with
  | .bool p=>.br p (jq E call an a s) (jq E call an b s)
  |_=>.fail
 | .block id b,s=>(jq E call an b s).bind fun p=>.ret (leave id p.1,p.2)
 | .scope b,s=>jq E call an b s
 | .loop b,s=>match an.loop (rQ b)with
  |some la=>(fit E.keep la.σ s).bind fun v=>.ask (aA (fun v=>((jq E call an b (la.σ.un v)).bind fun p=>match p.1 with
    | .normal=>(fit E.keep la.σ p.2).bind fun v=>.ret (Sum.inl v)
    |e=>(la.outs.fit E.keep e p.2).bind fun d=>.ret (Sum.inr d)).mean) v) fun d=>la.outs.split d fun e s=>.ret (e,s)
  |none=>.fail
 | .exit id,s=>.ret (.exit id,s)
 | .label _,s=>.ret (.normal,s)
 | .ret,s=>.ret (.ret,s)
 |_,_=>.fail
theorem Tr.vV{α A:Type}{m:Option A}{k:A→Tr α}{b:α}(h:(Tr.ask m k).mean=some b):∃a,m=some a∧(k a).mean=some b:=ame.1 h
section
variable{E:Ol}{call:Nat→Nat→FuncId→gL}{an:ig}
theorem yo(hm:E.P.follows .mixedOrders=true)(hc:∀r i f,eZ E.P f (call r i f)):∀(c:Code),iG E.pairs c=true→∀(s s':tH) (e:Ex),(jq E call an c s).mean=some (e,s')→∀ℓ':Lens,gq ℓ' s'.hp→
  ∃ℓ,gq ℓ s.hp∧To E.P E.nt E.keep c (dS ℓ s) e (dS ℓ' s'):=by
 have fitted:∀{c:Code} {s s1 s':tH} {e:Ex} {σ:Sg} {v:σ.den},(∀ℓ':Lens,gq ℓ' s1.hp→∃ℓ,gq ℓ s.hp∧To E.P E.nt E.keep c (dS ℓ s) e (dS ℓ' s1))→(fit E.keep σ s1).mean=some v→σ.un v=s'→
   ∀ℓ':Lens,gq ℓ' s'.hp→∃ℓ,gq ℓ s.hp∧To E.P E.nt E.keep c (dS ℓ s) e (dS ℓ' s'):=by
  intro c s s1 s' e σ v h hf hs ℓ' ha;subst hs;obtain⟨l1,a1,w1⟩:=zJ (nt:=E.nt) hf ha;obtain⟨l0,a0,t0⟩:=h l1 a1;exact⟨l0,a0,t0.post w1⟩
 intro c
 induction c with
 |skip=>
  intro _ s s' e h ℓ' ha;have:=Tr.ay h;cases this;exact⟨ℓ',ha,To.skip⟩
 |label l=>
  intro _ s s' e h ℓ' ha;have:=Tr.ay h;cases this;exact⟨ℓ',ha,To.label⟩
 |exit id=>
  intro _ s s' e h ℓ' ha;have:=Tr.ay h;cases this;exact⟨ℓ',ha,To.exit⟩
 |ret=>
  intro _ s s' e h ℓ' ha;have:=Tr.ay h;cases this;exact⟨ℓ',ha,To.ret⟩
 |region id ops draw=>
  intro hok s s' e h
  have run:∀s1,(oM E (call id) id ops draw s).mean=some s1→∀ℓ':Lens,gq ℓ' s1.hp→∃ℓ,gq ℓ s.hp∧To E.P E.nt E.keep (.region id ops draw) (dS ℓ s) .normal (dS ℓ' s1):=by
   intro s1 h1 ℓ' ha;obtain⟨a1,calls,c1,c2⟩:=DC (ℓ:=ℓ') (hc id) h1 ha;refine⟨ℓ',a1,?_⟩;have:=c2 ⟨E.P,E.N,calls,E.nt,E.j6,E.pairs,E.keep⟩ ⟨rfl,rfl,rfl,rfl,rfl,rfl⟩ rfl;exact To.region (E:=⟨E.P,E.N,calls,E.nt,E.j6,E.pairs,E.keep⟩) c1 hm hok this
  simp only[jq]at h;split at h
  ·obtain⟨s1,h1,h2⟩:=Tr.aC h;have:=Tr.ay h2;simp only[al1]at this;obtain⟨rfl,rfl⟩:=this;exact run _ h1
  ·obtain⟨v,h1,h2⟩:=Tr.vV h;have:=Tr.ay h2;cases this;obtain⟨s1,h3,h4⟩:=Tr.aC h1;exact fitted (run s1 h3) h4 rfl
 |seq x y ihx ihy=>
  intro hok s s' e h;simp only[iG,alu]at hok
  have both:∀{s1:tH},(∀ℓ':Lens,gq ℓ' s1.hp→∃ℓ,gq ℓ s.hp∧To E.P E.nt E.keep x (dS ℓ s) .normal (dS ℓ' s1))→(jq E call an y s1).mean=some (e,s')→
    ∀ℓ':Lens,gq ℓ' s'.hp→∃ℓ,gq ℓ s.hp∧To E.P E.nt E.keep (.seq x y) (dS ℓ s) e (dS ℓ' s'):=by
   intro s1 h1 h2 ℓ' ha;obtain⟨l1,a1,t1⟩:=ihy hok.2 s1 s' e h2 ℓ' ha;obtain⟨l0,a0,t0⟩:=h1 l1 a1;exact⟨l0,a0,t0.seq t1⟩
  have out:∀{e1:Ex} {s1:tH},e1≠ .normal→(∀ℓ':Lens,gq ℓ' s1.hp→∃ℓ,gq ℓ s.hp∧To E.P E.nt E.keep x (dS ℓ s) e1 (dS ℓ' s1))→
    ∀ℓ':Lens,gq ℓ' s1.hp→∃ℓ,gq ℓ s.hp∧To E.P E.nt E.keep (.seq x y) (dS ℓ s) e1 (dS ℓ' s1):=by
   intro e1 s1 he h1 ℓ' ha;obtain⟨l0,a0,t0⟩:=h1 ℓ' ha;exact⟨l0,a0,t0.R5 he⟩
  simp only[jq]at h;split at h
  ·obtain⟨⟨e1,s1⟩,h1,h2⟩:=Tr.aC h
   cases e1 with
   |normal=>exact both (ihx hok.1 s s1 _ h1) h2
   |exit id=>
    have:=Tr.ay h2;cases this;exact out (fun e=>by cases e) (ihx hok.1 s s1 _ h1)
   |ret=>
    have:=Tr.ay h2;cases this;exact out (fun e=>by cases e) (ihx hok.1 s s1 _ h1)
  ·obtain⟨v,h1,h2⟩:=Tr.vV h;obtain⟨⟨e1,s1⟩,h3,h4⟩:=Tr.aC h1
   cases e1 with
   |normal=>exact both (fitted (ihx hok.1 s s1 _ h3) h4 rfl) h2
   |exit id=>exact(Tr.ax h4).elim
   |ret=>exact(Tr.ax h4).elim
  ·rename_i σ o _;obtain⟨rr,h1,h2⟩:=Tr.vV h;obtain⟨⟨e1,s1⟩,h3,h4⟩:=Tr.aC h1
   have left:∀{e1:Ex},e1≠ .normal→(jq E call an x s).mean=some (e1,s1)→((o.fit E.keep e1 s1).bind fun d=>.ret (Sum.inr d)).mean=some rr→
     ∀ℓ':Lens,gq ℓ' s'.hp→∃ℓ,gq ℓ s.hp∧To E.P E.nt E.keep (.seq x y) (dS ℓ s) e (dS ℓ' s'):=by
    intro e1 he h3 h4;obtain⟨d,h5,h6⟩:=Tr.aC h4;have:=Tr.ay h6;subst this;obtain⟨σ',v,h7,h8⟩:=lX.spec o d h5 h2;have:=Tr.ay h8;cases this;exact out he (fitted (ihx hok.1 s s1 _ h3) h7 rfl)
   cases e1 with
   |normal=>
    obtain⟨v,h5,h6⟩:=Tr.aC h4;have:=Tr.ay h6;subst this;exact both (fitted (ihx hok.1 s s1 _ h3) h5 rfl) h2
   |exit id=>exact left (fun e=>by cases e) h3 h4
   |ret=>exact left (fun e=>by cases e) h3 h4
 |cond c x y ihx ihy=>
  intro hok s s' e h ℓ' ha;simp only[iG,alu]at hok;simp only[jq]at h;split at h
  ·rename_i p hp
   have hev:∀ℓ,sP (dS ℓ s).fr c= .bool p:=fun ℓ=>by
    rw[show sP (dS ℓ s).fr c=dV ℓ (yV s.fr c)from(eD ℓ s.fr c).symm,hp];rfl
   cases p with
   |true=>
    obtain⟨l0,a0,t0⟩:=ihx hok.1 s s' e h ℓ' ha;exact⟨l0,a0,To.cond (hev l0) (by simpa using t0)⟩
   |false=>
    obtain⟨l0,a0,t0⟩:=ihy hok.2 s s' e h ℓ' ha;exact⟨l0,a0,To.cond (hev l0) (by simpa using t0)⟩
  ·exact(Tr.ax h).elim
 |block id b ih=>
  intro hok s s' e h ℓ' ha;obtain⟨⟨e1,s1⟩,h1,h2⟩:=Tr.aC h;have:=Tr.ay h2;cases this;obtain⟨l0,a0,t0⟩:=ih (by simpa[iG]using hok) s s1 e1 h1 ℓ' ha;exact⟨l0,a0,t0.block⟩
 |scope b ih=>
  intro hok s s' e h ℓ' ha;obtain⟨l0,a0,t0⟩:=ih (by simpa[iG]using hok) s s' e h ℓ' ha;exact⟨l0,a0,t0.scope⟩
 |loop b ih=>
  intro hok s s' e h;have hok':iG E.pairs b=true:=by simpa[iG]using hok
  simp only[jq]at h;split at h
  ·rename_i la hla;obtain⟨v,h1,h2⟩:=Tr.aC h;obtain⟨d,h3,h4⟩:=Tr.vV h2;obtain⟨n,hn⟩:=wT.1 h3
   have key:∀(n:Nat) (v:la.σ.den),lJ (fun v=>((jq E call an b (la.σ.un v)).bind fun p=>match p.1 with
     | .normal=>(fit E.keep la.σ p.2).bind fun v=>.ret (Sum.inl v)
     |e=>(la.outs.fit E.keep e p.2).bind fun d=>.ret (Sum.inr d)).mean) n v=some d→
     ∀ℓ':Lens,gq ℓ' s'.hp→∃ℓ,gq ℓ (la.σ.un v).hp∧Iter E.P E.nt E.keep b (dS ℓ (la.σ.un v)) e (dS ℓ' s'):=by
    intro n
    induction n with
    |zero=>intro v h;cases h
    |succ n ihn=>
     intro v h ℓ' ha;rw[lJ]at h
     have left:∀{e1:Ex} {s1:tH},e1≠ .normal→(jq E call an b (la.σ.un v)).mean=some (e1,s1)→((la.outs.fit E.keep e1 s1).bind fun d=>.ret (Sum.inr (α:=la.σ.den) d)).mean=some (Sum.inr d)→
       ∃ℓ,gq ℓ (la.σ.un v).hp∧Iter E.P E.nt E.keep b (dS ℓ (la.σ.un v)) e (dS ℓ' s'):=by
      intro e1 s1 he h5 h6;obtain⟨d',h7,h8⟩:=Tr.aC h6;have:=Tr.ay h8;cases this;obtain⟨σ',v',h9,h10⟩:=lX.spec la.outs d h7 h4;have:=Tr.ay h10;cases this;obtain⟨l0,a0,t0⟩:=fitted (ih hok' _ s1 _ h5) h9 rfl ℓ' ha;exact⟨l0,a0,.out t0 he⟩
     split at h
     ·rename_i v' hv';obtain⟨⟨e1,s1⟩,h5,h6⟩:=Tr.aC hv'
      cases e1 with
      |normal=>
       obtain⟨v2,h7,h8⟩:=Tr.aC h6;have:=Sum.inl.inj (Tr.ay h8);subst this;obtain⟨l1,a1,t1⟩:=ihn v2 h ℓ' ha;obtain⟨l0,a0,t0⟩:=fitted (ih hok' _ s1 _ h5) h7 rfl l1 a1;exact⟨l0,a0,.next t0 t1⟩
      |exit id=>obtain⟨_,_,h8⟩:=Tr.aC h6;have:=Tr.ay h8;cases this
      |ret=>obtain⟨_,_,h8⟩:=Tr.aC h6;have:=Tr.ay h8;cases this
     ·rename_i d' hd';cases h;obtain⟨⟨e1,s1⟩,h5,h6⟩:=Tr.aC hd'
      cases e1 with
      |normal=>obtain⟨_,_,h8⟩:=Tr.aC h6;have:=Tr.ay h8;cases this
      |exit id=>exact left (fun e=>by cases e) h5 h6
      |ret=>exact left (fun e=>by cases e) h5 h6
     ·cases h
   intro ℓ' ha;obtain⟨l1,a1,i1⟩:=key n v hn ℓ' ha;obtain⟨l0,a0,w0⟩:=zJ (nt:=E.nt) h1 a1;exact⟨l0,a0,(To.loop i1).pre w0⟩
  ·exact(Tr.ax h).elim
 |_=>
  intro _ s s' e h;exact(Tr.ax h).elim
end
def Vy(P:Program)(fr:yN)(H:aV):ResultVar→Tr SV
 | .tmp t=>.ret (jm fr t)
 | .cell a t=>(zk P t (jm fr a) H).bind fun r=>.ret r.val
def yP:List SV→SV
 | [v]=>v
 |vs=>.tup vs
def lD(P:Program)(fn:Func)(m:Nat)(s:tH):Tr SY:=
 (Tr.mapM (Vy P s.fr s.hp) fn.results.toList).bind fun vs=>
 .when (vs.all oW) (
  let R:=o8 s.hp m (qg (yP vs))
  let f:=je m R
  match R.mapM (fun g=>(bO s.hp g).bind fun b=>if b.alive=true then some (fD f b)else none),(aL m).mapM (fun g=>(bO s.hp g).map (fD f))with
  |some new,some sub=>.ret (sK f (yP vs),sub,new)
  |_,_=>.fail)
theorem Ml{P:Program}{fr:yN}{H:aV}{ℓ:Lens}{x:ResultVar}{u:SV}(h:(Vy P fr H x).mean=some u):vU P (dF ℓ fr) (dH ℓ H) x=some (dV ℓ u):=by
 cases x with
 |tmp t=>have:=Tr.ay h;subst this;simp only[vU,wJ]
 |cell a t=>
  obtain⟨r,h1,h2⟩:=Tr.aC h;have:=Tr.ay h2;subst this;simp only[vU,wJ,(ze (ℓ:=ℓ) h1).1,al4];rfl
theorem WU{ℓ:Lens}{vs:List SV}(h:vs.all oW=true):(match vs.map (dV ℓ)with| [v]=>v|vs=>.tup vs)=dV ℓ (yP vs):=by
 cases vs with
 |nil=>rfl
 |cons v r=>
  cases r with
  |nil=>rfl
  |cons w r=>
   simp only[al3,yP,pY];simp only[List.all_cons,alu,alF]at h;rw[jr h.1,jr h.2.1,alO fun x hx=>jr (h.2.2 x hx) ℓ]
theorem mY{P:Program}{fn:Func}{m:Nat}{s:tH}{out:SY}(h:(lD P fn m s).mean=some out){ℓ':Lens}(ha':xY ℓ' (out.2.1++out.2.2)):
  finish P fn m (dS (gM s.hp) s)=some (dO ℓ' out):=by
 unfold lD at h;obtain⟨vs,h1,h⟩:=Tr.aC h;obtain⟨h2,h⟩:=Tr.aN h;simp only at h;generalize hR:o8 s.hp m (qg (yP vs))=R at h;split at h
 ·rename_i new sub hnew hsub;have:=Tr.ay h;subst this;simp only at ha';obtain⟨M1,M2⟩:=Tr.BZ h1;obtain⟨N1,N2⟩:=mapM_some _ _ _ hnew;obtain⟨S1,S2⟩:=mapM_some _ _ _ hsub;have hl0:(aL m).length=m:=by simp[aL]
  have hgoes:Goes (je m R) (gM s.hp) ℓ':=by
   intro g g' hg;unfold je at hg;split at hg
   ·rename_i hlt;split at hg
    ·rename_i h0;cases hg;have hi:(aL m)[g.1]?=some (g.1,0):=by simp[aL,hlt]
     obtain⟨b,e1,e2⟩:=S2 g.1 _ hi;obtain⟨b0,e3,rfl⟩:=alf.1 e2;have e:g=(g.1,0):=by rw[←h0]
     rw[e,ha' g.1 _ (by rw[alp (akX.1 e1).1];exact e1),iO,gU _ _ _ e3]
    ·cases hg
   ·cases hi:idxOf g R 0 with
    |none=>simp[hi]at hg
    |some i=>
     simp[hi]at hg;obtain⟨_,hRi⟩:=iI g R 0 i hi;simp only[Nat.sub_zero]at hRi;obtain⟨b,e1,e2⟩:=N2 i g hRi;obtain⟨b0,e3,e4⟩:=ame.1 e2;split at e4
     ·cases e4;rw[←hg,ha' (m+i) (fD (je m R) b0) (by rw[alm (by omega),show m+i-sub.length=i from by omega];exact e1),iO,gU _ _ _ e3]
     ·cases e4
  have hres:Gt P (dS (gM s.hp) s).fr (dS (gM s.hp) s).hp fn.results.toList=some (dV (gM s.hp) (yP vs)):=by
   unfold Gt
   have:fn.results.toList.mapM (vU P (dS (gM s.hp) s).fr (dS (gM s.hp) s).hp)=some (vs.map (dV (gM s.hp))):=by
    refine AU (by simp[M1]) (fun i x hx=> ?_);obtain⟨u,e1,e2⟩:=M2 i x hx;exact⟨dV (gM s.hp) u,by rw[ale,e1];rfl,Ml e2⟩
   rw[this,←WU h2]
   cases vs with
   |nil=>rfl
   |cons v r=>cases r<;>rfl
  unfold finish;rw[hres];simp only;rw[show reached (dS (gM s.hp) s).hp m (mI (dV (gM s.hp) (yP vs)))=R from by rw[Rl,←hR];exact I5 _ s.hp m _]
  have enew:R.mapM (fun g=>(get (dS (gM s.hp) s).hp g).map (bZ (je m R)))=some (new.map (dN ℓ')):=by
   refine AU (by simp[N1]) (fun i g hi=> ?_);obtain⟨y,e1,e2⟩:=N2 i g hi;obtain⟨b0,e3,e4⟩:=ame.1 e2;split at e4
   ·rename_i hb0;cases e4;refine⟨dN ℓ' (fD (je m R) b0),by rw[ale,e1];rfl,?_⟩;rw[show get (dS (gM s.hp) s).hp g=_ from eG _ s.hp g,e3,alR,vR hgoes];exact qo (by rw[uY];exact hb0)
   ·cases e4
  rw[enew];simp only[dO,K4 hgoes]
  congr 3
  apply List.ext_getElem?;intro i;simp only[ale]
  cases hi:(aL m)[i]? with
  |none=>
   have:sub[i]?=none:=by rw[amj,S1];exact amj.1 hi
   rw[this];rfl
  |some g=>
   obtain⟨b,e1,e2⟩:=S2 i g hi;obtain⟨b0,e3,rfl⟩:=alf.1 e2;rw[e1];simp only[al4];rw[show get (dS (gM s.hp) s).hp g=_ from eG _ s.hp g,e3,alR,vR hgoes]
 ·exact(Tr.ax h).elim
structure Spec where
 keep:Nat
 σi:Sg
 σo:Sg
 m:σi.den→Option σo.den
def Bz(P:Program)(N:FuncId→Note)(f:FuncId)(fn:Func)(m:Nat):Ol:=
 {P,N,nt:=fn.ntmps,j6:=(N f).j6,pairs:=(N f).pairs,keep:=m}
def IY:List SV→Nat→yN
 | [],_=> []
 |x::r,i=>(i,x)::IY r (i+1)
def qb(args:List SV)(sub:List SB):tH:={fr:=IY args 0,hp:=sub.map fun b=> [b]}
noncomputable def MQ(P:Program)(N:FuncId→Note)(C:FuncId→Option gL)(mv:FuncId→Option Nat)(T:FuncId→Option Spec)(an:Nat→ig):Nat→Nat→FuncId→gL
 |0,_,_,_,_=>.fail
 |n+1,c,f,args,sub=>
  match C f with
  |some q=>q args sub
  |none=>
  match P.funcs[f]? with
  |some fn=>
   match fn.body with
   |some body=>
    .when (decide ((N f).on=true∧args.length≤fn.ntmps)&&sub.all SB.alive&&Pk (qb args sub)) (
     match T f with
     |some sp=>if sub.length=sp.keep then(fit sp.keep sp.σi (qb args sub)).bind fun v=>.ask (sp.m v) fun u=>lD P fn sp.keep (sp.σo.un u)else .fail
     |none=>match mv f with
      |some m=>.when (decide (m≤sub.length)) ((jq (Bz P N f fn m) (fun r i=>MQ P N C mv T an n ((an c).inl r i)) (an c) body (qb args sub)).bind fun p=>match p.1 with
       | .exit _=>.fail
       |_=>(lD P fn m p.2).bind fun o=>.ret (sK (eX m sub.length) o.1,o.2.1.map (fD (eX m sub.length))++(sub.drop m).map (fun b=>.dead b.len),o.2.2.map (fD (eX m sub.length))))
      |none=>(jq (Bz P N f fn sub.length) (fun r i=>MQ P N C mv T an n ((an c).inl r i)) (an c) body (qb args sub)).bind fun p=>match p.1 with
       | .exit _=>.fail
       |_=>lD P fn sub.length p.2)
   |none=>.fail
  |none=>.fail
def gI(P:Program)(f:FuncId)(sp:Spec):Prop:=
 ∀fn body,P.funcs[f]?=some fn→fn.body=some body→∀v u,sp.m v=some u→∀ℓ':Lens,gq ℓ' (sp.σo.un u).hp→
  ∃ℓ,gq ℓ (sp.σi.un v).hp∧∃e,(e= .normal∨e= .ret)∧To P fn.ntmps sp.keep body (dS ℓ (sp.σi.un v)) e (dS ℓ' (sp.σo.un u))
theorem RO(ℓ:Lens):∀(args:List SV) (i:Nat),dF ℓ (IY args i)=BQ (args.map (dV ℓ)) i:=by
 intro args
 induction args with
 |nil=>intro i;rfl
 |cons a r ih=>intro i;simp only[IY,dF,al3,BQ]at ih ⊢;rw[ih]
theorem Vg{ℓ:Lens}{args:List SV}{sub:List SB}(h:∀b∈sub,b.alive=true):dS ℓ (qb args sub)={fr:=BQ (args.map (dV ℓ)) 0,hp:=aT (sub.map (dN ℓ))}:=by
 simp only[dS,qb,RO]
 congr 1
 simp only[dH,aT,amn];refine alO fun b hb=> ?_
 simp only[Function.comp,al3,alJ,qo (h b hb)]
theorem Qc{ℓ:Lens}{args:List SV}{sub:List SB}(h:xY ℓ sub):gq ℓ (qb args sub).hp:=by
 intro g b hg;obtain⟨i,k⟩:=g;simp only[bO,qb,ale]at hg
 cases hi:sub[i]? with
 |none=>simp[hi]at hg
 |some b0=>
  cases k with
  |succ k=>simp[hi]at hg
  |zero=>
   simp[hi]at hg;subst hg;exact h i b0 hi
theorem UE {P:Program} {N:FuncId→Note} {C:FuncId→Option gL} {mv:FuncId→Option Nat} {T:FuncId→Option Spec} {an:Nat→ig} (hg:Good P N) (hm:P.follows .mixedOrders=true) (hC:∀f q,C f=some q→eZ P f q) (hT:∀f sp,T f=some sp→gI P f sp):
  ∀n c f,eZ P f (MQ P N C mv T an n c f):=by
 intro n
 induction n with
 |zero=>intro c f args sub out h;exact(Tr.ax h).elim
 |succ n ih=>
  intro c f args sub out h ℓ0 ℓ' hs0 hs';simp only[MQ]at h;split at h
  ·rename_i q hq;exact hC f q hq args sub out h ℓ0 ℓ' hs0 hs'
  split at h
  ·rename_i fn hfn;split at h
   ·rename_i body hbody;obtain⟨h1,h⟩:=Tr.aN h;simp only[alu,alM,alF]at h1;obtain⟨⟨⟨hon,hlen⟩,hal⟩,hval⟩:=h1;obtain⟨hname,hok⟩:=hg f fn hon hfn;refine⟨entered hfn hbody hname,?_⟩
    have start:∀{ℓ},gq ℓ (qb args sub).hp→dS ℓ (qb args sub)={fr:=BQ (args.map (dV ℓ0)) 0,hp:=aT (sub.map (dN ℓ0))}:=by
     intro ℓ ha;rw[X5 hval ha (Qc hs0),Vg hal]
    split at h
    ·rename_i sp hsp;split at h
     ·rename_i hk;obtain⟨v,h2,h⟩:=Tr.aC h;obtain⟨u,h3,h4⟩:=Tr.vV h;obtain⟨l1,a1,e,he,hto⟩:=hT f sp hsp fn body hfn hbody v u h3 (gM (sp.σo.un u).hp) (gU _);obtain⟨l0,a0,w0⟩:=zJ (nt:=fn.ntmps) h2 a1;have hto:=hto.pre w0;rw[start a0]at hto;have hfin:=mY h4 hs';rw[←hk]at hto hfin;refine vP (s1:=dS (gM (sp.σo.un u).hp) (sp.σo.un u)) hfn hbody (by simpa using hlen) ?_ he ?_
      ·rw[ald];exact hto
      ·rw[ald];exact hfin
     ·exact(Tr.ax h).elim
    ·split at h
     ·
      rename_i m _;obtain⟨hm0,h⟩:=Tr.aN h;have hm0:=ali hm0;obtain⟨⟨e,s1⟩,h2,h3⟩:=Tr.aC h
      have fin:(e= .normal∨e= .ret)→((lD P fn m s1).bind fun o=>Tr.ret ((sK (eX m sub.length) o.1,o.2.1.map (fD (eX m sub.length))++(sub.drop m).map (fun b=>SB.dead b.len),o.2.2.map (fD (eX m sub.length))):SY)).mean=some out→Contract P f (args.map (dV ℓ0)) (sub.map (dN ℓ0)) (dO ℓ' out):=by
       intro he h4;obtain⟨o,h5,h6⟩:=Tr.aC h4;have:=Tr.ay h6;subst this;simp only at hs';obtain⟨l0,a0,hto⟩:=yo (E:=Bz P N f fn m) hm (fun r i f=>ih _ f) body (hok body hbody) _ _ _ h2 (gM s1.hp) (gU _);rw[start a0]at hto
       have ho:o.2.1.length=m:=by
        unfold lD at h5;obtain⟨_,_,h7⟩:=Tr.aC h5;obtain⟨_,h8⟩:=Tr.aN h7;simp only at h8;split at h8
        ·rename_i hsub;have:=Tr.ay h8;subst this;have hl:=(mapM_some _ _ _ hsub).1;simpa[aL]using hl
        ·exact(Tr.ax h8).elim
       have hsub2:xY (fun g=>ℓ' (if g.1<m then g else(g.1-m+sub.length,g.2))) (o.2.1++o.2.2):=by
        intro j b hj;by_cases hjm:j<m
        ·rw[alp (by omega)]at hj
         have:=hs' j (fD (eX m sub.length) b) (by
          rw[al7,alp (by simp;omega),ale,hj];rfl)
         rw[iO]at this;simp only[hjm,if_true];exact this
        ·rw[alm (by omega),ho]at hj
         have:=hs' (j-m+sub.length) (fD (eX m sub.length) b) (by
          rw[alm (by simp;omega)];simp only[alz,ald,alH,ho];rw[show j-m+sub.length-(m+(sub.length-m))=j-m by omega,ale,hj];rfl)
         rw[iO]at this;simp only[hjm,if_false];exact this
       have hfin:=mY h5 hsub2;have hcon:=Ho (s1:=dS (gM s1.hp) s1) (args:=args.map (dV ℓ0)) (sub:=sub.map (dN ℓ0)) (m:=m) (by simpa using hm0) hfn hbody (by simpa using hlen) hto he hfin
       have hgoes:Goes (eX m sub.length) (fun g=>ℓ' (if g.1<m then g else(g.1-m+sub.length,g.2))) ℓ':=by
        intro g g' hg;simp only[eX,alg]at hg;subst hg;rfl
       have hN:∀b,bZ (eX m sub.length) (dN (fun g=>ℓ' (if g.1<m then g else(g.1-m+sub.length,g.2))) b)=dN ℓ' (fD (eX m sub.length) b):=by
        intro b;have:=vR hgoes b
        cases b with
        |box sz v=>simp only[dN,dB,al4,alg,fD]at this ⊢;exact this
        |arr t l z=>simp only[dN,dB,al4,alg,fD]at this ⊢;exact this
        |mp t l=>simp only[dN,dB,al4,alg,fD]at this ⊢;exact this
        |dead q=>simp[dN,dB,fD,bZ]
       have heq:(BJ (eX m (sub.map (dN ℓ0)).length) (dO (fun g=>ℓ' (if g.1<m then g else(g.1-m+sub.length,g.2))) o).1,
         (dO (fun g=>ℓ' (if g.1<m then g else(g.1-m+sub.length,g.2))) o).2.1.map (fun b=>b.map (bZ (eX m (sub.map (dN ℓ0)).length)))++((sub.map (dN ℓ0)).drop m).map (fun _=>(none:Option cB)),
         (dO (fun g=>ℓ' (if g.1<m then g else(g.1-m+sub.length,g.2))) o).2.2.map (bZ (eX m (sub.map (dN ℓ0)).length)))=
         dO ℓ' (sK (eX m sub.length) o.1,o.2.1.map (fD (eX m sub.length))++(sub.drop m).map (fun b=>SB.dead b.len),o.2.2.map (fD (eX m sub.length))):=by
        simp only[dO,ald,amn,alB,←List.map_drop];rw[K4 hgoes]
        congr 3
        ·refine alO fun b _=> ?_
         exact vR hgoes b
        ·funext b
         exact hN b
       rw[heq]at hcon;exact hcon
      cases e with
      |normal=>exact fin (.inl rfl) h3
      |ret=>exact fin (.inr rfl) h3
      |exit id=>exact(Tr.ax h3).elim
     ·obtain⟨⟨e,s1⟩,h2,h3⟩:=Tr.aC h
      have fin:(e= .normal∨e= .ret)→(lD P fn sub.length s1).mean=some out→Contract P f (args.map (dV ℓ0)) (sub.map (dN ℓ0)) (dO ℓ' out):=by
       intro he h4;obtain⟨l0,a0,hto⟩:=yo (E:=Bz P N f fn sub.length) hm (fun r i f=>ih _ f) body (hok body hbody) _ _ _ h2 (gM s1.hp) (gU _);rw[start a0]at hto;refine vP (s1:=dS (gM s1.hp) s1) hfn hbody (by simpa using hlen) ?_ he ?_
       ·rw[ald];exact hto
       ·rw[ald];exact mY h4 hs'
      cases e with
      |normal=>exact fin (.inl rfl) h3
      |ret=>exact fin (.inr rfl) h3
      |exit id=>exact(Tr.ax h3).elim
   ·exact(Tr.ax h).elim
  ·exact(Tr.ax h).elim
noncomputable def bodyC(P:Program)(N:FuncId→Note)(C:FuncId→Option gL)(mv:FuncId→Option Nat)(T:FuncId→Option Spec)(an:Nat→ig)(n:Nat)(f:FuncId)(keep:Nat)(σi σo:Sg)(v:σi.den):Tr σo.den:=
 match P.funcs[f]? with
 |some fn=>
  match fn.body with
  |some body=>(jq (Bz P N f fn keep) (fun r i=>MQ P N C mv T an n ((an 0).inl r i)) (an 0) body (σi.un v)).bind fun p=>match p.1 with
   | .exit _=>.fail
   |_=>fit keep σo p.2
  |none=>.fail
 |none=>.fail
theorem wL{P:Program}{N:FuncId→Note}{C:FuncId→Option gL}{mv:FuncId→Option Nat}{T:FuncId→Option Spec}{an:Nat→ig}{n:Nat}{f:FuncId}{sp:Spec}(hC:∀f q,C f=some q→eZ P f q)(hg:Good P N)(hm:P.follows .mixedOrders=true)(hT:∀f sp,T f=some sp→gI P f sp)
  (hon:(N f).on=true) (h:∀v,(bodyC P N C mv T an n f sp.keep sp.σi sp.σo v).mean=sp.m v):gI P f sp:=by
 intro fn body hfn hbody v u hv ℓ' ha;rw[←h v]at hv;simp only[bodyC,hfn,hbody]at hv;obtain⟨⟨e,s1⟩,h1,h2⟩:=Tr.aC hv
 have fin:(e= .normal∨e= .ret)→(fit sp.keep sp.σo s1).mean=some u→∃ℓ,gq ℓ (sp.σi.un v).hp∧∃e,(e= .normal∨e= .ret)∧To P fn.ntmps sp.keep body (dS ℓ (sp.σi.un v)) e (dS ℓ' (sp.σo.un u)):=by
  intro he h3;obtain⟨l1,a1,w1⟩:=zJ (nt:=fn.ntmps) h3 ha;obtain⟨l0,a0,hto⟩:=yo (E:=Bz P N f fn sp.keep) hm (fun r i f=>UE hg hm hC hT n _ f) body ((hg f fn hon hfn).2 body hbody) _ _ _ h1 l1 a1;exact⟨l0,a0,e,he,hto.post w1⟩
 cases e with
 |normal=>exact fin (.inl rfl) h2
 |ret=>exact fin (.inr rfl) h2
 |exit id=>exact(Tr.ax h2).elim
noncomputable abbrev ah6(P:Program)(N:FuncId→Note)(T:FuncId→Option Spec)(an:Nat→ig)(n:Nat)(f:FuncId)(keep:Nat)(σi σo:Sg)(v:σi.den):Tr σo.den:=bodyC P N (fun _=>none) (fun _=>none) T an n f keep σi σo v
theorem qH{P:Program}{N:FuncId→Note}{T:FuncId→Option Spec}{an:Nat→ig}{n:Nat}{f:FuncId}{sp:Spec}(hg:Good P N)(hm:P.follows .mixedOrders=true)(hT:∀f sp,T f=some sp→gI P f sp)
  (hon:(N f).on=true) (h:∀v,(ah6 P N T an n f sp.keep sp.σi sp.σo v).mean=sp.m v):gI P f sp:=wL (fun _ _ h=>by cases h) hg hm hT hon h
def afs:List (FuncId×Nat)→FuncId→Option Nat
 | [],_=>none
 |(g,q)::r,f=>if g=f then some q else afs r f
def Kc:List (FuncId×gL)→FuncId→Option gL
 | [],_=>none
 |(g,q)::r,f=>if g=f then some q else Kc r f
theorem TR{P:Program}:∀(l:List (FuncId×gL)),(∀p∈l,eZ P p.1 p.2)→∀f q,Kc l f=some q→eZ P f q:=by
 intro l
 induction l with
 |nil=>intro _ f q h;cases h
 |cons p r ih=>
  intro hl f q h;obtain⟨g,x⟩:=p;simp only[Kc]at h;split at h
  ·rename_i e;subst e;cases h;exact hl _ (amq ..)
  ·exact ih (fun x hx=>hl x (by simp[hx])) f q h
def vg:List (FuncId×Spec)→FuncId→Option Spec
 | [],_=>none
 |(g,sp)::r,f=>if g=f then some sp else vg r f
theorem lK{P:Program}:∀(l:List (FuncId×Spec)),(∀p∈l,gI P p.1 p.2)→∀f sp,vg l f=some sp→gI P f sp:=by
 intro l
 induction l with
 |nil=>intro _ f sp h;cases h
 |cons p r ih=>
  intro hl f sp h;obtain⟨g,q⟩:=p;simp only[vg]at h;split at h
  ·rename_i e;subst e;cases h;exact hl _ (amq ..)
  ·exact ih (fun x hx=>hl x (by simp[hx])) f sp h
def WC(P:Program)(N:FuncId→Note)(f:FuncId):Bool:=
 !(N f).on||match P.funcs[f]? with
   | some fn => decide (fn.name ≠ "runtime.NumGoroutine") && match fn.body with
    |some body=>iG (N f).pairs body
    |none=>true
   |none=>true
theorem ZQ{P:Program}{N:FuncId→Note}(h:(List.range P.funcs.size).all (WC P N)=true):Good P N:=by
 intro f fn hon hfn;have hlt:f<P.funcs.size:=(amf.1 hfn).1;have hg:=(alF.1 h) f (amI.2 hlt);simp only[WC,hon,al2,alk,hfn,alu,alM]at hg;refine⟨hg.1,fun body hb=> ?_⟩;have:=hg.2;rw[hb]at this;exact this
abbrev aS(n:Int):Int:=IntKind.wrap .i64 n
abbrev bs(l:List UInt8):ByteArray:=⟨l.toArray⟩
def QI(P:Program)(ok:TypeId→Bool):List Field→Nat→Option Nat
 | [],off=>some off
 |f::r,off=>if f.offset=off∧ok f.type=true then QI P ok r (off+P.cellsOf f.type)else none
def Ae(P:Program):Nat→TypeId→Bool
 |0,_=>false
 |d+1,t=>
  match P.underlying t with
  |some (.int _)|some .bool|some .string=>decide (P.cellsOf t=1)
  |some (.slice e)=>decide (P.cellsOf t=1∧0<P.cellsOf e)&&Ae P d e
  |some (.struct fs)=>decide (QI P (Ae P d) fs.toList 0=some (P.cellsOf t))
  |some (.array n e)=>decide (P.cellsOf t=n*P.cellsOf e)&&Ae P d e
  |_=>false
def ZM:(t:Ty)→t.den→Prop
 | .int k,n=>k.min≤(show Int from n)∧(show Int from n)≤k.max
 | .bool,_=>True
 | .str,s=>s.size≤maxLen
 | .row t,l=>List.length l≤maxLen∧∀x:t.den,x∈(show List t.den from l)→ZM t x
 | .unit,_=>True
 | .cons a b,x=>ZM a x.1∧ZM b x.2
theorem M9{α:Type}{Q:Nat→α→Prop}:∀(n:Nat),(∀i,i<n→∃x,Q i x)→∃l:List α,l.length=n∧∀(i:Nat) (x:α),l[i]?=some x→Q i x:=by
 intro n
 induction n with
 |zero=>intro _;exact⟨[],rfl,fun i x h=>by simp at h⟩
 |succ n ih=>
  intro h;obtain⟨l,h1,h2⟩:=ih (fun i hi=>h i (by omega));obtain⟨x,hx⟩:=h n (by omega);refine⟨l++ [x],by simp[h1],fun i y hy=> ?_⟩;rcases am8 i n with hi|hi
  ·rw[alp (by omega)]at hy;exact h2 i y hy
  ·rw[alm (by omega)]at hy;have:i-l.length=0:=by have:=(akX.1 hy).1;simp at this;omega
   rw[this]at hy;simp at hy;subst hy;have:i=n:=by omega
   rw[this];exact hx
section
variable{H:Type}{enc0:TypeId×Value→H}{P:Program}{w:World}{sp:Nat→Bool}{held:Bool}
abbrev Hg:XT:=fun _ _=>False
def jI(w:World)(cs:List Value)(off:Nat)(es:List AV):Prop:=∀(j:Nat) (u:AV),es[j]?=some u→∃c,cs[off+j]?=some c∧c.oneCell'=true∧PR w Hg c u
theorem jI.append{cs:List Value}{off:Nat}{a b:List AV}(h:jI w cs off a)(k:jI w cs (off+a.length) b):jI w cs off (a++b):=by
 intro j u hj;rcases am8 j a.length with hlt|hge
 ·rw[alp hlt]at hj;exact h j u hj
 ·rw[alm hge]at hj;obtain⟨c,h1,h2⟩:=k (j-a.length) u hj;refine⟨c,?_,h2⟩;rw[←h1]
  congr 1
  omega
theorem jI.piece{cs:List Value}{off n:Nat}{a:List AV}(h:jI w ((cs.drop off).take n) 0 a):jI w cs off a:=by
 intro j u hj;obtain⟨c,h1,h2⟩:=h j u hj;refine⟨c,?_,h2⟩;rw[alQ]at h1;have hj:=(akX.1 h1).1;simp at hj;rw[List.getElem?_take_of_lt (by omega),amw]at h1;exact h1
def Reads(w:World)(t:Ty)(cs:List Value):Prop:=∃x:t.den,ZM t x∧jI w cs 0 (fT t x)
theorem Wd{a:Addr}(h:a.spot=none)(n m:Nat):(a.add n).add m=⟨a.block,a.off+(n+m),none⟩:=by
 obtain⟨b,o,s⟩:=a;simp only at h;subst h;unfold Addr.add;by_cases h1:n=0
 ·by_cases h2:m=0
  ·simp[h1,h2]
  ·simp[h1,h2]
 ·by_cases h2:m=0
  ·simp[h1,h2]
  ·simp[h1,h2];omega
theorem OC:∀(d:Nat) (t:TypeId) (ty:Ty),qc P d t=some ty→Ae P d t=true→P.cellsOf t=ty.size∧
  ∀(fuel:Nat) (cs:List Value) (y:DataW H×List MemPlace),DataW.trod enc0 P w 0 sp held fuel t cs=some y→cs.length=ty.size∧Reads w ty cs:=by
 intro d
 induction d with
 |zero=>intro t ty h;cases h
 |succ d ih=>
  intro t ty h hl;unfold qc at h;unfold Ae at hl;split at h
  ·rename_i k hu;cases h;rw[hu]at hl;refine⟨ali hl,fun fuel cs y hy=> ?_⟩;obtain⟨n,rfl,rfl,hw⟩:=DataW.trod_int hu hy;simp only[Lit.wf,alu,alM]at hw;refine⟨rfl,n,hw,fun j u hj=> ?_⟩
   cases j with
   |zero=>simp[fT]at hj;subst hj;exact⟨_,rfl,rfl,.int _ _⟩
   |succ j=>simp[fT]at hj
  ·rename_i hu;cases h;rw[hu]at hl;refine⟨ali hl,fun fuel cs y hy=> ?_⟩;obtain⟨b,rfl,rfl⟩:=DataW.trod_bool hu hy;refine⟨rfl,b,trivial,fun j u hj=> ?_⟩
   cases j with
   |zero=>simp[fT]at hj;subst hj;exact⟨_,rfl,rfl,.bool _⟩
   |succ j=>simp[fT]at hj
  ·rename_i hu;cases h;rw[hu]at hl;refine⟨ali hl,fun fuel cs y hy=> ?_⟩;obtain⟨s,rfl,hs⟩:=DataW.trod_string hu hy;refine⟨rfl,s,hs.2,fun j u hj=> ?_⟩
   cases j with
   |zero=>simp[fT]at hj;subst hj;exact⟨_,rfl,rfl,.str _⟩
   |succ j=>simp[fT]at hj
  ·rename_i e hu;rw[hu]at hl;obtain⟨te,h1,rfl⟩:=alf.1 h;simp only[alu,alM]at hl;obtain⟨⟨hl1,hl2⟩,hl3⟩:=hl;obtain⟨i1,i2⟩:=ih e te h1 hl3;refine⟨hl1,fun fuel cs y hy=> ?_⟩;rcases DataW.trod_slice hu hy with⟨rfl,_⟩|⟨a,len,cap,elems,rest,n,_,rfl,_,_,hlc,hcap,hlen,hel,_,_⟩
   ·refine⟨rfl,[],⟨alD _,fun x hx=>by cases hx⟩,fun j u hj=> ?_⟩
    cases j with
    |zero=>simp[fT]at hj;subst hj;exact⟨_,rfl,rfl,.lst0 _ _ _ _ (fun e=>by cases e)⟩
    |succ j=>simp[fT]at hj
   ·refine⟨rfl,?_⟩
    have each:∀i,i<len→∃x:te.den,ZM te x∧∃cs,w.cells? 0 (a.add (i*P.cellsOf e)) (P.cellsOf e)=some cs∧jI w cs 0 (fT te x):=by
     intro i hi;have hb:=hel i hi;rw[alh (by omega)]at hb;obtain⟨cs,hcs,hy'⟩:=ame.1 hb;obtain⟨_,x,hx1,hx2⟩:=i2 _ _ _ hy';exact⟨x,hx1,cs,hcs,hx2⟩
    obtain⟨l,hl4,hl5⟩:=M9 len each;refine⟨l,⟨by rw[hl4];exact alS hlc hcap,fun x hx=> ?_⟩,fun j u hj=> ?_⟩
    ·obtain⟨i,hi⟩:=List.getElem?_of_mem hx;exact(hl5 i x hi).1
    ·cases j with
     |succ j=>simp[fT]at hj
     |zero=>
      simp[fT]at hj;subst hj;refine⟨_,rfl,rfl,?_⟩
      cases len with
      |zero=>
       have:l=[]:=am6.1 hl4;subst this;exact .lst0 _ _ _ _ (fun e=>by cases e)
      |succ len=>
       have hne:0<(l.map fun x=>wrap te.agg (fT te x)).length:=by simp[hl4]
       have hz:Bd te.size (l.map fun x=>wrap te.agg (fT te x))=te.size:=Rj hne
       have hspot:a.spot=none:=by
        obtain⟨x,_,cs,hcs,_⟩:=each 0 (by omega);obtain⟨_,hn,hc⟩:=World.cells?_some hcs;have h0:=hc 0 hl2;rw[alh (by omega)]at h0;simp only[Nat.zero_mul,Addr.add,if_true]at h0;unfold World.cell? at h0;split at h0
        ·cases hs:a.spot with
         |none=>rfl
         |some s=>rw[hs]at h0;simp at h0
        ·cases h0
       have ea:a=⟨a.block,a.off,none⟩:=by obtain⟨b,o,s⟩:=a;simp only at hspot;subst hspot;rfl
       have cell:∀(i:Nat) (x:AV),(l.map fun x=>wrap te.agg (fT te x))[i]?=some x→∀(j:Nat) (u:AV),x.cells[j]?=some u→
         ∃c,w.cell? ⟨a.block,a.off+(i*te.size+j),none⟩=some c∧c.oneCell'=true∧PR w Hg c u:=by
        intro i x hx j u hu';rw[ale]at hx;obtain⟨z,hz1,rfl⟩:=alf.1 hx;have hz2:(wrap te.agg (fT te z)).cells=fT te z:=kZ te z;rw[hz2]at hu';obtain⟨_,cs,hcs,hcell⟩:=hl5 i z hz1;obtain⟨c,h3,h4,h5⟩:=hcell j u hu';obtain⟨_,hn,hc⟩:=World.cells?_some hcs;rw[alQ]at h3;have hj:j<P.cellsOf e:=by rw[←hn];exact(akX.1 h3).1
        refine⟨c,?_,h4,h5⟩;rw[←h3,←hc j hj,Wd hspot,i1]
       rw[hz,ea];refine .eO a.block a.off (len+1) cap te.size false _ (fun i j=>(w.cell? ⟨a.block,a.off+(i*te.size+j),none⟩).getD undef) (by simp[hl4]) hlc (fun e=>by cases e) (fun i x hx=> ?_) (fun i x hx j u hu'=> ?_) (fun i x hx j u hu'=> ?_)
       ·rw[ale]at hx;obtain⟨z,_,rfl⟩:=alf.1 hx;rw[show(wrap te.agg (fT te z)).cells=fT te z from kZ te z,eF]
       ·obtain⟨c,h3,h4,h5⟩:=cell i x hx j u hu';rw[h3];exact⟨fun e=>e.elim,rfl,h4⟩
       ·obtain⟨c,h3,h4,h5⟩:=cell i x hx j u hu';simp only[h3,amt];exact h5
  ·rename_i fs hu;rw[hu]at hl;have hl:=ali hl
   have flds:∀(l:List Field) (off fin:Nat) (ty:Ty),l.foldr (fun f r=>match qc P d f.type,r with
     |some a,some b=>some (Ty.cons a b)
     |_,_=>none) (some .unit)=some ty→QI P (Ae P d) l off=some fin→fin=off+ty.size∧
     ∀(cs:List Value),(∀f∈l,∃n y,DataW.trod enc0 P w 0 sp held n f.type ((cs.drop f.offset).take (P.cellsOf f.type))=some y)→∃x:ty.den,ZM ty x∧jI w cs off (fT ty x):=by
    intro l
    induction l with
    |nil=>
     intro off fin ty h1 h2;cases h1;cases h2;exact⟨rfl,fun cs _=>⟨(),trivial,fun j u hj=>by simp[fT]at hj⟩⟩
    |cons f r ihl=>
     intro off fin ty h1 h2;simp only[List.foldr_cons]at h1;split at h1
     ·rename_i a b ha hb;cases h1;simp only[QI]at h2;split at h2
      ·rename_i hc;obtain⟨rfl,hok⟩:=hc;obtain⟨j1,j2⟩:=ih f.type a ha hok;obtain⟨k1,k2⟩:=ihl _ _ _ hb h2;refine⟨by rw[k1,j1];simp only[Ty.size];omega,fun cs hcs=> ?_⟩;obtain⟨n,y,hy⟩:=hcs f (by simp);obtain⟨_,x,hx1,hx2⟩:=j2 _ _ _ hy;obtain⟨z,hz1,hz2⟩:=k2 cs (fun g hg=>hcs g (by simp[hg]));refine⟨(x,z),⟨hx1,hz1⟩,?_⟩;simp only[fT];refine hx2.piece.append ?_;rw[eF,←j1];exact hz2
      ·cases h2
     ·cases h1
   obtain⟨f1,f2⟩:=flds _ 0 _ ty h hl;refine⟨by omega,fun fuel cs y hy=> ?_⟩;obtain⟨xs,n,_,_,hlen,hxs,hf⟩:=DataW.trod_struct hu hy;refine⟨by omega,f2 cs (fun f hfm=> ?_)⟩;obtain⟨i,hi⟩:=List.getElem?_of_mem hfm;have hi':fs[i]?=some f:=by simpa using hi
   have hlt:i<fs.size:=(amf.1 hi').1;exact⟨n,xs[i]'(by omega),by rw[hf i f hi',alh (by omega)]⟩
  ·rename_i n e hu;rw[hu]at hl;simp only[alu,alM]at hl;obtain⟨hl1,hl2⟩:=hl;split at h
   ·rename_i te he;cases h;obtain⟨i1,i2⟩:=ih e te he hl2
    have elts:∀(n off:Nat),((List.replicate n te).foldr Ty.cons .unit).size=n*te.size∧∀(cs:List Value),(∀i,i<n→∃m y,DataW.trod enc0 P w 0 sp held m e ((cs.drop (off+i*P.cellsOf e)).take (P.cellsOf e))=some y)→
      ∃x:((List.replicate n te).foldr Ty.cons .unit).den,ZM _ x∧jI w cs off (fT _ x):=by
     intro n
     induction n with
     |zero=>intro off;exact⟨by simp[Ty.size],fun cs _=>⟨(),trivial,fun j u hj=>by simp[fT]at hj⟩⟩
     |succ n ihn=>
      intro off;refine⟨?_,fun cs hcs=> ?_⟩
      ·simp only[List.replicate_succ,List.foldr_cons,Ty.size,(ihn 0).1,Nat.succ_mul];omega
      ·obtain⟨m,y,hy⟩:=hcs 0 (by omega);rw[Nat.zero_mul,amB]at hy;obtain⟨_,x,hx1,hx2⟩:=i2 _ _ _ hy
       obtain⟨z,hz1,hz2⟩:=(ihn (off+P.cellsOf e)).2 cs (fun i hi=>by
        obtain⟨m,y,hy⟩:=hcs (i+1) (by omega);refine⟨m,y,?_⟩;rw[←hy]
        congr 3
        rw[Nat.succ_mul];omega)
       refine⟨(x,z),⟨hx1,hz1⟩,?_⟩
       show jI w cs off (fT te x++fT _ z)
       refine hx2.piece.append ?_;rw[eF,←i1];exact hz2
    obtain⟨f1,f2⟩:=elts n 0;refine⟨by rw[f1,hl1,i1],fun fuel cs y hy=> ?_⟩;obtain⟨xs,m,_,_,hlen,hxs,hf⟩:=DataW.trod_array hu hy;refine⟨by rw[f1,hlen,hl1,i1],f2 cs (fun i hi=> ?_)⟩;exact⟨m,xs[i]'(by omega),by rw[alQ,hf i hi,alh (by omega)]⟩
   ·cases h
  ·cases h
end
def sI:List Ty→Sh
 | []=>.nil
 |t::r=>.dat t (sI r)
def Uc:(ts:List Ty)→(sI ts).den→Prop
 | [],_=>True
 |t::r,x=>ZM t x.1∧Uc r x.2
section
variable{H:Type}{enc0:TypeId×Value→H}{P:Program}{w:World}{sp:Nat→Bool}{held:Bool}
theorem adj{d:Nat}{t:TypeId}{ty:Ty}(h:qc P d t=some ty):ty.agg=(match P.underlying t with|some (.struct _)|some (.array _ _)=>true|_=>false):=by
 cases d with
 |zero=>cases h
 |succ d=>
  unfold qc at h;split at h
  ·rename_i hu;cases h;rw[hu];rfl
  ·rename_i hu;cases h;rw[hu];rfl
  ·rename_i hu;cases h;rw[hu];rfl
  ·rename_i hu;obtain⟨te,_,rfl⟩:=alf.1 h;rw[hu];rfl
  ·rename_i fs hu;rw[hu];generalize fs.toList=l at h
   cases l with
   |nil=>cases h;rfl
   |cons f r=>
    simp only[List.foldr_cons]at h;split at h
    ·cases h;rfl
    ·cases h
  ·rename_i n e hu;rw[hu];split at h
   ·cases h;cases n<;>rfl
   ·cases h
  ·cases h
theorem TS{d:Nat}{t:TypeId}{ty:Ty}(ht:qc P d t=some ty)(hl:Ae P d t=true){v:Value}{y:DataW H}{ps:List MemPlace}(h:DataW.Trod enc0 P w 0 sp held t v y ps)
  {base:Nat} (hv:Value.okWide P w .any base t v):∃x:ty.den,ZM ty x∧PR w Hg v (enc ty x):=by
 obtain⟨fuel,hf⟩:=h;obtain⟨_,h2⟩:=OC d t ty ht hl;obtain⟨hlen,x,hx,hc⟩:=h2 _ _ _ hf;refine⟨x,hx,?_⟩;have hagg:=adj ht
 have cellwise:∀cs:Array Value,v= .agg cs→PR w Hg v (.agg (fT ty x)):=by
  intro cs e;subst e;simp only[Value.cells]at hlen hc;refine .agg cs _ (by rw[eF,←hlen];simp) (fun i hi=> ?_) (fun i u hu=> ?_)
  ·obtain⟨c,h3,h4,_⟩:=hc i ((fT ty x)[i]'(by rw[eF,←hlen];simpa using hi)) (alh _);rw[alQ]at h3
   have:cs.getD i undef=c:=by
    simp only[ala];have:cs[i]?=some c:=by simpa using h3
    rw[this];rfl
   rw[this];exact h4
  ·obtain⟨c,h3,_,h5⟩:=hc i u hu;rw[alQ]at h3
   have:cs.getD i undef=c:=by
    simp only[ala];have:cs[i]?=some c:=by simpa using h3
    rw[this];rfl
   rw[this];exact h5
 have single:(∀cs,v≠ .agg cs)→ty.agg=false→PR w Hg v (enc ty x):=by
  intro hn ha
  have hcs:v.cells.toList=[v]:=by
   cases v<;>first|rfl|exact absurd rfl (hn _)
  rw[hcs]at hc;have hl1:(fT ty x).length=1:=by rw[eF];exact M4 ha
  obtain⟨c,h3,_,h5⟩:=hc 0 ((fT ty x)[0]'(by omega)) (alh _);simp at h3;subst h3
  have one:∀(l:List AV) (h:l.length=1),wrap false l=l[0]'(by omega):=by
   intro l h
   match l,h with
   | [a],_=>rfl
  have:enc ty x=(fT ty x)[0]'(by omega):=by
   unfold enc;rw[ha];exact one _ hl1
  rw[this];exact h5
 unfold Value.okWide at hv
 cases ha:ty.agg with
 |true=>
  rw[ha]at hagg;have:enc ty x= .agg (fT ty x):=by unfold enc wrap;rw[ha]
  rw[this];split at hv
  ·obtain⟨cs,e,_⟩:=hv;exact cellwise cs e
  ·obtain⟨cs,e,_⟩:=hv;exact cellwise cs e
  ·rename_i h1 h2;split at hagg
   ·rename_i e;exact absurd e (h1 _)
   ·rename_i e;exact absurd e (h2 _ _)
   ·cases hagg
 |false=>
  rw[ha]at hagg;refine single (fun cs e=> ?_) ha;subst e;split at hv
  ·rename_i fs e;rw[e]at hagg;cases hagg
  ·rename_i n e0 e;rw[e]at hagg;cases hagg
  ·unfold Cell.okWide at hv;split at hv<;>first|(rename_i e _;cases e;done)|(rename_i e;cases e;done)|skip
   unfold Cell.ok at hv;split at hv<;>first|(rename_i e _;cases e;done)|(rename_i e;cases e;done)|exact hv
theorem PG{d base:Nat}:∀(ts:List TypeId) (tys:List Ty) (vs:List Value) (ds:List (DataW H)) (ps:List MemPlace),ts.mapM (qc P d)=some tys→(ts.all fun t=>Ae P d t)=true→
  DataW.TrodAll enc0 P w 0 sp held ts vs ds ps→(∀(j:Nat) t v,ts[j]?=some t→vs[j]?=some v→Value.okWide P w .any base t v)→
  vs.length=tys.length∧ds.length=tys.length∧∃x:(sI tys).den,Uc tys x∧∀(ℓ:Lens) (i:Nat) (u:SV),((sI tys).un x)[i]?=some u→∃v,vs[i]?=some v∧PR w Hg v (dV ℓ u):=by
 intro ts
 induction ts with
 |nil=>
  intro tys vs ds ps h1 _ h2 _;have h1:tys=[]:=by simpa using h1.symm
  subst h1;cases vs<;>cases ds<;>simp[DataW.TrodAll]at h2;exact⟨rfl,rfl,(),trivial,fun ℓ i u hu=>by simp[sI,Sh.un]at hu⟩
 |cons t r ih=>
  intro tys vs ds ps h1 hl h2 hv;rw[List.mapM_cons]at h1
  cases ha:qc P d t with
  |none=>simp[ha]at h1
  |some ty=>
   cases hb:r.mapM (qc P d)with
   |none=>simp[ha,hb]at h1
   |some tr=>
    simp[ha,hb]at h1;subst h1;simp only[List.all_cons,alu]at hl
    cases vs with
    |nil=>cases ds<;>simp[DataW.TrodAll]at h2
    |cons v vs=>
     cases ds with
     |nil=>simp[DataW.TrodAll]at h2
     |cons y ds=>
      simp only[DataW.TrodAll]at h2;obtain⟨p,q,h3,h4,_⟩:=h2;obtain⟨x,hx1,hx2⟩:=TS ha hl.1 h3 (hv 0 t v rfl rfl);obtain⟨k1,k2,z,hz1,hz2⟩:=ih tr vs ds q hb hl.2 h4 (fun j t' v' e1 e2=>hv (j+1) t' v' (by simpa using e1) (by simpa using e2));refine⟨by simp[k1],by simp[k2],(x,z),⟨hx1,hz1⟩,fun ℓ i u hu=> ?_⟩
      cases i with
      |zero=>
       simp only[sI,Sh.un,List.getElem?_cons_zero,alg]at hu;subst hu;refine⟨v,rfl,?_⟩
       have:dV ℓ (DU ty x)=enc ty x:=by
        rw[←Eg ty x ℓ];exact jr (by cases ty<;>rfl) ℓ
       rw[this];exact hx2
      |succ i=>
       obtain⟨v',e1,e2⟩:=hz2 ℓ i u (by simpa[sI,Sh.un]using hu);exact⟨v',by simpa using e1,e2⟩
theorem uI(tys:List Ty)(x:(sI tys).den):((sI tys).un x).length=tys.length:=by
 induction tys with
 |nil=>rfl
 |cons t r ih=>simp only[sI,Sh.un,alI,ih]
theorem TN:∀(vs:List SV) (i:Nat),uF (List.range' i vs.length) vs=IY vs i:=by
 intro vs
 induction vs with
 |nil=>intro i;rfl
 |cons v r ih=>intro i;simp only[alI,List.range'_succ,uF,IY,ih]
theorem TI{f:FuncId}{fn:Func}{body:Code}(hfn:P.funcs[f]?=some fn)(hbody:fn.body=some body){tys:List Ty}{r:Nat}{m:(Sg.den ⟨List.range' 0 tys.length,sI tys,.nil⟩)→Option (Sg.den ⟨[r],.dat .bool .nil,.nil⟩)}
  (hok:gI P f ⟨0,⟨List.range' 0 tys.length,sI tys,.nil⟩,⟨[r],.dat .bool .nil,.nil⟩,m⟩) (hnt:tys.length≤fn.ntmps)
  (hfin:(lD P fn 0 (Sg.un ⟨[r],.dat .bool .nil,.nil⟩ ((true,()),()))).mean=some (.bool true,[],[]))
  {x:(sI tys).den} (hx:m (x,())=some ((true,()),())) {args:Array Value} (hargs:args.size=tys.length)
  (hrel:∀(ℓ:Lens) (i:Nat) (u:SV),((sI tys).un x)[i]?=some u→∃v,args.toList[i]?=some v∧PR w Hg v (dV ℓ u)):
  Calls P f args w fun e w'=>e= .returned (.bool true)∧RowKit.Below w.heap.size w w':=by
 obtain⟨ℓ,_,e,he,hto⟩:=hok fn body hfn hbody (x,()) ((true,()),()) hx (gM (Sg.un ⟨[r],.dat .bool .nil,.nil⟩ ((true,()),())).hp) (gU _)
 have hst:dS ℓ (Sg.un ⟨List.range' 0 tys.length,sI tys,.nil⟩ (x,()))={fr:=BQ (((sI tys).un x).map (dV ℓ)) 0,hp:=aT []}:=by
  simp only[dS,Sg.un]
  congr 1
  rw[←RO]
  congr 1
  rw[←uI tys x];exact TN _ _
 rw[hst]at hto;have hc:=vP (args:=((sI tys).un x).map (dV ℓ)) (sub:=[]) hfn hbody (by rw[ald,uI];exact hnt) hto he
  (mY hfin (ℓ':=fun _=>0) (fun j b hb=>by simp at hb))
 have hemp:∀g,get (aT []) g=none:=fun g=>by simp[get,aT]
 have hXX:∀(ρ:dP) b o,¬ XX ρ (aT []) b o:=fun ρ b o ⟨g,k,hg,_⟩=>by rw[hemp]at hg;cases hg
 have hr:HR Hg w (fun _=>none) (aT []):=by
  refine⟨fun g k hg=> ?_,fun g g' k k' b hg=> ?_,fun g b hb=> ?_,fun g b hb=> ?_,fun g k b o hg=> ?_,fun b o h=>h.elim⟩
  ·rw[hemp]at hg;cases hg
  ·rw[hemp]at hg;cases hg
  ·cases hb
  ·cases hb
  ·rw[hemp]at hg;cases hg
 refine(hc Hg w (fun _=>none) args hr (by rw[ald,uI];exact hargs) (fun i u hu=> ?_)).mono ?_
 ·rw[ale]at hu;obtain⟨s,hs,rfl⟩:=alf.1 hu;obtain⟨v,h1,h2⟩:=hrel ℓ i s hs
  have:args.getD i undef=v:=by
   simp only[ala];have:args[i]?=some v:=by simpa using h1
   rw[this];rfl
  rw[this]
  exact .pur _ _ (h2.mono ((Stable.refl w Hg).less fun b o _ hxu=>by
   rcases hxu with hxu|hxu
   ·exact(hXX _ _ _ hxu).elim
   ·exact hxu))
 ·rintro e w' ⟨v,ρ',rfl,_,hv,hstab,_⟩;refine⟨?_,hstab.below (hXX _)⟩;have:=hv.iY;rw[this]
theorem Qr(hl:laidOutB P=true){W W':World}(hb:RowKit.Below W.heap.size W W'){sp':Nat→Bool}:∀(ts:List TypeId) (vs:List Value) (ds:List (DataW H)) (ps:List MemPlace),(ts.all fun t=>P.readableRec t&&decide (t<P.types.size))=true→
  DataW.TrodAll enc0 P W 0 (fun _=>true) true ts vs ds ps→(∀p∈ps,p.block<W.heap.size)→(∀p∈ps,sp' p.block=true)→DataW.TrodAll enc0 P W' 0 sp' true ts vs ds ps:=by
 intro ts
 induction ts with
 |nil=>intro vs ds ps _ h _ _;cases vs<;>cases ds<;>simp[DataW.TrodAll]at h ⊢;exact h
 |cons t r ih=>
  intro vs ds ps ht h hlt hsp;simp only[List.all_cons,alu,alM]at ht
  cases vs with
  |nil=>cases ds<;>simp[DataW.TrodAll]at h
  |cons v vs=>
   cases ds with
   |nil=>simp[DataW.TrodAll]at h
   |cons y ds=>
    simp only[DataW.TrodAll]at h ⊢;obtain⟨p,q,h1,h2,rfl⟩:=h;refine⟨p,q,WideElems.Trod_stays hl ht.1.1 ht.1.2 h1 (fun x hx=>hb.same (hlt x (by simp[hx]))) (fun x hx=>hsp x (by simp[hx])),ih vs ds q ht.2 h2 (fun x hx=>hlt x (by simp[hx])) (fun x hx=>hsp x (by simp[hx])),rfl⟩
theorem KA{f:FuncId}{fn:Func}(hfn:P.funcs[f]?=some fn)(hsome:fn.body.isSome=true){tys:List Ty}{r:Nat}{m:(Sg.den ⟨List.range' 0 tys.length,sI tys,.nil⟩)→Option (Sg.den ⟨[r],.dat .bool .nil,.nil⟩)}
  (hok:gI P f ⟨0,⟨List.range' 0 tys.length,sI tys,.nil⟩,⟨[r],.dat .bool .nil,.nil⟩,m⟩) (hnt:tys.length≤fn.ntmps)
  (hfin:(lD P fn 0 (Sg.un ⟨[r],.dat .bool .nil,.nil⟩ ((true,()),()))).mean=some (.bool true,[],[]))
  (hlaid:laidOutB P=true) (htys:fn.params.toList.mapM (qc P 8)=some tys) (hlay:(fn.params.toList.all fun t=>Ae P 8 t)=true)
  (hread:(fn.params.toList.all fun t=>P.readableRec t&&decide (t<P.types.size))=true)
  {tb:TypeId} (hres:fn.resultTypes= #[tb]) (htb:P.underlying tb=some .bool)
  {s:ChangeSpec} (hvars:s.vars=[]) (hs:∀ds:List (DataW H),ds.length=tys.length→s.fn H ds={results:=[.lit (.bool true)],args:=ds})
  (hm:∀x,Uc tys x→m (x,())=some ((true,()),()))
  {W:World} {base:Nat} {args:Array Value} {ds gs:List (DataW H)} {before:List MemPlace}
  (hval:∀(j:Nat) t v,fn.params[j]?=some t→args[j]?=some v→Value.okWide P W .any base t v)
  (hW:DataW.Whole enc0 P fn.params.toList s.vars false W args.toList ds gs before):
  Calls P f args W fun e W'=>∃v,e= .returned v∧s.post enc0 P fn false true false false W args v W':=by
 obtain⟨body,hbody⟩:=Option.isSome_iff_exists.1 hsome;have hW':=hW;obtain⟨p,q,hA,hV,rfl,hfz,hnd⟩:=hW;rw[hvars]at hV;obtain⟨k1,k2,x,hx1,hx2⟩:=PG (d:=8) (base:=base) fn.params.toList tys args.toList ds p htys hlay hA (fun j t v e1 e2=>hval j t v (by simpa using e1) (by simpa using e2))
 have hgs:gs=[]∧q=[]:=by
  cases gs with
  |nil=>exact⟨rfl,by simpa[DataW.TrodVars]using hV⟩
  |cons _ _=>simp[DataW.TrodVars]at hV
 obtain⟨rfl,rfl⟩:=hgs;refine(TI (w:=W) hfn hbody hok hnt hfin (hm x hx1) (by simpa using k1) hx2).mono ?_;rintro e W' ⟨rfl,hb⟩;have hlt:∀y∈p,y.block<W.heap.size:=fun y hy=>by simpa using hW'.lt y (by simpa using hy)
 refine⟨_,rfl,ds,[],p++ [],[],p,[],hW',?_,?_,?_,?_,fun h=>by cases h⟩
 ·rw[alE,hs ds k2,hres]
  show DataW.TrodAll enc0 P W' _ _ _ [tb] _ _ _
  simp only[Value.resultList,Array.size];exact⟨[],[],RowKit.shut_bool htb true,rfl,rfl⟩
 ·rw[alE,hs ds k2];exact Qr hlaid hb _ _ _ _ hread hA hlt (fun y hy=>by simpa using hlt y hy)
 ·rw[alE,hs ds k2,hvars];exact rfl
 ·exact hb.frame _
end
theorem bK{x:Int}(h1: -9223372036854775808≤x)(h2:x≤9223372036854775807):aS x=x:=by
 unfold aS IntKind.wrap;simp only[IntKind.bits,IntKind.signed,alL];split<;>(rename_i h;simp at h;omega)
def lose:AV→AV
 | .slc _=>.eO 0 [] false
 |v=>v
def Q0(s:St):St:={fr:=s.fr.map fun p=>(p.1,lose p.2),hp:=s.hp}
theorem VW.lose{H:Heap}(x:AV):VW H H x (lose x):=by
 cases x with
 |slc b=>
  intro Y w ρ v hr hv
  cases hv with
  |pur v x h=>cases h with
   |slc a cap=>exact .pur _ _ (.lst0 a cap 0 false (fun e=>by cases e))
 |_=>exact VW.refl _ _
theorem Tj(t:Nat):∀fr:Fr,look (fr.map fun p=>(p.1,lose p.2)) t=lose (look fr t):=by
 intro fr
 induction fr with
 |nil=>rfl
 |cons p r ih=>
  simp only[al3,look];split
  ·rfl
  ·exact ih
theorem Weak.lose{nt m:Nat}(s:St):Weak nt m s (Q0 s):=
 Weak.of (HW.refl _) fun t=>by
  simp only[Q0,Tj];exact VW.lose _
def tY(E:Env):Code→St→Option (Ex×St)
 | .skip,s=>some (.normal,s)
 | .label _,s=>some (.normal,s)
 | .exit i,s=>some (.exit i,s)
 | .ret,s=>some (.ret,s)
 | .region id ops draw,s=>match iG E.pairs (.region id ops draw)with
  |true=>(nL E id ops draw s).map fun s=>(.normal,s)
  |false=>none
 | .seq a b,s=>match tY E a s with
  |some (.normal,s1)=>tY E b s1
  |some (e,s1)=>some (e,s1)
  |none=>none
 | .cond o x y,s=>match sP s.fr o with
  | .bool true=>tY E x (Q0 s)
  | .bool false=>tY E y (Q0 s)
  |_=>none
 | .block id b,s=>match tY E b s with
  |some (e,s1)=>some (leave id e,s1)
  |none=>none
 |_,_=>none
theorem UL{E:Env}(hS:∀i,Sound E.P (E.call i))(hm:E.P.follows .mixedOrders=true):∀(c:Code) (s:St) (e:Ex) (s':St),tY E c s=some (e,s')→To E.P E.nt E.keep c s e s':=by
 intro c
 induction c with
 |skip=>intro s e s' h;cases h;exact To.skip
 |label _=>intro s e s' h;cases h;exact To.label
 |exit i=>intro s e s' h;cases h;exact To.exit
 |ret=>intro s e s' h;cases h;exact To.ret
 |region id ops draw=>
  intro s e s' h;simp only[tY]at h;split at h
  ·rename_i hok;obtain⟨s1,h1,h2⟩:=alf.1 h;cases h2;exact To.region hS hm hok h1
  ·cases h
 |seq a b iha ihb=>
  intro s e s' h;simp only[tY]at h;split at h
  ·rename_i s1 h1;exact(iha _ _ _ h1).seq (ihb _ _ _ h)
  ·rename_i e1 s1 hne h1;cases h;exact(iha _ _ _ h1).R5 (fun he=>hne he)
  ·cases h
 |cond o x y ihx ihy=>
  intro s e s' h;simp only[tY]at h;split at h
  ·rename_i hp;exact To.cond hp ((ihx _ _ _ h).pre (Weak.lose s))
  ·rename_i hp;exact To.cond hp ((ihy _ _ _ h).pre (Weak.lose s))
  ·cases h
 |block id b ih=>
  intro s e s' h;simp only[tY]at h;split at h
  ·rename_i e1 s1 h1;cases h;exact To.block (ih _ _ _ h1)
  ·cases h
 |_=>intro s e s' h;cases h
theorem To.split{P:Program}{nt keep sz:Nat}{H:Heap}{c:Code}{e:Ex}{s':St}(hT:∀b,To P nt keep c {fr:=[(0,.slc b)],hp:=H} e s'):To P nt keep c {fr:=[(0,.eO sz [] false)],hp:=H} e s':=by
 intro Y a w ρ Q hsr hQ;have h0:=hsr.fr 0;simp only[look,if_true]at h0
 have hv:∃ad cap,a.tmps.getD 0 undef= .slice ad 0 cap:=by
  generalize a.tmps.getD 0 undef=v at h0
  cases h0 with
  |pur v x h=>cases h with
   |lst0 ad cap sz t ht=>exact⟨_,_,rfl⟩
   |eO b o n cap sz t xs f hn hc ht hsz hx hr=>simp only[List.length_nil]at hn;subst hn;exact⟨_,_,rfl⟩
 obtain⟨ad,cap,hv⟩:=hv;refine hT ad.isNone Y a w ρ Q ⟨hsr.1,hsr.2,fun t=> ?_,hsr.4⟩ hQ;simp only[look];split
 ·rename_i ht;subst ht;rw[hv];exact .pur _ _ (.slc ad cap)
 ·exact .undef _
def iC(t:Ty):Sg:=⟨[0],.dat (.row t) .nil,.nil⟩
def oC(t:Ty):Sg:=⟨[2],.st (.own t (0,0)) .nil,.arr t false .nil⟩
def mC(t:Ty)(v:(List t.den×Unit)×Unit):Option (Unit×(List t.den×Unit)):=
 bif decide (v.1.1.length≤4294967296)then some ((),(v.1.1,()))else none
def spC(t:Ty):Spec:=⟨0,iC t,oC t,mC t⟩
def mP(t:Ty)(v:(List t.den×Unit)×Unit):Option (Unit×(List t.den×Unit)):=
 bif decide (0<v.1.1.length)then(bif decide (([]:List t.den).length+v.1.1.length≤4294967296)then some ((),([]++v.1.1,()))else none)else none
def spP(t:Ty):Spec:=⟨0,iC t,oC t,mP t⟩
def X0:CL:=fun _ _ _=>none
theorem JX(P:Program):Sound P X0:=fun _ _ _ _ h=>by cases h
def ah7(P:Program)(N:FuncId→Note)(f:FuncId)(fn:Func):Env:={P,N,call:=fun _=>X0,nt:=fn.ntmps,j6:=(N f).j6,pairs:=(N f).pairs,keep:=0}
def target(t:Ty):St:={fr:=[(2,.own (0,0) t.size 0 0)],hp:=[[some ⟨t.size,[],0,false⟩]]}
def abI(n:Nat):AV→Bool
 | .own g sz off len=>decide (g=(0,0)∧sz=n∧off=0∧len=0)
 |_=>false
def ab9(n:Nat):Option cB→Bool
 |some ⟨sz,[],0,false⟩=>decide (sz=n)
 |_=>false
def MB:AV→Bool
 | .eO _ [] true=>true
 |_=>false
def Wq(t:Ty)(s:St):Bool:=
 (MB (look s.fr 2)&&s.hp.isEmpty)||match tidy 0 {fr:=[(2,look s.fr 2)],hp:=s.hp} with
  |{fr:=[(2,x)],hp:=[[b]]}=>abI t.size x&&ab9 t.size b
  |_=>false
def DW(P:Program)(N:FuncId→Note)(f:FuncId)(t:Ty)(b:Bool):Bool:=
 match P.funcs[f]? with
 |some fn=>match fn.body with
  |some body=>match tY (ah7 P N f fn) body {fr:=[(0,.slc b)],hp:=[]} with
   |some (.ret,s)=>Wq t s
   |_=>false
  |none=>false
 |none=>false
theorem Weak.drop{nt:Nat}(s:St):Weak nt 0 s {fr:=[(2,look s.fr 2)],hp:=s.hp}:=
 Weak.of (HW.refl _) fun t=>by
  simp only[look];split
  ·rename_i h;subst h;exact VW.refl _ _
  ·exact VW.undef
theorem OV{nt:Nat}{t:Ty}{s:St}(h:Wq t s=true):Weak nt 0 s (target t):=by
 unfold Wq at h;rw[amF]at h;rcases h with h|h
 ·rw[alu]at h;obtain⟨h1,h2⟩:=h;refine(Weak.drop s).trans ?_;have hp:s.hp=[]:=by simpa using h2
  rw[hp];refine Weak.of (HW.grow [] t.size) fun k=> ?_
  simp only[look,target];split
  ·generalize look s.fr 2=x at h1;unfold MB at h1;split at h1
   ·exact VW.MZ
   ·cases h1
  ·exact VW.undef
 ·split at h
  ·rename_i x b he;rw[alu]at h;obtain⟨h1,h2⟩:=h;refine(Weak.drop s).trans ?_
   have e1:target t=tidy 0 {fr:=[(2,look s.fr 2)],hp:=s.hp}:=by
    rw[he];unfold abI at h1;unfold ab9 at h2;split at h1
    ·split at h2
     ·have h1:=ali h1;have h2:=ali h2;obtain⟨rfl,rfl,rfl,rfl⟩:=h1;subst h2;rfl
     ·cases h2
    ·cases h1
   rw[e1];exact Weak.tidy _
  ·cases h
theorem vL{P:Program}{N:FuncId→Note}{f:FuncId}{t:Ty}(hm:P.follows .mixedOrders=true)(hp:gI P f (spP t))(h0:DW P N f t false=true)(h1:DW P N f t true=true):gI P f (spC t):=by
 intro fn body hfn hbody v u hv ℓ' ha;obtain⟨⟨l,u1⟩,u2⟩:=v;simp only[spC,mC]at hv
 cases hl:decide (l.length≤4294967296)with
 |false=>rw[hl]at hv;cases hv
 |true=>
  rw[hl]at hv;have hv:=Option.some.inj hv;subst hv
  cases l with
  |cons a r=>
   refine hp fn body hfn hbody ((a::r,u1),u2) ((),(a::r,())) ?_ ℓ' ha;have hl2:=ali hl;simp only[spP,mP];simp only[alI]at hl2 ⊢;simp only[Nat.zero_lt_succ,amr,cond_true,List.length_nil,alQ,hl2];rfl
  |nil=>
   refine⟨fun _=>0,?_,.ret,.inr rfl,?_⟩
   ·intro g b hg;simp[spC,iC,Sg.un,ja.un,bO]at hg
   ·have ht:dS ℓ' ((spC t).σo.un ((),([],())))=target t:=by
     have h2:=ha (0,0) (.arr t [] (ahy false)) rfl;simp only[SB.len,List.length_nil]at h2;simp only[dS,dF,dH,spC,oC,Sg.un,Sh.un,ja.un,uF,o6.un,al3,alJ,target,dV,dA,dC,d1,h2];rfl
    have key:∀b,To P fn.ntmps 0 body {fr:=[(0,.slc b)],hp:=[]} .ret (target t):=by
     intro b;have hb:DW P N f t b=true:=by cases b<;>assumption
     simp only[DW,hfn,hbody]at hb;split at hb
     ·rename_i s hs;exact(UL (E:=ah7 P N f fn) (fun _=>JX P) hm body _ _ _ hs).post (OV hb)
     ·cases hb
    have goal:To P fn.ntmps 0 body {fr:=[(0,.eO 0 [] false)],hp:=[]} .ret (target t):=To.split key;rw[←ht]at goal;exact goal
theorem Bt{w w':World}{b:Nat}(h:w'.heap[b]?=w.heap[b]?)(o:Nat):w'.cell? ⟨b,o,none⟩=w.cell? ⟨b,o,none⟩:=by
 simp only[World.cell?,h]
def YH(t:Ty):gL:=fun args sub=>match args,sub with
 | [.own t' g,.int .i64 i,.int .i64 j],[.arr t2 l .zero]=>
  .when (decide (t'=t∧g=(0,0)∧0<t.size)) (if h:t2=t then
   .need (decide (0≤i∧i<j∧j≤l.length∧l.length≤4294967296)) (.ret (.own t (1,0),[.dead l.length],[.arr t ((h ▸ l:List t.den).take i.toNat++(h ▸ l:List t.den).drop j.toNat) .zero]))else .fail)
 |_,_=>.fail
def tV(sz b n cap i j:Nat)(w:World)(cs:Array Value)(T:TypeId)(e:Ending)(w':World):Prop:=
 ∃cs':Array Value,e= .returned (.slice (some ⟨b,0,none⟩) (n-(j-i)) cap)∧w'.heap[b]?=some (.cells cs' T (0,0))∧cs'.size=cs.size∧
  (∀k,k<i*sz→cs'.getD k undef=cs.getD k undef)∧(∀k,i*sz≤k→k<(n-(j-i))*sz→cs'.getD k undef=cs.getD (k+(j-i)*sz) undef)∧
  w'.os=w.os∧w'.tape=w.tape∧w'.output=w.output∧w'.heap.size=w.heap.size∧∀k,k≠b→w'.heap[k]?=w.heap[k]?
theorem adF{P:Program}{f:FuncId}{t:Ty}(hent:mX P f)
  (h:∀(w:World) (b n cap i j:Nat) (cs:Array Value) (T:TypeId),w.heap[b]?=some (.cells cs T (0,0))→cap*t.size≤cs.size→(∀k,k<n*t.size→(cs.getD k undef).oneCell'=true)→i<j→j≤n→n≤cap→n≤4294967296→
   Calls P f #[.slice (some ⟨b,0,none⟩) n cap,.int .i64 i,.int .i64 j] w (tV t.size b n cap i j w cs T)):eZ P f (YH t):=by
 intro args sub out hc ℓ0 ℓ' hs0 hs';refine⟨hent,?_⟩;unfold YH at hc;split at hc
 ·rename_i t' g i j t2 l;obtain⟨q1,hc2⟩:=Tr.aN hc;clear hc;obtain⟨rfl,rfl,hps⟩:=ali q1;split at hc2
  ·rename_i ht2;subst ht2;obtain⟨q2,hc3⟩:=Tr.aX hc2;obtain⟨i0,ij,jl,ll⟩:=ali q2;have:=Tr.ay hc3;subst this;clear hc2 hc3 q1 q2;simp only at hs';obtain⟨i,rfl⟩:=Int.eq_ofNat_of_zero_le i0;obtain⟨j,rfl⟩:=Int.eq_ofNat_of_zero_le (show 0≤j by omega);simp only[akZ]at hs' ⊢;have hl0:ℓ0 (0,0)=l.length:=hs0 0 _ rfl
   have hl1:ℓ' (1,0)=l.length-(j-i):=by
    have:=hs' 1 _ rfl;rw[this];simp only[SB.len,alz,alv,alH];omega
   intro Y w ρ vals hr hsz hv;have hsz3:vals.size=3:=by simpa using hsz
   have v0:=hv 0 _ rfl;have v1:=hv 1 _ rfl;have v2:=hv 2 _ rfl
   have hvals:vals= #[vals.getD 0 undef,vals.getD 1 undef,vals.getD 2 undef]:=by
    apply Array.ext
    ·simp[hsz3]
    ·intro k hk _;have:k=0∨k=1∨k=2:=by omega
     rcases this with rfl|rfl|rfl<;>simp[Array.getD,hsz3]
   rw[hvals];generalize vals.getD 0 undef=a0 at v0;generalize vals.getD 1 undef=a1 at v1;generalize vals.getD 2 undef=a2 at v2;rw[v1.eY,v2.eY]
   have v0:VR w (XU Y ρ (aT [⟨t2.size,l.map (enc t2),0,false⟩])) ρ a0 (.own (0,0) t2.size 0 l.length):=by
    rw[←hl0];exact v0
   have hr:HR Y w ρ (aT [⟨t2.size,l.map (enc t2),0,false⟩]):=hr;rcases v0.jV with⟨_,_,hlen⟩|⟨b,cap,rfl,hρ,hb,hcap,hk⟩
   ·omega
   have hg:get (aT [⟨t2.size,l.map (enc t2),0,false⟩]) (0,0)=some ⟨t2.size,l.map (enc t2),0,false⟩:=rfl;obtain⟨cs,T,hh,hel⟩:=(hr.at hg hρ).cells hps;have hbs:bsize w b=cs.size:=by simp[bsize,hh]
   rw[hbs]at hk;simp only[Nat.zero_mul,alQ]at hk ⊢
   have hone:∀k,k<l.length*t2.size→(cs.getD k undef).oneCell'=true:=by
    intro k hk'
    have hp:0<t2.size:=by
     rcases Nat.eq_zero_or_pos t2.size with h0|h0
     ·rw[h0]at hk';omega
     ·exact h0
    have hq:k / t2.size<l.length:=(Nat.div_lt_iff_lt_mul hp).2 hk';have hx:(l.map (enc t2))[k / t2.size]?=some (enc t2 l[k / t2.size]):=by rw[ale,alh hq];rfl
    obtain⟨c1,c2⟩:=hel.2 _ _ hx;have hm:k % t2.size<(enc t2 l[k / t2.size]).cells.length:=by rw[c1];exact Nat.mod_lt _ hp
    have:=(c2 (k % t2.size) _ (alh hm)).1
    rwa [show k / t2.size*t2.size+k % t2.size=k by rw[Nat.mul_comm];exact Nat.div_add_mod k t2.size]at this
   refine(h w b l.length cap i j cs T hh hk hone (by omega) (by omega) hcap ll).mono ?_;rintro e w' ⟨cs',rfl,m1,m2,m3,m4,m5,m6,m7,m8,m9⟩
   have hel':bg false w (XU Y ρ (aT [⟨t2.size,l.map (enc t2),0,false⟩])) ρ cs' t2.size ((l.take i++l.drop j).map (enc t2)):=by
    obtain⟨s1,s2⟩:=hel
    have hlen':(l.take i++l.drop j).length=l.length-(j-i):=by
     simp only[alz,alv,alH];omega
    refine⟨?_,fun q x hq=> ?_⟩
    ·rw[ald,hlen',m2];refine alS ?_ s1;rw[ald];exact alq _ (by omega)
    ·rw[ale]at hq;obtain⟨y,hy,rfl⟩:=alf.1 hq;have hql:=(akX.1 hy).1;rw[hlen']at hql;rcases am8 q i with hlt|hge
     ·rw[alp (by rw[alv];omega),List.getElem?_take_of_lt hlt]at hy;obtain⟨c1,c2⟩:=s2 q (enc t2 y) (by rw[ale,hy];rfl)
      replace c1:(enc t2 y).cells.length=t2.size:=c1
      refine⟨c1,fun r u hu=> ?_⟩;have hrl:=(akX.1 hu).1;rw[c1]at hrl
      have hpos:q*t2.size+r<i*t2.size:=by
       have:=alq t2.size (show q+1≤i by omega);rw[alX,Nat.one_mul]at this;omega
      rw[m3 _ hpos];exact c2 r u hu
     ·rw[alm (by rw[alv];omega),amw,alv,show j+(q-min i l.length)=q+(j-i) by omega]at hy;obtain⟨c1,c2⟩:=s2 (q+(j-i)) (enc t2 y) (by rw[ale,hy];rfl)
      replace c1:(enc t2 y).cells.length=t2.size:=c1
      refine⟨c1,fun r u hu=> ?_⟩;have hrl:=(akX.1 hu).1;rw[c1]at hrl;have h1:i*t2.size≤q*t2.size+r:=alS (alq _ hge) (Nat.le_add_right _ _)
      have h2:q*t2.size+r<(l.length-(j-i))*t2.size:=by
       have:=alq t2.size (show q+1≤l.length-(j-i) by omega);rw[alX,Nat.one_mul]at this;omega
      rw[m4 _ h1 h2,show q*t2.size+r+(j-i)*t2.size=(q+(j-i))*t2.size+r by rw[alX];omega];exact c2 r u hu
   obtain⟨w1,w2⟩:=hr.write (k1:=⟨t2.size,(l.take i++l.drop j).map (enc t2),0,false⟩) hg hρ hps m5 m6 m7 m8 m9 hh m1 m2 (fun o ho=>by simp at ho) rfl (alj _) hel';have hset:Abs.set (aT [⟨t2.size,l.map (enc t2),0,false⟩]) (0,0) (some ⟨t2.size,(l.take i++l.drop j).map (enc t2),0,false⟩)=[[some ⟨t2.size,(l.take i++l.drop j).map (enc t2),0,false⟩]]:=rfl;rw[hset]at w1 w2;generalize hk1:(⟨t2.size,(l.take i++l.drop j).map (enc t2),0,false⟩:cB)=k1 at w1 w2;have hfr:k1.jw=0:=by rw[←hk1]
   have hbx:k1.box=false:=by rw[←hk1]
   have hnone:ρ (1,0)=none:=by
    cases hq:ρ (1,0)with
    |none=>rfl
    |some c=>have:=w1.dom _ _ hq;simp at this
   have old1:∀g k,get [[some k1]] g=some k→g=(0,0)∧k=k1:=by
    rintro⟨x,y⟩ k hg'
    match x,y,hg' with
    |0,0,hg'=>simp[get]at hg';exact⟨rfl,hg'.symm⟩
    |0,y+1,hg'=>simp[get]at hg'
    |x+1,y,hg'=>simp[get]at hg'
   have new1:∀g k,get (aG [none] [k1]) g=some k→g=(1,0)∧k=k1:=by
    rintro⟨x,y⟩ k hg'
    match x,y,hg' with
    |0,0,hg'=>simp[get,aG]at hg'
    |0,y+1,hg'=>simp[get,aG]at hg'
    |1,0,hg'=>simp[get,aG]at hg';exact⟨rfl,hg'.symm⟩
    |1,y+1,hg'=>simp[get,aG]at hg'
    |x+2,y,hg'=>simp[get,aG]at hg'
   have hupd:upd ρ (1,0) b (1,0)=some b:=by simp[upd]
   have hXX:XX (upd ρ (1,0) b) (aG [none] [k1])=XX ρ [[some k1]]:=by
    funext c o
    apply propext;constructor
    ·rintro⟨g,k,a1,a2,a3⟩;obtain⟨rfl,e⟩:=new1 g k a1;rw[hupd]at a2;cases a2;rw[e]at a3;exact⟨(0,0),k1,rfl,hρ,a3⟩
    ·rintro⟨g,k,a1,a2,a3⟩;obtain⟨rfl,e⟩:=old1 g k a1;rw[hρ]at a2;cases a2;rw[e]at a3;exact⟨(1,0),k1,rfl,hupd,a3⟩
   have hXU:XU Y (upd ρ (1,0) b) (aG [none] [k1])=XU Y ρ [[some k1]]:=by
    funext c o
    simp only[XU,hXX]
   have hsub:∀g c,ρ g=some c→upd ρ (1,0) b g=some c:=by
    intro g c hgc;unfold upd;split
    ·rename_i e;rw[e,hnone]at hgc;cases hgc
    ·exact hgc
   have goal:HR Y w' (upd ρ (1,0) b) (aG [none] [k1])∧VR w' (XU Y (upd ρ (1,0) b) (aG [none] [k1])) (upd ρ (1,0) b) (.slice (some ⟨b,0,none⟩) (l.length-(j-i)) cap) (.own (1,0) t2.size 0 (l.length-(j-i)))∧
     Stable w (XX ρ (aT [⟨t2.size,l.map (enc t2),0,false⟩])) w' (XX (upd ρ (1,0) b) (aG [none] [k1])):=by
    refine⟨⟨fun g k hgk=> ?_,fun g g' k k' c h1 h2 _ _=> ?_,fun g c hgc=> ?_,fun g c hgc=> ?_,fun g k c o hgk hgc=> ?_,fun c o hy=>w1.ylt c o hy⟩,?_,?_⟩
    ·obtain⟨rfl,e⟩:=new1 g k hgk;rw[e];right;refine⟨b,hupd,?_⟩;rcases w1.blk (0,0) k1 rfl with⟨n1,_⟩|⟨b',n1,hb1⟩
     ·rw[hρ]at n1;cases n1
     ·rw[hρ]at n1;cases n1;rw[hXU];have hz1:0<k1.sz:=by rw[←hk1];exact hps
      obtain⟨cs1,T1,n2,n3⟩:=hb1.cells hz1;refine .inl ⟨hz1,cs1,T1,n2,n3.1,fun q x hq=>⟨(n3.2 q x hq).1,fun r u hu=> ?_⟩⟩;obtain⟨p1,p2⟩:=(n3.2 q x hq).2 r u hu;refine⟨p1,?_⟩;rw[hbx]at p2 ⊢;exact p2
    ·rw[(new1 g k h1).1,(new1 g' k' h2).1]
    ·unfold upd at hgc;split at hgc
     ·rename_i e;subst e;simp[aG]
     ·have:=w1.dom g c hgc;obtain⟨x,y⟩:=g
      match x,y,this with
      |0,0,_=>simp[aG]
      |0,y+1,hd=>simp at hd
      |x+1,y,hd=>simp at hd
    ·unfold upd at hgc;split at hgc
     ·cases hgc;exact w1.lt (0,0) b hρ
     ·exact w1.lt g c hgc
    ·obtain⟨rfl,_⟩:=new1 g k hgk;rw[hupd]at hgc;cases hgc;exact w1.sep (0,0) k1 b o rfl hρ
    ·have:=VR.own (w:=w') (X:=XU Y (upd ρ (1,0) b) (aG [none] [k1])) (ρ:=upd ρ (1,0) b) (1,0) b t2.size 0 (l.length-(j-i)) cap hupd (w1.lt (0,0) b hρ) (by omega) (by simp[bsize,m1,m2,hk]);simpa using this
    ·rw[hXX];exact w2
   subst hk1;refine⟨_,upd ρ (1,0) b,rfl,goal.1,?_,goal.2.2,hsub⟩
   show VR w' _ _ _ (.own (1,0) t2.size 0 (ℓ' (1,0)))
   rw[hl1];exact goal.2.1
  ·exact(Tr.ax hc2).elim
 ·exact(Tr.ax hc).elim
def XK:SV→Option Value
 | .int k n=>some (.int k n)
 | .bool b=>some (.bool b)
 | .str s=>some (.string s)
 |_=>none
def YQ:List SV→Option (List Value)
 | []=>some []
 |v::r=>match XK v,YQ r with
  |some x,some l=>some (x::l)
  |_,_=>none
def toV:SV→Option Value
 | .tup vs=>(YQ vs).map fun l=>.tuple l.toArray
 |v=>XK v
structure Kept(w w':World):Prop where
 os:w'.os=w.os
 tape:w'.tape=w.tape
 output:w'.output=w.output
 size:w.heap.size≤w'.heap.size
 old:∀i,i<w.heap.size→w'.heap[i]?=w.heap[i]?
theorem Kept.refl(w:World):Kept w w:=⟨rfl,rfl,rfl,alj _,fun _ _=>rfl⟩
def isPure:SV→Bool
 | .int ..| .bool _| .str _| .row ..=>true
 |_=>false
def Db(F:List SV→Tr SV):gL:=fun args sub=>match sub with
 | []=>.when (args.all isPure) ((F args).bind fun v=>.ret (v,[],[]))
 |_=>.fail
theorem Lv{w:World}{X:XT}{v:SV}{u:Value}(h:XK v=some u)(ℓ:Lens):PR w X u (dA ℓ v)∧dV ℓ v=dA ℓ v:=by
 cases v<;>simp only[XK,alg]at h<;>first|(cases h;done)|(subst h;exact⟨by first|exact .int _ _|exact .bool _|exact .str _,rfl⟩)
theorem Mi{w:World}{X:XT}{ℓ:Lens}:∀{vs:List SV} {us:List Value},YQ vs=some us→us.length=vs.length∧∀(i:Nat) (v:SV),vs[i]?=some v→∃u,us[i]?=some u∧PR w X u (dA ℓ v)
 | [],us,h=>by cases h;exact⟨rfl,fun i v hi=>by simp at hi⟩
 |v::r,us,h=>by
  simp only[YQ]at h;split at h
  ·rename_i x l h1 h2;cases h;obtain⟨e1,e2⟩:=Mi (w:=w) (X:=X) (ℓ:=ℓ) h2;refine⟨by simp[e1],fun i y hi=> ?_⟩
   cases i with
   |zero=>simp at hi;subst hi;exact⟨x,rfl,(Lv h1 ℓ).1⟩
   |succ i=>exact e2 i y (by simpa using hi)
  ·cases h
theorem aaQ{w:World}{X:XT}{ρ:dP}{v:SV}{u:Value}(h:toV v=some u)(ℓ:Lens):VR w X ρ u (dV ℓ v):=by
 have one:XK v=some u→VR w X ρ u (dV ℓ v):=fun h=>by
  obtain⟨a,b⟩:=Lv (w:=w) (X:=X) h ℓ;rw[b];exact .pur _ _ a
 cases v with
 |tup vs=>
  simp only[toV]at h;obtain⟨us,h1,rfl⟩:=alf.1 h;obtain⟨e1,e2⟩:=Mi (w:=w) (X:=X) (ℓ:=ℓ) h1;refine .tup _ _ (by simp[e1]) (fun i x hi=> ?_);rw[ale]at hi;obtain⟨y,hy,rfl⟩:=alf.1 hi;obtain⟨u,h3,h4⟩:=e2 i y hy;have:us.toArray.getD i undef=u:=by simp[ala,h3]
  rw[this];exact .pur _ _ h4
 |_=>exact one h
theorem FL{w:World}{X:XT}{ρ:dP}{x:SV}{v:Value}{ℓ:Lens}(h:isPure x=true)(hv:VR w X ρ v (dV ℓ x)):PR w X v (d1 ℓ x):=by
 cases x<;>first|(simp[isPure]at h;done)|skip
 case row t l tg=>
  obtain⟨_,_,_,_,_,hp⟩:=VR.oD (show VR w X ρ v (.eO _ _ _)from hv);exact hp
 all_goals
  cases hv with
  |pur v x h=>exact h
theorem pure_ok{P:Program}{f:FuncId}{F:List SV→Tr SV}(hent:mX P f)
  (h:∀args v,(F args).mean=some v→∃u,toV v=some u∧∀(w:World) (X:XT) (vals:Array Value),vals.size=args.length→(∀(i:Nat) (x:SV),args[i]?=some x→PR w X (vals.getD i undef) (d1 (fun _=>0) x))→
   Calls P f vals w fun e w'=>e= .returned u∧Kept w w'):eZ P f (Db F):=by
 intro args sub out hc ℓ0 ℓ' _ _;refine⟨hent,?_⟩;unfold Db at hc;split at hc
 ·obtain⟨hall,hc⟩:=Tr.aN hc;obtain⟨v,h1,h2⟩:=Tr.aC hc;have:=Tr.ay h2;subst this;obtain⟨u,hu,hw⟩:=h args v h1;intro Y w ρ vals hr hsz hv;refine(hw w (XU Y ρ (aT [])) vals (by simpa using hsz) (fun i x hi=> ?_)).mono ?_
  ·have hp:isPure x=true:=(alF.1 hall) x (alb hi);have:=FL hp (hv i (dV ℓ0 x) (by rw[ale,hi];rfl))
   cases x<;>first|exact this|(simp[isPure]at hp;done)
  rintro e w' ⟨rfl,k⟩;have hH:∀g,get (aG (([]:List (Option cB))) ([]:List cB)) g=none:=fun g=>by simp[get,aG]
  have hXX:∀b o,¬ XX ρ (aG [] []) b o:=by
   rintro b o ⟨g,k,a1,_⟩;rw[hH]at a1;cases a1
  refine⟨u,ρ,rfl,?_,?_,?_,fun _ _ h=>h⟩
  ·refine⟨fun g k hg=> ?_,fun g g' k k' b hg=> ?_,fun g b hb=> ?_,fun g b hb=> ?_,fun g k b o hg=> ?_,fun b o hy=> ?_⟩
   ·exact absurd ((hH g).symm.trans hg) (by simp)
   ·exact absurd ((hH g).symm.trans hg) (by simp)
   ·exact hr.dom g b hb
   ·have:=hr.lt g b hb;have:=k.size;omega
   ·exact absurd ((hH g).symm.trans hg) (by simp)
   ·have:=hr.ylt b o hy;have:=k.size;omega
  ·exact aaQ hu ℓ'
  ·refine⟨k.os,k.tape,k.output,k.size,fun b o hb _=>⟨hXX b o,Bt (k.old b hb) o⟩,fun b hb=> ?_,fun b hb _=>k.old b hb⟩;simp only[bsize,k.old b hb]
 ·exact(Tr.ax hc).elim
theorem PR.jM{w:World}{X:XT}{v:Value}{s:ByteArray}(h:PR w X v (.str s)):v= .string s:=by cases h;rfl
theorem Zu{vals:Array Value}(h:vals.size=1):vals= #[vals.getD 0 undef]:=by
 apply Array.ext
 ·simp[h]
 ·intro k hk _;have:k=0:=by omega
  subst this;simp[Array.getD,h]
theorem Vl{vals:Array Value}(h:vals.size=2):vals= #[vals.getD 0 undef,vals.getD 1 undef]:=by
 apply Array.ext
 ·simp[h]
 ·intro k hk _;have:k=0∨k=1:=by omega
  rcases this with rfl|rfl<;>simp[Array.getD,h]
end Go.Abs
namespace Go.Lab
def pJ(f:List UInt8→Bool):List UInt8→Bool
 | []=>f []
 |x::v=>f (x::v)||pJ f v
def like:List UInt8→List UInt8→Bool
 | [],v=>v.isEmpty
 |c::p,v=>if c=42 then pJ (like p) v else match v with
  | []=>false
  |x::u=>(c==63||c==x)&&like p u
theorem gB{f:List UInt8→Bool}:∀{v:List UInt8},pJ f v=true↔∃k,k≤v.length∧f (v.drop k)=true
 | []=>by
  constructor
  ·intro h;exact⟨0,alj _,h⟩
  ·rintro⟨k,_,h⟩;simpa[pJ]using h
 |x::v=>by
  simp only[pJ,amF];constructor
  ·rintro(h|h)
   ·exact⟨0,alD _,h⟩
   ·obtain⟨k,h1,h2⟩:=gB.1 h;exact⟨k+1,by simpa using h1,by simpa using h2⟩
  ·rintro⟨k,h1,h2⟩
   cases k with
   |zero=>exact .inl h2
   |succ k=>exact .inr (gB.2 ⟨k,by simpa using h1,by simpa using h2⟩)
theorem nM(p v:List UInt8):like (42::p) v=pJ (like p) v:=by simp[like]
theorem nW{c:UInt8}(h:c≠42)(p:List UInt8)(x:UInt8)(v:List UInt8):like (c::p) (x::v)=((c==63||c==x)&&like p v):=by simp[like,h]
theorem Fx{c:UInt8}(h:c≠42)(p:List UInt8):like (c::p) []=false:=by simp[like,h]
def o9:List UInt8→List UInt8→Bool
 | [],_=>true
 |_::_,[]=>false
 |c::s,x::u=>(c==63||c==x)&&o9 s u
theorem ET:∀{s u:List UInt8},o9 s u=true→s.length≤u.length
 | [],_,_=>alD _
 |_::_,[],h=>by cases h
 |_::s,_::u,h=>by
  simp only[o9,alu]at h;have:=ET h.2;simpa using this
theorem qx:∀(s r u:List UInt8),(∀c∈s,c≠42)→like (s++r) u=(o9 s u&&like r (u.drop s.length))
 | [],r,u,_=>by simp[o9]
 |c::s,r,[],h=>by
  rw[am1,Fx (h c (by simp))];simp[o9]
 |c::s,r,x::u,h=>by
  rw[am1,nW (h c (by simp)),qx s r u (fun d hd=>h d (by simp[hd]))];simp[o9,Bool.and_assoc]
theorem Ey:∀(s:List UInt8) (c x:UInt8) (u:List UInt8),o9 s u=true→u[s.length]?=some x→o9 (s++ [c]) u=(c==63||c==x)
 | [],c,x,u,_,h=>by
  cases u with
  |nil=>cases h
  |cons y u=>simp at h;subst h;simp[o9]
 |d::s,c,x,[],h,_=>by cases h
 |d::s,c,x,y::u,h,hx=>by
  simp only[o9,alu]at h;simp only[am1,o9];rw[Ey s c x u h.2 (by simpa using hx),h.1,alL]
structure uz(P V:List UInt8)(p v:Nat)(star:Option (Nat×Nat)):Prop where
 hp:p≤P.length
 hv:v≤V.length
 ok:match star with
  |none=>like P V=like (P.drop p) (V.drop v)
  |some (s,f)=>s+1≤p∧f≤v∧p-(s+1)=v-f∧(∀c∈(P.drop (s+1)).take (p-(s+1)),c≠42)∧o9 ((P.drop (s+1)).take (p-(s+1))) (V.drop f)=true∧like P V=pJ (like (P.drop (s+1))) (V.drop f)
theorem uz.start(P V:List UInt8):uz P V 0 0 none:=⟨alD _,alD _,by simp⟩
theorem yj{P:List UInt8}{a p:Nat}(h:a≤p):P.drop a=(P.drop a).take (p-a)++P.drop p:=by
 conv=>lhs;rw[←amu (p-a) (P.drop a)]
 rw[am7]
 congr 2
 omega
theorem drop_cons{P:List UInt8}{p:Nat}{c:UInt8}(h:P[p]?=some c):P.drop p=c::P.drop (p+1):=by
 obtain⟨h1,h2⟩:=akX.1 h;rw[List.drop_eq_getElem_cons h1,h2]
theorem uz.aek{P V:List UInt8}{p v:Nat}{star:Option (Nat×Nat)}(h:uz P V p v star)(hc:P[p]?=some 42):uz P V (p+1) v (some (p,v)):=by
 have hp:p<P.length:=(akX.1 hc).1;refine⟨hp,h.hv,alj _,alj _,by simp,by simp,by simp[o9],?_⟩;have hd:=drop_cons hc
 cases star with
 |none=>
  have e:like P V=like (P.drop p) (V.drop v):=h.ok;rw[e,hd,nM]
 |some q=>
  obtain⟨s,f⟩:=q;obtain⟨h1,h2,h3,h4,h5,h6⟩:=(h.ok:_∧_∧_∧_∧_∧_)
  rw[h6];have hsp:=yj (P:=P) h1;generalize hseg:(P.drop (s+1)).take (p-(s+1))=seg at h4 h5 hsp;have hsl:seg.length=v-f:=by rw[←hseg,alv,alH];omega
  rw[Bool.eq_iff_iff,gB,gB];rw[hsp,hd];constructor
  ·rintro⟨k,k1,k2⟩;rw[qx _ _ _ h4,alu,nM,gB]at k2;obtain⟨k3,j,j1,j2⟩:=k2;have:=ET k3;simp only[alH,am7]at j1 j2 this k1 ⊢;refine⟨k+j,by omega,?_⟩;rw[show v+(k+j)=f+k+seg.length+j by omega];exact j2
  ·rintro⟨j,j1,j2⟩;refine⟨0,alD _,?_⟩;rw[al9,qx _ _ _ h4,h5,alL,nM,gB];simp only[alH,am7]at j1 j2 ⊢;refine⟨j,by omega,?_⟩;rw[show f+seg.length+j=v+j by omega];exact j2
theorem uz.ad7{P V:List UInt8}{p v:Nat}{star:Option (Nat×Nat)}(h:uz P V p v star){c x:UInt8}(hc:P[p]?=some c)(hx:V[v]?=some x)(h42:c≠42)(hm:(c==63||c==x)=true):uz P V (p+1) (v+1) star:=by
 have hp:p<P.length:=(akX.1 hc).1;have hv:v<V.length:=(akX.1 hx).1;refine⟨hp,hv,?_⟩
 cases star with
 |none=>
  have e:like P V=like (P.drop p) (V.drop v):=h.ok;rw[drop_cons hc,drop_cons hx,nW h42,hm,alL]at e;exact e
 |some q=>
  obtain⟨s,f⟩:=q;obtain⟨h1,h2,h3,h4,h5,h6⟩:=(h.ok:_∧_∧_∧_∧_∧_)
  have e:(P.drop (s+1)).take (p+1-(s+1))=(P.drop (s+1)).take (p-(s+1))++ [c]:=by
   rw[show p+1-(s+1)=p-(s+1)+1 by omega,am9,amw,show s+1+(p-(s+1))=p by omega,hc];rfl
  have hsl:((P.drop (s+1)).take (p-(s+1))).length=v-f:=by rw[alv,alH];omega
  refine⟨by omega,by omega,by omega,?_,?_,h6⟩
  ·rw[e];intro d hd;rcases alx.1 hd with hd|hd
   ·exact h4 d hd
   ·simp at hd;subst hd;exact h42
  ·rw[e,Ey _ c x _ h5 (by rw[hsl,amw,show f+(v-f)=v by omega];exact hx)];exact hm
theorem uz.ae0{P V:List UInt8}{p v s f:Nat}(h:uz P V p v (some (s,f))){x:UInt8}(hx:V[v]?=some x)(hm:∀c,P[p]?=some c→c≠42∧(c==63||c==x)=false):uz P V (s+1) (f+1) (some (s,f+1)):=by
 have hv:v<V.length:=(akX.1 hx).1;obtain⟨h1,h2,h3,h4,h5,h6⟩:=(h.ok:_∧_∧_∧_∧_∧_)
 have hp:=h.hp;refine⟨by omega,by omega,alj _,alj _,by simp,by simp,by simp[o9],?_⟩;rw[h6];have hff:f<V.length:=by omega
 have hno:like (P.drop (s+1)) (V.drop f)=false:=by
  have hsp:=yj (P:=P) h1;have hsl:((P.drop (s+1)).take (p-(s+1))).length=v-f:=by rw[alv,alH];omega
  rw[hsp,qx _ _ _ h4,h5,alL,hsl,am7,show f+(v-f)=v by omega,drop_cons hx]
  cases hpc:P[p]? with
  |none=>
   rw[al6 (amj.1 hpc)];rfl
  |some c=>
   obtain⟨m1,m2⟩:=hm c hpc;rw[drop_cons hpc,nW m1,m2,amh]
 rw[List.drop_eq_getElem_cons hff]
 show(like _ _||_)=_
 rw[←List.drop_eq_getElem_cons hff,hno,alk]
theorem uz.onFail{P V:List UInt8}{p v:Nat}(h:uz P V p v none){x:UInt8}(hx:V[v]?=some x)(hm:∀c,P[p]?=some c→c≠42∧(c==63||c==x)=false):like P V=false:=by
 have e:like P V=like (P.drop p) (V.drop v):=h.ok;rw[e,drop_cons hx]
 cases hpc:P[p]? with
 |none=>
  rw[al6 (amj.1 hpc)];rfl
 |some c=>
  obtain⟨m1,m2⟩:=hm c hpc;rw[drop_cons hpc,nW m1,m2,amh]
theorem Lu:∀p:List UInt8,like p []=p.all (· ==42)
 | []=>rfl
 |c::p=>by
  by_cases h:c=42
  ·subst h;rw[nM];simp[pJ,Lu p]
  ·rw[Fx h];simp[h]
theorem uz.afF{P V:List UInt8}{p v:Nat}{star:Option (Nat×Nat)}(h:uz P V p v star)(hv:v=V.length):like P V=(P.drop p).all (· ==42):=by
 rw[←Lu]
 cases star with
 |none=>
  have e:like P V=like (P.drop p) (V.drop v):=h.ok;rw[e,show V.drop v=[]from al6 (by omega)]
 |some q=>
  obtain⟨s,f⟩:=q;obtain⟨h1,h2,h3,h4,h5,h6⟩:=(h.ok:_∧_∧_∧_∧_∧_)
  have hp:=h.hp;rw[h6];have hsp:=yj (P:=P) h1;have hsl:((P.drop (s+1)).take (p-(s+1))).length=v-f:=by rw[alv,alH];omega
  generalize (P.drop (s+1)).take (p-(s+1))=seg at h4 h5 hsp hsl;rw[Bool.eq_iff_iff,gB,hsp];constructor
  ·rintro⟨k,k1,k2⟩;rw[qx _ _ _ h4,alu]at k2;have:=ET k2.1;simp only[alH]at this k1;have hk:k=0:=by omega
   subst hk;have k3:=k2.2;rw[al9,am7,show V.drop (f+seg.length)=[]from al6 (by omega)]at k3;exact k3
  ·intro hr;refine⟨0,alD _,?_⟩;rw[al9,qx _ _ _ h4,h5,alL,am7,show V.drop (f+seg.length)=[]from al6 (by omega)];exact hr
def ahs(c:UInt8)(V:List UInt8)(r r':List Bool):Prop:=
 r'.length=V.length+1∧∀k,k≤V.length→r'[k]?.getD false=if c=42 then(r[k]?.getD false||(decide (0<k)&&r'[k-1]?.getD false))else(decide (0<k)&&r[k-1]?.getD false&&(c==63||some c==V[k-1]?))
def RInv(P V:List UInt8)(i:Nat)(r:List Bool):Prop:=r.length=V.length+1∧(like P V=true↔∃k,k≤V.length∧r[k]?.getD false=true∧like (P.drop i) (V.drop k)=true)
theorem RInv.start(P V:List UInt8):RInv P V 0 (true::List.replicate V.length false):=by
 refine⟨by simp,⟨fun h=>⟨0,alD _,rfl,by simpa using h⟩,?_⟩⟩;rintro⟨k,h1,h2,h3⟩
 cases k with
 |zero=>simpa using h3
 |succ k=>
  simp only[List.getElem?_cons_succ,List.getElem?_replicate]at h2;split at h2<;>simp at h2
theorem RInv.step{P V:List UInt8}{i:Nat}{c:UInt8}{r r':List Bool}(h:RInv P V i r)(hc:P[i]?=some c)(hr:ahs c V r r'):RInv P V (i+1) r':=by
 refine⟨hr.1,h.2.trans ?_⟩;rw[drop_cons hc];by_cases h42:c=42
 ·subst h42;have hrow:∀k,k≤V.length→r'[k]?.getD false=(r[k]?.getD false||(decide (0<k)&&r'[k-1]?.getD false)):=fun k hk=>by rw[hr.2 k hk,if_pos rfl]
  have key:∀k,k≤V.length→(r'[k]?.getD false=true↔∃j,j≤k∧r[j]?.getD false=true):=by
   intro k
   induction k with
   |zero=>
    intro hk;rw[hrow 0 hk];simp
   |succ k ih=>
    intro hk;rw[hrow (k+1) hk];simp only[Nat.zero_lt_succ,amr,alL,Nat.add_sub_cancel,amF,ih (by omega)];constructor
    ·rintro(h|⟨j,h1,h2⟩)
     ·exact⟨k+1,alj _,h⟩
     ·exact⟨j,by omega,h2⟩
    ·rintro⟨j,h1,h2⟩;by_cases e:j=k+1
     ·subst e;exact .inl h2
     ·exact .inr ⟨j,by omega,h2⟩
  constructor
  ·rintro⟨k,h1,h2,h3⟩;rw[nM,gB]at h3;obtain⟨j,j1,j2⟩:=h3;simp only[alH,am7]at j1 j2;exact⟨k+j,by omega,(key _ (by omega)).2 ⟨k,by omega,h2⟩,j2⟩
  ·rintro⟨k,h1,h2,h3⟩;obtain⟨j,j1,j2⟩:=(key k h1).1 h2;refine⟨j,by omega,j2,?_⟩;rw[nM,gB];refine⟨k-j,by rw[alH];omega,?_⟩;rw[am7,show j+(k-j)=k by omega];exact h3
 ·have hrow:∀k,k≤V.length→r'[k]?.getD false=(decide (0<k)&&r[k-1]?.getD false&&(c==63||some c==V[k-1]?)):=fun k hk=>by rw[hr.2 k hk,if_neg h42]
  constructor
  ·rintro⟨k,h1,h2,h3⟩
   cases hx:V[k]? with
   |none=>
    rw[al6 (amj.1 hx),Fx h42]at h3;cases h3
   |some x=>
    have hk:=(akX.1 hx).1;rw[drop_cons hx,nW h42,alu]at h3;refine⟨k+1,by omega,?_,h3.2⟩;rw[hrow (k+1) (by omega)];simp only[Nat.zero_lt_succ,amr,alL,Nat.add_sub_cancel,h2,hx];have:=h3.1;simpa using this
  ·rintro⟨k,h1,h2,h3⟩;rw[hrow k h1]at h2;simp only[alu,alM]at h2;obtain⟨⟨k0,k1⟩,k2⟩:=h2;refine⟨k-1,by omega,k1,?_⟩
   cases hx:V[k-1]? with
   |none=>have:=amj.1 hx;omega
   |some x=>
    rw[drop_cons hx,nW h42,show k-1+1=k by omega,h3,Bool.and_true];rw[hx]at k2;simpa using k2
theorem RInv.done{P V:List UInt8}{r:List Bool}(h:RInv P V P.length r):r[V.length]?.getD false=like P V:=by
 rw[Bool.eq_iff_iff,h.2,alZ];constructor
 ·intro hr;exact⟨V.length,alj _,hr,by simp[like]⟩
 ·rintro⟨k,h1,h2,h3⟩;have:V.drop k=[]:=by simpa[like]using h3
  have:=List.drop_eq_nil_iff.1 this;have:k=V.length:=by omega
  subst this;exact h2
end Go.Lab
namespace Go.Lab
def esc:List UInt8→List UInt8
 | []=> []
 |c::s=>if c=34∨c=92 then 92::c::esc s else c::esc s
def Ot:List UInt8→Option (List UInt8×List UInt8)
 | []=>none
 |34::s=>some ([],s)
 | [92]=>none
 |92::d::s=>(Ot s).map fun p=>(d::p.1,p.2)
 |c::s=>(Ot s).map fun p=>(c::p.1,p.2)
theorem ZG(s:List UInt8):Ot (34::s)=some ([],s):=rfl
theorem Oo(d:UInt8)(s:List UInt8):Ot (92::d::s)=(Ot s).map fun p=>(d::p.1,p.2):=by
 rw[Ot]
theorem Xr:Ot [92]=none:=rfl
theorem LQ{c:UInt8}(h1:c≠34)(h2:c≠92)(s:List UInt8):Ot (c::s)=(Ot s).map fun p=>(c::p.1,p.2):=by
 rw[Ot]
 ·exact h1
 all_goals
  intros
  first|exact absurd (by assumption) h2|simp_all
theorem Ke:∀(v r:List UInt8),Ot (esc v++34::r)=some (v,r)
 | [],r=>rfl
 |c::v,r=>by
  simp only[esc];split
  ·rw[am1,am1,Oo,Ke v r];rfl
  ·rename_i h;have h1:c≠34:=fun e=>h (.inl e)
   have h2:c≠92:=fun e=>h (.inr e)
   rw[am1,LQ h1 h2,Ke v r];rfl
def upTo(p:UInt8→Bool):List UInt8→List UInt8
 | []=> []
 |c::s=>if p c then []else c::upTo p s
theorem Dv{p:UInt8→Bool}:∀{k r:List UInt8} {c:UInt8},(∀x∈k,p x=false)→p c=true→upTo p (k++c::r)=k
 | [],r,c,_,hc=>by simp[upTo,hc]
 |x::k,r,c,h,hc=>by
  rw[am1,upTo,h x (by simp)];simp only[alo,if_false];rw[Dv (fun y hy=>h y (by simp[hy])) hc]
def commas:List (List UInt8)→List UInt8
 | []=> []
 | [x]=>x
 |x::y::l=>x++44::commas (y::l)
theorem um(x:List UInt8){l:List (List UInt8)}(h:l≠ []):commas (x::l)=x++44::commas l:=by
 cases l with
 |nil=>exact absurd rfl h
 |cons y l=>rfl
def item(k op v:List UInt8):List UInt8:=k++(op++(34::(esc v++ [34])))
end Go.Lab
namespace Go.Abs
open Go
def bF(l:List UInt8):ByteArray:=⟨l.toArray⟩
def sM(l:List ByteArray)(sep:ByteArray):ByteArray:=bF (Lib.join (l.map (·.data.toList)) sep.data.toList)
def lm(s:ByteArray):ByteArray:=bF (34::(Lab.esc s.data.toList++ [34]))
def PE:List SV→Tr SV
 | [.row .str l _,.str sep]=>.need (decide (List.length l≤4294967296∧(sM l sep).size≤140737488355328)) (.ret (.str (sM l sep)))
 |_=>.fail
def Jm:List SV→Tr SV
 | [.str s]=>.need (decide (s.size≤4294967296)) (.ret (.str (lm s)))
 |_=>.fail
def BD:gL:=fun _ _=>.fail
theorem qC{P:Program}{f:FuncId}:eZ P f BD:=fun _ _ _ h=>(Tr.ax h).elim
end Go.Abs
namespace Go.Lab
def iJ(c:UInt8):Bool:=(decide (97≤c)&&decide (c≤122))||(decide (48≤c)&&decide (c≤57))||c==95
def VL(s:List UInt8):Bool:=match s with
 | []=>false
 |c::_=>decide (s.length≤24)&&(decide (97≤c)&&decide (c≤122))&&s.all iJ
def YK(s:List UInt8):Bool:=s.all (fun c=>decide (32≤c)&&decide (c≤126))&&decide (s.length≤64)
theorem yA{c d:UInt8}(h:iJ c=true)(hd:iJ d=false):c≠d:=fun e=>by subst e;rw[h]at hd;cases hd
theorem R7{s:List UInt8}(h:VL s=true):s≠ []∧s.length≤24∧∀c∈s,iJ c=true:=by
 cases s with
 |nil=>cases h
 |cons c s=>
  simp only[VL,alu,alM,alF]at h;exact⟨by simp,h.1.1,h.2⟩
theorem YJ{k op v:List UInt8}:item k op v≠ []:=by
 simp[item]
theorem Un{l:List (List UInt8)}{x:List UInt8}(h:x≠ []):commas (x::l)≠ []:=by
 cases l with
 |nil=>exact h
 |cons y l=>simp[commas]
theorem wU(v:List UInt8):(esc v).length≤2*v.length:=by
 induction v with
 |nil=>exact alj _
 |cons c v ih=>
  simp only[esc];split<;>simp only[alI]<;>omega
theorem E8:∀(l:List (List UInt8)) (n:Nat),(∀x∈l,x.length≤n)→(commas l).length≤l.length*(n+1)
 | [],_,_=>alD _
 | [x],n,h=>by have:=h x (by simp);simp[commas];omega
 |x::y::l,n,h=>by
  have h1:=h x (by simp);have h2:=E8 (y::l) n (fun z hz=>h z (by simp[alN]at hz ⊢;exact .inr hz));simp only[commas,alz,alI,alX]at h2 ⊢;omega
end Go.Lab
namespace Go.Abs
open Go
structure akT{H:Type}(F:DataW H→Nat):Prop where
 str:∀b:List UInt8,b.length≤F (.lit (.string b))
 row:∀e s:List (DataW H),e.length≤F (.slice e s)
 elem:∀(e s:List (DataW H)) (d:DataW H),d∈e→F d≤F (.slice e s)
 part:∀(p:List (DataW H)) (d:DataW H),d∈p→F d≤F (.agg p)
section
variable{H:Type}{enc0:TypeId×Value→H}{P:Program}{w:World}{sp:Nat→Bool}{held:Bool}{N:Nat}{F:DataW H→Nat}
end
theorem Wm{P:Program}{f:FuncId}{F:List SV→Tr SV}(hent:mX P f)
  (h:∀args v,(F args).mean=some v→∀(w:World) (X:XT) (vals:Array Value),vals.size=args.length→(∀(i:Nat) (x:SV),args[i]?=some x→PR w X (vals.getD i undef) (d1 (fun _=>0) x))→
   Calls P f vals w fun e w'=>∃u,e= .returned u∧Kept w w'∧∀(X':XT) (ρ:dP) (ℓ:Lens),(∀b o,X' b o→b<w.heap.size)→VR w' X' ρ u (dV ℓ v)):eZ P f (Db F):=by
 intro args sub out hc ℓ0 ℓ' _ _;refine⟨hent,?_⟩;unfold Db at hc;split at hc
 ·obtain⟨hall,hc⟩:=Tr.aN hc;obtain⟨v,h1,h2⟩:=Tr.aC hc;have:=Tr.ay h2;subst this;have hw:=h args v h1;intro Y w ρ vals hr hsz hv;refine(hw w (XU Y ρ (aT [])) vals (by simpa using hsz) (fun i x hi=> ?_)).mono ?_
  ·have hp:isPure x=true:=(alF.1 hall) x (alb hi);have:=FL hp (hv i (dV ℓ0 x) (by rw[ale,hi];rfl))
   cases x<;>first|exact this|(simp[isPure]at hp;done)
  rintro e w' ⟨u,rfl,k,hu⟩;have hH:∀g,get (aG (([]:List (Option cB))) ([]:List cB)) g=none:=fun g=>by simp[get,aG]
  have hXX:∀b o,¬ XX ρ (aG [] []) b o:=by
   rintro b o ⟨g,k,a1,_⟩;rw[hH]at a1;cases a1
  refine⟨u,ρ,rfl,?_,?_,?_,fun _ _ h=>h⟩
  ·refine⟨fun g k hg=> ?_,fun g g' k k' b hg=> ?_,fun g b hb=> ?_,fun g b hb=> ?_,fun g k b o hg=> ?_,fun b o hy=> ?_⟩
   ·exact absurd ((hH g).symm.trans hg) (by simp)
   ·exact absurd ((hH g).symm.trans hg) (by simp)
   ·exact hr.dom g b hb
   ·have:=hr.lt g b hb;have:=k.size;omega
   ·exact absurd ((hH g).symm.trans hg) (by simp)
   ·have:=hr.ylt b o hy;have:=k.size;omega
  ·refine hu _ ρ ℓ' (fun b o hx=> ?_);rcases hx with hx|hx
   ·exact absurd hx (hXX b o)
   ·exact hr.ylt b o hx
  ·refine⟨k.os,k.tape,k.output,k.size,fun b o hb _=>⟨hXX b o,Bt (k.old b hb) o⟩,fun b hb=> ?_,fun b hb _=>k.old b hb⟩;simp only[bsize,k.old b hb]
 ·exact(Tr.ax hc).elim
def iM(w:World)(b:Nat)(t:TypeId)(n:Nat)(f:Nat→Value):Prop:=∃c:Array Value,w.heap[b]?=some (.cells c t (0,0))∧n≤c.size∧∀i,i<n→c[i]?=some (f i)
theorem iM.cell{w:World}{b t n:Nat}{f:Nat→Value}(h:iM w b t n f){i:Nat}(hi:i<n):w.cell? ⟨b,i,none⟩=some (f i):=by
 obtain⟨c,hb,_,hc⟩:=h;simp[World.cell?,hb,hc i hi]
theorem iM.lt{w:World}{b t n:Nat}{f:Nat→Value}(h:iM w b t n f):b<w.heap.size:=by
 obtain⟨c,hb,_,_⟩:=h;exact(amf.1 hb).1
theorem iM.congr{w:World}{b t n:Nat}{f g:Nat→Value}(h:iM w b t n f)(e:∀i,i<n→f i=g i):iM w b t n g:=by
 obtain⟨c,hb,hn,hc⟩:=h;exact⟨c,hb,hn,fun i hi=>by rw[hc i hi,e i hi]⟩
theorem iM.of_block{w w':World}{b t n:Nat}{f:Nat→Value}(h:iM w b t n f)(e:w'.heap[b]?=w.heap[b]?):iM w' b t n f:=by
 obtain⟨c,hb,hn,hc⟩:=h;exact⟨c,e.trans hb,hn,hc⟩
theorem iM.alloc{w:World}{b t n:Nat}{f:Nat→Value}(h:iM w b t n f)(X:Obj):iM (w.alloc X) b t n f:=by
 refine h.of_block ?_;have:=h.lt;simp only[World.alloc];rw[Array.getElem?_push,if_neg (by omega)]
theorem iM.drew{w:World}{b t n:Nat}{f:Nat→Value}(h:iM w b t n f):iM w.drew b t n f:=h.of_block rfl
theorem iM.set{w:World}{b t n:Nat}{f:Nat→Value}(h:iM w b t n f)(i:Nat)(v:Value):iM (w.setCell ⟨b,i,none⟩ v) b t n (fun j=>if j=i then v else f j):=by
 obtain⟨c,hb,hn,hc⟩:=h;refine⟨c.setIfInBounds i v,by simp[World.setCell,Array.getElem?_modify,hb],by simpa using hn,fun j hj=> ?_⟩;rw[Array.getElem?_setIfInBounds];by_cases e:j=i
 ·subst e;rw[if_pos rfl,if_pos (by omega)];simp
 ·rw[if_neg (fun h=>e h.symm)];simp only[if_neg e];exact hc j hj
theorem iM.setOther{w:World}{b t n:Nat}{f:Nat→Value}(h:iM w b t n f){a:Addr}(hne:b≠a.block)(v:Value):iM (w.setCell a v) b t n f:=by
 refine h.of_block ?_;simp only[World.setCell];rw[Array.getElem?_modify,if_neg (fun e=>hne e.symm)]
theorem X3{w:World}{X:XT}{b T n:Nat}{M:Nat→Int}(h:iM w b T n (fun j=>.int .i64 (M j)))(hX:∀o,¬ X b o)(c:Nat)(hc:n≤c):
  PR w X (.slice (some ⟨b,0,none⟩) n c) (.eO (Bd 1 ((List.range n).map fun j=>AV.int .i64 (M j))) ((List.range n).map fun j=>AV.int .i64 (M j)) false):=by
 refine PR.canon (.eO b 0 n c 1 false _ (fun j _=>.int .i64 (M j)) (by simp) hc (by simp) ?_ ?_ ?_)
 ·intro i x hi;rw[ale]at hi;obtain⟨y,_,rfl⟩:=alf.1 hi;rfl
 ·intro i x hi j u hj;have hl:=(akX.1 hi).1;rw[ald,List.length_range]at hl;rw[ale]at hi;obtain⟨y,_,rfl⟩:=alf.1 hi
  have hj0:j=0:=by
   have:=(akX.1 hj).1;simp[AV.cells]at this;exact this
  subst hj0;refine⟨hX _,?_,rfl⟩;rw[show 0+(i*1+0)=i by omega];exact h.cell hl
 ·intro i x hi j u hj;rw[ale]at hi;obtain⟨y,hy,rfl⟩:=alf.1 hi;have hl:=(akX.1 hy).1;rw[List.length_range]at hl;rw[List.getElem?_range hl]at hy;cases hy
  have hj0:j=0:=by
   have:=(akX.1 hj).1;simp[AV.cells]at this;exact this
  subst hj0;cases hj;exact .int _ _
structure Gb(w:World)(b To Ti n m:Nat)(R:Nat→Nat)(C:Nat→Nat)(M:Nat→Nat→Int):Prop where
 top:iM w b To n (fun i=>.slice (some ⟨R i,0,none⟩) m (C i))
 row:∀i,i<n→iM w (R i) Ti m (fun j=>.int .i64 (M i j))
 inj:∀i j,i<n→j<n→R i=R j→i=j
 apart:∀i,i<n→R i≠b
 cap:∀i,i<n→m≤C i
def Ws(n m:Nat)(M:Nat→Nat→Int):List (List Int):=(List.range n).map fun i=>(List.range m).map (M i)
theorem Gb.set{w:World}{b To Ti n m:Nat}{R C:Nat→Nat}{M:Nat→Nat→Int}(h:Gb w b To Ti n m R C M){i j:Nat}(hi:i<n)(v:Int):
  Gb (w.setCell ⟨R i,j,none⟩ (.int .i64 v)) b To Ti n m R C (fun a c=>if a=i∧c=j then v else M a c):=by
 refine⟨h.top.setOther (fun e=>h.apart i hi e.symm) _,fun a ha=> ?_,h.inj,h.apart,h.cap⟩;by_cases e:a=i
 ·subst e;refine((h.row a ha).set j _).congr (fun c _=> ?_);by_cases e2:c=j
  ·simp[e2]
  ·simp[e2]
 ·refine((h.row a ha).setOther (fun e2=>e (h.inj a i ha hi e2)) _).congr (fun c _=> ?_);simp[e]
theorem Gb.congr{w:World}{b To Ti n m:Nat}{R C:Nat→Nat}{M N:Nat→Nat→Int}(h:Gb w b To Ti n m R C M)(e:∀i j,i<n→j<m→M i j=N i j):Gb w b To Ti n m R C N:=
 ⟨h.top,fun i hi=>(h.row i hi).congr (fun j hj=>by rw[e i j hi hj]),h.inj,h.apart,h.cap⟩
theorem Gb.drew{w:World}{b To Ti n m:Nat}{R C:Nat→Nat}{M:Nat→Nat→Int}(h:Gb w b To Ti n m R C M):Gb w.drew b To Ti n m R C M:=
 ⟨h.top.drew,fun i hi=>(h.row i hi).drew,h.inj,h.apart,h.cap⟩
theorem Gb.rel{w:World}{X:XT}{b To Ti n m:Nat}{R C:Nat→Nat}{M:Nat→Nat→Int}(h:Gb w b To Ti n m R C M)(hX:∀o,¬ X b o)(hXR:∀i o,i<n→¬ X (R i) o)(c:Nat)(hc:n≤c)(ℓ:Lens):
  PR w X (.slice (some ⟨b,0,none⟩) n c) (d1 ℓ (.row (.row (.int .i64)) (Ws n m M) false)):=by
 show PR w X _ (bR (.row (.int .i64)) (Ws n m M) false)
 have e:(@List.map (Ty.den (.row (.int .i64))) AV (enc (.row (.int .i64))) (Ws n m M))=(List.range n).map fun i=>AV.eO (Bd 1 ((List.range m).map fun j=>AV.int .i64 (M i j))) ((List.range m).map fun j=>AV.int .i64 (M i j)) false:=by
  refine(amn (g:=enc (.row (.int .i64))) (f:=fun i=>(List.range m).map (M i)) (l:=List.range n)).trans ?_;refine alO (fun i _=> ?_)
  show AV.eO (Bd 1 (((List.range m).map (M i)).map (fun x=>AV.int .i64 x))) (((List.range m).map (M i)).map (fun x=>AV.int .i64 x)) false=_
  rw[amn];rfl
 unfold bR;rw[e];refine PR.canon (.eO b 0 n c 1 false _ (fun i _=>.slice (some ⟨R i,0,none⟩) m (C i)) (by simp) hc (by simp) ?_ ?_ ?_)
 ·intro i x hi;rw[ale]at hi;obtain⟨y,_,rfl⟩:=alf.1 hi;rfl
 ·intro i x hi j u hj;have hl:=(akX.1 hi).1;rw[ald,List.length_range]at hl;rw[ale]at hi;obtain⟨y,_,rfl⟩:=alf.1 hi
  have hj0:j=0:=by
   have:=(akX.1 hj).1;simp[AV.cells]at this;exact this
  subst hj0;refine⟨hX _,?_,rfl⟩;rw[show 0+(i*1+0)=i by omega];exact h.top.cell hl
 ·intro i x hi j u hj;rw[ale]at hi;obtain⟨y,hy,rfl⟩:=alf.1 hi;have hl:=(akX.1 hy).1;rw[List.length_range]at hl;rw[List.getElem?_range hl]at hy;cases hy
  have hj0:j=0:=by
   have:=(akX.1 hj).1;simp[AV.cells]at this;exact this
  subst hj0;cases hj;exact X3 (h.row i hl) (hXR i · hl) _ (h.cap i hl)
section
variable{P:Program}{w:World}
end
end Go.Abs
namespace Go.Plain
open Go Go.Abs
theorem sS:(∀h:Decidable True,@decide True h=true)∧(∀h:Decidable False,@decide False h=false)∧(∀{α:Type} (a b:α),cond true a b=a)∧(∀{α:Type} (a b:α),cond false a b=b)∧(∀{α β:Type} (a:α) (f:α→Option β),(some a).bind f=f a)∧(!true)=false∧(!false)=true∧(∀b:Bool,(true&&b)=b)∧(∀b:Bool,(b&&true)=b)∧(∀b:Bool,(false&&b)=false)∧(∀b:Bool,(b&&false)=false)∧(∀{α:Type} [BEq α] [LawfulBEq α] (a:α),(a==a)=true)∧(∀{α:Type} [BEq α] [LawfulBEq α] (a:α),(a !=a)=false):=
 ⟨fun _=>amr _,fun _=>amy _,fun _ _=>rfl,fun _ _=>rfl,fun _ _=>rfl,rfl,rfl,alL,Bool.and_true,amh,Bool.and_false,fun _=>amg _,fun _=>alC _⟩
def sG{A B:Type}(l:List A)(n:Int)(F:A→Option B):Option B:=bif decide (0≤n)then(l[n.toNat]?).bind F else none
theorem aK{A B:Type}{l:List A}{n:Int}(F:A→Option B):Abs.rowAt l n (fun e _=>F e)=sG l n F:=by
 unfold Abs.rowAt sG;cases l[n.toNat]?<;>rfl
theorem aF{A B:Type}{l:List A}{i:Nat}{e:A}(h:l[i]?=some e)(F:A→Option B):sG l (i:Int) F=F e:=by
 unfold sG;rw[show decide (0≤(i:Int))=true from akW (by omega),akZ,h];rfl
theorem jT{A B:Type}{l:List A}{n:Int}{e:A}(h0:0≤n)(h:l[n.toNat]?=some e)(F:A→Option B):sG l n F=F e:=by
 unfold sG;rw[show decide (0≤n)=true from akW h0,h];rfl
theorem aI{i:Nat}(h:i<9223372036854775807):aS ((i:Int)+1)=((i+1:Nat):Int):=by rw[bK (by omega) (by omega)];omega
theorem drop_at{A:Type}{l:List A}{i:Nat}(h:i<l.length):∃e,l[i]?=some e∧l.drop i=e::l.drop (i+1):=
 ⟨l[i],alh h,List.drop_eq_getElem_cons h⟩
theorem getD_some{A:Type}{l:List A}{i:Nat}(h:i<l.length):∃e,l[i]?=some e:=⟨_,alh h⟩
theorem aR{A B:Type}{o:Option A}{f:A→Option B}{y:Option B}(x:A)(h:o=some x)(h2:f x=y):o.bind f=y:=by rw[h];exact h2
def gm{S E B:Type}(step:Nat→S→E→S⊕B)(fin:S→B):Nat→List E→S→B
 |_,[],s=>fin s
 |i,e::r,s=>match step i s e with
  | .inl s'=>gm step fin (i+1) r s'
  | .inr b=>b
theorem BS{A B S E:Type}{f:A→Option (A⊕B)}(l:List E)(st:Nat→S→A)(step:Nat→S→E→S⊕B)(fin:S→B)(I:Nat→S→Prop)
  (h1:∀i e s,l[i]?=some e→i<l.length→I i s→f (st i s)=some (match step i s e with| .inl s'=>.inl (st (i+1) s')| .inr b=>.inr b))
  (hI:∀i e s s',l[i]?=some e→I i s→step i s e= .inl s'→I (i+1) s')
  (h2:∀s,I l.length s→f (st l.length s)=some (.inr (fin s))):
  ∀(k i:Nat) (s:S),i+k=l.length→I i s→aA f (st i s)=some (gm step fin i (l.drop i) s):=by
 intro k
 induction k with
 |zero=>
  intro i s h hi;obtain rfl:i=l.length:=by omega
  rw[alZ];exact aB (h2 s hi)
 |succ k ih=>
  intro i s h hi;obtain⟨e,he,hd⟩:=drop_at (l:=l) (i:=i) (by omega);have q:=h1 i e s he (by omega) hi;rw[hd];unfold gm
  cases hs:step i s e with
  |inl s'=>
   rw[hs]at q;simp only;rw[←ih (i+1) s' (by omega) (hI i e s s' he hi hs)];exact aD q
  |inr b=>
   rw[hs]at q;exact aB q
theorem dU{A B S E:Type}{f:A→Option (A⊕B)}(l:List E)(st:Nat→S→A)(step:Nat→S→E→S⊕B)(fin:S→B)
  (h1:∀i e s,l[i]?=some e→i<l.length→f (st i s)=some (match step i s e with| .inl s'=>.inl (st (i+1) s')| .inr b=>.inr b))
  (h2:∀s,f (st l.length s)=some (.inr (fin s))) (s:S):aA f (st 0 s)=some (gm step fin 0 l s):=by
 have:=BS l st step fin (fun _ _=>True) (fun i e s he hl _=>h1 i e s he hl) (fun _ _ _ _ _ _ _=>trivial) (fun s _=>h2 s) l.length 0 s (by omega) trivial
 rwa [al9]at this
theorem q9{S E B:Type}(g:S→E→S)(fin:S→B):∀(l:List E) (i:Nat) (s:S),gm (fun _ s e=>.inl (g s e)) fin i l s=fin (l.foldl g s):=by
 intro l
 induction l with
 |nil=>intro i s;rfl
 |cons e r ih=>intro i s;exact ih (i+1) (g s e)
theorem nQ{A B E:Type}{f:A→Option (A⊕B)}(l:List E)(st:Nat→A)(fin:B)
  (h1:∀i e,l[i]?=some e→i<l.length→f (st i)=some (.inl (st (i+1)))) (h2:f (st l.length)=some (.inr fin)):aA f (st 0)=some fin:=by
 have:=dU (S:=Unit) l (fun i _=>st i) (fun _ _ _=>.inl ()) (fun _=>fin) (fun i e _ he hi=>h1 i e he hi) (fun _=>h2) ();exact this.trans (congrArg some (q9 (fun _ _=>()) (fun _=>fin) l 0 ()))
theorem ku{A B:Type}{f:A→Option (A⊕B)}{Q:B→Prop}(I:Nat→A→Prop)(n:Nat)
  (h1:∀i a,i<n→I i a→∃a',f a=some (.inl a')∧I (i+1) a') (h2:∀a,I n a→∃b,f a=some (.inr b)∧Q b):∀a,I 0 a→∃b,aA f a=some b∧Q b:=by
 have:∀(k i:Nat) a,i+k=n→I i a→∃b,aA f a=some b∧Q b:=by
  intro k
  induction k with
  |zero=>
   intro i a h hi;obtain rfl:i=n:=by omega
   obtain⟨b,h,hq⟩:=h2 a hi;exact⟨b,aB h,hq⟩
  |succ k ih=>
   intro i a h hi;obtain⟨a',h,hi'⟩:=h1 i a (by omega) hi;obtain⟨b,hb,hq⟩:=ih (i+1) a' (by omega) hi';exact⟨b,by rw[←hb];exact aD h,hq⟩
 exact fun a h=>this n 0 a (by omega) h
theorem eu{i n:Nat}(h:i<n):decide ((i:Int)<(n:Int))=true:=akW (by omega)
theorem fZ(n:Nat):decide ((n:Int)<(n:Int))=false:=akY (by omega)
theorem lM{E B:Type}(p:E→Bool)(b:Nat→B)(fin:B):∀(l:List E) (i:Nat),∃j,i≤j∧gm (fun i (_:Unit) e=>bif p e then .inr (b i)else .inl ()) (fun _=>fin) i l ()=bif l.any p then b j else fin:=by
 intro l
 induction l with
 |nil=>intro i;exact⟨i,alj _,rfl⟩
 |cons e r ih=>
  intro i;cases h:p e
  ·obtain⟨j,h1,h2⟩:=ih (i+1);refine⟨j,by omega,?_⟩;simp only[gm,h,ami,List.any_cons,alk];exact h2
  ·exact⟨i,alj _,by simp only[gm,h,cond_true,List.any_cons,alr]⟩
theorem Ba{E:Type}(p:E→Bool)(l:List E):(l.any fun e=> !p e)= !l.all p:=by
 induction l with
 |nil=>rfl
 |cons e r ih=>rw[List.any_cons,List.all_cons,ih,Bool.not_and]
def y9{E:Type}(bad:Option E→E→Bool):Option E→List E→Bool
 |_,[]=>true
 |p,e::r=> !bad p e&&y9 bad (some e) r
theorem nN{A B E:Type}{f:A→Option (A⊕B)}(l:List E)(st:Nat→A)(bad:Option E→E→Bool)(no yes:B)
  (h1:∀i e,l[i]?=some e→i<l.length→f (st i)=some (bif bad (if i=0 then none else l[i-1]?) e then .inr no else .inl (st (i+1)))) (h2:f (st l.length)=some (.inr yes)):
  aA f (st 0)=some (bif y9 bad none l then yes else no):=by
 have key:∀(k i:Nat),i+k=l.length→aA f (st i)=some (bif y9 bad (if i=0 then none else l[i-1]?) (l.drop i)then yes else no):=by
  intro k
  induction k with
  |zero=>
   intro i h;obtain rfl:i=l.length:=by omega
   rw[alZ];exact aB h2
  |succ k ih=>
   intro i h;obtain⟨e,he,hd⟩:=drop_at (l:=l) (i:=i) (by omega);have q:=h1 i e he (by omega);rw[hd];unfold y9;cases hb:bad (if i=0 then none else l[i-1]?) e
   ·rw[hb]at q;have:=ih (i+1) (by omega);rw[if_neg (by omega),Nat.add_sub_cancel,he]at this;rw[aly,alL,←this];exact aD q
   ·rw[hb]at q;exact aB q
 have:=key l.length 0 (by omega);rw[al9]at this;exact this
theorem kV{E:Type}{l:List E}{i:Nat}(hi:i<l.length):i=0∨∃p,0<i∧l[i-1]?=some p∧(i≤9223372036854775807→aS ((i:Int)-1)=((i-1:Nat):Int)):=by
 by_cases h:i=0
 ·exact .inl h
 ·obtain⟨p,hp⟩:=getD_some (l:=l) (i:=i-1) (by omega);exact .inr ⟨p,by omega,hp,fun hb=>by rw[bK (by omega) (by omega)];omega⟩
def L8{E:Type}(iN:E→Int):List E→Int
 | []=>0
 |e::r=>bif iN e !=0 then iN e else L8 iN r
theorem Fe{A B E:Type}{f:A→Option (A⊕B)}(l:List E)(st:Nat→A)(iN:E→Int)(no:Int→B)(yes:B)
  (h1:∀i e,l[i]?=some e→i<l.length→f (st i)=some (bif iN e !=0 then .inr (no (iN e))else .inl (st (i+1)))) (h2:f (st l.length)=some (.inr yes)):
  aA f (st 0)=some (bif L8 iN l !=0 then no (L8 iN l)else yes):=by
 have key:∀(k i:Nat),i+k=l.length→aA f (st i)=some (bif L8 iN (l.drop i) !=0 then no (L8 iN (l.drop i))else yes):=by
  intro k
  induction k with
  |zero=>
   intro i h;obtain rfl:i=l.length:=by omega
   rw[alZ];exact aB h2
  |succ k ih=>
   intro i h;obtain⟨e,he,hd⟩:=drop_at (l:=l) (i:=i) (by omega);have q:=h1 i e he (by omega);rw[hd];unfold L8;cases hb:(iN e !=0)
   ·rw[hb]at q;rw[ami,←ih (i+1) (by omega)];exact aD q
   ·rw[hb]at q;rw[cond_true,hb];exact aB q
 have:=key l.length 0 (by omega);rw[al9]at this;exact this
def Bn{E:Type}(iN:Nat→E→Int):Nat→List E→Int
 |_,[]=>0
 |i,e::r=>bif iN i e !=0 then iN i e else Bn iN (i+1) r
theorem uL{A B E:Type}{f:A→Option (A⊕B)}(l:List E)(st:Nat→A)(iN:Nat→E→Int)(no:Int→B)(yes:B)
  (h1:∀i e,l[i]?=some e→i<l.length→f (st i)=some (bif iN i e !=0 then .inr (no (iN i e))else .inl (st (i+1)))) (h2:f (st l.length)=some (.inr yes)):
  aA f (st 0)=some (bif Bn iN 0 l !=0 then no (Bn iN 0 l)else yes):=by
 have key:∀(k i:Nat),i+k=l.length→aA f (st i)=some (bif Bn iN i (l.drop i) !=0 then no (Bn iN i (l.drop i))else yes):=by
  intro k
  induction k with
  |zero=>
   intro i h;obtain rfl:i=l.length:=by omega
   rw[alZ];exact aB h2
  |succ k ih=>
   intro i h;obtain⟨e,he,hd⟩:=drop_at (l:=l) (i:=i) (by omega);have q:=h1 i e he (by omega);rw[hd];unfold Bn;cases hb:(iN i e !=0)
   ·rw[hb]at q;rw[ami,←ih (i+1) (by omega)];exact aD q
   ·rw[hb]at q;rw[cond_true,hb];exact aB q
 have:=key l.length 0 (by omega);rw[al9]at this;exact this
theorem uK{E:Type}{iN:Nat→E→Int}:∀{l:List E} {i:Nat},Bn iN i l=0→∀(k:Nat) (e:E),l[k]?=some e→iN (i+k) e=0
 | [],_,_,k,e,h=>by simp at h
 |x::r,i,h,k,e,he=>by
  unfold Bn at h;cases hc:(iN i x !=0)
  ·rw[hc]at h
   cases k with
   |zero=>simp at he;subst he;simpa using hc
   |succ k=>
    have:=uK (i:=i+1) h k e (by simpa using he)
    rwa [show i+1+k=i+(k+1) by omega]at this
  ·rw[hc]at h;simp only[cond_true]at h;rw[h]at hc;cases hc
theorem VQ{A:Type}{o:Option A}{x:A}(h:∃r,o=some r∧r=x):o=some x:=by
 obtain⟨r,h1,rfl⟩:=h;exact h1
end Go.Plain
namespace Go.Abs
open Go
def wI(t:Ty):gL:=fun args sub=>match args,sub with
 | [.own t' g,.int .i64 i,.own t1 g1],[.arr t2 l .zero,.arr t3 vl .zero]=>
  .when (decide (t'=t∧t1=t∧g=(0,0)∧g1=(1,0)∧0<t.size)) (if h:t2=t∧t3=t then
   .need (decide (0≤i∧i≤l.length∧l.length≤4294967295∧vl.length=1)) (.ret (.own t (2,0),[.dead l.length,.dead vl.length],
    [.arr t ((h.1 ▸ l:List t.den).take i.toNat++(h.2 ▸ vl:List t.den)++(h.1 ▸ l:List t.den).drop i.toNat) .zero]))else .fail)
 |_,_=>.fail
def pK(sz n i:Nat)(w:World)(cs xs:Array Value)(old:Option (Nat×TypeId))(e:Ending)(w':World):Prop:=
 ∃(b' cap':Nat) (cs':Array Value) (T':TypeId),e= .returned (.slice (some ⟨b',0,none⟩) (n+1) cap')∧n+1≤cap'∧w'.heap[b']?=some (.cells cs' T' (0,0))∧cap'*sz≤cs'.size∧
  (∀k,k<i*sz→cs'.getD k undef=cs.getD k undef)∧(∀k,k<sz→cs'.getD (i*sz+k) undef=xs.getD k undef)∧(∀k,i*sz≤k→k<n*sz→cs'.getD (k+sz) undef=cs.getD k undef)∧
  w'.os=w.os∧w'.tape=w.tape∧w'.output=w.output∧
  ((old=some (b',T')∧cs'.size=cs.size∧w'.heap.size=w.heap.size∧∀k,k≠b'→w'.heap[k]?=w.heap[k]?)∨(w.heap.size≤b'∧b'<w'.heap.size∧∀k,k<w.heap.size→w'.heap[k]?=w.heap[k]?))
theorem bg.ins{w:World}{X:XT}{ρ:dP}{cs xs cs':Array Value}{sz:Nat}{l vl:List AV}{i cap':Nat}(h:bg false w X ρ cs sz l)(hv:bg false w X ρ xs sz vl)(hv1:vl.length=1)(hi:i≤l.length)
  (hc:l.length+1≤cap') (hk:cap'*sz≤cs'.size)
  (g1:∀k,k<i*sz→cs'.getD k undef=cs.getD k undef) (g2:∀k,k<sz→cs'.getD (i*sz+k) undef=xs.getD k undef) (g3:∀k,i*sz≤k→k<l.length*sz→cs'.getD (k+sz) undef=cs.getD k undef):
  bg false w X ρ cs' sz (l.take i++vl++l.drop i):=by
 obtain⟨s1,s2⟩:=h;obtain⟨t1,t2⟩:=hv
 have hlen:(l.take i++vl++l.drop i).length=l.length+1:=by
  simp only[alz,alv,alH];omega
 refine⟨?_,fun q x hq=> ?_⟩
 ·rw[hlen];exact alS (alq _ hc) hk
 ·have hql:=(akX.1 hq).1;rw[hlen]at hql;rcases Nat.lt_trichotomy q i with hlt|rfl|hgt
  ·rw[al7,alp (by rw[alv];omega),List.getElem?_take_of_lt hlt]at hq;obtain⟨c1,c2⟩:=s2 q x hq;refine⟨c1,fun r u hu=> ?_⟩;have hrl:=(akX.1 hu).1;rw[c1]at hrl
   have hpos:q*sz+r<i*sz:=by
    have:=alq sz (show q+1≤i by omega);rw[alX,Nat.one_mul]at this;omega
   rw[g1 _ hpos];exact c2 r u hu
  ·rw[al7,alm (by rw[alv];omega),alv,show q-min q l.length=0 by omega,alp (by omega)]at hq;obtain⟨c1,c2⟩:=t2 0 x hq;refine⟨c1,fun r u hu=> ?_⟩;have hrl:=(akX.1 hu).1;rw[c1]at hrl;rw[g2 _ hrl];have:=c2 r u hu;rw[Nat.zero_mul,alQ]at this;exact this
  ·rw[alm (by rw[alz,alv];omega),alz,alv,amw,show i+(q-(min i l.length+vl.length))=q-1 by omega]at hq;obtain⟨c1,c2⟩:=s2 (q-1) x hq;refine⟨c1,fun r u hu=> ?_⟩;have hrl:=(akX.1 hu).1;rw[c1]at hrl;have h1:i*sz≤(q-1)*sz+r:=alS (alq _ (by omega)) (Nat.le_add_right _ _)
   have h2:(q-1)*sz+r<l.length*sz:=by
    have:=alq sz (show(q-1)+1≤l.length by omega);rw[alX,Nat.one_mul]at this;omega
   have h3:q*sz+r=(q-1)*sz+r+sz:=by
    have:=alX (q-1) 1 sz;rw[show q-1+1=q by omega,Nat.one_mul]at this;omega
   rw[h3,g3 _ h1 h2];exact c2 r u hu
theorem H7{P:Program}{f:FuncId}{t:Ty}(hent:mX P f)
  (h0:∀(w:World) (a:Option Addr) (b2 cap2:Nat) (xs:Array Value) (T2:TypeId),w.heap[b2]?=some (.cells xs T2 (0,0))→cap2*t.size≤xs.size→(∀k,k<t.size→(xs.getD k undef).oneCell'=true)→1≤cap2→
   Calls P f #[.slice a 0 0,.int .i64 0,.slice (some ⟨b2,0,none⟩) 1 cap2] w (pK t.size 0 0 w #[] xs none))
  (h1:∀(w:World) (b n cap i b2 cap2:Nat) (cs xs:Array Value) (T T2:TypeId),w.heap[b]?=some (.cells cs T (0,0))→cap*t.size≤cs.size→(∀k,k<n*t.size→(cs.getD k undef).oneCell'=true)→i≤n→n≤cap→n≤4294967295→
   b2≠b→w.heap[b2]?=some (.cells xs T2 (0,0))→cap2*t.size≤xs.size→(∀k,k<t.size→(xs.getD k undef).oneCell'=true)→1≤cap2→
   Calls P f #[.slice (some ⟨b,0,none⟩) n cap,.int .i64 i,.slice (some ⟨b2,0,none⟩) 1 cap2] w (pK t.size n i w cs xs (some (b,T)))):eZ P f (wI t):=by
 intro args sub out hc ℓ0 ℓ' hs0 hs';refine⟨hent,?_⟩;unfold wI at hc;split at hc
 case h_2=>exact(Tr.ax hc).elim
 rename_i t' g i t1 g1 t2 l t3 vl;obtain⟨q1,hc2⟩:=Tr.aN hc;clear hc;obtain⟨rfl,rfl,rfl,rfl,hps⟩:=ali q1;split at hc2
 case isFalse=>exact(Tr.ax hc2).elim
 rename_i ht2;obtain⟨rfl,rfl⟩:=ht2;obtain⟨q2,hc3⟩:=Tr.aX hc2;obtain⟨i0,il,ll,vl1⟩:=ali q2;have:=Tr.ay hc3;subst this;clear hc2 hc3 q1 q2;simp only at hs';obtain⟨i,rfl⟩:=Int.eq_ofNat_of_zero_le i0;simp only[akZ]at hs' ⊢;have hl0:ℓ0 (0,0)=l.length:=hs0 0 _ rfl;have hl1:ℓ0 (1,0)=vl.length:=hs0 1 _ rfl
 have hl2:ℓ' (2,0)=l.length+1:=by
  have:=hs' 2 _ rfl;rw[this];simp only[SB.len,alz,alv,alH];omega
 intro Y w ρ vals hr hsz hv;have hsz3:vals.size=3:=by simpa using hsz
 have v0:=hv 0 _ rfl;have v1:=hv 1 _ rfl;have v2:=hv 2 _ rfl
 have hvals:vals= #[vals.getD 0 undef,vals.getD 1 undef,vals.getD 2 undef]:=by
  apply Array.ext
  ·simp[hsz3]
  ·intro k hk _;have:k=0∨k=1∨k=2:=by omega
   rcases this with rfl|rfl|rfl<;>simp[Array.getD,hsz3]
 rw[hvals];generalize vals.getD 0 undef=a0 at v0;generalize vals.getD 1 undef=a1 at v1;generalize vals.getD 2 undef=a2 at v2;rw[v1.eY];generalize hk0:(⟨t3.size,l.map (enc t3),0,false⟩:cB)=k0;generalize hk1:(⟨t3.size,vl.map (enc t3),0,false⟩:cB)=k1;have hr:HR Y w ρ (aT [k0,k1]):=by subst hk0;subst hk1;exact hr
 have v0:VR w (XU Y ρ (aT [k0,k1])) ρ a0 (.own (0,0) t3.size 0 l.length):=by subst hk0;subst hk1;rw[←hl0];exact v0
 have v2:VR w (XU Y ρ (aT [k0,k1])) ρ a2 (.own (1,0) t3.size 0 1):=by
  subst hk0;subst hk1;have e:(AV.own (1,0) t3.size 0 1)= .own (1,0) t3.size 0 (ℓ0 (1,0)):=by rw[hl1,vl1]
  rw[e];exact v2
 have hg0:get (aT [k0,k1]) (0,0)=some k0:=rfl;have hg1:get (aT [k0,k1]) (1,0)=some k1:=rfl;have z0:k0.sz=t3.size:=by rw[←hk0]
 have z1:k1.sz=t3.size:=by rw[←hk1]
 have e0:k0.elems=l.map (enc t3):=by rw[←hk0]
 have e1:k1.elems=vl.map (enc t3):=by rw[←hk1]
 have x0:k0.box=false:=by rw[←hk0]
 have x1:k1.box=false:=by rw[←hk1]
 have f0:k0.jw=0:=by rw[←hk0]
 rcases v2.jV with⟨_,_,hlen⟩|⟨b2,cap2,rfl,hρ2,hb2,hcap2,hk2⟩
 ·omega
 obtain⟨xs,T2,hh2,hel2⟩:=(hr.at hg1 hρ2).cells (by rw[z1];exact hps);have hbs2:bsize w b2=xs.size:=by simp[bsize,hh2]
 rw[hbs2]at hk2;rw[z1,e1,x1]at hel2;simp only[Nat.zero_mul,alQ]at hk2 ⊢
 have one_of:∀{X:XT} {cs:Array Value} {ll:List t3.den},bg false w X ρ cs t3.size (ll.map (enc t3))→∀k,k<ll.length*t3.size→(cs.getD k undef).oneCell'=true:=by
  intro X cs ll hel k hk';have hq:k / t3.size<ll.length:=(Nat.div_lt_iff_lt_mul hps).2 hk';have hx:(ll.map (enc t3))[k / t3.size]?=some (enc t3 ll[k / t3.size]):=by rw[ale,alh hq];rfl
  obtain⟨c1,c2⟩:=hel.2 _ _ hx;have hm:k % t3.size<(enc t3 ll[k / t3.size]).cells.length:=by rw[c1];exact Nat.mod_lt _ hps
  have:=(c2 (k % t3.size) _ (alh hm)).1
  rwa [show k / t3.size*t3.size+k % t3.size=k by rw[Nat.mul_comm];exact Nat.div_add_mod k t3.size]at this
 have hone2:∀k,k<t3.size→(xs.getD k undef).oneCell'=true:=fun k hk=>one_of hel2 k (by rw[vl1,Nat.one_mul];exact hk)
 have hrm:=hr.more 1;have hXm:XX ρ (aT [k0,k1]++List.replicate 1 [])=XX ρ (aT [k0,k1]):=Ao _ _ _;have hfree:Free (aT [k0,k1]++List.replicate 1 []) 2:=Free.more (by simp[aT]) (by simp[aT]);generalize hkn:(⟨t3.size,(l.take i++vl++l.drop i).map (enc t3),0,false⟩:cB)=kn;have zn:kn.sz=t3.size:=by rw[←hkn]
 have en:kn.elems=(l.take i++vl++l.drop i).map (enc t3):=by rw[←hkn]
 have xn:kn.box=false:=by rw[←hkn]
 have hout:∀(w':World) (v:Value) (ρ':dP),HR Y w' ρ' [[none],[none],[some kn]]→(∀X',VR w' X' ρ' v (.own (2,0) t3.size 0 (l.length+1)))→Stable w (XX ρ (aT [k0,k1])) w' (XX ρ' [[none],[none],[some kn]])→(∀g b,ρ g=some b→ρ' g=some b)→
   ∃v' ρ',(Ending.returned v)= .returned v'∧HR Y w' ρ' (aG [none,none] [kn])∧VR w' (XU Y ρ' (aG [none,none] [kn])) ρ' v' (.own (2,0) t3.size 0 (l.length+1))∧Stable w (XX ρ (aT [k0,k1])) w' (XX ρ' (aG [none,none] [kn]))∧∀g b,ρ g=some b→ρ' g=some b:=
  fun w' v ρ' a b c d=>⟨v,ρ',rfl,a,b _,c,d⟩
 have goal:∀(cs:Array Value) (old:Option (Nat×TypeId)) (hel:bg false w (XU Y ρ (aT [k0,k1])) ρ cs t3.size (l.map (enc t3)))
   (hold:∀b T,old=some (b,T)→ρ (0,0)=some b∧w.heap[b]?=some (.cells cs T (0,0))) (e:Ending) (w':World),pK t3.size l.length i w cs xs old e w'→
   ∃v' ρ',e= .returned v'∧HR Y w' ρ' (aG [none,none] [kn])∧VR w' (XU Y ρ' (aG [none,none] [kn])) ρ' v' (.own (2,0) t3.size 0 (l.length+1))∧Stable w (XX ρ (aT [k0,k1])) w' (XX ρ' (aG [none,none] [kn]))∧∀g b,ρ g=some b→ρ' g=some b:=by
  rintro cs old hel hold e w' ⟨b',cap',cs',T',rfl,m1,m2,m3,m4,m5,m6,m7,m8,m9,m10⟩
  have hins:∀X,(∀b o,X b o→XU Y ρ (aT [k0,k1]) b o)→bg false w X ρ cs' t3.size ((l.take i++vl++l.drop i).map (enc t3)):=by
   intro X hX;have st:Stable w (XU Y ρ (aT [k0,k1])) w X:=(Stable.refl w _).less fun b o _ h=>hX b o h
   have:=bg.ins (hel.mono st fun _ _ h=>h) (hel2.mono st fun _ _ h=>h) (by rw[ald];exact vl1) (i:=i) (by rw[ald];omega) (by rw[ald];exact m1) m3 m4 m5 (by rw[ald];exact m6);rw[alB,alB,List.map_take,List.map_drop];exact this
  have hval:∀X',VR w' X' (upd ρ (2,0) b') (.slice (some ⟨b',0,none⟩) (l.length+1) cap') (.own (2,0) t3.size 0 (l.length+1)):=fun X'=>VR.Ga m2 m1 m3
  rcases m10 with⟨ho,n1,n2,n3⟩|⟨n1,n2,n3⟩
  ·obtain⟨p1,p2⟩:=hold b' T' ho;obtain⟨r1,r2,r3⟩:=hrm.move hfree (g:=(0,0)) (k:=k0) (k1:=kn) (by rw[qE];exact hg0) p1 (by rw[zn];exact hps) m7 m8 m9 n2 n3 p2 m2 n1 (fun o ho=>by rw[f0]at ho;simp at ho) (zn.trans z0.symm) (by rw[f0];exact alD _)
    (by rw[zn,en,xn];exact hins _ (fun b o h=>by unfold XU at h ⊢;rw[hXm]at h;exact h))
   have hl:Less (Abs.set [[none],[some k1],[some kn]] (1,0) none) [[none],[some k1],[some kn]]:=Less.AR _ _;have r1':HR Y w' (upd ρ (2,0) b') [[none],[some k1],[some kn]]:=r1;have r2':Stable w (XX ρ (aT [k0,k1]++List.replicate 1 [])) w' (XX (upd ρ (2,0) b') [[none],[some k1],[some kn]]):=r2;rw[hXm]at r2';exact hout w' _ _ (r1'.less hl) hval (r2'.trans hl.st) r3
  ·have hl:Less (Abs.set (Abs.set (aT [k0,k1]++List.replicate 1 []) (0,0) none) (1,0) none) (aT [k0,k1]++List.replicate 1 []):=(Less.AR _ _).trans (Less.AR _ _);have hf1:Free (Abs.set (Abs.set (aT [k0,k1]++List.replicate 1 []) (0,0) none) (1,0) none) 2:=hfree.less hl (by simp[wV])
   have hmade:=zh (v:=.slice (some ⟨b',0,none⟩) (l.length+1) cap') (x:=.own (2,0) t3.size 0 (l.length+1)) hrm hl hf1 n1 n2 m7 m8 m9 n3 kn (by rw[zn];exact hps) m2 (by
     rw[zn,en,xn];refine hins _ (fun b o h=> ?_);have:=hl.xu (Y:=Y) h;unfold XU at this ⊢;rw[hXm]at this;exact this) hval
   have q1:HR Y w' (upd ρ (2,0) b') [[none],[none],[some kn]]:=hmade.hr;have q2:Stable w (XX ρ (aT [k0,k1]++List.replicate 1 [])) w' (XX (upd ρ (2,0) b') [[none],[none],[some kn]]):=hmade.st;rw[hXm]at q2;exact hout w' _ _ q1 hval q2 hmade.le
 have fin:∀(cs:Array Value) (old:Option (Nat×TypeId)) (hel:bg false w (XU Y ρ (aT [k0,k1])) ρ cs t3.size (l.map (enc t3)))
   (hold:∀b T,old=some (b,T)→ρ (0,0)=some b∧w.heap[b]?=some (.cells cs T (0,0))) (vs:Array Value),Calls P f vs w (pK t3.size l.length i w cs xs old)→
   Calls P f vs w fun e w'=>∃v' ρ',e= .returned v'∧HR Y w' ρ' (aG [none,none] [kn])∧VR w' (XU Y ρ' (aG [none,none] [kn])) ρ' v' (dV ℓ' (.own t3 (2,0)))∧Stable w (XX ρ (aT [k0,k1])) w' (XX ρ' (aG [none,none] [kn]))∧∀g b,ρ g=some b→ρ' g=some b:=by
  intro cs old hel hold vs hcall;refine hcall.mono fun e w' hm=> ?_
  have:=goal cs old hel hold e w' hm
  show∃v' ρ',e= .returned v'∧HR Y w' ρ' (aG [none,none] [kn])∧VR w' (XU Y ρ' (aG [none,none] [kn])) ρ' v' (.own (2,0) t3.size 0 (ℓ' (2,0)))∧_
  rw[hl2];exact this
 subst hk0;subst hk1;subst hkn;rcases v0.jV with⟨a,rfl,hlen⟩|⟨b,cap,rfl,hρ,hb,hcap,hk⟩
 ·have hln:l=[]:=amc hlen;have hi0:i=0:=by omega
  subst hi0
  have hel:bg false w (XU Y ρ (aT [⟨t3.size,l.map (enc t3),0,false⟩,⟨t3.size,vl.map (enc t3),0,false⟩])) ρ #[] t3.size (l.map (enc t3)):=by
   subst hln;exact⟨by simp,fun i x h=>by simp at h⟩
  refine fin #[] none hel (fun b T h=>by cases h) _ ?_;rw[hlen];exact h0 w a b2 cap2 xs T2 hh2 (by omega) hone2 hcap2
 ·obtain⟨cs,T,hh,hel⟩:=(hr.at hg0 hρ).cells hps;have hbs:bsize w b=cs.size:=by simp[bsize,hh]
  rw[hbs]at hk;simp only[Nat.zero_mul,alQ]at hk;refine fin cs (some (b,T)) hel (fun b1 T1 h=>by cases h;exact⟨hρ,hh⟩) _ ?_
  have hne:b2≠b:=fun e=>by
   subst e;have:=hr.inj (1,0) (0,0) _ _ b2 hg1 hg0 hρ2 hρ;cases this
  simp only[Nat.zero_mul];exact h1 w b l.length cap i b2 cap2 cs xs T T2 hh hk (one_of hel) (by omega) hcap (by omega) hne hh2 (by omega) hone2 hcap2
def jG:Ty:=.cons .str (.cons .str .unit)
def Wy:Ty:=.cons .str (.cons (.row jG) (.cons (.int .i64) (.cons (.int .i64) (.cons .bool (.cons .bool .unit)))))
def Kt:Ty:=.cons (.int .i64) (.cons .str (.cons (.row Wy) (.cons (.int .i64) (.cons (.int .i64) .unit))))
abbrev nJ:=ByteArray×ByteArray×Unit
abbrev kJ:=ByteArray×List nJ×Int×Int×Bool×Bool×Unit
abbrev lV:=Int×ByteArray×List kJ×Int×Int×Unit
def bW(l:List lV):List kJ:=l.flatMap fun g=>g.2.2.1.filter fun m=>m.2.2.2.2.1
def bT:List kJ→List ByteArray→List ByteArray
 | [],acc=>acc
 |m::r,acc=>bT r (if acc.any (fun x=>decide (x=m.1))then acc else acc++ [m.1])
def jD(ms:List kJ)(k:ByteArray):List nJ:=((ms.find? fun m=>decide (m.1=k)).map (·.2.1)).getD []
def pR(l:List lV):List (List nJ):=
 (((bT (bW l) []).map (·.data.toList)).mergeSort (fun x y=>decide (x≤y))).map fun k=>jD (bW l) ⟨k.toArray⟩
def xB(l:List lV):Bool:=
 decide (l.length≤4294967296)&&(decide ((l.flatMap fun g=>g.2.2.1).length≤4294967296)&&l.all fun g=>decide (g.2.2.1.length≤4294967296)&&g.2.2.1.all fun m=>decide (m.1.size≤4294967296)&&decide (m.2.1.length≤4294967296))
def SB.plain:SB→Bool
 | .arr ..=>true
 |_=>false
def Ro:gL:=fun args sub=>match args with
 | [.agg [.int .i64 _,gs,_,.int .i64 _]]=>.when (sub.all SB.plain) ((jh (sub.map fun b=> [b]) gs).bind fun p=>match p.1 with
  | .row t l _=>if h:t=Kt then .need (xB (h ▸ l:List Kt.den)) (.ret (.row (.row jG) (pR (h ▸ l:List Kt.den)) false,sub,[]))else .fail
  |_=>.fail)
 |_=>.fail
def BU(l:List lV)(w:World)(e:Ending)(w':World):Prop:=
 ∃v,e= .returned v∧PR w' (fun c _=>c<w.heap.size) v (bR (.row jG) (pR l) false)∧
  w'.os=w.os∧w'.tape=w.tape∧w'.output=w.output∧w.heap.size≤w'.heap.size∧∀i,i<w.heap.size→w'.heap[i]?=w.heap[i]?
theorem yK{w w':World}(X:XT)(h1:w'.os=w.os)(h2:w'.tape=w.tape)(h3:w'.output=w.output)(h4:w.heap.size≤w'.heap.size)(h5:∀i,i<w.heap.size→w'.heap[i]?=w.heap[i]?):Stable w X w' X:=
 ⟨h1,h2,h3,h4,fun b o hb hx=>⟨hx,Bt (h5 b hb) o⟩,fun b hb=>by simp only[bsize,h5 b hb],fun b hb _=>h5 b hb⟩
theorem acU{Y:XT}{w w':World}{ρ:dP}{H:Heap}(hr:HR Y w ρ H)(h1:w'.os=w.os)(h2:w'.tape=w.tape)(h3:w'.output=w.output)(h4:w.heap.size≤w'.heap.size)(h5:∀i,i<w.heap.size→w'.heap[i]?=w.heap[i]?):HR Y w' ρ H:=by
 refine⟨fun g k hg=> ?_,hr.inj,hr.dom,fun g b hb=> ?_,hr.sep,fun b o hy=> ?_⟩
 ·rcases hr.blk g k hg with c|⟨b,hb,hk⟩
  ·exact .inl c
  ·exact .inr ⟨b,hb,hk.keep (yK _ h1 h2 h3 h4 h5) (fun _ _ h=>h) (h5 b (hr.lt g b hb))⟩
 ·have:=hr.lt g b hb;omega
 ·have:=hr.ylt b o hy;omega
theorem Pg{H H':Heap}(h:∀g k,get H g=some k→get H' g=some k){x u:AV}{l:List Nm}(e:eB H x=some (u,l)):eB H' x=some (u,l):=by
 cases x with
 |own g sz off len=>
  simp only[eB]at e ⊢
  cases hg:get H g with
  |none=>simp[hg]at e
  |some k=>
   rw[hg]at e;rw[h g k hg];exact e
 |_=>exact e
theorem PR.loose{w:World}{X:XT}{v:Value}{sz:Nat}{xs:List AV}{t:Bool}(h:PR w X v (.eO sz xs t)):PR w X v (.eO sz xs false):=by
 cases h with
 |lst0 a cap _ _ ht=>exact .lst0 _ _ _ _ (fun e=>by cases e)
 |eO b o n cap sz t xs f hn hc ht hsz hx hr=>exact .eO b o _ cap sz false xs f hn hc (fun e=>by cases e) hsz hx hr
theorem Uf{ℓ:Lens}{sub:List SB}(h:sub.all SB.plain=true):sub.map (dB ℓ)=(sub.map (dN ℓ)).map some:=by
 rw[amn];refine alO fun b hb=> ?_
 have:=alF.1 h b hb
 cases b<;>first|rfl|cases this
theorem aaG{P:Program}{f:FuncId}(hent:mX P f)
  (h:∀(w:World) (a b:Int) (gs sl:Value) (l:List lV),sl.oneCell'=true→PR w (fun _ _=>False) gs (bR Kt l false)→xB l=true→Calls P f #[.agg #[.int .i64 a,gs,sl,.int .i64 b]] w (BU l w)):eZ P f Ro:=by
 intro args sub out hc ℓ0 ℓ' hs0 hs';refine⟨hent,?_⟩;unfold Ro at hc;split at hc
 ·rename_i a gs sl b;obtain⟨q0,hc1⟩:=Tr.aN hc;obtain⟨⟨u,l⟩,hp,hc2⟩:=Tr.aC hc1;clear hc hc1;simp only at hc2;split at hc2
  ·rename_i t l' tight;split at hc2
   ·rename_i ht;subst ht;obtain⟨q2,hc3⟩:=Tr.aX hc2;have:=Tr.ay hc3;subst this;clear hc2 hc3;simp only at q2 hs' ⊢
    have ha:gq ℓ0 (sub.map fun b=> [b]):=by
     rintro⟨x,y⟩ b hg;simp only[bO,ale]at hg
     cases hx:sub[x]? with
     |none=>rw[hx]at hg;cases hg
     |some c=>
      rw[hx]at hg
      cases y with
      |zero=>
       simp at hg;subst hg;exact hs0 x c hx
      |succ y=>simp at hg
    obtain⟨p1,_,_,_,p2,p3⟩:=lS ha hp;intro Y w ρ vals hr hsz hv;have hsz1:vals.size=1:=by simpa using hsz
    have v0:=hv 0 _ rfl
    have hvals:vals= #[vals.getD 0 undef]:=by
     apply Array.ext
     ·simp[hsz1]
     ·intro k hk _;have:k=0:=by omega
      subst this;simp[Array.getD,hsz1]
    rw[hvals];generalize vals.getD 0 undef=a0 at v0;obtain⟨cs,rfl,hn,h1,hcs⟩:=v0.kD;simp only[al3,alJ,alI,List.length_nil]at hn;have c0:=hcs 0 _ rfl;have c1:=hcs 1 _ rfl;have c3:=hcs 3 _ rfl
    have hce:cs= #[cs.getD 0 undef,cs.getD 1 undef,cs.getD 2 undef,cs.getD 3 undef]:=by
     apply Array.ext
     ·simp[hn]
     ·intro k hk _;have:k=0∨k=1∨k=2∨k=3:=by omega
      rcases this with rfl|rfl|rfl|rfl<;>simp[Array.getD,hn]
    have o2:=h1 2 (by omega);rw[hce];generalize cs.getD 0 undef=x0 at c0;generalize cs.getD 1 undef=x1 at c1;generalize cs.getD 2 undef=x2 at o2;generalize cs.getD 3 undef=x3 at c3;rw[c0.eY,c3.eY]
    have hsub:∀g k,get (dH ℓ0 (sub.map fun b=> [b])) g=some k→get (aT (sub.map (dN ℓ0))) g=some k:=by
     rintro⟨x,y⟩ k hg;rw[Gm];simp only[get,dH,amn,ale]at hg;simp only[ale]
     cases hx:sub[x]? with
     |none=>rw[hx]at hg;cases hg
     |some c=>
      rw[hx]at hg
      cases y with
      |zero=>
       have hc:=alF.1 q0 c (alb hx)
       cases c with
       |arr t l z=>simpa[dB,dN]using hg
       |_=>cases hc
      |succ y=>simp at hg
    have p1':eB (aT (sub.map (dN ℓ0))) (d1 ℓ0 gs)=some (bR Kt l' tight,l):=Pg hsub p1;rw[p2]at c1;have pr:=nS hr c1 p1' (X':=fun _ _=>False) ⟨fun _ _ h=>h.elim,fun _ _ _ _ _ _ _ _ h=>h⟩;have pr0:PR w (fun _ _=>False) x1 (bR Kt l' false):=pr.loose;refine(h w _ _ x1 x2 l' o2 pr0 q2).mono ?_;rintro e w' ⟨v,rfl,r1,r2,r3,r4,r5,r6⟩
    have hH:aG (sub.map (dB ℓ')) (([]:List SB).map (dN ℓ'))=aT (sub.map (dN ℓ0)):=by
     rw[Uf q0]
     have:sub.map (dN ℓ')=sub.map (dN ℓ0):=alO fun b hb=>by
      have:=alF.1 q0 b hb
      cases b<;>first|rfl|cases this
     rw[this];simp only[aG,aT,alJ,alE,amn];rfl
    simp only[dO];rw[hH];have hr':=acU hr r2 r3 r4 r5 r6;refine⟨v,ρ,rfl,hr',?_,yK _ r2 r3 r4 r5 r6,fun _ _ h=>h⟩;refine .pur _ _ (PR.mono ((Stable.refl w' (fun c (_:Nat)=>c<w.heap.size)).less fun b o _ hx=> ?_) r1);rcases hx with⟨g,k,_,hb,_⟩|hy
    ·exact hr.lt g b hb
    ·exact hr.ylt b o hy
   ·exact(Tr.ax hc2).elim
  ·exact(Tr.ax hc2).elim
 ·exact(Tr.ax hc).elim
end Go.Abs
namespace Go.Proofs.YtchnmpafhfjimaaGreatDoor
open Go Go.Abs Go.RowKit
abbrev zM:Value:=.agg #[.string ⟨#[]⟩,.slice none 0 0,.int .i64 0,.int .i64 0,.bool false,.bool false]
theorem Eo:∃i0,Tryz.prog.info? 142=some i0∧i0.zero=some zM∧i0.size=6∧i0.bytes=64:=by
 obtain⟨i0,h0,h1,h2,h3⟩:=info_parts (P:=Tryz.prog) (e:=142) (z:=zM) (size:=6) (bytes:=64) (by kernel_rfl);exact⟨i0,h0,h1,h2,h3⟩
theorem nH:Tryz.prog.follows .mixedOrders=true:=by kernel_rfl
theorem R9(w:World):(sizeOf 142).run Tryz.prog w= .ok 6 w:=by
 obtain⟨i0,h0,_,h2,_⟩:=Eo;simp[sizeOf,typeInfo,h0,h2]
def cut(cs:Array Value)(o k:Nat):Array Value:=((List.range k).map fun j=>cs.getD (o+j) undef).toArray
theorem aZ(cs:Array Value)(o k:Nat):(cut cs o k).size=k:=by simp[cut]
theorem dQ(cs:Array Value)(o k:Nat){j:Nat}(h:j<k):(cut cs o k).getD j undef=cs.getD (o+j) undef:=by
 simp[cut,ala,h]
theorem dJ{w:World}{b o n c:Nat}{cs:Array Value}{T:TypeId}(hh:w.heap[b]?=some (.cells cs T (0,0)))(h:o+n*6≤cs.size):Cells Tryz.prog w 6 n (.slice (some ⟨b,o,none⟩) n c) (cut cs o (n*6)):=
 wZ (fun j=>cs.getD (o+j) undef) fun j hj=>(by
  have:o+j<cs.size:=by omega
  simp[World.cell?,hh,Array.getD,this])
def lay(cs:Array Value)(o:Nat)(vs:Array Value):Array Value:=(cs.toList.take o++vs.toList++cs.toList.drop (o+vs.toList.length)).toArray
theorem lay_size{cs vs:Array Value}{o:Nat}(h:o+vs.size≤cs.size):(lay cs o vs).size=cs.size:=bJ cs o vs.toList (by simpa using h)
theorem KS{cs vs:Array Value}{o:Nat}(h:o+vs.size≤cs.size)(i:Nat):(lay cs o vs).getD i undef=if o≤i∧i<o+vs.size then vs.getD (i-o) undef else cs.getD i undef:=by
 have:=fH cs o vs.toList (by simpa using h) i;unfold lay;rw[this];simp only[Array.length_toList];split
 ·simp[ala,al8]
 ·rfl
theorem qF{w:World}{b o:Nat}{cs vs:Array Value}{T:TypeId}(hh:w.heap[b]?=some (.cells cs T (0,0)))(h:o+vs.size≤cs.size)(h1:∀k,k<vs.size→(vs.getD k undef).oneCell'=true):
  (storeCells ⟨b,o,none⟩ vs.toList).run Tryz.prog w= .ok () (w.setRow b (lay cs o vs)):=by
 have:=run_storeCells_at Tryz.prog b o T vs.toList 0 cs w hh (by simpa using h) (fun v hv=>by
  obtain⟨k,hk,rfl⟩:=List.mem_iff_getElem.1 hv;have:=h1 k (by simpa using hk);have hk':k<vs.size:=by simpa using hk
  rw[Array.getD,dif_pos hk']at this;simpa using this)
 simpa[lay]using this
set_option maxHeartbeats 4000000 in
set_option maxRecDepth 1000000 in
theorem JQ(w:World)(b n cap b2 cap2:Nat)(cs xs:Array Value)(T T2:TypeId)(hh:w.heap[b]?=some (.cells cs T (0,0)))(hk:cap*6≤cs.size)(hroom:n+1≤cap)(hn:n≤4294967295)
  (hh2:w.heap[b2]?=some (.cells xs T2 (0,0))) (hk2:cap2*6≤xs.size) (hone:∀k,k<6→(xs.getD k undef).oneCell'=true) (hc2:1≤cap2):
  Calls Tryz.prog 128 #[.slice (some ⟨b,0,none⟩) n cap,.int .i64 n,.slice (some ⟨b2,0,none⟩) 1 cap2] w fun e w'=>e= .returned (.slice (some ⟨b,0,none⟩) (n+1) cap)∧w'=w.setRow b (lay cs (n*6) (cut xs 0 6)):=by
 obtain⟨i0,hi0,hz0,hz1,hz2⟩:=Eo;have hc:Cells Tryz.prog w i0.size 1 (.slice (some ⟨b2,0,none⟩) 1 cap2) (cut xs 0 6):=by rw[hz1];exact dJ hh2 (by omega)
 have hrun:∀ty,(Builtin.append_ #[108,108] ty #[.slice (some ⟨b,0,none⟩) n cap,.slice (some ⟨b2,0,none⟩) 1 cap2]).run Tryz.prog w= .ok (.slice (some ⟨b,0,none⟩) (n+1) cap) (w.setRow b (lay cs (n*6) (cut xs 0 6))):=fun ty=>
  run_append_room' Tryz.underlying108 hi0 hc hroom (fun a ha=>by
   cases ha;have ha:(⟨b,0,none⟩:Addr).add (n*i0.size)=⟨b,n*6,none⟩:=by rw[hz1,addr_add];simp
   rw[ha];exact qF hh (by rw[aZ];omega) (fun k hk=>by rw[aZ]at hk;rw[dQ _ _ _ hk,alQ];exact hone k hk)) (fun h=>by cases h)
 have mixed:=nH;have hz:¬((1:Int)=0):=by omega
 clear hh hk hh2 hk2 hone hc hz0 hz1 hz2 hi0
 go_enter Tryz.func128,Tryz.ntmps128
 go_wp2_with (at_builtin;refine Lib.wpList_append_run _ rfl _ _ _ _ rfl _ _ rfl rfl _ _ (hrun _) ?_)
 go_ret
 exact⟨rfl,rfl⟩
set_option maxHeartbeats 4000000 in
set_option maxRecDepth 1000000 in
theorem tO(w:World)(base:Option Addr)(n cap b2 cap2:Nat)(olds xs:Array Value)(T2:TypeId)(hcap:n≤cap)(hroom:cap<n+1)(hn:n≤4294967295)(ho:Cells Tryz.prog w 6 n (.slice base n cap) olds)
  (hh2:w.heap[b2]?=some (.cells xs T2 (0,0))) (hk2:cap2*6≤xs.size) (hc2:1≤cap2):
  Calls Tryz.prog 128 #[.slice base n cap,.int .i64 n,.slice (some ⟨b2,0,none⟩) 1 cap2] w fun e w'=>∃nc rest,n+1≤nc∧rest.size=(nc-(n+1))*6∧e= .returned (.slice (some ⟨w.heap.size,0,none⟩) (n+1) nc)∧
   w'=w.drew.alloc (.cells (olds++cut xs 0 6++rest) 142):=by
 suffices h:Calls Tryz.prog 128 #[.slice base n cap,.int .i64 n,.slice (some ⟨b2,0,none⟩) 1 cap2] w fun e w'=>∃nc rest arr,n+1≤nc∧rest.size=(nc-(n+1))*6∧arr=olds++cut xs 0 6++rest∧e= .returned (.slice (some ⟨w.heap.size,0,none⟩) (n+1) nc)∧w'=w.drew.alloc (.cells arr 142)from
  h.mono (by rintro e w' ⟨nc,rest,arr,g1,g2,rfl,g3,g4⟩;exact⟨nc,rest,g1,g2,g3,g4⟩)
 obtain⟨i0,hi0,hz0,hz1,hz2⟩:=Eo;have hc:Cells Tryz.prog w i0.size 1 (.slice (some ⟨b2,0,none⟩) 1 cap2) (cut xs 0 6):=by rw[hz1];exact dJ hh2 (by omega)
 have key:∃nc rest,n+1≤nc∧rest.size=(nc-(n+1))*6∧∀ty,(Builtin.append_ #[108,108] ty #[.slice base n cap,.slice (some ⟨b2,0,none⟩) 1 cap2]).run Tryz.prog w= .ok (.slice (some ⟨w.heap.size,0,none⟩) (n+1) nc) (w.drew.alloc (.cells (olds++cut xs 0 6++rest) 142)):=by
  obtain⟨nc,rest,g1,g2,g3⟩:=lZ (ty:=0) Tryz.underlying108 hi0 hz0 (by rw[hz1];exact ho) hc hroom (by omega) (by rw[hz2];omega) (by rw[hz1];rfl);refine⟨nc,rest,g1,by rw[g2,hz1],fun ty=> ?_⟩;exact g3
 obtain⟨nc,rest,g1,g2,hrun⟩:=key;obtain⟨arr,harr⟩:∃arr,arr=olds++cut xs 0 6++rest:=⟨_,rfl⟩
 rw[←harr]at hrun;have hq:Hid (arr=olds++cut xs 0 6++rest):=harr;clear harr;have mixed:=nH;have hz:¬((1:Int)=0):=by omega
 clear ho hh2 hk2 hc hz0 hz1 hz2 hi0
 go_enter Tryz.func128,Tryz.ntmps128
 cases base with
 |none=>
  go_wp2_with (at_builtin;refine Lib.wpList_append_run _ rfl _ _ _ _ rfl _ _ rfl rfl _ _ (hrun _) ?_)
  all_goals (go_ret;exact⟨nc,rest,arr,g1,g2,hq.out,rfl,rfl⟩)
 |some a=>
  obtain⟨ab,ao,asp⟩:=a
  go_wp2_with (at_builtin;refine Lib.wpList_append_run _ rfl _ _ _ _ rfl _ _ rfl rfl _ _ (hrun _) ?_)
  all_goals (go_ret;exact⟨nc,rest,arr,g1,g2,hq.out,rfl,rfl⟩)
theorem jX{w:World}{b o dn dc:Nat}{cs:Array Value}{T:TypeId}(hh:w.heap[b]?=some (.cells cs T (0,0))){a:Option Addr}{m c k:Nat}{news:Array Value}(hm:min m dn=k)
  (hf:Cells Tryz.prog w 6 k (.slice a k c) news) (hfit:o+news.size≤cs.size) (h1:∀j,j<news.size→(news.getD j undef).oneCell'=true) (ty:TypeId):
  (Builtin.copy_ #[108,108] ty #[.slice (some ⟨b,o,none⟩) dn dc,.slice a m c]).run Tryz.prog w= .ok (goInt k) (w.setRow b (lay cs o news)):=by
 have hl:(Builtin.lenOf (.slice a m c)).run Tryz.prog w= .ok m w:=rfl
 have hf':(Builtin.firstCells 6 k (.slice a m c)).run Tryz.prog w= .ok news w:=by
  have:=hf.2 w rfl;cases a<;>exact this
 have hm':Nat.min m dn=k:=hm;have hst:=qF hh hfit h1;simp[Builtin.copy_,run_underlying Tryz.underlying108,hl,hm',hf',R9,hst,goInt]
set_option maxHeartbeats 4000000 in
set_option maxRecDepth 1000000 in
theorem BX(w:World)(b n cap i b2 cap2:Nat)(cs xs:Array Value)(T T2:TypeId)(hh:w.heap[b]?=some (.cells cs T (0,0)))(hk:cap*6≤cs.size)(hone:∀k,k<n*6→(cs.getD k undef).oneCell'=true)(hi:i<n)(hroom:n+1≤cap)(hn:n≤4294967295)
  (hne:b2≠b) (hh2:w.heap[b2]?=some (.cells xs T2 (0,0))) (hk2:cap2*6≤xs.size) (hone2:∀k,k<6→(xs.getD k undef).oneCell'=true) (hc2:1≤cap2):
  Calls Tryz.prog 128 #[.slice (some ⟨b,0,none⟩) n cap,.int .i64 i,.slice (some ⟨b2,0,none⟩) 1 cap2] w fun e w'=>e= .returned (.slice (some ⟨b,0,none⟩) (n+1) cap)∧
   w'=(w.drew.setRow b (lay cs ((i+1)*6) (cut cs (i*6) ((n-i)*6)))).setRow b (lay (lay cs ((i+1)*6) (cut cs (i*6) ((n-i)*6))) (i*6) (cut xs 0 6)):=by
 have hov:∀lb cb,(callFunc 177 #[.slice (some ⟨b2,0,none⟩) 1 cap2,.slice (some ⟨b,(i+1)*6,none⟩) lb cb]).run Tryz.prog w= .ok (.value (.bool false)) w:=fun lb cb=>by
  rw[run_callFunc_extern Tryz.func177 (by kernel_rfl) (by kernel_rfl) (by kernel_rfl) (e:=Extern.SlicesOverlaps.overlaps #[108,108] #[4]) (by kernel_rfl),
   Lib.run_overlaps_apart w 108 4 142 Tryz.underlying108 6 R9 ⟨b2,0,none⟩ ⟨b,(i+1)*6,none⟩ 1 cap2 lb cb hne T2 T xs.size cs.size (by simp[World.shape?,hh2]) (by simp[World.shape?,hh]) (by omega) (by simp[World.frozen?,hh2]) (by simp[World.frozen?,hh2])]
  rfl
 have hdrew:w.drew.heap[b]?=some (.cells cs T (0,0)):=hh;have hs1:(cut cs (i*6) ((n-i)*6)).size=(n-i)*6:=aZ _ _ _;have hfit1:(i+1)*6+(cut cs (i*6) ((n-i)*6)).size≤cs.size:=by rw[hs1];omega
 have hcp1:∀ty dc sc,(Builtin.copy_ #[108,108] ty #[.slice (some ⟨b,(i+1)*6,none⟩) (n-i) dc,.slice (some ⟨b,i*6,none⟩) (n+1-i) sc]).run Tryz.prog w.drew= .ok (goInt (n-i:Nat)) (w.drew.setRow b (lay cs ((i+1)*6) (cut cs (i*6) ((n-i)*6)))):=fun ty dc sc=>
  jX hdrew (by omega) (dJ hdrew (by omega)) hfit1 (fun j hj=>by rw[hs1]at hj;rw[dQ _ _ _ hj];exact hone _ (by omega)) ty
 obtain⟨c1,hc1⟩:∃c1,c1=lay cs ((i+1)*6) (cut cs (i*6) ((n-i)*6)):=⟨_,rfl⟩
 have hc1s:c1.size=cs.size:=by rw[hc1];exact lay_size hfit1
 rw[←hc1]at hcp1 ⊢;have hW1:(w.drew.setRow b c1).heap[b]?=some (.cells c1 T (0,0)):=setRow_heap _ _ _ _ _ _ hdrew;have hW2:(w.drew.setRow b c1).heap[b2]?=some (.cells xs T2 (0,0)):=by rw[setRow_other _ _ _ _ hne];exact hh2
 have hcp2:∀ty dc,(Builtin.copy_ #[108,108] ty #[.slice (some ⟨b,i*6,none⟩) (n+1-i) dc,.slice (some ⟨b2,0,none⟩) 1 cap2]).run Tryz.prog (w.drew.setRow b c1)= .ok (goInt 1) ((w.drew.setRow b c1).setRow b (lay c1 (i*6) (cut xs 0 6))):=fun ty dc=>
  jX (k:=1) hW1 (by omega) (dJ hW2 (by omega)) (by rw[aZ];omega) (fun j hj=>by rw[aZ]at hj;rw[dQ _ _ _ hj,alQ];exact hone2 _ hj) ty
 obtain⟨c2,hc2'⟩:∃c2,c2=lay c1 (i*6) (cut xs 0 6):=⟨_,rfl⟩
 rw[←hc2']at hcp2 ⊢;have mixed:=nH;have hz1:¬((1:Int)=0):=by omega
 have hz2:¬((i:Int)=(n:Int)):=by omega
 have hw1:IntKind.i64.wrap ((i:Int)+1)=(i:Int)+1:=by rw[IntKind.wrap_i64];omega
 have hb1:(0:Int)≤(i:Int)+1:=by omega
 have hin:i≤n:=by omega
 have htn:((i:Int)+1).toNat=i+1:=by omega
 have hb2:¬(cap=i+1):=by omega
 have hb3:(i:Int)≤(n:Int)+1:=by omega
 have hb4:¬(cap=i):=by omega
 clear hh hk hone hh2 hk2 hone2 hc2 hdrew hs1 hfit1 hc1 hc1s hW1 hW2 hc2'
 go_enter Tryz.func128,Tryz.ntmps128
 go_wp2_with (simp only[hov])
 go_region_law_o (refine step_copy_runI rfl _ _ 108 108 rfl _ _ (by simp[Act.eval,Act.put]) (by simp[Act.eval,Act.put]) (hcp1 _ _ _) ?_)
 go_wp2_with (at_builtin;refine wpList_copy_runI _ rfl _ _ 108 108 rfl _ _ rfl rfl (hcp2 _ _) ?_)
 go_ret
 exact⟨rfl,rfl⟩
theorem iT{P:Program}{w:World}{t tn ty e:TypeId}{i:TypeInfo}{z:Value}(ht:P.underlying t=some (.slice e))(htn:P.underlying tn=some (.int .i64))(hi:P.info? e=some i)(hz:i.zero=some z)
  {base:Option Addr} {n cap m:Nat} {olds:Array Value} (ho:Cells P w i.size n (.slice base n cap) olds) (h0:0<m) (hs:0<i.size)
  (hg:cap<n+m) (h63:n+m≤4294967296) (hb:i.bytes≤32768):
  (Builtin.append_ #[t,tn] ty #[.slice base n cap,.int .i64 (m:Nat)]).run P w=
   .ok (.slice (some ⟨w.heap.size,0,none⟩) (n+m) (grownCap w (n+m) cap e)) (w.drew.alloc (.cells (olds++Builtin.zeroCells z.cells m++Builtin.zeroCells z.cells (grownCap w (n+m) cap e-(n+m))) e)):=by
 have h1:¬(n+m≤cap):=by omega
 have h2:¬(9223372036854775807<((n:Int)+(m:Int))):=by omega
 have hfit:Builtin.nextslicecap (n+m) cap*i.bytes≤281474976710656:=by
  refine growslice_fits hg ?_
  calc (n+m)*i.bytes≤4294967296*32768:=Nat.mul_le_mul h63 hb
   _=140737488355328:=rfl
 have h3:¬(281474976710656<Builtin.nextslicecap (n+m) cap*i.bytes):=by omega
 have ho':=ho.2 w.drew rfl;have hm:m≠0:=by omega
 have hw:IntKind.i64.wrap (m:Int)=m:=by rw[IntKind.wrap_i64];omega
 have h63':¬(9223372036854775807<(m:Int)):=by omega
 have hmb:m*i.bytes≤140737488355328:=by
  calc m*i.bytes≤4294967296*32768:=Nat.mul_le_mul (by omega) hb
   _=140737488355328:=rfl
 have h48i:¬(281474976710656<(m:Int)*(i.bytes:Int)):=by
  rw[←Int.natCast_mul];omega
 have hneg:¬((m:Int)<0):=by omega
 have hns:¬(m*i.size=0):=Nat.mul_ne_zero hm (by omega);have hnm:¬(n+m=0):=by omega
 simp[Builtin.append_,run_underlying ht,run_underlying htn,sizeOf,typeInfo,zeroValue,hi,hz,asInt,asIntOf,hw,hm,hneg,hns,h63',h48i,h1,h2,h3,Question.forced,ho',newRow,grownCap]
set_option maxHeartbeats 4000000 in
set_option maxRecDepth 1000000 in
theorem Ji(w:World)(b n i b2 cap2:Nat)(cs xs:Array Value)(T T2:TypeId)(hh:w.heap[b]?=some (.cells cs T (0,0)))(hk:n*6≤cs.size)(hone:∀k,k<n*6→(cs.getD k undef).oneCell'=true)(hi:i<n)(hn:n≤4294967295)
  (hh2:w.heap[b2]?=some (.cells xs T2 (0,0))) (hk2:cap2*6≤xs.size) (hone2:∀k,k<6→(xs.getD k undef).oneCell'=true) (hc2:1≤cap2):
  Calls Tryz.prog 128 #[.slice (some ⟨b,0,none⟩) n n,.int .i64 i,.slice (some ⟨b2,0,none⟩) 1 cap2] w fun e w'=>∃(nc:Nat) (arr:Array Value),n+1≤nc∧arr.size=nc*6∧(∀k,k<i*6→arr.getD k undef=cs.getD k undef)∧
   e= .returned (.slice (some ⟨w.heap.size,0,none⟩) (n+1) nc)∧
   w'.heap=(((w.drew.alloc (.cells arr 142)).setRow w.heap.size (lay arr (i*6) (cut xs 0 6))).setRow w.heap.size (lay (lay arr (i*6) (cut xs 0 6)) ((i+1)*6) (cut cs (i*6) ((n-i)*6)))).heap∧w'.os=w.os∧w'.tape=w.tape∧w'.output=w.output:=by
 obtain⟨i0,hi0,hz0,hz1',hz2'⟩:=Eo;have ho:Cells Tryz.prog w i0.size i (.slice (some ⟨b,0,none⟩) i n) (cut cs 0 (i*6)):=by rw[hz1'];exact dJ hh (by omega)
 have hm:i+(n+1-i)=n+1:=by omega
 have hrun0:∀ty,(Builtin.append_ #[108,3] ty #[.slice (some ⟨b,0,none⟩) i n,.int .i64 (n+1-i:Nat)]).run Tryz.prog w=_:=fun ty=>
  iT (ty:=ty) Tryz.underlying108 (by kernel_rfl:Tryz.prog.underlying 3=some (.int .i64)) hi0 hz0 ho (by omega) (by rw[hz1'];omega) (by omega) (by omega) (by rw[hz2'];omega)
 rw[hm]at hrun0;have hint:((n+1-i:Nat):Int)=(n:Int)+1-i:=by omega
 rw[hint]at hrun0;have hnc:=grownCap_ge w (n+1) n 142;obtain⟨nc,hnc'⟩:∃nc,nc=grownCap w (n+1) n 142:=⟨_,rfl⟩
 rw[←hnc']at hrun0 hnc;obtain⟨arr,harr⟩:∃arr,arr=cut cs 0 (i*6)++Builtin.zeroCells zM.cells (n+1-i)++Builtin.zeroCells zM.cells (nc-(n+1)):=⟨_,rfl⟩
 rw[←harr]at hrun0
 have hsz:arr.size=nc*6:=by
  rw[harr];simp only[Array.size_append,aZ];have e6:∀k,(Builtin.zeroCells zM.cells k).size=k*6:=fun k=>by simp[Builtin.zeroCells,zM,Value.cells]
  rw[e6,e6];omega
 have hlow:∀k,k<i*6→arr.getD k undef=cs.getD k undef:=by
  intro k hk';have h1:k<(cut cs 0 (i*6)).size:=by rw[aZ];exact hk'
  rw[harr,Array.append_assoc,ala,am4 h1,←ala,dQ _ _ _ hk',alQ]
 have hB:∀k,k<w.heap.size→(w.drew.alloc (.cells arr 142)).heap[k]?=w.heap[k]?:=fun k hk'=>heap_alloc_old w.drew _ hk'
 have hb:b<w.heap.size:=(amf.1 hh).1;have hb2:b2<w.heap.size:=(amf.1 hh2).1;have hN:(w.drew.alloc (.cells arr 142)).heap[w.heap.size]?=some (.cells arr 142 (0,0)):=heap_alloc_new w.drew _
 have hcp1:∀W:World,W.heap=(w.drew.alloc (.cells arr 142)).heap→∀ty dc,(Builtin.copy_ #[108,108] ty #[.slice (some ⟨w.heap.size,i*6,none⟩) (n+1-i) dc,.slice (some ⟨b2,0,none⟩) 1 cap2]).run Tryz.prog W= .ok (goInt 1) (W.setRow w.heap.size (lay arr (i*6) (cut xs 0 6))):=fun W hW ty dc=>
  jX (k:=1) (by rw[hW];exact hN) (by omega) (dJ (by rw[hW];exact(hB b2 hb2).trans hh2) (by omega)) (by rw[aZ];omega) (fun j hj=>by rw[aZ]at hj;rw[dQ _ _ _ hj,alQ];exact hone2 _ hj) ty
 obtain⟨a1,ha1⟩:∃a1,a1=lay arr (i*6) (cut xs 0 6):=⟨_,rfl⟩
 have ha1s:a1.size=arr.size:=by rw[ha1];exact lay_size (by rw[aZ];omega)
 rw[←ha1]at hcp1;have hN1:((w.drew.alloc (.cells arr 142)).setRow w.heap.size a1).heap[w.heap.size]?=some (.cells a1 142 (0,0)):=setRow_heap _ _ _ _ _ _ hN;have hO1:((w.drew.alloc (.cells arr 142)).setRow w.heap.size a1).heap[b]?=some (.cells cs T (0,0)):=by rw[setRow_other _ _ _ _ (by omega)];exact(hB b hb).trans hh
 have hs2:(cut cs (i*6) ((n-i)*6)).size=(n-i)*6:=aZ _ _ _
 have hcp2:∀W:World,W.heap=((w.drew.alloc (.cells arr 142)).setRow w.heap.size a1).heap→∀ty dc sc,(Builtin.copy_ #[108,108] ty #[.slice (some ⟨w.heap.size,(i+1)*6,none⟩) (n-i) dc,.slice (some ⟨b,i*6,none⟩) (n-i) sc]).run Tryz.prog W= .ok (goInt (n-i:Nat)) (W.setRow w.heap.size (lay a1 ((i+1)*6) (cut cs (i*6) ((n-i)*6)))):=fun W hW ty dc sc=>
  jX (by rw[hW];exact hN1) (by omega) (dJ (by rw[hW];exact hO1) (by omega)) (by rw[hs2];omega) (fun j hj=>by rw[hs2]at hj;rw[dQ _ _ _ hj];exact hone _ (by omega)) ty
 obtain⟨a2,ha2⟩:∃a2,a2=lay a1 ((i+1)*6) (cut cs (i*6) ((n-i)*6)):=⟨_,rfl⟩
 rw[←ha2]at hcp2
 suffices hgoal:Calls Tryz.prog 128 #[.slice (some ⟨b,0,none⟩) n n,.int .i64 i,.slice (some ⟨b2,0,none⟩) 1 cap2] w fun e w'=>e= .returned (.slice (some ⟨w.heap.size,0,none⟩) (n+1) nc)∧w'.heap=(((w.drew.alloc (.cells arr 142)).setRow w.heap.size a1).setRow w.heap.size a2).heap∧w'.os=w.os∧w'.tape=w.tape∧w'.output=w.output from
  hgoal.mono (by rintro e w' ⟨g1,g2,g3⟩;exact⟨nc,arr,hnc,hsz,hlow,g1,by rw[g2,ha2,ha1],g3⟩)
 have mixed:=nH;have hz1:¬((1:Int)=0):=by omega
 have hz2:¬((i:Int)=(n:Int)):=by omega
 have hin:i≤n:=by omega
 have hgt:¬((n:Int)+1≤(n:Int)):=by omega
 have hw1:IntKind.i64.wrap ((i:Int)+1)=(i:Int)+1:=by rw[IntKind.wrap_i64];omega
 have hb1:(0:Int)≤(i:Int)+1:=by omega
 have htn:((i:Int)+1).toNat=i+1:=by omega
 have hb3:(i:Int)+1≤(n:Int)+1:=by omega
 have hb4:¬(nc=i):=by omega
 have hb5:¬(nc=i+1):=by omega
 have hb6:¬(n=i):=by omega
 clear hh hk hone hh2 hk2 hone2 hc2 hz1' hz2' hi0 hz0 ho hint hnc hnc' harr hsz hlow hB hb hb2 hN ha1 ha1s hN1 hO1 hs2 ha2 hm
 go_enter Tryz.func128,Tryz.ntmps128
 go_wp2_with (at_builtin;refine Lib.wpList_append_run _ rfl _ _ _ _ rfl _ _ rfl rfl _ _ (hrun0 _) ?_)
 rename_i K1 h1;rw[hcp1 (w.alloc (.cells arr 142)).drew rfl];simp only[Result.andThen,Oper.upon];apply h1
 go_wp2_with fail
 go_region_law_o (refine step_copy_runI rfl _ _ 108 108 rfl (.slice (some ⟨w.heap.size,(i+1)*6,none⟩) (n-i) (nc-(i+1))) (.slice (some ⟨b,i*6,none⟩) (n-i) (n-i)) (by simp[Act.eval,Act.put,hb5,hb6]) (by simp[Act.eval,Act.put,hb5,hb6]) (hcp2 ((w.alloc (.cells arr 142)).drew.setRow w.heap.size a1).drew rfl _ _ _) ?_)
 go_wp2
 go_ret
 exact⟨rfl,rfl,rfl,rfl,rfl⟩
theorem eU{cs:Array Value}{o:Nat}{vs:Array Value}(h:o+vs.size≤cs.size)(i:Nat):(lay cs o vs).getD i undef=if o≤i∧i<o+vs.size then vs.getD (i-o) undef else cs.getD i undef:=KS h i
theorem jS{a b:Array Value}{k:Nat}:(a++b).getD k undef=if k<a.size then a.getD k undef else b.getD (k-a.size) undef:=by
 simp only[ala,Array.getElem?_append];split<;>rfl
theorem Y1(t:Ty)(ht:t.size=6):eZ Tryz.prog 128 (wI t):=by
 refine H7 (entered Tryz.func128 rfl (by decide)) (fun w a b2 cap2 xs T2 hh2 hk2 hone2 hc2=> ?_) (fun w b n cap i b2 cap2 cs xs T T2 hh hk hone hi hn hn32 hne hh2 hk2 hone2 hc2=> ?_)
 ·rw[ht]at hk2 hone2 ⊢;refine(tO w a 0 0 b2 cap2 #[] xs T2 (alj _) (by omega) (by omega) jf hh2 hk2 hc2).mono ?_;rintro e w' ⟨nc,rest,g1,g2,rfl,rfl⟩;refine⟨_,nc,_,_,rfl,g1,heap_alloc_new w.drew _,?_,fun k hk=>by omega,fun k hk=> ?_,fun k _ hk=>by omega,rfl,rfl,rfl,.inr ⟨alj _,by simp,fun k hk=>heap_alloc_old w.drew _ hk⟩⟩
  ·simp only[Array.size_append,aZ,g2];simp;omega
  ·rw[Nat.zero_mul,alQ,Array.append_assoc,jS];rw[if_neg (by simp),jS,if_pos (by rw[aZ];simp;omega)];simp only[List.size_toArray,List.length_nil,Nat.sub_zero];rw[dQ _ _ _ hk,alQ]
 ·rw[ht]at hk hone hk2 hone2 ⊢;have hx:(cut xs 0 6).size=6:=aZ _ _ _;have hxg:∀k,k<6→(cut xs 0 6).getD k undef=xs.getD k undef:=fun k hk=>by rw[dQ _ _ _ hk,alQ]
  by_cases hroom:n+1≤cap
  ·by_cases hin:i=n
   ·subst hin;have hfit:i*6+(cut xs 0 6).size≤cs.size:=by rw[hx];omega
    refine(JQ w b i cap b2 cap2 cs xs T T2 hh hk hroom (by omega) hh2 hk2 hone2 hc2).mono ?_;rintro e w' ⟨rfl,rfl⟩;refine⟨b,cap,_,T,rfl,hroom,setRow_heap _ _ _ _ _ _ hh,by rw[lay_size hfit];exact hk,fun k hk'=> ?_,fun k hk'=> ?_,fun k h1 h2=>by omega,rfl,rfl,rfl,.inl ⟨rfl,lay_size hfit,by simp,fun k hk'=>setRow_other _ _ _ _ hk'⟩⟩
    ·rw[eU hfit,if_neg (by omega)]
    ·rw[eU hfit,hx,if_pos (by omega),show i*6+k-i*6=k by omega,hxg k hk']
   ·have hs1:(cut cs (i*6) ((n-i)*6)).size=(n-i)*6:=aZ _ _ _;have hfit1:(i+1)*6+(cut cs (i*6) ((n-i)*6)).size≤cs.size:=by rw[hs1];omega
    have hz1:=lay_size hfit1;have hfit2:i*6+(cut xs 0 6).size≤(lay cs ((i+1)*6) (cut cs (i*6) ((n-i)*6))).size:=by rw[hz1,hx];omega
    have hdrew:w.drew.heap[b]?=some (.cells cs T (0,0)):=hh;refine(BX w b n cap i b2 cap2 cs xs T T2 hh hk hone (by omega) hroom (by omega) hne hh2 hk2 hone2 hc2).mono ?_;rintro e w' ⟨rfl,rfl⟩;refine⟨b,cap,_,T,rfl,hroom,setRow_heap _ _ _ _ _ _ (setRow_heap _ _ _ _ _ _ hdrew),by rw[lay_size hfit2,hz1];exact hk,fun k hk'=> ?_,fun k hk'=> ?_,fun k h1 h2=> ?_,rfl,rfl,rfl,.inl ⟨rfl,(lay_size hfit2).trans hz1,by simp,fun k hk'=> ?_⟩⟩
    ·rw[eU hfit2,if_neg (by omega),eU hfit1,if_neg (by omega)]
    ·rw[eU hfit2,hx,if_pos (by omega),show i*6+k-i*6=k by omega,hxg k hk']
    ·rw[eU hfit2,hx,if_neg (by omega),eU hfit1,hs1,if_pos (by omega),dQ _ _ _ (by omega)]
     congr 1
     omega
    ·rw[setRow_other _ _ _ _ hk',setRow_other _ _ _ _ hk'];rfl
  ·have hcn:cap=n:=by omega
   subst hcn;by_cases hin:i=cap
   ·subst hin;refine(tO w (some ⟨b,0,none⟩) i i b2 cap2 _ xs T2 (alj _) (by omega) (by omega) (dJ hh (by omega)) hh2 hk2 hc2).mono ?_;rintro e w' ⟨nc,rest,g1,g2,rfl,rfl⟩;refine⟨_,nc,_,_,rfl,g1,heap_alloc_new w.drew _,?_,fun k hk'=> ?_,fun k hk'=> ?_,fun k h1 h2=>by omega,rfl,rfl,rfl,.inr ⟨alj _,by simp,fun k hk=>heap_alloc_old w.drew _ hk⟩⟩
    ·simp only[Array.size_append,aZ,g2];omega
    ·rw[Array.append_assoc,jS,if_pos (by rw[aZ];exact hk'),dQ _ _ _ hk',alQ]
    ·rw[Array.append_assoc,jS,if_neg (by rw[aZ];omega),jS,aZ,if_pos (by rw[hx];omega),show i*6+k-i*6=k by omega,hxg k hk']
   ·refine(Ji w b cap i b2 cap2 cs xs T T2 hh hk hone (by omega) (by omega) hh2 hk2 hone2 hc2).mono ?_;rintro e w' ⟨nc,arr,g1,g2,g3,rfl,g4,g5,g6,g7⟩;have hs1:(cut cs (i*6) ((cap-i)*6)).size=(cap-i)*6:=aZ _ _ _;have hfit1:i*6+(cut xs 0 6).size≤arr.size:=by rw[hx];omega
    have hz1:=lay_size hfit1;have hfit2:(i+1)*6+(cut cs (i*6) ((cap-i)*6)).size≤(lay arr (i*6) (cut xs 0 6)).size:=by rw[hz1,hs1];omega
    have hN:(w.drew.alloc (.cells arr 142)).heap[w.heap.size]?=some (.cells arr 142 (0,0)):=heap_alloc_new w.drew _;refine⟨w.heap.size,nc,_,142,rfl,g1,by rw[g4];exact setRow_heap _ _ _ _ _ _ (setRow_heap _ _ _ _ _ _ hN),by rw[lay_size hfit2,hz1,g2];exact alj _,fun k hk'=> ?_,fun k hk'=> ?_,fun k h1 h2=> ?_,g5,g6,g7,.inr ⟨alj _,by rw[g4];simp,fun k hk'=> ?_⟩⟩
    ·rw[eU hfit2,if_neg (by omega),eU hfit1,if_neg (by omega),g3 k hk']
    ·rw[eU hfit2,if_neg (by omega),eU hfit1,hx,if_pos (by omega),show i*6+k-i*6=k by omega,hxg k hk']
    ·rw[eU hfit2,hs1,if_pos (by omega),dQ _ _ _ (by omega)]
     congr 1
     omega
    ·rw[g4,setRow_other _ _ _ _ (by omega),setRow_other _ _ _ _ (by omega)];exact heap_alloc_old w.drew _ hk'
end Go.Proofs.YtchnmpafhfjimaaGreatDoor
namespace Go.Proofs.YtchnmpafhfjimaaGreatDoor
open Go Go.Shelf Go.RowKit
def shr:Shelf.Ren:=
{ f:=fun x=>match x with
   |156=>171
   |165=>209
   |166=>210
   |167=>207
   |169=>208
   |240=>226
   |241=>227
   |276=>232
   |277=>233
   |n=>n
  t:=fun x=>match x with
   |31=>50
   |9=>9
   |3=>3
   |4=>4
   |0=>0
   |20=>20
   |72=>235
   |76=>241
   |70=>232
   |37=>233
   |75=>237
   |127=>253
   |164=>260
   |5=>5
   |80=>239
   |21=>21
   |46=>202
   |n=>n
  g:=fun x=>x}
set_option maxRecDepth 100000 in
theorem Uo:Lays.n167 Tryz.prog shr:=
{ mixed:=Eq.refl true,
  f167:=Eq.trans Tryz.func207 (congrArg some (Eq.refl (Body.n167 shr))),
  f240:=Eq.trans Tryz.func226 (congrArg some (Eq.refl (Body.n240 shr))),
  f276:=Eq.trans Tryz.func232 (congrArg some (Eq.refl (Body.n276 shr))),
  t0:=Tryz.underlying0,
  a0:=Tryz.isAgg0,
  z0:=Tryz.sizeOf0,
  v0:=Tryz.zeroValue0,
  t4:=Tryz.underlying4,
  a4:=Tryz.isAgg4,
  z4:=Tryz.sizeOf4,
  v4:=Tryz.zeroValue4,
  t5:=Tryz.underlying5,
  a5:=Tryz.isAgg5,
  z5:=Tryz.sizeOf5,
  v5:=Tryz.zeroValue5,
  t9:=Tryz.underlying9,
  a9:=Tryz.isAgg9,
  z9:=Tryz.sizeOf9,
  v9:=Tryz.zeroValue9,
  t20:=Tryz.underlying20,
  a20:=Tryz.isAgg20,
  z20:=Tryz.sizeOf20,
  v20:=Tryz.zeroValue20,
  t37:=Tryz.underlying233,
  a37:=Tryz.isAgg233,
  z37:=Tryz.sizeOf233,
  v37:=Tryz.zeroValue233,
  t70:=Tryz.underlying232,
  a70:=Tryz.isAgg232,
  z70:=Tryz.sizeOf232,
  v70:=Tryz.zeroValue232,
  t72:=Tryz.underlying235,
  a72:=Tryz.isAgg235,
  z72:=Tryz.sizeOf235,
  v72:=Tryz.zeroValue235,
  t75:=Tryz.underlying237,
  a75:=Tryz.isAgg237,
  z75:=Tryz.sizeOf237,
  v75:=Tryz.zeroValue237,
  t164:=Tryz.underlying260,
  a164:=Tryz.isAgg260,
  z164:=Tryz.sizeOf260,
  v164:=Tryz.zeroValue260}
set_option maxRecDepth 100000 in
theorem Sc:Lays.n169 Tryz.prog shr:=
{ mixed:=Eq.refl true,
  f169:=Eq.trans Tryz.func208 (congrArg some (Eq.refl (Body.n169 shr))),
  t0:=Tryz.underlying0,
  a0:=Tryz.isAgg0,
  z0:=Tryz.sizeOf0,
  v0:=Tryz.zeroValue0,
  t3:=Tryz.underlying3,
  a3:=Tryz.isAgg3,
  z3:=Tryz.sizeOf3,
  v3:=Tryz.zeroValue3,
  t9:=Tryz.underlying9,
  a9:=Tryz.isAgg9,
  z9:=Tryz.sizeOf9,
  v9:=Tryz.zeroValue9,
  t37:=Tryz.underlying233,
  a37:=Tryz.isAgg233,
  z37:=Tryz.sizeOf233,
  v37:=Tryz.zeroValue233,
  t70:=Tryz.underlying232,
  a70:=Tryz.isAgg232,
  z70:=Tryz.sizeOf232,
  v70:=Tryz.zeroValue232,
  t72:=Tryz.underlying235,
  a72:=Tryz.isAgg235,
  z72:=Tryz.sizeOf235,
  v72:=Tryz.zeroValue235,
  t127:=Tryz.underlying253,
  a127:=Tryz.isAgg253,
  z127:=Tryz.sizeOf253,
  v127:=Tryz.zeroValue253}
set_option maxRecDepth 100000 in
theorem BF:Lays.n156 Tryz.prog shr:=
{ mixed:=Eq.refl true,
  f156:=Eq.trans Tryz.func171 (congrArg some (Eq.refl (Body.n156 shr))),
  f165:=Eq.trans Tryz.func209 (congrArg some (Eq.refl (Body.n165 shr))),
  f166:=Eq.trans Tryz.func210 (congrArg some (Eq.refl (Body.n166 shr))),
  f169:=Eq.trans Tryz.func208 (congrArg some (Eq.refl (Body.n169 shr))),
  f240:=Eq.trans Tryz.func226 (congrArg some (Eq.refl (Body.n240 shr))),
  f241:=Eq.trans Tryz.func227 (congrArg some (Eq.refl (Body.n241 shr))),
  f276:=Eq.trans Tryz.func232 (congrArg some (Eq.refl (Body.n276 shr))),
  f277:=Eq.trans Tryz.func233 (congrArg some (Eq.refl (Body.n277 shr))),
  t0:=Tryz.underlying0,
  a0:=Tryz.isAgg0,
  z0:=Tryz.sizeOf0,
  v0:=Tryz.zeroValue0,
  t3:=Tryz.underlying3,
  a3:=Tryz.isAgg3,
  z3:=Tryz.sizeOf3,
  v3:=Tryz.zeroValue3,
  t4:=Tryz.underlying4,
  a4:=Tryz.isAgg4,
  z4:=Tryz.sizeOf4,
  v4:=Tryz.zeroValue4,
  t9:=Tryz.underlying9,
  a9:=Tryz.isAgg9,
  z9:=Tryz.sizeOf9,
  v9:=Tryz.zeroValue9,
  t20:=Tryz.underlying20,
  a20:=Tryz.isAgg20,
  z20:=Tryz.sizeOf20,
  v20:=Tryz.zeroValue20,
  t31:=Tryz.underlying50,
  a31:=Tryz.isAgg50,
  z31:=Tryz.sizeOf50,
  v31:=Tryz.zeroValue50,
  t37:=Tryz.underlying233,
  a37:=Tryz.isAgg233,
  z37:=Tryz.sizeOf233,
  v37:=Tryz.zeroValue233,
  t70:=Tryz.underlying232,
  a70:=Tryz.isAgg232,
  z70:=Tryz.sizeOf232,
  v70:=Tryz.zeroValue232,
  t72:=Tryz.underlying235,
  a72:=Tryz.isAgg235,
  z72:=Tryz.sizeOf235,
  v72:=Tryz.zeroValue235,
  t75:=Tryz.underlying237,
  a75:=Tryz.isAgg237,
  z75:=Tryz.sizeOf237,
  v75:=Tryz.zeroValue237,
  t76:=Tryz.underlying241,
  a76:=Tryz.isAgg241,
  z76:=Tryz.sizeOf241,
  v76:=Tryz.zeroValue241,
  t127:=Tryz.underlying253,
  a127:=Tryz.isAgg253,
  z127:=Tryz.sizeOf253,
  v127:=Tryz.zeroValue253,
  t164:=Tryz.underlying260,
  a164:=Tryz.isAgg260,
  z164:=Tryz.sizeOf260,
  v164:=Tryz.zeroValue260}
set_option maxRecDepth 100000 in
theorem Gd:Builder.Extra Tryz.prog shr:=
{ sizeBuilder:=Eq.refl (some 2),liesBuilder:=Eq.refl true,t5:=Tryz.underlying5,a5:=Tryz.isAgg5,z5:=Tryz.sizeOf5,v5:=Tryz.zeroValue5,
  infoByte:=Eq.refl (some (some (Value.int IntKind.u8 0),1,1)),cellsByte:=Eq.refl 1,sizeByte:=Eq.refl (some 1),neB5:=by decide}
open Go.Abs
theorem FB{w w':World}(h:Below w.heap.size w w'):Kept w w':=⟨h.os,h.tape,h.output,h.size,h.block⟩
theorem aa2{w:World}{X:XT}{v:Value}{l:List ByteArray}{tg:Bool}{ℓ:Lens}(h:PR w X v (d1 ℓ (.row .str l tg))):
  (l=[]∧∃a cap,v= .slice a 0 cap)∨∃b o cap,v= .slice (some ⟨b,o,none⟩) l.length cap∧l.length≤cap∧∀(j:Nat) (x:ByteArray),l[j]?=some x→w.cell? ⟨b,o+j,none⟩=some (.string x):=by
 have e:d1 ℓ (.row .str l tg)= .eO (Bd 1 (l.map fun x=>AV.str x)) (l.map fun x=>AV.str x) tg:=rfl;rw[e]at h
 cases hl:l with
 |nil=>
  left;rw[hl]at h;refine⟨rfl,?_⟩;simp only[alJ]at h
  cases h with
  |lst0 a cap sz t ht=>exact⟨a,cap,rfl⟩
  |eO b o n cap sz t xs f hn hc ht hsz hx hr=>simp at hn;subst hn;exact⟨_,cap,rfl⟩
 |cons y r=>
  right;rw[←hl];have hz:Bd 1 (l.map fun x=>AV.str x)=1:=by rw[hl];rfl
  rw[hz]at h;generalize hxs:(l.map fun x=>AV.str x)=xs at h;have hlen:xs.length=l.length:=by rw[←hxs];simp
  cases h with
  |lst0 a cap sz t ht=>rw[hl]at hlen;simp at hlen
  |eO b o n cap sz t xs f hn hc ht hsz hx hr=>
   refine⟨b,o,cap,by rw[←hlen,hn],by omega,fun j x hj=> ?_⟩;have hxj:xs[j]?=some (.str x):=by rw[←hxs,ale,hj];rfl
   obtain⟨_,h2,_⟩:=hx j _ hxj 0 (.str x) rfl;have h3:=hr j _ hxj 0 (.str x) rfl;have h4:f j 0= .string x:=PR.jM h3;rw[h4]at h2;simpa using h2
set_option maxRecDepth 100000 in
theorem aat:eZ Tryz.prog 171 (Db PE):=pure_ok (entered Tryz.func171 rfl (by decide)) (by
 intro args v h;unfold PE at h;split at h
 ·rename_i l tg sep;obtain⟨hc,h⟩:=Tr.aX h;have hc:=ali hc;have:=Tr.ay h;subst this;refine⟨_,rfl,fun w X vals hsz hv=> ?_⟩;have h0:=aa2 (hv 0 _ rfl);have h1:=PR.jM (hv 1 _ rfl);have hvv:=Vl (vals:=vals) (by simpa using hsz);rw[h1]at hvv
  have hsz2:(Lib.join (List.map (fun x=>x.data.toList) (show List ByteArray from l)) sep.data.toList).length≤140737488355328:=by
   have:=hc.2
   rwa [show(sM (show List ByteArray from l) sep).size=(Lib.join (List.map (fun x=>x.data.toList) (show List ByteArray from l)) sep.data.toList).length from by simp[sM,bF,ByteArray.size]]at this
  rcases h0 with⟨hl,a,cap,e⟩|⟨b,o,cap,e,hle,hcell⟩
  ·rw[hvv,e];refine(Any.strings_Join_none (ρ:=shr) BF Gd a cap sep w).mono ?_;rintro e w' ⟨rfl,rfl⟩;refine⟨?_,Kept.refl _⟩;have hl:(show List ByteArray from l)=[]:=hl
   show Ending.returned _=Ending.returned (.string (sM (show List ByteArray from l) sep))
   rw[hl];rfl
  ·rw[hvv,e]
   have hb:l≠ []→b<w.heap.size:=fun hne=>by
    cases hl:(show List ByteArray from l)with
    |nil=>exact absurd hl hne
    |cons y r=>
     have:=hcell 0 y (by show(show List ByteArray from l)[0]?=_;rw[hl];rfl);rcases am8 b w.heap.size with h'|h'
     ·exact h'
     ·simp[World.cell?,Array.getElem?_eq_none h']at this
   by_cases hne:l=[]
   ·have hl:(show List ByteArray from l)=[]:=hne;have e0:List.length (show List ByteArray from l)=0:=by rw[hl];rfl
    show Calls Tryz.prog 171 #[.slice (some ⟨b,o,none⟩) (List.length (show List ByteArray from l)) cap,.string sep] w _
    rw[e0];refine(Any.strings_Join_none (ρ:=shr) BF Gd (some ⟨b,o,none⟩) cap sep w).mono ?_;rintro e w' ⟨rfl,rfl⟩;refine⟨?_,Kept.refl _⟩
    show Ending.returned _=Ending.returned (.string (sM (show List ByteArray from l) sep))
    rw[hl];rfl
   ·refine(Any.strings_Join (ρ:=shr) BF Gd b o cap (show List ByteArray from l) sep w hcell (hb hne) (alS hc.1 (by decide)) hle hsz2).mono ?_;rintro e w' ⟨rfl,hbw⟩;exact⟨rfl,FB hbw⟩
 ·exact(Tr.ax h).elim)
theorem Fq(B b:Nat)(bs:List Value)(c:Int)(w:World)(h:Lib.IsBuilder 235 5 B b bs w)(hlen:bs.length+1≤140737488355328)(hBw:B≤w.heap.size):
  Calls Tryz.prog 207 #[.pointer (some ⟨b,0,none⟩),.int .u8 c] w fun e w'=>e= .returned .nilIface∧(Lib.BuilderAt 235 5 B b (.pointer (some ⟨b,0,none⟩)) (bs++ [.int .u8 c]) w'∧Below B w w'):=
 Any.Builder_WriteByte (ρ:=shr) Uo Gd B b bs c w h hlen hBw
theorem aaT(B b:Nat)(l:List UInt8)(w:World)(h:Lib.IsBuilder 235 5 B b (Lib.byteCells l) w)(hBw:B≤w.heap.size):
  Calls Tryz.prog 208 #[.pointer (some ⟨b,0,none⟩)] w fun e w'=>e= .returned (.string ⟨l.toArray⟩)∧Below B w w':=
 Any.Builder_String_any (ρ:=shr) Sc Gd B b l w h hBw
theorem Gq:∀(l:List UInt8) (c:UInt8),Lab.esc (l++ [c])=Lab.esc l++(if c=34∨c=92 then [92,c]else [c])
 | [],c=>by simp only[amD,Lab.esc]
 |d::l,c=>by
  simp only[am1,Lab.esc,Gq l c];split<;>simp
theorem Tq(s:ByteArray)(k:Nat)(h:k<s.size):s.data.toList.take (k+1)=s.data.toList.take k++ [s[k]]:=by
 have h':k<s.data.toList.length:=by rw[Array.length_toList];exact h
 rw[am9,alh h'];rfl
set_option maxHeartbeats 4000000 in
set_option maxRecDepth 1000000 in
theorem Kb(s:ByteArray)(w:World)(hs:s.size≤4294967296):
  Calls Tryz.prog 170 #[.string s] w fun e w'=>e= .returned (.string (lm s))∧Below w.heap.size w w':=by
 go_enter Tryz.func170,Tryz.ntmps170
 go_wp2_with (go_at_call 207;refine(Fq w.heap.size w.heap.size [] 34 _ (Lib.fresh_isBuilder 235 5 w) (by simp) (by simp)).mono ?_)
 rintro e w1 ⟨rfl,h1,b1⟩;have b1:Below w.heap.size w w1:=((Below.refl _ w).alloc (alj _) _).trans b1
 go_wp2
 go_loopw [8] (fun v wr=>∃k:Nat,k≤s.size∧v= .int .i64 k∧Lib.BuilderAt 235 5 w.heap.size w.heap.size (.pointer (some ⟨w.heap.size,0,none⟩)) (Lib.byteCells (34::Lab.esc (s.data.toList.take k))) wr∧Below w.heap.size w wr) (fun v wr=>s.size-(intOf v).toNat)
 case atStart=>exact⟨0,alD _,rfl,by simpa[Lab.esc,Lib.byteCells]using h1,b1⟩
 case round=>
  obtain⟨k,hk,rfl,hI,hbw⟩:=hrel;by_cases hp:k<s.size
  ·have hsn:=Tq s k hp
   have hlen:(Lib.byteCells (34::Lab.esc (s.data.toList.take k))).length≤2*k+1:=by
    have:=Lab.wU (s.data.toList.take k);rw[Lib.byteCells_length];simp only[alI,alv]at this ⊢;omega
   have hle:w.heap.size≤wr.heap.size:=hbw.size
   have two:∀(w2 w3:World),s[k]=34∨s[k]=92→Lib.BuilderAt 235 5 w.heap.size w.heap.size (.pointer (some ⟨w.heap.size,0,none⟩)) (Lib.byteCells (34::Lab.esc (s.data.toList.take k))++ [Value.int .u8 92]++ [Value.int .u8 s[k].toNat]) w3→
     Lib.BuilderAt 235 5 w.heap.size w.heap.size (.pointer (some ⟨w.heap.size,0,none⟩)) (Lib.byteCells (34::Lab.esc (s.data.toList.take (k+1)))) w3:=by
    intro w2 w3 hq h;rw[hsn,Gq,if_pos hq];simpa[Lib.byteCells]using h
   have one:∀(w3:World),¬(s[k]=34∨s[k]=92)→Lib.BuilderAt 235 5 w.heap.size w.heap.size (.pointer (some ⟨w.heap.size,0,none⟩)) (Lib.byteCells (34::Lab.esc (s.data.toList.take k))++ [Value.int .u8 s[k].toNat]) w3→
     Lib.BuilderAt 235 5 w.heap.size w.heap.size (.pointer (some ⟨w.heap.size,0,none⟩)) (Lib.byteCells (34::Lab.esc (s.data.toList.take (k+1)))) w3:=by
    intro w3 hq h;rw[hsn,Gq,if_neg hq];simpa[Lib.byteCells]using h
   have byte34:((s[k].toNat:Int)=34)→s[k]=34:=fun h=>UInt8.toNat_inj.1 (by show s[k].toNat=34;omega)
   have byte92:((s[k].toNat:Int)=92)→s[k]=92:=fun h=>UInt8.toNat_inj.1 (by show s[k].toNat=92;omega)
   have both:((s[k].toNat:Int)==34)=true∨((s[k].toNat:Int)==92)=true→s[k]=34∨s[k]=92:=by
    rintro(h|h)
    ·exact .inl (byte34 (by simpa using h))
    ·exact .inr (byte92 (by simpa using h))
   have neither:((s[k].toNat:Int)==34)=false∧((s[k].toNat:Int)==92)=false→¬(s[k]=34∨s[k]=92):=by
    intro h h2;rcases h2 with h2|h2<;>rw[h2]at h
    ·cases h.1
    ·cases h.2
   go_wp2_with (go_at_call 207;fail)
   ·have hq:s[k]=34∨s[k]=92:=.inl (byte34 (by assumption));refine(Fq w.heap.size w.heap.size _ 92 wr (Or.inr hI) (by omega) hle).mono ?_;rintro e w2 ⟨rfl,h2,b2⟩
    go_wp2_with (go_at_call 207;fail)
    refine(Fq w.heap.size w.heap.size _ _ w2 (Or.inr h2) (by simp only[alz,List.length_singleton];omega) (by have:=b2.size;omega)).mono ?_;rintro e w3 ⟨rfl,h3,b3⟩
    go_wp2
    go_roundw
    case rel=>exact⟨k+1,by omega,by simp,two w2 w3 hq (by rw[show(s[k].toNat:Int)=34 from by assumption];exact h3),(hbw.trans b2).trans b3⟩
    case measure=>simp[intOf];omega
   ·have hq:s[k]=34∨s[k]=92:=both (by assumption);refine(Fq w.heap.size w.heap.size _ 92 wr (Or.inr hI) (by omega) hle).mono ?_;rintro e w2 ⟨rfl,h2,b2⟩
    go_wp2_with (go_at_call 207;fail)
    refine(Fq w.heap.size w.heap.size _ _ w2 (Or.inr h2) (by simp only[alz,List.length_singleton];omega) (by have:=b2.size;omega)).mono ?_;rintro e w3 ⟨rfl,h3,b3⟩
    go_wp2
    go_roundw
    case rel=>exact⟨k+1,by omega,by simp,two w2 w3 hq h3,(hbw.trans b2).trans b3⟩
    case measure=>simp[intOf];omega
   ·have hq:¬(s[k]=34∨s[k]=92):=neither (by assumption);refine(Fq w.heap.size w.heap.size _ _ wr (Or.inr hI) (by omega) hle).mono ?_;rintro e w3 ⟨rfl,h3,b3⟩
    go_wp2
    go_roundw
    case rel=>exact⟨k+1,by omega,by simp,one w3 hq h3,hbw.trans b3⟩
    case measure=>simp[intOf];omega
  ·have hk2:k=s.size:=by omega
   subst hk2
   have hI2:Lib.BuilderAt 235 5 w.heap.size w.heap.size (.pointer (some ⟨w.heap.size,0,none⟩)) (Lib.byteCells (34::Lab.esc s.data.toList)) wr:=by
    have e:s.data.toList.take s.size=s.data.toList:=alP (by rw[Array.length_toList];exact alj _);rw[e]at hI;exact hI
   have hlen:(Lib.byteCells (34::Lab.esc s.data.toList)).length≤2*s.size+1:=by
    have:=Lab.wU s.data.toList;have e:s.data.toList.length=s.size:=Array.length_toList;rw[e]at this;rw[Lib.byteCells_length,alI];omega
   have hle:w.heap.size≤wr.heap.size:=hbw.size
   go_wp2_with (go_at_call 207;fail)
   refine(Fq w.heap.size w.heap.size _ 34 wr (Or.inr hI2) (by omega) hle).mono ?_;rintro e w2 ⟨rfl,h2,b2⟩
   go_wp2_with (go_at_call 208;fail)
   have h2':Lib.BuilderAt 235 5 w.heap.size w.heap.size (.pointer (some ⟨w.heap.size,0,none⟩)) (Lib.byteCells (34::(Lab.esc s.data.toList++ [34]))) w2:=by
    simpa[Lib.byteCells]using h2
   refine(aaT w.heap.size w.heap.size _ w2 (Or.inr h2') (by have:=b2.size;omega)).mono ?_;rintro e w3 ⟨rfl,b3⟩
   go_wp2
   go_ret
   exact⟨rfl,(hbw.trans b2).trans b3⟩
theorem abb:eZ Tryz.prog 170 (Db Jm):=pure_ok (entered Tryz.func170 rfl (by decide)) (by
 intro args v h;unfold Jm at h;split at h
 ·rename_i s;obtain⟨hc,h⟩:=Tr.aX h;have hc:=ali hc;have:=Tr.ay h;subst this;refine⟨_,rfl,fun w X vals hsz hv=> ?_⟩;have h0:=PR.jM (hv 0 _ rfl);have hvv:=Zu (vals:=vals) (by simpa using hsz);rw[h0]at hvv;rw[hvv];refine(Kb s w hc).mono ?_;rintro e w' ⟨rfl,hb⟩;exact⟨rfl,FB hb⟩
 ·exact(Tr.ax h).elim)
end Go.Proofs.YtchnmpafhfjimaaGreatDoor
namespace Go.Proofs.YtchnmpafhfjimaaGreatDoor
open Go Go.Abs Go.RowKit
theorem mr{P:Program}(w:World)(t e ty:TypeId)(z:Value)(ht:P.underlying t=some (.slice e))(hv:∀w,(zeroValue e).run P w= .ok z w)(b o n c:Nat)(hn:0<n)(vs:List Value)(hvs:(Builtin.zeroCells z.cells n).toList=vs)
  (h1:∀v∈vs,v.oneCell'=true) (hc:∀j,j<vs.length→(w.cell? ⟨b,o+j,none⟩).isSome=true) (hf:∀j,j<vs.length→w.frozen? ⟨b,o+j,none⟩=false):
  (Builtin.clear_ #[t] ty #[.slice (some ⟨b,o,none⟩) n c]).run P w= .ok (.tuple #[]) (w.setCells b o vs):=by
 have hst:=run_storeCells_cells (P:=P) b o vs 0 w (by simpa using hc) (by simpa using hf) h1;simp only[amB]at hst;obtain⟨m,rfl⟩:∃m,n=m+1:=⟨n-1,by omega⟩
 simp[Builtin.clear_,run_underlying ht,hv,hvs,hst]
theorem fO(b:Nat):∀(vs:List Value) (o:Nat) (w:World),(w.setCells b o vs).os=w.os∧(w.setCells b o vs).tape=w.tape∧(w.setCells b o vs).output=w.output∧(w.setCells b o vs).heap.size=w.heap.size∧∀k,k≠b→(w.setCells b o vs).heap[k]?=w.heap[k]?
 | [],_,_=>⟨rfl,rfl,rfl,rfl,fun _ _=>rfl⟩
 |v::r,o,w=>by
  obtain⟨h1,h2,h3,h4,h5⟩:=fO b r (o+1) (w.setCell ⟨b,o,none⟩ v);rw[World.setCells];refine⟨h1,h2,h3,h4.trans (by simp[World.setCell]),fun k hk=>(h5 k hk).trans ?_⟩;simp only[World.setCell];rw[Array.getElem?_modify,if_neg (fun e=>hk e.symm)]
theorem kF{w:World}{b:Nat}{cs:Array Value}{T:TypeId}(h:w.heap[b]?=some (.cells cs T (0,0))){o:Nat}(ho:o<cs.size):w.cell? ⟨b,o,none⟩=some (cs.getD o undef)∧w.frozen? ⟨b,o,none⟩=false:=by
 constructor
 ·simp[World.cell?,h,Array.getD,ho]
 ·simp[World.frozen?,h]
theorem row_of{w:World}{b:Nat}{cs:Array Value}{T:TypeId}(h:w.heap[b]?=some (.cells cs T (0,0))):w.rowIs b T cs.size (fun k=>cs.getD k undef):=
 ⟨cs,h,rfl,fun i hi=>by simp[Array.getD,hi]⟩
set_option maxHeartbeats 4000000 in
set_option maxRecDepth 1000000 in
theorem Ik(w:World)(b n cap i j:Nat)(cs:Array Value)(T:TypeId)(hh:w.heap[b]?=some (.cells cs T (0,0)))(hk:cap*6≤cs.size)(hone:∀k,k<n*6→(cs.getD k undef).oneCell'=true)(hij:i<j)(hj:j≤n)(hn:n≤cap)(hm:n≤4294967296):
  Calls Tryz.prog 176 #[.slice (some ⟨b,0,none⟩) n cap,.int .i64 i,.int .i64 j] w (tV 6 b n cap i j w cs T):=by
 have hic:i≤cap:=by omega
 have hjc:j≤cap:=by omega
 obtain⟨i0,hi0,hz0,hz1,_⟩:=info_parts (P:=Tryz.prog) (e:=142) (z:=.agg #[.string ⟨#[]⟩,.slice none 0 0,.int .i64 0,.int .i64 0,.bool false,.bool false]) (size:=6) (bytes:=64) (by kernel_rfl);have hv142:∀w,(zeroValue 142).run Tryz.prog w= .ok (.agg #[.string ⟨#[]⟩,.slice none 0 0,.int .i64 0,.int .i64 0,.bool false,.bool false]) w:=fun w=>by simp[zeroValue,typeInfo,hi0,hz0]
 obtain⟨news,hnews⟩:∃news:List Value,news=(List.range ((n-j)*6)).map (fun k=>cs.getD (j*6+k) undef):=⟨_,rfl⟩
 have hlen:news.length=(n-j)*6:=by rw[hnews];simp
 have hget:∀k,k<(n-j)*6→news[k]?=some (cs.getD (j*6+k) undef):=by intro k hk';rw[hnews];simp[hk']
 have hin:∀k,k<cap*6→k<cs.size:=fun k hk'=>by omega
 have hdrew:w.drew.heap[b]?=some (.cells cs T (0,0)):=hh
 obtain⟨A,hA,hsrc⟩:∃A:Addr,(if cap=j then(some (⟨b,0,none⟩:Addr))else some ⟨b,j*6,none⟩)=some A∧Hid (∀k u,news[k]?=some u→w.drew.cell? (A.add k)=some u):=by
  by_cases h:cap=j
  ·refine⟨⟨b,0,none⟩,by simp[h],fun k u hu=> ?_⟩;have h0:news.length=0:=by rw[hlen];omega
   rw[am6.1 h0]at hu;simp at hu
  ·refine⟨⟨b,j*6,none⟩,by simp[h],fun k u hu=> ?_⟩;have hk':=(akX.1 hu).1;rw[hlen]at hk';rw[hget k hk']at hu;rw[addr_add];rw[←hu];exact(kF hdrew (hin _ (by omega))).1
 have s2:Hid (∀u∈news,u.oneCell'=true):=by
  intro u hu;rw[hnews]at hu;simp only[amb,amI]at hu;obtain⟨k,hk',rfl⟩:=hu;exact hone _ (by omega)
 have s3:Hid (∀k,k<news.length→(w.drew.cell? ⟨b,0+i*6+k,none⟩).isSome=true∧w.drew.frozen? ⟨b,0+i*6+k,none⟩=false):=by
  intro k hk';rw[hlen]at hk';rw[alQ];obtain⟨c1,c2⟩:=kF hdrew (o:=i*6+k) (hin _ (by omega));exact⟨by rw[c1];rfl,c2⟩
 have s1:Hid (news.length=(n-j)*6):=hlen;obtain⟨W1,hW1⟩:∃W1,W1=w.drew.setCells b (0+i*6) news:=⟨_,rfl⟩
 have hW:Hid (W1=w.drew.setCells b (0+i*6) news):=hW1
 have hrow1:W1.rowIs b T cs.size (fun k=>if 0+i*6≤k∧k<0+i*6+news.length then news[k-(0+i*6)]?.getD default else cs.getD k undef):=by
  rw[hW1];exact rowIs_setCells news (0+i*6) w.drew _ (row_of hdrew)
 have hfrm1:=fO b news (0+i*6) w.drew;rw[←hW1]at hfrm1;obtain⟨zs,hzs⟩:∃zs,zs=(Builtin.zeroCells (Value.agg #[.string ⟨#[]⟩,.slice none 0 0,.int .i64 0,.int .i64 0,.bool false,.bool false]).cells (n-(i+(n-j)))).toList:=⟨_,rfl⟩
 have hzl:zs.length=(n-(i+(n-j)))*6:=by rw[hzs];simp[Builtin.zeroCells,Value.cells]
 have hz1':∀v∈zs,v.oneCell'=true:=by
  intro v hv;rw[hzs]at hv;simp only[Builtin.zeroCells,Value.cells,Array.toList_map,amb]at hv;obtain⟨k,_,rfl⟩:=hv;have hk6:k % 6<6:=Nat.mod_lt _ (by omega);simp only[List.size_toArray,alI,List.length_nil];generalize k % 6=q at hk6
  match q,hk6 with
  |0,_=>rfl
  |1,_=>rfl
  |2,_=>rfl
  |3,_=>rfl
  |4,_=>rfl
  |5,_=>rfl
 obtain⟨c1,hc1,hc1s,hc1g⟩:=hrow1
 have hcl:∀ty,(Builtin.clear_ #[108] ty #[.slice (some ⟨b,(i+(n-j))*6,none⟩) (n-(i+(n-j))) (cap-(i+(n-j)))]).run Tryz.prog W1= .ok (.tuple #[]) (W1.setCells b ((i+(n-j))*6) zs):=
  fun ty=>mr W1 108 142 ty _ Tryz.underlying108 hv142 b _ _ _ (by omega) zs hzs.symm hz1' (fun q hq=>by rw[(kF hc1 (by omega)).1];rfl) (fun q hq=>(kF hc1 (by omega)).2)
 have hrow2:=rowIs_setCells zs ((i+(n-j))*6) W1 _ ⟨c1,hc1,hc1s,hc1g⟩;have hfrm2:=fO b zs ((i+(n-j))*6) W1;obtain⟨c2,hc2,hc2s,hc2g⟩:=hrow2
 have fin:Aside (tV 6 b n cap i j w cs T (.returned (.slice (some ⟨b,0,none⟩) (i+(n-j)) cap)) (W1.setCells b ((i+(n-j))*6) zs)):=by
  refine⟨c2,by rw[show n-(j-i)=i+(n-j) by omega],hc2,hc2s,fun k hk'=> ?_,fun k hk' hk2=> ?_,hfrm2.1.trans hfrm1.1,hfrm2.2.1.trans hfrm1.2.1,hfrm2.2.2.1.trans hfrm1.2.2.1,hfrm2.2.2.2.1.trans hfrm1.2.2.2.1,fun k hk'=>(hfrm2.2.2.2.2 k hk').trans (hfrm1.2.2.2.2 k hk')⟩
  ·have:=hc2g k (by omega);simp only at this;rw[if_neg (by omega),if_neg (by omega)]at this;rw[ala,this];rfl
  ·have:=hc2g k (by omega);simp only at this;rw[if_neg (by omega),if_pos (by omega),hget _ (by omega)]at this;rw[ala,this];simp only[amt]
   congr 1
   omega
 have mixed:Tryz.prog.follows .mixedOrders=true:=by kernel_rfl
 clear hh hk hone hnews hget hlen hin hdrew hfrm1 hfrm2 hc1 hc1s hc1g hc2 hc2s hc2g hzs hzl hz1' hW1
 go_enter Tryz.func176,Tryz.ntmps176
 go_wp2_with fail
 go_region_law_o (refine step_append_room rfl (.tmp 22) (.tmp 25) 108 rfl 142 i0 6 Tryz.underlying108 hi0 hz1 b 0 i cap (by simp[Act.eval,Act.put]) A (n-j) (cap-j) news (by simp[Act.eval,Act.put,hA]) s1.out hsrc.out s2.out (by omega) s3.out ?_;rw[←hW.out])
 go_wp2
 go_ret
 exact fin.out
theorem Zx(t:Ty)(ht:t.size=6):eZ Tryz.prog 176 (YH t):=
 adF (entered Tryz.func176 rfl (by decide)) (fun w b n cap i j cs T h1 h2 h3 h4 h5 h6 h7=>by
  rw[ht]at h2 h3 ⊢;exact Ik w b n cap i j cs T h1 h2 h3 h4 h5 h6 h7)
end Go.Proofs.YtchnmpafhfjimaaGreatDoor
namespace Go.Proofs.YtchnmpafhfjimaaGreatDoor.Ig
open Go Go.Abs Go.RowKit
abbrev zM:Value:=.agg #[.int .i64 0,.string ⟨#[]⟩,.slice none 0 0,.int .i64 0,.int .i64 0]
theorem DY:∃i0,Tryz.prog.info? 110=some i0∧i0.zero=some zM∧i0.size=5∧i0.bytes=64:=by
 obtain⟨i0,h0,h1,h2,h3⟩:=info_parts (P:=Tryz.prog) (e:=110) (z:=zM) (size:=5) (bytes:=64) (by kernel_rfl);exact⟨i0,h0,h1,h2,h3⟩
theorem nH:Tryz.prog.follows .mixedOrders=true:=by kernel_rfl
theorem QF(w:World):(sizeOf 110).run Tryz.prog w= .ok 5 w:=by
 obtain⟨i0,h0,_,h2,_⟩:=DY;simp[sizeOf,typeInfo,h0,h2]
def cut(cs:Array Value)(o k:Nat):Array Value:=((List.range k).map fun j=>cs.getD (o+j) undef).toArray
theorem aZ(cs:Array Value)(o k:Nat):(cut cs o k).size=k:=by simp[cut]
theorem dQ(cs:Array Value)(o k:Nat){j:Nat}(h:j<k):(cut cs o k).getD j undef=cs.getD (o+j) undef:=by
 simp[cut,ala,h]
theorem dJ{w:World}{b o n c:Nat}{cs:Array Value}{T:TypeId}(hh:w.heap[b]?=some (.cells cs T (0,0)))(h:o+n*5≤cs.size):Cells Tryz.prog w 5 n (.slice (some ⟨b,o,none⟩) n c) (cut cs o (n*5)):=
 wZ (fun j=>cs.getD (o+j) undef) fun j hj=>(by
  have:o+j<cs.size:=by omega
  simp[World.cell?,hh,Array.getD,this])
def lay(cs:Array Value)(o:Nat)(vs:Array Value):Array Value:=(cs.toList.take o++vs.toList++cs.toList.drop (o+vs.toList.length)).toArray
theorem lay_size{cs vs:Array Value}{o:Nat}(h:o+vs.size≤cs.size):(lay cs o vs).size=cs.size:=bJ cs o vs.toList (by simpa using h)
theorem KS{cs vs:Array Value}{o:Nat}(h:o+vs.size≤cs.size)(i:Nat):(lay cs o vs).getD i undef=if o≤i∧i<o+vs.size then vs.getD (i-o) undef else cs.getD i undef:=by
 have:=fH cs o vs.toList (by simpa using h) i;unfold lay;rw[this];simp only[Array.length_toList];split
 ·simp[ala,al8]
 ·rfl
theorem qF{w:World}{b o:Nat}{cs vs:Array Value}{T:TypeId}(hh:w.heap[b]?=some (.cells cs T (0,0)))(h:o+vs.size≤cs.size)(h1:∀k,k<vs.size→(vs.getD k undef).oneCell'=true):
  (storeCells ⟨b,o,none⟩ vs.toList).run Tryz.prog w= .ok () (w.setRow b (lay cs o vs)):=by
 have:=run_storeCells_at Tryz.prog b o T vs.toList 0 cs w hh (by simpa using h) (fun v hv=>by
  obtain⟨k,hk,rfl⟩:=List.mem_iff_getElem.1 hv;have:=h1 k (by simpa using hk);have hk':k<vs.size:=by simpa using hk
  rw[Array.getD,dif_pos hk']at this;simpa using this)
 simpa[lay]using this
set_option maxHeartbeats 4000000 in
set_option maxRecDepth 1000000 in
theorem JQ(w:World)(b n cap b2 cap2:Nat)(cs xs:Array Value)(T T2:TypeId)(hh:w.heap[b]?=some (.cells cs T (0,0)))(hk:cap*5≤cs.size)(hroom:n+1≤cap)(hn:n≤4294967295)
  (hh2:w.heap[b2]?=some (.cells xs T2 (0,0))) (hk2:cap2*5≤xs.size) (hone:∀k,k<5→(xs.getD k undef).oneCell'=true) (hc2:1≤cap2):
  Calls Tryz.prog 71 #[.slice (some ⟨b,0,none⟩) n cap,.int .i64 n,.slice (some ⟨b2,0,none⟩) 1 cap2] w fun e w'=>e= .returned (.slice (some ⟨b,0,none⟩) (n+1) cap)∧w'=w.setRow b (lay cs (n*5) (cut xs 0 5)):=by
 obtain⟨i0,hi0,hz0,hz1,hz2⟩:=DY;have hc:Cells Tryz.prog w i0.size 1 (.slice (some ⟨b2,0,none⟩) 1 cap2) (cut xs 0 5):=by rw[hz1];exact dJ hh2 (by omega)
 have hrun:∀ty,(Builtin.append_ #[37,37] ty #[.slice (some ⟨b,0,none⟩) n cap,.slice (some ⟨b2,0,none⟩) 1 cap2]).run Tryz.prog w= .ok (.slice (some ⟨b,0,none⟩) (n+1) cap) (w.setRow b (lay cs (n*5) (cut xs 0 5))):=fun ty=>
  run_append_room' Tryz.underlying37 hi0 hc hroom (fun a ha=>by
   cases ha;have ha:(⟨b,0,none⟩:Addr).add (n*i0.size)=⟨b,n*5,none⟩:=by rw[hz1,addr_add];simp
   rw[ha];exact qF hh (by rw[aZ];omega) (fun k hk=>by rw[aZ]at hk;rw[dQ _ _ _ hk,alQ];exact hone k hk)) (fun h=>by cases h)
 have mixed:=nH;have hz:¬((1:Int)=0):=by omega
 clear hh hk hh2 hk2 hone hc hz0 hz1 hz2 hi0
 go_enter Tryz.func71,Tryz.ntmps71
 go_wp2_with (at_builtin;refine Lib.wpList_append_run _ rfl _ _ _ _ rfl _ _ rfl rfl _ _ (hrun _) ?_)
 go_ret
 exact⟨rfl,rfl⟩
set_option maxHeartbeats 4000000 in
set_option maxRecDepth 1000000 in
theorem tO(w:World)(base:Option Addr)(n cap b2 cap2:Nat)(olds xs:Array Value)(T2:TypeId)(hcap:n≤cap)(hroom:cap<n+1)(hn:n≤4294967295)(ho:Cells Tryz.prog w 5 n (.slice base n cap) olds)
  (hh2:w.heap[b2]?=some (.cells xs T2 (0,0))) (hk2:cap2*5≤xs.size) (hc2:1≤cap2):
  Calls Tryz.prog 71 #[.slice base n cap,.int .i64 n,.slice (some ⟨b2,0,none⟩) 1 cap2] w fun e w'=>∃nc rest,n+1≤nc∧rest.size=(nc-(n+1))*5∧e= .returned (.slice (some ⟨w.heap.size,0,none⟩) (n+1) nc)∧
   w'=w.drew.alloc (.cells (olds++cut xs 0 5++rest) 110):=by
 suffices h:Calls Tryz.prog 71 #[.slice base n cap,.int .i64 n,.slice (some ⟨b2,0,none⟩) 1 cap2] w fun e w'=>∃nc rest arr,n+1≤nc∧rest.size=(nc-(n+1))*5∧arr=olds++cut xs 0 5++rest∧e= .returned (.slice (some ⟨w.heap.size,0,none⟩) (n+1) nc)∧w'=w.drew.alloc (.cells arr 110)from
  h.mono (by rintro e w' ⟨nc,rest,arr,g1,g2,rfl,g3,g4⟩;exact⟨nc,rest,g1,g2,g3,g4⟩)
 obtain⟨i0,hi0,hz0,hz1,hz2⟩:=DY;have hc:Cells Tryz.prog w i0.size 1 (.slice (some ⟨b2,0,none⟩) 1 cap2) (cut xs 0 5):=by rw[hz1];exact dJ hh2 (by omega)
 have key:∃nc rest,n+1≤nc∧rest.size=(nc-(n+1))*5∧∀ty,(Builtin.append_ #[37,37] ty #[.slice base n cap,.slice (some ⟨b2,0,none⟩) 1 cap2]).run Tryz.prog w= .ok (.slice (some ⟨w.heap.size,0,none⟩) (n+1) nc) (w.drew.alloc (.cells (olds++cut xs 0 5++rest) 110)):=by
  obtain⟨nc,rest,g1,g2,g3⟩:=lZ (ty:=0) Tryz.underlying37 hi0 hz0 (by rw[hz1];exact ho) hc hroom (by omega) (by rw[hz2];omega) (by rw[hz1];rfl);refine⟨nc,rest,g1,by rw[g2,hz1],fun ty=> ?_⟩;exact g3
 obtain⟨nc,rest,g1,g2,hrun⟩:=key;obtain⟨arr,harr⟩:∃arr,arr=olds++cut xs 0 5++rest:=⟨_,rfl⟩
 rw[←harr]at hrun;have hq:Hid (arr=olds++cut xs 0 5++rest):=harr;clear harr;have mixed:=nH;have hz:¬((1:Int)=0):=by omega
 clear ho hh2 hk2 hc hz0 hz1 hz2 hi0
 go_enter Tryz.func71,Tryz.ntmps71
 cases base with
 |none=>
  go_wp2_with (at_builtin;refine Lib.wpList_append_run _ rfl _ _ _ _ rfl _ _ rfl rfl _ _ (hrun _) ?_)
  all_goals (go_ret;exact⟨nc,rest,arr,g1,g2,hq.out,rfl,rfl⟩)
 |some a=>
  obtain⟨ab,ao,asp⟩:=a
  go_wp2_with (at_builtin;refine Lib.wpList_append_run _ rfl _ _ _ _ rfl _ _ rfl rfl _ _ (hrun _) ?_)
  all_goals (go_ret;exact⟨nc,rest,arr,g1,g2,hq.out,rfl,rfl⟩)
theorem jX{w:World}{b o dn dc:Nat}{cs:Array Value}{T:TypeId}(hh:w.heap[b]?=some (.cells cs T (0,0))){a:Option Addr}{m c k:Nat}{news:Array Value}(hm:min m dn=k)
  (hf:Cells Tryz.prog w 5 k (.slice a k c) news) (hfit:o+news.size≤cs.size) (h1:∀j,j<news.size→(news.getD j undef).oneCell'=true) (ty:TypeId):
  (Builtin.copy_ #[37,37] ty #[.slice (some ⟨b,o,none⟩) dn dc,.slice a m c]).run Tryz.prog w= .ok (goInt k) (w.setRow b (lay cs o news)):=by
 have hl:(Builtin.lenOf (.slice a m c)).run Tryz.prog w= .ok m w:=rfl
 have hf':(Builtin.firstCells 5 k (.slice a m c)).run Tryz.prog w= .ok news w:=by
  have:=hf.2 w rfl;cases a<;>exact this
 have hm':Nat.min m dn=k:=hm;have hst:=qF hh hfit h1;simp[Builtin.copy_,run_underlying Tryz.underlying37,hl,hm',hf',QF,hst,goInt]
set_option maxHeartbeats 4000000 in
set_option maxRecDepth 1000000 in
theorem BX(w:World)(b n cap i b2 cap2:Nat)(cs xs:Array Value)(T T2:TypeId)(hh:w.heap[b]?=some (.cells cs T (0,0)))(hk:cap*5≤cs.size)(hone:∀k,k<n*5→(cs.getD k undef).oneCell'=true)(hi:i<n)(hroom:n+1≤cap)(hn:n≤4294967295)
  (hne:b2≠b) (hh2:w.heap[b2]?=some (.cells xs T2 (0,0))) (hk2:cap2*5≤xs.size) (hone2:∀k,k<5→(xs.getD k undef).oneCell'=true) (hc2:1≤cap2):
  Calls Tryz.prog 71 #[.slice (some ⟨b,0,none⟩) n cap,.int .i64 i,.slice (some ⟨b2,0,none⟩) 1 cap2] w fun e w'=>e= .returned (.slice (some ⟨b,0,none⟩) (n+1) cap)∧
   w'=(w.drew.setRow b (lay cs ((i+1)*5) (cut cs (i*5) ((n-i)*5)))).setRow b (lay (lay cs ((i+1)*5) (cut cs (i*5) ((n-i)*5))) (i*5) (cut xs 0 5)):=by
 have hov:∀lb cb,(callFunc 122 #[.slice (some ⟨b2,0,none⟩) 1 cap2,.slice (some ⟨b,(i+1)*5,none⟩) lb cb]).run Tryz.prog w= .ok (.value (.bool false)) w:=fun lb cb=>by
  rw[run_callFunc_extern Tryz.func122 (by kernel_rfl) (by kernel_rfl) (by kernel_rfl) (e:=Extern.SlicesOverlaps.overlaps #[37,37] #[4]) (by kernel_rfl),
   Lib.run_overlaps_apart w 37 4 110 Tryz.underlying37 5 QF ⟨b2,0,none⟩ ⟨b,(i+1)*5,none⟩ 1 cap2 lb cb hne T2 T xs.size cs.size (by simp[World.shape?,hh2]) (by simp[World.shape?,hh]) (by omega) (by simp[World.frozen?,hh2]) (by simp[World.frozen?,hh2])]
  rfl
 have hdrew:w.drew.heap[b]?=some (.cells cs T (0,0)):=hh;have hs1:(cut cs (i*5) ((n-i)*5)).size=(n-i)*5:=aZ _ _ _;have hfit1:(i+1)*5+(cut cs (i*5) ((n-i)*5)).size≤cs.size:=by rw[hs1];omega
 have hcp1:∀ty dc sc,(Builtin.copy_ #[37,37] ty #[.slice (some ⟨b,(i+1)*5,none⟩) (n-i) dc,.slice (some ⟨b,i*5,none⟩) (n+1-i) sc]).run Tryz.prog w.drew= .ok (goInt (n-i:Nat)) (w.drew.setRow b (lay cs ((i+1)*5) (cut cs (i*5) ((n-i)*5)))):=fun ty dc sc=>
  jX hdrew (by omega) (dJ hdrew (by omega)) hfit1 (fun j hj=>by rw[hs1]at hj;rw[dQ _ _ _ hj];exact hone _ (by omega)) ty
 obtain⟨c1,hc1⟩:∃c1,c1=lay cs ((i+1)*5) (cut cs (i*5) ((n-i)*5)):=⟨_,rfl⟩
 have hc1s:c1.size=cs.size:=by rw[hc1];exact lay_size hfit1
 rw[←hc1]at hcp1 ⊢;have hW1:(w.drew.setRow b c1).heap[b]?=some (.cells c1 T (0,0)):=setRow_heap _ _ _ _ _ _ hdrew;have hW2:(w.drew.setRow b c1).heap[b2]?=some (.cells xs T2 (0,0)):=by rw[setRow_other _ _ _ _ hne];exact hh2
 have hcp2:∀ty dc,(Builtin.copy_ #[37,37] ty #[.slice (some ⟨b,i*5,none⟩) (n+1-i) dc,.slice (some ⟨b2,0,none⟩) 1 cap2]).run Tryz.prog (w.drew.setRow b c1)= .ok (goInt 1) ((w.drew.setRow b c1).setRow b (lay c1 (i*5) (cut xs 0 5))):=fun ty dc=>
  jX (k:=1) hW1 (by omega) (dJ hW2 (by omega)) (by rw[aZ];omega) (fun j hj=>by rw[aZ]at hj;rw[dQ _ _ _ hj,alQ];exact hone2 _ hj) ty
 obtain⟨c2,hc2'⟩:∃c2,c2=lay c1 (i*5) (cut xs 0 5):=⟨_,rfl⟩
 rw[←hc2']at hcp2 ⊢;have mixed:=nH;have hz1:¬((1:Int)=0):=by omega
 have hz2:¬((i:Int)=(n:Int)):=by omega
 have hw1:IntKind.i64.wrap ((i:Int)+1)=(i:Int)+1:=by rw[IntKind.wrap_i64];omega
 have hb1:(0:Int)≤(i:Int)+1:=by omega
 have hin:i≤n:=by omega
 have htn:((i:Int)+1).toNat=i+1:=by omega
 have hb2:¬(cap=i+1):=by omega
 have hb3:(i:Int)≤(n:Int)+1:=by omega
 have hb4:¬(cap=i):=by omega
 clear hh hk hone hh2 hk2 hone2 hc2 hdrew hs1 hfit1 hc1 hc1s hW1 hW2 hc2'
 go_enter Tryz.func71,Tryz.ntmps71
 go_wp2_with (simp only[hov])
 go_region_law_o (refine step_copy_runI rfl _ _ 37 37 rfl _ _ (by simp[Act.eval,Act.put]) (by simp[Act.eval,Act.put]) (hcp1 _ _ _) ?_)
 go_wp2_with (at_builtin;refine wpList_copy_runI _ rfl _ _ 37 37 rfl _ _ rfl rfl (hcp2 _ _) ?_)
 go_ret
 exact⟨rfl,rfl⟩
theorem iT{P:Program}{w:World}{t tn ty e:TypeId}{i:TypeInfo}{z:Value}(ht:P.underlying t=some (.slice e))(htn:P.underlying tn=some (.int .i64))(hi:P.info? e=some i)(hz:i.zero=some z)
  {base:Option Addr} {n cap m:Nat} {olds:Array Value} (ho:Cells P w i.size n (.slice base n cap) olds) (h0:0<m) (hs:0<i.size)
  (hg:cap<n+m) (h63:n+m≤4294967296) (hb:i.bytes≤32768):
  (Builtin.append_ #[t,tn] ty #[.slice base n cap,.int .i64 (m:Nat)]).run P w=
   .ok (.slice (some ⟨w.heap.size,0,none⟩) (n+m) (grownCap w (n+m) cap e)) (w.drew.alloc (.cells (olds++Builtin.zeroCells z.cells m++Builtin.zeroCells z.cells (grownCap w (n+m) cap e-(n+m))) e)):=by
 have h1:¬(n+m≤cap):=by omega
 have h2:¬(9223372036854775807<((n:Int)+(m:Int))):=by omega
 have hfit:Builtin.nextslicecap (n+m) cap*i.bytes≤281474976710656:=by
  refine growslice_fits hg ?_
  calc (n+m)*i.bytes≤4294967296*32768:=Nat.mul_le_mul h63 hb
   _=140737488355328:=rfl
 have h3:¬(281474976710656<Builtin.nextslicecap (n+m) cap*i.bytes):=by omega
 have ho':=ho.2 w.drew rfl;have hm:m≠0:=by omega
 have hw:IntKind.i64.wrap (m:Int)=m:=by rw[IntKind.wrap_i64];omega
 have h63':¬(9223372036854775807<(m:Int)):=by omega
 have hmb:m*i.bytes≤140737488355328:=by
  calc m*i.bytes≤4294967296*32768:=Nat.mul_le_mul (by omega) hb
   _=140737488355328:=rfl
 have h48i:¬(281474976710656<(m:Int)*(i.bytes:Int)):=by
  rw[←Int.natCast_mul];omega
 have hneg:¬((m:Int)<0):=by omega
 have hns:¬(m*i.size=0):=Nat.mul_ne_zero hm (by omega);have hnm:¬(n+m=0):=by omega
 simp[Builtin.append_,run_underlying ht,run_underlying htn,sizeOf,typeInfo,zeroValue,hi,hz,asInt,asIntOf,hw,hm,hneg,hns,h63',h48i,h1,h2,h3,Question.forced,ho',newRow,grownCap]
set_option maxHeartbeats 4000000 in
set_option maxRecDepth 1000000 in
theorem Ji(w:World)(b n i b2 cap2:Nat)(cs xs:Array Value)(T T2:TypeId)(hh:w.heap[b]?=some (.cells cs T (0,0)))(hk:n*5≤cs.size)(hone:∀k,k<n*5→(cs.getD k undef).oneCell'=true)(hi:i<n)(hn:n≤4294967295)
  (hh2:w.heap[b2]?=some (.cells xs T2 (0,0))) (hk2:cap2*5≤xs.size) (hone2:∀k,k<5→(xs.getD k undef).oneCell'=true) (hc2:1≤cap2):
  Calls Tryz.prog 71 #[.slice (some ⟨b,0,none⟩) n n,.int .i64 i,.slice (some ⟨b2,0,none⟩) 1 cap2] w fun e w'=>∃(nc:Nat) (arr:Array Value),n+1≤nc∧arr.size=nc*5∧(∀k,k<i*5→arr.getD k undef=cs.getD k undef)∧
   e= .returned (.slice (some ⟨w.heap.size,0,none⟩) (n+1) nc)∧
   w'.heap=(((w.drew.alloc (.cells arr 110)).setRow w.heap.size (lay arr (i*5) (cut xs 0 5))).setRow w.heap.size (lay (lay arr (i*5) (cut xs 0 5)) ((i+1)*5) (cut cs (i*5) ((n-i)*5)))).heap∧w'.os=w.os∧w'.tape=w.tape∧w'.output=w.output:=by
 obtain⟨i0,hi0,hz0,hz1',hz2'⟩:=DY;have ho:Cells Tryz.prog w i0.size i (.slice (some ⟨b,0,none⟩) i n) (cut cs 0 (i*5)):=by rw[hz1'];exact dJ hh (by omega)
 have hm:i+(n+1-i)=n+1:=by omega
 have hrun0:∀ty,(Builtin.append_ #[37,3] ty #[.slice (some ⟨b,0,none⟩) i n,.int .i64 (n+1-i:Nat)]).run Tryz.prog w=_:=fun ty=>
  iT (ty:=ty) Tryz.underlying37 (by kernel_rfl:Tryz.prog.underlying 3=some (.int .i64)) hi0 hz0 ho (by omega) (by rw[hz1'];omega) (by omega) (by omega) (by rw[hz2'];omega)
 rw[hm]at hrun0;have hint:((n+1-i:Nat):Int)=(n:Int)+1-i:=by omega
 rw[hint]at hrun0;have hnc:=grownCap_ge w (n+1) n 110;obtain⟨nc,hnc'⟩:∃nc,nc=grownCap w (n+1) n 110:=⟨_,rfl⟩
 rw[←hnc']at hrun0 hnc;obtain⟨arr,harr⟩:∃arr,arr=cut cs 0 (i*5)++Builtin.zeroCells zM.cells (n+1-i)++Builtin.zeroCells zM.cells (nc-(n+1)):=⟨_,rfl⟩
 rw[←harr]at hrun0
 have hsz:arr.size=nc*5:=by
  rw[harr];simp only[Array.size_append,aZ];have e6:∀k,(Builtin.zeroCells zM.cells k).size=k*5:=fun k=>by simp[Builtin.zeroCells,zM,Value.cells]
  rw[e6,e6];omega
 have hlow:∀k,k<i*5→arr.getD k undef=cs.getD k undef:=by
  intro k hk';have h1:k<(cut cs 0 (i*5)).size:=by rw[aZ];exact hk'
  rw[harr,Array.append_assoc,ala,am4 h1,←ala,dQ _ _ _ hk',alQ]
 have hB:∀k,k<w.heap.size→(w.drew.alloc (.cells arr 110)).heap[k]?=w.heap[k]?:=fun k hk'=>heap_alloc_old w.drew _ hk'
 have hb:b<w.heap.size:=(amf.1 hh).1;have hb2:b2<w.heap.size:=(amf.1 hh2).1;have hN:(w.drew.alloc (.cells arr 110)).heap[w.heap.size]?=some (.cells arr 110 (0,0)):=heap_alloc_new w.drew _
 have hcp1:∀W:World,W.heap=(w.drew.alloc (.cells arr 110)).heap→∀ty dc,(Builtin.copy_ #[37,37] ty #[.slice (some ⟨w.heap.size,i*5,none⟩) (n+1-i) dc,.slice (some ⟨b2,0,none⟩) 1 cap2]).run Tryz.prog W= .ok (goInt 1) (W.setRow w.heap.size (lay arr (i*5) (cut xs 0 5))):=fun W hW ty dc=>
  jX (k:=1) (by rw[hW];exact hN) (by omega) (dJ (by rw[hW];exact(hB b2 hb2).trans hh2) (by omega)) (by rw[aZ];omega) (fun j hj=>by rw[aZ]at hj;rw[dQ _ _ _ hj,alQ];exact hone2 _ hj) ty
 obtain⟨a1,ha1⟩:∃a1,a1=lay arr (i*5) (cut xs 0 5):=⟨_,rfl⟩
 have ha1s:a1.size=arr.size:=by rw[ha1];exact lay_size (by rw[aZ];omega)
 rw[←ha1]at hcp1;have hN1:((w.drew.alloc (.cells arr 110)).setRow w.heap.size a1).heap[w.heap.size]?=some (.cells a1 110 (0,0)):=setRow_heap _ _ _ _ _ _ hN;have hO1:((w.drew.alloc (.cells arr 110)).setRow w.heap.size a1).heap[b]?=some (.cells cs T (0,0)):=by rw[setRow_other _ _ _ _ (by omega)];exact(hB b hb).trans hh
 have hs2:(cut cs (i*5) ((n-i)*5)).size=(n-i)*5:=aZ _ _ _
 have hcp2:∀W:World,W.heap=((w.drew.alloc (.cells arr 110)).setRow w.heap.size a1).heap→∀ty dc sc,(Builtin.copy_ #[37,37] ty #[.slice (some ⟨w.heap.size,(i+1)*5,none⟩) (n-i) dc,.slice (some ⟨b,i*5,none⟩) (n-i) sc]).run Tryz.prog W= .ok (goInt (n-i:Nat)) (W.setRow w.heap.size (lay a1 ((i+1)*5) (cut cs (i*5) ((n-i)*5)))):=fun W hW ty dc sc=>
  jX (by rw[hW];exact hN1) (by omega) (dJ (by rw[hW];exact hO1) (by omega)) (by rw[hs2];omega) (fun j hj=>by rw[hs2]at hj;rw[dQ _ _ _ hj];exact hone _ (by omega)) ty
 obtain⟨a2,ha2⟩:∃a2,a2=lay a1 ((i+1)*5) (cut cs (i*5) ((n-i)*5)):=⟨_,rfl⟩
 rw[←ha2]at hcp2
 suffices hgoal:Calls Tryz.prog 71 #[.slice (some ⟨b,0,none⟩) n n,.int .i64 i,.slice (some ⟨b2,0,none⟩) 1 cap2] w fun e w'=>e= .returned (.slice (some ⟨w.heap.size,0,none⟩) (n+1) nc)∧w'.heap=(((w.drew.alloc (.cells arr 110)).setRow w.heap.size a1).setRow w.heap.size a2).heap∧w'.os=w.os∧w'.tape=w.tape∧w'.output=w.output from
  hgoal.mono (by rintro e w' ⟨g1,g2,g3⟩;exact⟨nc,arr,hnc,hsz,hlow,g1,by rw[g2,ha2,ha1],g3⟩)
 have mixed:=nH;have hz1:¬((1:Int)=0):=by omega
 have hz2:¬((i:Int)=(n:Int)):=by omega
 have hin:i≤n:=by omega
 have hgt:¬((n:Int)+1≤(n:Int)):=by omega
 have hw1:IntKind.i64.wrap ((i:Int)+1)=(i:Int)+1:=by rw[IntKind.wrap_i64];omega
 have hb1:(0:Int)≤(i:Int)+1:=by omega
 have htn:((i:Int)+1).toNat=i+1:=by omega
 have hb3:(i:Int)+1≤(n:Int)+1:=by omega
 have hb4:¬(nc=i):=by omega
 have hb5:¬(nc=i+1):=by omega
 have hb6:¬(n=i):=by omega
 clear hh hk hone hh2 hk2 hone2 hc2 hz1' hz2' hi0 hz0 ho hint hnc hnc' harr hsz hlow hB hb hb2 hN ha1 ha1s hN1 hO1 hs2 ha2 hm
 go_enter Tryz.func71,Tryz.ntmps71
 go_wp2_with (at_builtin;refine Lib.wpList_append_run _ rfl _ _ _ _ rfl _ _ rfl rfl _ _ (hrun0 _) ?_)
 rename_i K1 h1;rw[hcp1 (w.alloc (.cells arr 110)).drew rfl];simp only[Result.andThen,Oper.upon];apply h1
 go_wp2_with fail
 go_region_law_o (refine step_copy_runI rfl _ _ 37 37 rfl (.slice (some ⟨w.heap.size,(i+1)*5,none⟩) (n-i) (nc-(i+1))) (.slice (some ⟨b,i*5,none⟩) (n-i) (n-i)) (by simp[Act.eval,Act.put,hb5,hb6]) (by simp[Act.eval,Act.put,hb5,hb6]) (hcp2 ((w.alloc (.cells arr 110)).drew.setRow w.heap.size a1).drew rfl _ _ _) ?_)
 go_wp2
 go_ret
 exact⟨rfl,rfl,rfl,rfl,rfl⟩
theorem eU{cs:Array Value}{o:Nat}{vs:Array Value}(h:o+vs.size≤cs.size)(i:Nat):(lay cs o vs).getD i undef=if o≤i∧i<o+vs.size then vs.getD (i-o) undef else cs.getD i undef:=KS h i
theorem jS{a b:Array Value}{k:Nat}:(a++b).getD k undef=if k<a.size then a.getD k undef else b.getD (k-a.size) undef:=by
 simp only[ala,Array.getElem?_append];split<;>rfl
theorem aeA(t:Ty)(ht:t.size=5):eZ Tryz.prog 71 (wI t):=by
 refine H7 (entered Tryz.func71 rfl (by decide)) (fun w a b2 cap2 xs T2 hh2 hk2 hone2 hc2=> ?_) (fun w b n cap i b2 cap2 cs xs T T2 hh hk hone hi hn hn32 hne hh2 hk2 hone2 hc2=> ?_)
 ·rw[ht]at hk2 hone2 ⊢;refine(tO w a 0 0 b2 cap2 #[] xs T2 (alj _) (by omega) (by omega) jf hh2 hk2 hc2).mono ?_;rintro e w' ⟨nc,rest,g1,g2,rfl,rfl⟩;refine⟨_,nc,_,_,rfl,g1,heap_alloc_new w.drew _,?_,fun k hk=>by omega,fun k hk=> ?_,fun k _ hk=>by omega,rfl,rfl,rfl,.inr ⟨alj _,by simp,fun k hk=>heap_alloc_old w.drew _ hk⟩⟩
  ·simp only[Array.size_append,aZ,g2];simp;omega
  ·rw[Nat.zero_mul,alQ,Array.append_assoc,jS];rw[if_neg (by simp),jS,if_pos (by rw[aZ];simp;omega)];simp only[List.size_toArray,List.length_nil,Nat.sub_zero];rw[dQ _ _ _ hk,alQ]
 ·rw[ht]at hk hone hk2 hone2 ⊢;have hx:(cut xs 0 5).size=5:=aZ _ _ _;have hxg:∀k,k<5→(cut xs 0 5).getD k undef=xs.getD k undef:=fun k hk=>by rw[dQ _ _ _ hk,alQ]
  by_cases hroom:n+1≤cap
  ·by_cases hin:i=n
   ·subst hin;have hfit:i*5+(cut xs 0 5).size≤cs.size:=by rw[hx];omega
    refine(JQ w b i cap b2 cap2 cs xs T T2 hh hk hroom (by omega) hh2 hk2 hone2 hc2).mono ?_;rintro e w' ⟨rfl,rfl⟩;refine⟨b,cap,_,T,rfl,hroom,setRow_heap _ _ _ _ _ _ hh,by rw[lay_size hfit];exact hk,fun k hk'=> ?_,fun k hk'=> ?_,fun k h1 h2=>by omega,rfl,rfl,rfl,.inl ⟨rfl,lay_size hfit,by simp,fun k hk'=>setRow_other _ _ _ _ hk'⟩⟩
    ·rw[eU hfit,if_neg (by omega)]
    ·rw[eU hfit,hx,if_pos (by omega),show i*5+k-i*5=k by omega,hxg k hk']
   ·have hs1:(cut cs (i*5) ((n-i)*5)).size=(n-i)*5:=aZ _ _ _;have hfit1:(i+1)*5+(cut cs (i*5) ((n-i)*5)).size≤cs.size:=by rw[hs1];omega
    have hz1:=lay_size hfit1;have hfit2:i*5+(cut xs 0 5).size≤(lay cs ((i+1)*5) (cut cs (i*5) ((n-i)*5))).size:=by rw[hz1,hx];omega
    have hdrew:w.drew.heap[b]?=some (.cells cs T (0,0)):=hh;refine(BX w b n cap i b2 cap2 cs xs T T2 hh hk hone (by omega) hroom (by omega) hne hh2 hk2 hone2 hc2).mono ?_;rintro e w' ⟨rfl,rfl⟩;refine⟨b,cap,_,T,rfl,hroom,setRow_heap _ _ _ _ _ _ (setRow_heap _ _ _ _ _ _ hdrew),by rw[lay_size hfit2,hz1];exact hk,fun k hk'=> ?_,fun k hk'=> ?_,fun k h1 h2=> ?_,rfl,rfl,rfl,.inl ⟨rfl,(lay_size hfit2).trans hz1,by simp,fun k hk'=> ?_⟩⟩
    ·rw[eU hfit2,if_neg (by omega),eU hfit1,if_neg (by omega)]
    ·rw[eU hfit2,hx,if_pos (by omega),show i*5+k-i*5=k by omega,hxg k hk']
    ·rw[eU hfit2,hx,if_neg (by omega),eU hfit1,hs1,if_pos (by omega),dQ _ _ _ (by omega)]
     congr 1
     omega
    ·rw[setRow_other _ _ _ _ hk',setRow_other _ _ _ _ hk'];rfl
  ·have hcn:cap=n:=by omega
   subst hcn;by_cases hin:i=cap
   ·subst hin;refine(tO w (some ⟨b,0,none⟩) i i b2 cap2 _ xs T2 (alj _) (by omega) (by omega) (dJ hh (by omega)) hh2 hk2 hc2).mono ?_;rintro e w' ⟨nc,rest,g1,g2,rfl,rfl⟩;refine⟨_,nc,_,_,rfl,g1,heap_alloc_new w.drew _,?_,fun k hk'=> ?_,fun k hk'=> ?_,fun k h1 h2=>by omega,rfl,rfl,rfl,.inr ⟨alj _,by simp,fun k hk=>heap_alloc_old w.drew _ hk⟩⟩
    ·simp only[Array.size_append,aZ,g2];omega
    ·rw[Array.append_assoc,jS,if_pos (by rw[aZ];exact hk'),dQ _ _ _ hk',alQ]
    ·rw[Array.append_assoc,jS,if_neg (by rw[aZ];omega),jS,aZ,if_pos (by rw[hx];omega),show i*5+k-i*5=k by omega,hxg k hk']
   ·refine(Ji w b cap i b2 cap2 cs xs T T2 hh hk hone (by omega) (by omega) hh2 hk2 hone2 hc2).mono ?_;rintro e w' ⟨nc,arr,g1,g2,g3,rfl,g4,g5,g6,g7⟩;have hs1:(cut cs (i*5) ((cap-i)*5)).size=(cap-i)*5:=aZ _ _ _;have hfit1:i*5+(cut xs 0 5).size≤arr.size:=by rw[hx];omega
    have hz1:=lay_size hfit1;have hfit2:(i+1)*5+(cut cs (i*5) ((cap-i)*5)).size≤(lay arr (i*5) (cut xs 0 5)).size:=by rw[hz1,hs1];omega
    have hN:(w.drew.alloc (.cells arr 110)).heap[w.heap.size]?=some (.cells arr 110 (0,0)):=heap_alloc_new w.drew _;refine⟨w.heap.size,nc,_,110,rfl,g1,by rw[g4];exact setRow_heap _ _ _ _ _ _ (setRow_heap _ _ _ _ _ _ hN),by rw[lay_size hfit2,hz1,g2];exact alj _,fun k hk'=> ?_,fun k hk'=> ?_,fun k h1 h2=> ?_,g5,g6,g7,.inr ⟨alj _,by rw[g4];simp,fun k hk'=> ?_⟩⟩
    ·rw[eU hfit2,if_neg (by omega),eU hfit1,if_neg (by omega),g3 k hk']
    ·rw[eU hfit2,if_neg (by omega),eU hfit1,hx,if_pos (by omega),show i*5+k-i*5=k by omega,hxg k hk']
    ·rw[eU hfit2,hs1,if_pos (by omega),dQ _ _ _ (by omega)]
     congr 1
     omega
    ·rw[g4,setRow_other _ _ _ _ (by omega),setRow_other _ _ _ _ (by omega)];exact heap_alloc_old w.drew _ hk'
end Go.Proofs.YtchnmpafhfjimaaGreatDoor.Ig
namespace Go.Proofs.YtchnmpafhfjimaaGreatDoor.Id
open Go Go.Abs Go.RowKit
theorem mr{P:Program}(w:World)(t e ty:TypeId)(z:Value)(ht:P.underlying t=some (.slice e))(hv:∀w,(zeroValue e).run P w= .ok z w)(b o n c:Nat)(hn:0<n)(vs:List Value)(hvs:(Builtin.zeroCells z.cells n).toList=vs)
  (h1:∀v∈vs,v.oneCell'=true) (hc:∀j,j<vs.length→(w.cell? ⟨b,o+j,none⟩).isSome=true) (hf:∀j,j<vs.length→w.frozen? ⟨b,o+j,none⟩=false):
  (Builtin.clear_ #[t] ty #[.slice (some ⟨b,o,none⟩) n c]).run P w= .ok (.tuple #[]) (w.setCells b o vs):=by
 have hst:=run_storeCells_cells (P:=P) b o vs 0 w (by simpa using hc) (by simpa using hf) h1;simp only[amB]at hst;obtain⟨m,rfl⟩:∃m,n=m+1:=⟨n-1,by omega⟩
 simp[Builtin.clear_,run_underlying ht,hv,hvs,hst]
theorem fO(b:Nat):∀(vs:List Value) (o:Nat) (w:World),(w.setCells b o vs).os=w.os∧(w.setCells b o vs).tape=w.tape∧(w.setCells b o vs).output=w.output∧(w.setCells b o vs).heap.size=w.heap.size∧∀k,k≠b→(w.setCells b o vs).heap[k]?=w.heap[k]?
 | [],_,_=>⟨rfl,rfl,rfl,rfl,fun _ _=>rfl⟩
 |v::r,o,w=>by
  obtain⟨h1,h2,h3,h4,h5⟩:=fO b r (o+1) (w.setCell ⟨b,o,none⟩ v);rw[World.setCells];refine⟨h1,h2,h3,h4.trans (by simp[World.setCell]),fun k hk=>(h5 k hk).trans ?_⟩;simp only[World.setCell];rw[Array.getElem?_modify,if_neg (fun e=>hk e.symm)]
theorem kF{w:World}{b:Nat}{cs:Array Value}{T:TypeId}(h:w.heap[b]?=some (.cells cs T (0,0))){o:Nat}(ho:o<cs.size):w.cell? ⟨b,o,none⟩=some (cs.getD o undef)∧w.frozen? ⟨b,o,none⟩=false:=by
 constructor
 ·simp[World.cell?,h,Array.getD,ho]
 ·simp[World.frozen?,h]
theorem row_of{w:World}{b:Nat}{cs:Array Value}{T:TypeId}(h:w.heap[b]?=some (.cells cs T (0,0))):w.rowIs b T cs.size (fun k=>cs.getD k undef):=
 ⟨cs,h,rfl,fun i hi=>by simp[Array.getD,hi]⟩
set_option maxHeartbeats 4000000 in
set_option maxRecDepth 1000000 in
theorem Ik(w:World)(b n cap i j:Nat)(cs:Array Value)(T:TypeId)(hh:w.heap[b]?=some (.cells cs T (0,0)))(hk:cap*5≤cs.size)(hone:∀k,k<n*5→(cs.getD k undef).oneCell'=true)(hij:i<j)(hj:j≤n)(hn:n≤cap)(hm:n≤4294967296):
  Calls Tryz.prog 138 #[.slice (some ⟨b,0,none⟩) n cap,.int .i64 i,.int .i64 j] w (tV 5 b n cap i j w cs T):=by
 have hic:i≤cap:=by omega
 have hjc:j≤cap:=by omega
 obtain⟨i0,hi0,hz0,hz1,_⟩:=info_parts (P:=Tryz.prog) (e:=73) (z:=.agg #[.int .i64 0,.int .i64 0,.int .i64 0,.int .i64 0,.slice none 0 0]) (size:=5) (bytes:=56) (by kernel_rfl);have hv73:∀w,(zeroValue 73).run Tryz.prog w= .ok (.agg #[.int .i64 0,.int .i64 0,.int .i64 0,.int .i64 0,.slice none 0 0]) w:=fun w=>by simp[zeroValue,typeInfo,hi0,hz0]
 obtain⟨news,hnews⟩:∃news:List Value,news=(List.range ((n-j)*5)).map (fun k=>cs.getD (j*5+k) undef):=⟨_,rfl⟩
 have hlen:news.length=(n-j)*5:=by rw[hnews];simp
 have hget:∀k,k<(n-j)*5→news[k]?=some (cs.getD (j*5+k) undef):=by intro k hk';rw[hnews];simp[hk']
 have hin:∀k,k<cap*5→k<cs.size:=fun k hk'=>by omega
 have hdrew:w.drew.heap[b]?=some (.cells cs T (0,0)):=hh
 obtain⟨A,hA,hsrc⟩:∃A:Addr,(if cap=j then(some (⟨b,0,none⟩:Addr))else some ⟨b,j*5,none⟩)=some A∧Hid (∀k u,news[k]?=some u→w.drew.cell? (A.add k)=some u):=by
  by_cases h:cap=j
  ·refine⟨⟨b,0,none⟩,by simp[h],fun k u hu=> ?_⟩;have h0:news.length=0:=by rw[hlen];omega
   rw[am6.1 h0]at hu;simp at hu
  ·refine⟨⟨b,j*5,none⟩,by simp[h],fun k u hu=> ?_⟩;have hk':=(akX.1 hu).1;rw[hlen]at hk';rw[hget k hk']at hu;rw[addr_add];rw[←hu];exact(kF hdrew (hin _ (by omega))).1
 have s2:Hid (∀u∈news,u.oneCell'=true):=by
  intro u hu;rw[hnews]at hu;simp only[amb,amI]at hu;obtain⟨k,hk',rfl⟩:=hu;exact hone _ (by omega)
 have s3:Hid (∀k,k<news.length→(w.drew.cell? ⟨b,0+i*5+k,none⟩).isSome=true∧w.drew.frozen? ⟨b,0+i*5+k,none⟩=false):=by
  intro k hk';rw[hlen]at hk';rw[alQ];obtain⟨c1,c2⟩:=kF hdrew (o:=i*5+k) (hin _ (by omega));exact⟨by rw[c1];rfl,c2⟩
 have s1:Hid (news.length=(n-j)*5):=hlen;obtain⟨W1,hW1⟩:∃W1,W1=w.drew.setCells b (0+i*5) news:=⟨_,rfl⟩
 have hW:Hid (W1=w.drew.setCells b (0+i*5) news):=hW1
 have hrow1:W1.rowIs b T cs.size (fun k=>if 0+i*5≤k∧k<0+i*5+news.length then news[k-(0+i*5)]?.getD default else cs.getD k undef):=by
  rw[hW1];exact rowIs_setCells news (0+i*5) w.drew _ (row_of hdrew)
 have hfrm1:=fO b news (0+i*5) w.drew;rw[←hW1]at hfrm1;obtain⟨zs,hzs⟩:∃zs,zs=(Builtin.zeroCells (Value.agg #[.int .i64 0,.int .i64 0,.int .i64 0,.int .i64 0,.slice none 0 0]).cells (n-(i+(n-j)))).toList:=⟨_,rfl⟩
 have hzl:zs.length=(n-(i+(n-j)))*5:=by rw[hzs];simp[Builtin.zeroCells,Value.cells]
 have hz1':∀v∈zs,v.oneCell'=true:=by
  intro v hv;rw[hzs]at hv;simp only[Builtin.zeroCells,Value.cells,Array.toList_map,amb]at hv;obtain⟨k,_,rfl⟩:=hv;have hk6:k % 5<5:=Nat.mod_lt _ (by omega);simp only[List.size_toArray,alI,List.length_nil];generalize k % 5=q at hk6
  match q,hk6 with
  |0,_=>rfl
  |1,_=>rfl
  |2,_=>rfl
  |3,_=>rfl
  |4,_=>rfl
 obtain⟨c1,hc1,hc1s,hc1g⟩:=hrow1
 have hcl:∀ty,(Builtin.clear_ #[38] ty #[.slice (some ⟨b,(i+(n-j))*5,none⟩) (n-(i+(n-j))) (cap-(i+(n-j)))]).run Tryz.prog W1= .ok (.tuple #[]) (W1.setCells b ((i+(n-j))*5) zs):=
  fun ty=>mr W1 38 73 ty _ Tryz.underlying38 hv73 b _ _ _ (by omega) zs hzs.symm hz1' (fun q hq=>by rw[(kF hc1 (by omega)).1];rfl) (fun q hq=>(kF hc1 (by omega)).2)
 have hrow2:=rowIs_setCells zs ((i+(n-j))*5) W1 _ ⟨c1,hc1,hc1s,hc1g⟩;have hfrm2:=fO b zs ((i+(n-j))*5) W1;obtain⟨c2,hc2,hc2s,hc2g⟩:=hrow2
 have fin:Aside (tV 5 b n cap i j w cs T (.returned (.slice (some ⟨b,0,none⟩) (i+(n-j)) cap)) (W1.setCells b ((i+(n-j))*5) zs)):=by
  refine⟨c2,by rw[show n-(j-i)=i+(n-j) by omega],hc2,hc2s,fun k hk'=> ?_,fun k hk' hk2=> ?_,hfrm2.1.trans hfrm1.1,hfrm2.2.1.trans hfrm1.2.1,hfrm2.2.2.1.trans hfrm1.2.2.1,hfrm2.2.2.2.1.trans hfrm1.2.2.2.1,fun k hk'=>(hfrm2.2.2.2.2 k hk').trans (hfrm1.2.2.2.2 k hk')⟩
  ·have:=hc2g k (by omega);simp only at this;rw[if_neg (by omega),if_neg (by omega)]at this;rw[ala,this];rfl
  ·have:=hc2g k (by omega);simp only at this;rw[if_neg (by omega),if_pos (by omega),hget _ (by omega)]at this;rw[ala,this];simp only[amt]
   congr 1
   omega
 have mixed:Tryz.prog.follows .mixedOrders=true:=by kernel_rfl
 clear hh hk hone hnews hget hlen hin hdrew hfrm1 hfrm2 hc1 hc1s hc1g hc2 hc2s hc2g hzs hzl hz1' hW1
 go_enter Tryz.func138,Tryz.ntmps138
 go_wp2_with fail
 go_region_law_o (refine step_append_room rfl (.tmp 22) (.tmp 25) 38 rfl 73 i0 5 Tryz.underlying38 hi0 hz1 b 0 i cap (by simp[Act.eval,Act.put]) A (n-j) (cap-j) news (by simp[Act.eval,Act.put,hA]) s1.out hsrc.out s2.out (by omega) s3.out ?_;rw[←hW.out])
 go_wp2
 go_ret
 exact fin.out
end Go.Proofs.YtchnmpafhfjimaaGreatDoor.Id
namespace Go.Proofs.YtchnmpafhfjimaaGreatDoor.Fr
open Go Go.Abs Go.RowKit
abbrev old(n:Nat):XT:=fun c _=>c<n
theorem Na{w:World}{X:XT}{v:Value}{k:IntKind}{n:Int}(h:PR w X v (.int k n)):v= .int k n:=by cases h;rfl
theorem Iw{w:World}{X:XT}{v:Value}{s:ByteArray}(h:PR w X v (.str s)):v= .string s:=by cases h;rfl
theorem VZ{w:World}{X:XT}{v:Value}{b:Bool}(h:PR w X v (.bool b)):v= .bool b:=by cases h;rfl
theorem xS{t:Ty}(ht:t.agg=true){w:World}{X:XT}{v:Value}{l:List t.den}{tg:Bool}(h:PR w X v (bR t l tg)):
  ∃a b o cap,v= .slice a l.length cap∧(l≠ []→a=some ⟨b,o,none⟩)∧∀(p:Nat) (x:t.den),l[p]?=some x→∃f:Nat→Value,∀(j:Nat) (u:AV),(fT t x)[j]?=some u→
   w.cell? ⟨b,o+(p*t.size+j),none⟩=some (f j)∧(f j).oneCell'=true∧PR w X (f j) u:=by
 cases l with
 |nil=>
  have h:PR w X v (.eO 0 [] tg):=h
  cases h with
  |lst0 a cap sz t ht=>exact⟨a,0,0,cap,rfl,fun e=>absurd rfl e,fun p d hd=>by simp at hd⟩
  |eO b o n cap sz t xs f hn hc ht hsz hx hr=>simp at hn;subst hn;exact⟨_,0,0,cap,rfl,fun e=>absurd rfl e,fun p d hd=>by simp at hd⟩
 |cons y r=>
  have h:PR w X v (.eO t.size ((y::r).map (enc t)) tg):=h;generalize hxs:(y::r).map (enc t)=xs at h;have hlen:xs.length=(y::r).length:=by rw[←hxs];exact ald ..
  cases h with
  |lst0 a cap sz t ht=>simp at hlen
  |eO b o n cap sz t' xs f hn hc ht' hsz hx hr=>
   refine⟨some ⟨b,o,none⟩,b,o,cap,by rw[←hlen,hn],fun _=>rfl,fun p d hd=>⟨fun j=>f p j,fun j u hj=> ?_⟩⟩
   have hxp:xs[p]?=some (.agg (fT t d)):=by
    rw[←hxs,ale,hd];simp only[al4,enc,ht,wrap]
   obtain⟨_,c2,c3⟩:=hx p _ hxp j u hj;exact⟨c2,c3,hr p _ hxp j u hj⟩
theorem Uw{w:World}{X:XT}{v:Value}{l:List lV}{tg:Bool}(h:PR w X v (bR Kt l tg)):
  ∃a b o cap,v= .slice a l.length cap∧(l≠ []→a=some ⟨b,o,none⟩)∧∀(p:Nat) (g:lV),l[p]?=some g→∃mv,w.cell? ⟨b,o+p*5,none⟩=some (.int .i64 g.1)∧w.cell? ⟨b,o+p*5+1,none⟩=some (.string g.2.1)∧
   w.cell? ⟨b,o+p*5+2,none⟩=some mv∧w.cell? ⟨b,o+p*5+3,none⟩=some (.int .i64 g.2.2.2.1)∧w.cell? ⟨b,o+p*5+4,none⟩=some (.int .i64 g.2.2.2.2.1)∧mv.oneCell'=true∧PR w X mv (bR Wy g.2.2.1 false):=by
 obtain⟨a,b,o,cap,rfl,ha,hc⟩:=xS (t:=Kt) rfl h;refine⟨a,b,o,cap,rfl,ha,fun p g hg=> ?_⟩;obtain⟨f,hf⟩:=hc p g hg;obtain⟨c0,_,r0⟩:=hf 0 _ rfl;obtain⟨c1,_,r1⟩:=hf 1 _ rfl;obtain⟨c2,o2,r2⟩:=hf 2 _ rfl;obtain⟨c3,_,r3⟩:=hf 3 _ rfl;obtain⟨c4,_,r4⟩:=hf 4 _ rfl;rw[Na r0]at c0;rw[Iw r1]at c1;rw[Na r3]at c3;rw[Na r4]at c4;exact⟨f 2,c0,c1,c2,c3,c4,o2,r2⟩
theorem Sl{w:World}{X:XT}{v:Value}{l:List kJ}{tg:Bool}(h:PR w X v (bR Wy l tg)):
  ∃a b o cap,v= .slice a l.length cap∧(l≠ []→a=some ⟨b,o,none⟩)∧∀(p:Nat) (m:kJ),l[p]?=some m→∃lv,w.cell? ⟨b,o+p*6,none⟩=some (.string m.1)∧w.cell? ⟨b,o+p*6+1,none⟩=some lv∧
   w.cell? ⟨b,o+p*6+2,none⟩=some (.int .i64 m.2.2.1)∧w.cell? ⟨b,o+p*6+3,none⟩=some (.int .i64 m.2.2.2.1)∧w.cell? ⟨b,o+p*6+4,none⟩=some (.bool m.2.2.2.2.1)∧w.cell? ⟨b,o+p*6+5,none⟩=some (.bool m.2.2.2.2.2.1)∧lv.oneCell'=true∧PR w X lv (bR jG m.2.1 false):=by
 obtain⟨a,b,o,cap,rfl,ha,hc⟩:=xS (t:=Wy) rfl h;refine⟨a,b,o,cap,rfl,ha,fun p m hm=> ?_⟩;obtain⟨f,hf⟩:=hc p m hm;obtain⟨c0,_,r0⟩:=hf 0 _ rfl;obtain⟨c1,o1,r1⟩:=hf 1 _ rfl;obtain⟨c2,_,r2⟩:=hf 2 _ rfl;obtain⟨c3,_,r3⟩:=hf 3 _ rfl;obtain⟨c4,_,r4⟩:=hf 4 _ rfl;obtain⟨c5,_,r5⟩:=hf 5 _ rfl;rw[Iw r0]at c0;rw[Na r2]at c2;rw[Na r3]at c3;rw[VZ r4]at c4;rw[VZ r5]at c5;exact⟨f 1,c0,c1,c2,c3,c4,c5,o1,r1⟩
theorem wS{w:World}{X:XT}{v:Value}{l:List nJ}{tg:Bool}(h:PR w X v (bR jG l tg)):
  ∃a b o cap,v= .slice a l.length cap∧(l≠ []→a=some ⟨b,o,none⟩)∧∀(p:Nat) (x:nJ),l[p]?=some x→w.cell? ⟨b,o+p*2,none⟩=some (.string x.1)∧w.cell? ⟨b,o+p*2+1,none⟩=some (.string x.2.1):=by
 obtain⟨a,b,o,cap,rfl,ha,hc⟩:=xS (t:=jG) rfl h;refine⟨a,b,o,cap,rfl,ha,fun p x hx=> ?_⟩;obtain⟨f,hf⟩:=hc p x hx;obtain⟨c0,_,r0⟩:=hf 0 _ rfl;obtain⟨c1,_,r1⟩:=hf 1 _ rfl;rw[Iw r0]at c0;rw[Iw r1]at c1;exact⟨c0,c1⟩
theorem JR{t:Ty}{w:World}{X:XT}{base e n:Nat}{v:Value}{xs:List Value}{l:List t.den}(hl:l.length=n)(hpos:0<t.size)(h:w.ownsRow base e t.size v n xs)(hX:∀c o,X c o→c<base)
  (hs:∀(p:Nat) (x:t.den),l[p]?=some x→(enc t x).cells.length=t.size)
  (hx:∀(p:Nat) (x:t.den),l[p]?=some x→∀(j:Nat) (u:AV),(enc t x).cells[j]?=some u→∃y,xs[p*t.size+j]?=some y∧y.oneCell'=true∧PR w X y u):PR w X v (bR t l false):=by
 obtain⟨h1,h|h⟩:=h
 ·obtain⟨rfl,rfl⟩:=h;obtain rfl:=am6.1 hl;exact .lst0 _ _ _ _ (fun e=>by cases e)
 ·obtain⟨g,cap,cur,rfl,hb,hc,hn,_,hsz,htake⟩:=h
  cases l with
  |nil=>
   have:n=0:=by simpa using hl.symm
   subst this;exact .lst0 _ _ _ _ (fun e=>by cases e)
  |cons y r=>
   show PR w X _ (.eO t.size ((y::r).map (enc t)) false)
   have get:∀k u,xs[k]?=some u→w.cell? ⟨g,k,none⟩=some u:=fun k u hk=>by
    have hkl:=(akX.1 hk).1;rw[←htake,amA,if_pos (by omega)]at hk;simp only[World.cell?,hc];rw[Array.getElem?_toList]at hk;simpa using hk
   refine .eO g 0 n cap t.size false _ (fun i j=>(xs[i*t.size+j]?).getD undef) (by rw[ald];exact hl) hn (fun e=>by cases e) (fun i x hi=> ?_) (fun i x hi j u hj=> ?_) (fun i x hi j u hj=> ?_)
   ·rw[ale]at hi;obtain⟨z,hz,rfl⟩:=alf.1 hi;exact hs i z hz
   ·rw[ale]at hi;obtain⟨z,hz,rfl⟩:=alf.1 hi;obtain⟨q,hq,q1,_⟩:=hx i z hz j u hj;refine⟨fun c=>by have:=hX _ _ c;omega,?_,by rw[hq];exact q1⟩;rw[alQ,get _ _ hq,hq];rfl
   ·rw[ale]at hi;obtain⟨z,hz,rfl⟩:=alf.1 hi;obtain⟨q,hq,_,q2⟩:=hx i z hz j u hj;rw[hq];exact q2
def pO(l:List nJ):List Value:=l.flatMap fun x=> [.string x.1,.string x.2.1]
theorem CY(l:List nJ):(pO l).length=l.length*2:=by
 unfold pO
 induction l with
 |nil=>rfl
 |cons x r ih=>simp only[ams,alz,ih,alI,List.length_nil];omega
theorem tT:∀(l:List nJ) (p:Nat) (x:nJ),l[p]?=some x→(pO l)[p*2]?=some (.string x.1)∧(pO l)[p*2+1]?=some (.string x.2.1)
 | [],p,x,h=>by simp at h
 |y::r,0,x,h=>by simp at h;subst h;exact⟨rfl,rfl⟩
 |y::r,p+1,x,h=>by
  obtain⟨a,b⟩:=tT r p x (by simpa using h);have e1:(p+1)*2=p*2+2:=by omega
  rw[e1];exact⟨a,b⟩
theorem FH{l:List nJ}{k:Nat}{u:Value}(h:(pO l)[k]?=some u):∃p x,l[p]?=some x∧((k=p*2∧u= .string x.1)∨(k=p*2+1∧u= .string x.2.1)):=by
 have hk:=(akX.1 h).1;rw[CY]at hk;have hp:k / 2<l.length:=by omega
 obtain⟨a,b⟩:=tT l (k / 2) _ (alh hp);refine⟨k / 2,_,alh hp,?_⟩;rcases Nat.mod_two_eq_zero_or_one k with e|e
 ·have:k=k / 2*2:=by omega
  rw[←this,h]at a;exact .inl ⟨this,by simpa using a⟩
 ·have:k=k / 2*2+1:=by omega
  rw[←this,h]at b;exact .inr ⟨this,by simpa using b⟩
theorem Tf(n c:Nat)(w:World):Calls Tryz.prog 103 #[.slice none n c] w fun e w'=>e= .returned (.slice none 0 0)∧w'=w:=by
 have q22:∀(w:World) (a:Option Addr) (n c n' c':Nat),(binOp .eql 51 (.slice a n c) (.slice none n' c')).run Tryz.prog w= .ok (.bool a.isNone) w:=fun w a n c n' c'=>Lib.run_eql_slice_nil w _ _ a n c n' c' Tryz.underlying51
 go_enter Tryz.func103,Tryz.ntmps103
 go_wp2
 go_ret
 exact⟨rfl,rfl⟩
set_option maxHeartbeats 2000000 in
set_option maxRecDepth 100000 in
theorem Oz(b off cap:Nat)(l:List nJ)(w:World)(hl:l.length≤4294967296)
  (hc:∀(p:Nat) (x:nJ),l[p]?=some x→w.cell? ⟨b,off+p*2,none⟩=some (.string x.1)∧w.cell? ⟨b,off+p*2+1,none⟩=some (.string x.2.1)):
  Calls Tryz.prog 103 #[.slice (some ⟨b,off,none⟩) l.length cap] w fun e w'=>∃v',e= .returned v'∧w'.ownsRow w.heap.size 49 2 v' l.length (pO l)∧Below w.heap.size w w':=by
 obtain⟨i0,hi,hz0,hz1,hz2⟩:=info_parts (P:=Tryz.prog) (e:=49) (z:=.agg #[.string ⟨#[]⟩,.string ⟨#[]⟩]) (size:=2) (bytes:=32) (by kernel_rfl);have q22:∀(w:World) (a:Option Addr) (n c n' c':Nat),(binOp .eql 51 (.slice a n c) (.slice none n' c')).run Tryz.prog w= .ok (.bool a.isNone) w:=fun w a n c n' c'=>Lib.run_eql_slice_nil w _ _ a n c n' c' Tryz.underlying51
 have u22:∀w,Sem.run Tryz.prog (underlying 51) w= .ok (TypeDesc.slice 49) w:=run_underlying Tryz.underlying51
 have A:Aside (∀(j:Nat) (u:Value),(pO l)[j]?=some u→w.cell? ⟨b,off+j,none⟩=some u):=by
  intro j u hj;obtain⟨p,x,hp,⟨rfl,rfl⟩|⟨rfl,rfl⟩⟩:=FH hj
  ·exact(hc p x hp).1
  ·exact(hc p x hp).2
 clear hc
 go_enter Tryz.func103,Tryz.ntmps103
 go_wp2_with (at_builtin;refine wpList_append_own _ rfl _ _ 51 rfl w.heap.size 49 i0 (.agg #[.string ⟨#[]⟩,.string ⟨#[]⟩]) 2 32 Tryz.underlying51 hi hz0 hz1 hz2 rfl (by decide) _ _ _ rfl (World.ownsRow_made w #[] 0 (alj _) (alD _) rfl) ⟨b,off,none⟩ l.length cap (pO l) rfl ?qc1 ?qc2 ?qc3 ?qc4 ?qc5 ?qc6 ?_)
 case qc1=>exact CY l
 case qc2=>
  intro j u hj;rw[Addr.add_lit];exact Lib.cell?_alloc_some _ (A.out j u hj)
 case qc3=>
  intro u hu;obtain⟨k,hk⟩:=List.mem_iff_getElem?.1 hu;obtain⟨p,x,_,⟨_,rfl⟩|⟨_,rfl⟩⟩:=FH hk<;>rfl
 case qc4=>unfold maxLen;omega
 case qc5=>omega
 case qc6=>simp
 intro v' w1 hown hgrow hnil
 go_wp2
 go_ret
 refine⟨v',rfl,by simpa using hown,?_⟩;exact((Below.refl _ w).alloc (alj _) _).grown hgrow (by simp) (by intro k hk;simp[Value.ownBlock]at hk;omega)
set_option maxHeartbeats 2000000 in
set_option maxRecDepth 100000 in
theorem P9(A:Addr)(cap:Nat)(w:World):Calls Tryz.prog 103 #[.slice (some A) 0 cap] w fun e w'=>∃v',e= .returned v'∧w'.ownsRow w.heap.size 49 2 v' 0 []∧Below w.heap.size w w':=by
 obtain⟨i0,hi,hz0,hz1,hz2⟩:=info_parts (P:=Tryz.prog) (e:=49) (z:=.agg #[.string ⟨#[]⟩,.string ⟨#[]⟩]) (size:=2) (bytes:=32) (by kernel_rfl);have q22:∀(w:World) (a:Option Addr) (n c n' c':Nat),(binOp .eql 51 (.slice a n c) (.slice none n' c')).run Tryz.prog w= .ok (.bool a.isNone) w:=fun w a n c n' c'=>Lib.run_eql_slice_nil w _ _ a n c n' c' Tryz.underlying51
 have u22:∀w,Sem.run Tryz.prog (underlying 51) w= .ok (TypeDesc.slice 49) w:=run_underlying Tryz.underlying51
 go_enter Tryz.func103,Tryz.ntmps103
 go_wp2_with (at_builtin;refine wpList_append_own _ rfl _ _ 51 rfl w.heap.size 49 i0 (.agg #[.string ⟨#[]⟩,.string ⟨#[]⟩]) 2 32 Tryz.underlying51 hi hz0 hz1 hz2 rfl (by decide) _ _ _ rfl (World.ownsRow_made w #[] 0 (alj _) (alD _) rfl) A 0 cap [] rfl rfl (by intro j u hj;simp at hj) (by intro u hu;cases hu) (by unfold maxLen;omega) (by omega) (by simp) ?_)
 intro v' w1 hown hgrow hnil
 go_wp2
 go_ret
 refine⟨v',rfl,by simpa using hown,?_⟩;exact((Below.refl _ w).alloc (alj _) _).grown hgrow (by simp) (by intro k hk;simp[Value.ownBlock]at hk;omega)
theorem LC{w:World}{X:XT}{v:Value}{l:List nJ}{tg:Bool}(h:PR w X v (bR jG l tg))(hl:l.length≤4294967296):
  Calls Tryz.prog 103 #[v] w fun e w'=>∃v',e= .returned v'∧PR w' (old w.heap.size) v' (bR jG l false)∧v'.oneCell'=true∧Below w.heap.size w w':=by
 obtain⟨a,b,o,cap,rfl,ha,hc⟩:=wS h
 cases a with
 |none=>
  have:l=[]:=Classical.byContradiction fun h=>by cases ha h
  subst this;refine(Tf _ _ w).mono ?_;rintro e w' ⟨rfl,rfl⟩;exact⟨_,rfl,.lst0 _ _ _ _ (fun e=>by cases e),rfl,Below.refl _ _⟩
 |some A=>
  obtain⟨b',o',r⟩:=A
  have fin:∀(b o:Nat) (hc:∀(p:Nat) (x:nJ),l[p]?=some x→w.cell? ⟨b,o+p*2,none⟩=some (.string x.1)∧w.cell? ⟨b,o+p*2+1,none⟩=some (.string x.2.1)),
    Calls Tryz.prog 103 #[.slice (some ⟨b,o,none⟩) l.length cap] w fun e w'=>∃v',e= .returned v'∧PR w' (old w.heap.size) v' (bR jG l false)∧v'.oneCell'=true∧Below w.heap.size w w':=by
   intro b o hc;refine(Oz b o cap l w hl hc).mono ?_;rintro e w' ⟨v',rfl,hown,hb⟩;refine⟨v',rfl,JR (t:=jG) rfl (by decide) hown (fun c o h=>h) (fun p x _=>rfl) (fun p x hx j u hj=> ?_),?_,hb⟩
   ·obtain⟨y1,y2⟩:=tT l p x hx;have hj':([AV.str x.1,AV.str x.2.1]:List AV)[j]?=some u:=hj
    match j,hj' with
    |0,hj'=>simp at hj';subst hj';exact⟨_,y1,rfl,.str _⟩
    |1,hj'=>simp at hj';subst hj';exact⟨_,y2,rfl,.str _⟩
    |j+2,hj'=>simp at hj'
   ·rcases hown.2 with⟨rfl,_⟩|⟨_,_,_,rfl,_⟩<;>rfl
  by_cases hl0:l=[]
  ·subst hl0;refine(P9 _ _ w).mono ?_;rintro e w' ⟨v',rfl,hown,hb⟩;refine⟨v',rfl,JR (t:=jG) (l:=[]) rfl (by decide) hown (fun c o h=>h) (fun p x hx=>by simp at hx) (fun p x hx=>by simp at hx),?_,hb⟩;rcases hown.2 with⟨rfl,_⟩|⟨_,_,_,rfl,_⟩<;>rfl
  ·have:=ha hl0;cases this;exact fin b o hc
end Go.Proofs.YtchnmpafhfjimaaGreatDoor.Fr
namespace Go.Proofs.YtchnmpafhfjimaaGreatDoor.Fr
open Go Go.Shelf Go.RowKit
def Gv:Shelf.Ren:=
{ f:=fun x=>match x with
   |125=>161
   |128=>201
   |129=>202
   |190=>102
   |258=>160
   |302=>192
   |303=>193
   |304=>194
   |305=>195
   |306=>196
   |307=>197
   |308=>198
   |309=>199
   |310=>200
   |329=>220
   |330=>221
   |333=>219
   |334=>222
   |335=>223
   |336=>190
   |344=>230
   |n=>n
  t:=fun x=>match x with
   |0=>0
   |3=>3
   |4=>4
   |5=>5
   |9=>9
   |31=>50
   |46=>202
   |51=>228
   |53=>230
   |131=>78
   |182=>220
   |183=>221
   |218=>246
   |222=>250
   |228=>256
   |229=>257
   |n=>n
  g:=fun x=>x}
theorem Nb:Lays.n190 Tryz.prog Gv:=
{ mixed:=Eq.refl true,
  f125:=Eq.trans Tryz.func161 (congrArg some (Eq.refl (Body.n125 Gv))),
  f128:=Eq.trans Tryz.func201 (congrArg some (Eq.refl (Body.n128 Gv))),
  f129:=Eq.trans Tryz.func202 (congrArg some (Eq.refl (Body.n129 Gv))),
  f190:=Eq.trans Tryz.func102 (congrArg some (Eq.refl (Body.n190 Gv))),
  f258:=Eq.trans Tryz.func160 (congrArg some (Eq.refl (Body.n258 Gv))),
  f302:=Eq.trans Tryz.func192 (congrArg some (Eq.refl (Body.n302 Gv))),
  f303:=Eq.trans Tryz.func193 (congrArg some (Eq.refl (Body.n303 Gv))),
  f304:=Eq.trans Tryz.func194 (congrArg some (Eq.refl (Body.n304 Gv))),
  f305:=Eq.trans Tryz.func195 (congrArg some (Eq.refl (Body.n305 Gv))),
  f306:=Eq.trans Tryz.func196 (congrArg some (Eq.refl (Body.n306 Gv))),
  f307:=Eq.trans Tryz.func197 (congrArg some (Eq.refl (Body.n307 Gv))),
  f308:=Eq.trans Tryz.func198 (congrArg some (Eq.refl (Body.n308 Gv))),
  f309:=Eq.trans Tryz.func199 (congrArg some (Eq.refl (Body.n309 Gv))),
  f310:=Eq.trans Tryz.func200 (congrArg some (Eq.refl (Body.n310 Gv))),
  f329:=Eq.trans Tryz.func220 (congrArg some (Eq.refl (Body.n329 Gv))),
  f330:=Eq.trans Tryz.func221 (congrArg some (Eq.refl (Body.n330 Gv))),
  f333:=Eq.trans Tryz.func219 (congrArg some (Eq.refl (Body.n333 Gv))),
  f334:=Eq.trans Tryz.func222 (congrArg some (Eq.refl (Body.n334 Gv))),
  f335:=Eq.trans Tryz.func223 (congrArg some (Eq.refl (Body.n335 Gv))),
  f336:=Eq.trans Tryz.func190 (congrArg some (Eq.refl (Body.n336 Gv))),
  f344:=Eq.trans Tryz.func230 (congrArg some (Eq.refl (Body.n344 Gv))),
  t0:=Tryz.underlying0,
  a0:=Tryz.isAgg0,
  z0:=Tryz.sizeOf0,
  v0:=Tryz.zeroValue0,
  t3:=Tryz.underlying3,
  a3:=Tryz.isAgg3,
  z3:=Tryz.sizeOf3,
  v3:=Tryz.zeroValue3,
  t4:=Tryz.underlying4,
  a4:=Tryz.isAgg4,
  z4:=Tryz.sizeOf4,
  v4:=Tryz.zeroValue4,
  t5:=Tryz.underlying5,
  a5:=Tryz.isAgg5,
  z5:=Tryz.sizeOf5,
  v5:=Tryz.zeroValue5,
  t9:=Tryz.underlying9,
  a9:=Tryz.isAgg9,
  z9:=Tryz.sizeOf9,
  v9:=Tryz.zeroValue9,
  t31:=Tryz.underlying50,
  a31:=Tryz.isAgg50,
  z31:=Tryz.sizeOf50,
  v31:=Tryz.zeroValue50,
  t46:=Tryz.underlying202,
  a46:=Tryz.isAgg202,
  z46:=Tryz.sizeOf202,
  v46:=Tryz.zeroValue202,
  t51:=Tryz.underlying228,
  a51:=Tryz.isAgg228,
  z51:=Tryz.sizeOf228,
  v51:=Tryz.zeroValue228,
  t53:=Tryz.underlying230,
  a53:=Tryz.isAgg230,
  z53:=Tryz.sizeOf230,
  v53:=Tryz.zeroValue230,
  t131:=Tryz.underlying78,
  a131:=Tryz.isAgg78,
  z131:=Tryz.sizeOf78,
  v131:=Tryz.zeroValue78,
  t182:=Tryz.underlying220,
  a182:=Tryz.isAgg220,
  z182:=Tryz.sizeOf220,
  v182:=Tryz.zeroValue220,
  t183:=Tryz.underlying221,
  a183:=Tryz.isAgg221,
  z183:=Tryz.sizeOf221,
  v183:=Tryz.zeroValue221,
  t218:=Tryz.underlying246,
  a218:=Tryz.isAgg246,
  z218:=Tryz.sizeOf246,
  v218:=Tryz.zeroValue246,
  t222:=Tryz.underlying250,
  a222:=Tryz.isAgg250,
  z222:=Tryz.sizeOf250,
  v222:=Tryz.zeroValue250,
  t228:=Tryz.underlying256,
  a228:=Tryz.isAgg256,
  z228:=Tryz.sizeOf256,
  v228:=Tryz.zeroValue256,
  t229:=Tryz.underlying257,
  a229:=Tryz.isAgg257,
  z229:=Tryz.sizeOf257,
  v229:=Tryz.zeroValue257}
end Go.Proofs.YtchnmpafhfjimaaGreatDoor.Fr
namespace Go.Proofs.YtchnmpafhfjimaaGreatDoor.Fr
open Go Go.Abs Go.RowKit Go.Maps
theorem Vp(l:List kJ):∀(k:List kJ) (acc:List ByteArray),bT (k++l) acc=bT l (bT k acc)
 | [],_=>rfl
 |_::k,acc=>Vp l k _
theorem Ry(pre:List kJ)(m:kJ):bT (pre++ [m]) []=if(bT pre []).any (fun x=>decide (x=m.1))then bT pre []else bT pre []++ [m.1]:=by
 rw[Vp];rfl
theorem J4{k:ByteArray}:∀{l:List kJ} {acc:List ByteArray},k∈bT l acc↔k∈acc∨∃m∈l,m.1=k
 | [],acc=>by simp[bT]
 |m::r,acc=>by
  unfold bT;rw[J4];split
  ·rename_i h;obtain⟨x,hx,e⟩:=List.any_eq_true.1 h;have e:x=m.1:=ali e;subst e;constructor
   ·rintro(h|⟨y,hy,e⟩)
    ·exact .inl h
    ·exact .inr ⟨y,by simp[hy],e⟩
   ·rintro(h|⟨y,hy,rfl⟩)
    ·exact .inl h
    ·rcases alN.1 hy with rfl|hy
     ·exact .inl hx
     ·exact .inr ⟨y,hy,rfl⟩
  ·constructor
   ·rintro(h|⟨y,hy,e⟩)
    ·rcases alx.1 h with h|h
     ·exact .inl h
     ·exact .inr ⟨m,by simp,(alV.1 h).symm⟩
    ·exact .inr ⟨y,by simp[hy],e⟩
   ·rintro(h|⟨y,hy,rfl⟩)
    ·exact .inl (List.mem_append_left _ h)
    ·rcases alN.1 hy with rfl|hy
     ·exact .inl (by simp)
     ·exact .inr ⟨y,hy,rfl⟩
theorem CO{pre:List kJ}{m:kJ}{k:ByteArray}(h:k∈bT pre []):jD (pre++ [m]) k=jD pre k:=by
 unfold jD;rw[List.find?_append];obtain⟨x,hx,rfl⟩:=(J4.1 h).resolve_left (by simp)
 cases hf:pre.find? (fun m=>decide (m.1=x.1))with
 |some y=>rfl
 |none=>
  have:=List.find?_eq_none.1 hf x hx;simp at this
theorem MU{pre:List kJ}{m:kJ}(h:m.1∉bT pre []):jD (pre++ [m]) m.1=m.2.1:=by
 unfold jD;rw[List.find?_append]
 have:pre.find? (fun x=>decide (x.1=m.1))=none:=List.find?_eq_none.2 fun x hx=>by
  intro e;exact h (J4.2 (.inr ⟨x,hx,ali e⟩))
 rw[this];simp
abbrev kl(s:ByteArray):Lit:=.string s.data.toList
theorem WT{a b:ByteArray}(h:kl a=kl b):a=b:=by
 have:a.data.toList=b.data.toList:=by simpa[kl]using h
 exact ByteArray.ext (Array.toList_inj.1 this)
def RV(v:Value):Option (DataW Value×List MemPlace):=some (.held v,[])
abbrev zS:DataW Value:=.held (.slice none 0 0)
structure FI(w wr:World)(kv:Value)(pre:List kJ):Prop where
 since:w.Since w.heap.size wr
 size:w.heap.size+2≤wr.heap.size
 map:∃D,wr.ownsMap Tryz.prog 9 RV (w.heap.size+1) pre.length D∧(∀k,Maps.has D (kl k)=(bT pre []).any fun x=>decide (x=k))∧
  ∀k∈bT pre [],∃lv,D.atKey (kl k) zS= .held lv∧PR w Hg lv (bR jG (jD pre k) false)
 keys:wr.ownsRow (w.heap.size+2) 9 1 kv (bT pre []).length ((bT pre []).map Value.string)
theorem gF{B:Nat}{w0 w w':World}{row:Option Nat}(h:w0.Since B w)(hB:B≤w.heap.size)(hg:w.grownBy w' row)(hrow:∀k,row=some k→B≤k):w0.Since B w':=
 ⟨hg.os.trans h.os,hg.tape.trans h.tape,hg.output.trans h.output,alS h.size hg.size,fun i hi=>(hg.block i (am0 hi hB) (fun e=>by have:=hrow i e.symm;omega)).trans (h.block i hi)⟩
theorem FI.same{w wr w':World}{kv:Value}{pre:List kJ}(h:FI w wr kv pre)(hg:wr.grownBy w' none):FI w w' kv pre:=by
 obtain⟨D,d1,d2,d3⟩:=h.map;have hs:=h.size;refine⟨gF h.since (by omega) hg (fun k e=>by cases e),alS h.size hg.size,⟨D,d1.kept hg (by simp),d2,d3⟩,h.keys.kept hg ?_⟩
 cases kv.ownBlock with
 |none=>exact .inl rfl
 |some k=>exact .inr (by simp)
theorem FI.start{w wr:World}(hs:w.Since w.heap.size wr)(h2:w.heap.size+2≤wr.heap.size)(hm:wr.ownsMap Tryz.prog 9 RV (w.heap.size+1) 0 (.map [])):FI w wr (.slice none 0 0) []:=
 ⟨hs,h2,⟨_,hm,fun k=>rfl,fun k hk=>by cases hk⟩,World.ownsRow_nil _ _ _ _⟩
theorem Ed{l:List ByteArray}{k:ByteArray}:(l.any fun x=>decide (x=k))=true↔k∈l:=by
 rw[List.any_eq_true];constructor
 ·rintro⟨x,hx,e⟩;have e:x=k:=ali e;exact e ▸ hx
 ·exact fun h=>⟨k,h,akW rfl⟩
theorem FI.seen{w wr:World}{kv:Value}{pre:List kJ}(h:FI w wr kv pre){m:kJ}(hm:m.1∈bT pre []):FI w wr kv (pre++ [m]):=by
 have e:bT (pre++ [m]) []=bT pre []:=by rw[Ry,if_pos (Ed.2 hm)]
 obtain⟨D,d1,d2,d3⟩:=h.map;refine⟨h.since,h.size,⟨D,d1.mono (by simp),fun k=>by rw[d2,e],fun k hk=> ?_⟩,by rw[e];exact h.keys⟩;rw[e]at hk;rw[CO hk];exact d3 k hk
theorem FI.new{w wr wa w1 wb w2:World}{kv kv2:Value}{pre:List kJ}(h:FI w wr kv pre){m:kJ}(hm:m.1∉bT pre []){D:DataW Value}{lv:Value}(d1:wr.ownsMap Tryz.prog 9 RV (w.heap.size+1) pre.length D)
  (d2:∀k,Maps.has D (kl k)=(bT pre []).any fun x=>decide (x=k)) (d3:∀k∈bT pre [],∃lv,D.atKey (kl k) zS= .held lv∧PR w Hg lv (bR jG (jD pre k) false)) (hlv:PR w Hg lv (bR jG m.2.1 false))
  (ga:wr.grownBy wa none) (m1:w1.ownsMap Tryz.prog 9 RV (w.heap.size+1) (pre.length+1) (D.put (kl m.1) (.held lv))) (g1:wa.grownBy w1 (some (w.heap.size+1))) (gb:w1.grownBy wb none) (g2:wb.grownBy w2 kv.ownBlock)
  (hk:w2.ownsRow (w.heap.size+2) 9 1 kv2 ((bT pre []).length+1) ((bT pre []).map Value.string++ [.string m.1])):FI w w2 kv2 (pre++ [m]):=by
 have e:bT (pre++ [m]) []=bT pre []++ [m.1]:=by rw[Ry,if_neg (fun c=>hm (Ed.1 c))]
 have s0:=h.size;have s1:=ga.size;have s2:=g1.size;have s3:=gb.size;have sa:=gF h.since (by omega) ga (fun k e=>by cases e);have sb:=gF sa (by omega) g1 (fun k e=>by cases e;omega);have sc:=gF sb (by omega) gb (fun k e=>by cases e);have sd:=gF sc (by omega) g2 (fun k e=>by have:=(h.keys.lt k e).1;omega);refine⟨sd,by have:=g2.size;omega,⟨D.put (kl m.1) (.held lv),?_,fun k=> ?_,fun k hk'=> ?_⟩,?_⟩
 ·rw[alz];refine(m1.kept gb (by simp)).kept g2 ?_
  cases hb:kv.ownBlock with
  |none=>simp
  |some b=>have:=(h.keys.lt b hb).1;intro c;cases c;omega
 ·rw[e,List.any_append];by_cases c:m.1=k
  ·subst c;rw[Maps.has_put_same d1.isMap (by trivial)];simp
  ·rw[Maps.has_put_other (fun e=>c (WT e).symm),d2];simp[c]
 ·rw[e]at hk';rcases alx.1 hk' with hk'|hk'
  ·have hne:m.1≠k:=fun e=>hm (e ▸ hk')
   obtain⟨lv',l1,l2⟩:=d3 k hk';exact⟨lv',by rw[Maps.atKey_put_other (fun e=>hne (WT e).symm)];exact l1,by rw[CO hk'];exact l2⟩
  ·rw[alV.1 hk'];exact⟨lv,Maps.atKey_put_same d1.isMap (by trivial) _ _,by rw[MU hm];exact hlv⟩
 ·rw[e,alz,alB];exact hk
theorem Po:∀(l:List kJ) (acc:List ByteArray),(bT l acc).length≤l.length+acc.length
 | [],acc=>by simp[bT]
 |m::r,acc=>by
  unfold bT;have:=Po r (if acc.any (fun x=>decide (x=m.1))then acc else acc++ [m.1]);split at this<;>rename_i h
  ·rw[if_pos h];simp;omega
  ·rw[if_neg h];simp at this ⊢;omega
theorem Rq(l:List lV):(bW l).length≤(l.flatMap fun g=>g.2.2.1).length:=by
 unfold bW
 induction l with
 |nil=>exact alj _
 |cons g r ih=>
  rw[ams,ams,alz,alz];have:=amz (fun m:kJ=>m.2.2.2.2.1) g.2.2.1;omega
theorem JH{l:List lV}{p:Nat}{g:lV}(hg:l[p]?=some g)(q:Nat):(bW (l.take p)++(g.2.2.1.take q).filter fun m=>m.2.2.2.2.1).length≤(l.flatMap fun g=>g.2.2.1).length:=by
 have hp:=(akX.1 hg).1
 have e:l=l.take p++g::l.drop (p+1):=by
  have:l[p]=g:=(akX.1 hg).2;rw[←this,List.getElem_cons_drop,amu]
 have h1:=Rq (l.take p);have h2:=amz (fun m:kJ=>m.2.2.2.2.1) (g.2.2.1.take q);have h3:(g.2.2.1.take q).length≤g.2.2.1.length:=by rw[alv];omega
 have h4:(l.flatMap fun g=>g.2.2.1).length=((l.take p).flatMap fun g=>g.2.2.1).length+(g.2.2.1.length+((l.drop (p+1)).flatMap fun g=>g.2.2.1).length):=by
  rw[←alz,←alz];refine congrArg List.length ?_;refine(congrArg (List.flatMap fun g=>g.2.2.1) e).trans ?_;rw[List.flatMap_append,ams]
 rw[alz];omega
theorem aav{l:List lV}{p:Nat}{g:lV}(hg:l[p]?=some g):g.2.2.1.length≤(l.flatMap fun g=>g.2.2.1).length:=by
 obtain⟨A,B,rfl⟩:=List.append_of_mem (alb hg);rw[List.flatMap_append,ams,alz,alz];omega
structure BInv(l:List lV):Prop where
 len:l.length≤4294967296
 all:(l.flatMap fun g=>g.2.2.1).length≤4294967296
 mem:∀g∈l,∀m∈g.2.2.1,m.1.size≤4294967296∧m.2.1.length≤4294967296
theorem acH{l:List lV}(h:xB l=true):BInv l:=by
 unfold xB at h;simp only[alu,alM,alF]at h;exact⟨h.1,h.2.1,fun g hg m hm=>(h.2.2 g hg).2 m hm⟩
theorem uT{l:List kJ}{q:Nat}{m:kJ}(h:l[q]?=some m):(l.take (q+1)).filter (fun m=>m.2.2.2.2.1)=(l.take q).filter (fun m=>m.2.2.2.2.1)++(if m.2.2.2.2.1 then [m]else []):=by
 rw[am9,h,Option.toList_some,amo];refine congrArg (fun x=>(l.take q).filter (fun m:kJ=>m.2.2.2.2.1)++x) ?_;rw[List.filter_cons,List.filter_nil]
theorem X9{l:List lV}{p:Nat}{g:lV}(h:l[p]?=some g):bW (l.take (p+1))=bW (l.take p)++g.2.2.1.filter fun m=>m.2.2.2.2.1:=by
 unfold bW;rw[am9,h,Option.toList_some,List.flatMap_append];simp
theorem l8{w w':World}{row:Option Nat}(hg:w.grownBy w' row){b:Nat}(hb:b<w.heap.size)(hne:some b≠row){o:Nat}{v:Value}(h:w.cell? ⟨b,o,none⟩=some v):w'.cell? ⟨b,o,none⟩=some v:=by
 rw[World.cell?_of_block (hg.block b hb hne)];exact h
theorem SX(w:World)(v:Value)(rest:List Value)(T:TypeId):(w.alloc (.cells (v::rest).toArray T)).cell? ⟨w.heap.size,0,none⟩=some v:=by
 have:=heap_alloc_new w (.cells (v::rest).toArray T);simp only[World.cell?,this];rfl
theorem NA{w:World}{v:Value}{t:TypeId}:∀(j:Nat) (u:Value),[v][j]?=some u→(w.alloc (.cells #[v] t)).cell? ((⟨w.heap.size,0,none⟩:Addr).add j)=some u:=World.news_of_block (heap_alloc_new w _)
end Go.Proofs.YtchnmpafhfjimaaGreatDoor.Fr
namespace Go.Proofs.YtchnmpafhfjimaaGreatDoor.Fr
open Go Go.Abs Go.RowKit Go.Maps Go.Sort
def mK(w:World)(B:Nat)(ex:Option Nat)(v:Value)(l:List nJ):Prop:=
 ∃a cap,v= .slice a l.length cap∧l.length≤cap∧(l=[]∨∃b o,a=some ⟨b,o,none⟩∧B≤b∧b<w.heap.size∧some b≠ex∧
  ∀(p:Nat) (x:nJ),l[p]?=some x→w.cell? ⟨b,o+p*2,none⟩=some (.string x.1)∧w.cell? ⟨b,o+p*2+1,none⟩=some (.string x.2.1))
theorem acZ{w:World}{B:Nat}{v:Value}{l:List nJ}{tg:Bool}(h:PR w (old B) v (bR jG l tg)):mK w B none v l:=by
 cases l with
 |nil=>
  have h:PR w (old B) v (.eO 0 [] tg):=h
  cases h with
  |lst0 a cap sz t ht=>exact⟨a,cap,rfl,alD _,.inl rfl⟩
  |eO b o n cap sz t xs f hn hc ht hsz hx hr=>simp at hn;subst hn;exact⟨_,cap,rfl,alD _,.inl rfl⟩
 |cons y r=>
  have h:PR w (old B) v (.eO 2 (@List.map (Ty.den jG) AV (enc jG) (y::r)) tg):=h;generalize hxs:(@List.map (Ty.den jG) AV (enc jG) (y::r))=xs at h;have hlen:xs.length=(y::r).length:=by rw[←hxs];exact ald ..
  cases h with
  |lst0 a cap sz t ht=>simp at hlen
  |eO b o n cap sz t' xs f hn hc ht' hsz hx hr=>
   have key:∀(p:Nat) (x:nJ),(y::r)[p]?=some x→¬ b<B∧w.cell? ⟨b,o+p*2,none⟩=some (.string x.1)∧w.cell? ⟨b,o+p*2+1,none⟩=some (.string x.2.1):=fun p x hxx=>by
    have hxp:xs[p]?=some (.agg [.str x.1,.str x.2.1]):=by
     rw[←hxs];refine(ale ..).trans ?_;exact(congrArg (Option.map (enc jG)) (show(show List (Ty.den jG)from(y::r))[p]?=some x from hxx)).trans rfl
    obtain⟨n0,c0,_⟩:=hx p _ hxp 0 _ rfl;obtain⟨_,c1,_⟩:=hx p _ hxp 1 _ rfl;rw[Iw (hr p _ hxp 0 _ rfl)]at c0;rw[Iw (hr p _ hxp 1 _ rfl)]at c1;exact⟨n0,c0,c1⟩
   obtain⟨k0,k1,_⟩:=key 0 y rfl;exact⟨some ⟨b,o,none⟩,cap,by rw[←hlen,hn],by omega,.inr ⟨b,o,rfl,by omega,World.block_lt_of_cell? _ _ k1,by simp,fun p x hx=>(key p x hx).2⟩⟩
theorem mK.pr{w:World}{B B':Nat}{ex:Option Nat}{v:Value}{l:List nJ}(h:mK w B ex v l)(hB:B'≤B):PR w (old B') v (bR jG l false):=by
 obtain⟨a,cap,rfl,hc,h⟩:=h
 cases l with
 |nil=>exact .lst0 _ _ _ _ (fun e=>by cases e)
 |cons y r=>
  rcases h with h|⟨b,o,rfl,h1,_,_,h2⟩
  ·cases h
  ·show PR w _ _ (.eO 2 (@List.map (Ty.den jG) AV (enc jG) (y::r)) false)
   have el:∀(i:Nat) (x:AV),(@List.map (Ty.den jG) AV (enc jG) (y::r))[i]?=some x→∃z:nJ,(y::r)[i]?=some z∧x= .agg [.str z.1,.str z.2.1]:=fun i x hi=>by
    rw[ale]at hi;obtain⟨z,hz,rfl⟩:=alf.1 hi;exact⟨z,hz,rfl⟩
   refine .eO b o _ cap 2 false _ (fun i j=>(w.cell? ⟨b,o+(i*2+j),none⟩).getD undef) (ald ..) hc (fun e=>by cases e) (fun i x hi=> ?_) (fun i x hi j u hj=> ?_) (fun i x hi j u hj=> ?_)
   ·obtain⟨z,_,rfl⟩:=el i x hi;rfl
   ·obtain⟨z,hz,rfl⟩:=el i x hi;obtain⟨c0,c1⟩:=h2 i z hz;have hj':([AV.str z.1,AV.str z.2.1]:List AV)[j]?=some u:=hj
    match j,hj' with
    |0,_=>exact⟨fun c=>by have:b<B':=c;omega,by rw[amB,c0];rfl,by rw[amB,c0];rfl⟩
    |1,_=>exact⟨fun c=>by have:b<B':=c;omega,by rw[←Nat.add_assoc,c1];rfl,by rw[←Nat.add_assoc,c1];rfl⟩
    |j+2,hj'=>simp at hj'
   ·obtain⟨z,hz,rfl⟩:=el i x hi;obtain⟨c0,c1⟩:=h2 i z hz;have hj':([AV.str z.1,AV.str z.2.1]:List AV)[j]?=some u:=hj
    match j,hj' with
    |0,hj'=>simp at hj';subst hj';rw[amB,c0];exact .str _
    |1,hj'=>simp at hj';subst hj';rw[←Nat.add_assoc,c1];exact .str _
    |j+2,hj'=>simp at hj'
theorem mK.one{w:World}{B:Nat}{ex:Option Nat}{v:Value}{l:List nJ}(h:mK w B ex v l):v.oneCell'=true:=by
 obtain⟨a,cap,rfl,_⟩:=h;rfl
theorem mK.kept{w w':World}{B:Nat}{ex ex' row:Option Nat}{v:Value}{l:List nJ}(h:mK w B ex v l)(hg:w.grownBy w' row)(hr:∀b,some b≠ex→b<w.heap.size→B≤b→some b≠row∧some b≠ex'):mK w' B ex' v l:=by
 obtain⟨a,cap,rfl,hc,h⟩:=h;refine⟨a,cap,rfl,hc,?_⟩;rcases h with h|⟨b,o,rfl,h1,h2,h3,h4⟩
 ·exact .inl h
 ·obtain⟨r1,r2⟩:=hr b h3 h2 h1;refine .inr ⟨b,o,rfl,h1,am0 h2 hg.size,r2,fun p x hx=> ?_⟩;obtain⟨c0,c1⟩:=h4 p x hx;exact⟨l8 hg h2 r1 c0,l8 hg h2 r1 c1⟩
theorem mK.more{w:World}{B B':Nat}{ex:Option Nat}{v:Value}{l:List nJ}(h:mK w B ex v l)(hB:B'≤B):mK w B' ex v l:=by
 obtain⟨a,cap,rfl,hc,h⟩:=h;refine⟨a,cap,rfl,hc,?_⟩;rcases h with h|⟨b,o,rfl,h1,h2⟩
 ·exact .inl h
 ·exact .inr ⟨b,o,rfl,by omega,h2⟩
def sorted(ks:List ByteArray):List (List UInt8):=(ks.map (·.data.toList)).mergeSort fun x y=>decide (x≤y)
theorem yg(ks:List ByteArray):(sorted ks).length=ks.length:=by unfold sorted;rw[List.length_mergeSort,ald]
theorem Pd{ks:List ByteArray}{x:List UInt8}(h:x∈sorted ks):(⟨x.toArray⟩:ByteArray)∈ks:=by
 unfold sorted at h;rw[List.mem_mergeSort]at h;obtain⟨k,hk,rfl⟩:=amb.1 h;exact hk
theorem PL{w:World}{base:Nat}{kv:Value}{ks:List ByteArray}(h:w.ownsRow base 9 1 kv ks.length (ks.map Value.string))(hl:ks.length≤4294967296):
  Calls Tryz.prog 102 #[kv] w fun e w'=>e= .returned (.tuple #[])∧w'.ownsRow base 9 1 kv ks.length ((sorted ks).map encStr)∧w.grownBy w' kv.ownBlock:=by
 have hm:(ks.map (·.data.toList)).map encStr=ks.map Value.string:=by
  rw[amn];exact alO fun k _=>by simp[encStr]
 rcases h.2 with⟨rfl,h0⟩|⟨g,cap,cur,rfl,hb,hc,hn,hm2,hs,ht⟩
 ·have:ks=[]:=am6.1 h0;subst this;refine(Any.slices_Sort_string_none Nb none 0 w).mono ?_;rintro e w' ⟨rfl,rfl⟩;exact⟨rfl,by simpa[sorted]using h,⟨rfl,rfl,rfl,alj _,fun _ _ _=>rfl⟩⟩
 ·have h':w.ownsRow base 9 1 (.slice (some ⟨g,0,none⟩) ks.length cap) ks.length ((ks.map (·.data.toList)).map encStr):=by rw[hm];exact h
  obtain⟨g',cap',e1,hbg,hgl,hncap,hcm,hlen,hH⟩:=Lib.holds_of_ownsRow h' (by simp);cases e1;have hsort:=Any.slices_Sort_string Nb g 0 cap (ks.map (·.data.toList)) w hH hgl (by rw[ald];omega);rw[ald]at hsort;refine hsort.mono ?_;rintro e w' ⟨rfl,n,os,rfl⟩;refine⟨rfl,?_,grownBy_sorted _⟩;have:=ownsRow_sorted (n:=n) (os:=os) (ss:=ks.map (·.data.toList)) (ts:=sorted ks) (by rw[yg,ald]) hbg hc (by rw[ald];exact hn) hm2 hs;rw[ald]at this;exact this
abbrev kI(l:List lV):List ByteArray:=bT (bW l) []
abbrev xH(l:List lV)(k:List UInt8):List nJ:=jD (bW l) ⟨k.toArray⟩
structure OI(l:List lV)(w1 wr:World)(ov:Value)(i:Nat):Prop where
 grown:w1.grownBy wr none
 rows:∃xs,wr.ownsRow w1.heap.size 51 1 ov i xs∧∀(p:Nat) (y:Value),xs[p]?=some y→∃k,(sorted (kI l))[p]?=some k∧mK wr w1.heap.size ov.ownBlock y (xH l k)
theorem OI.start(l:List lV)(w:World):OI l w w (.slice none 0 0) 0:=
 ⟨⟨rfl,rfl,rfl,alj _,fun _ _ _=>rfl⟩,[],World.ownsRow_nil _ _ _ _,fun p y h=>by simp at h⟩
theorem OI.step{l:List lV}{w1 wr w2 w3:World}{ov v':Value}{i g cap:Nat}{k:List UInt8}{X:Obj}{xs:List Value}(h:OI l w1 wr ov i)(hx:wr.ownsRow w1.heap.size 51 1 ov i xs)
  (hr:∀(p:Nat) (y:Value),xs[p]?=some y→∃k,(sorted (kI l))[p]?=some k∧mK wr w1.heap.size ov.ownBlock y (xH l k)) (hk:(sorted (kI l))[i]?=some k)
  (hv:mK w2 wr.heap.size none v' (xH l k)) (g2:wr.grownBy w2 none) (g3:(w2.alloc X).grownBy w3 ov.ownBlock) (hown:w3.ownsRow w1.heap.size 51 1 (.slice (some ⟨g,0,none⟩) (i+1) cap) (i+1) (xs++ [v']))
  (hat:ov.ownBlock=some g∨g=(w2.alloc X).heap.size):OI l w1 w3 (.slice (some ⟨g,0,none⟩) (i+1) cap) (i+1):=by
 have s1:=h.grown.size;have s2:=g2.size;have gA:=World.grownBy_alloc w2 X none;have s3:=gA.size;have s4:=g3.size;have hlt:=hx.lt;refine⟨⟨(g3.os.trans (gA.os.trans g2.os)).trans h.grown.os,(g3.tape.trans (gA.tape.trans g2.tape)).trans h.grown.tape,(g3.output.trans (gA.output.trans g2.output)).trans h.grown.output,by omega,fun b hb _=> ?_⟩,_,hown,fun p y hp=> ?_⟩
 ·rw[g3.block b (by omega) (fun e=>by have:=(hlt b e.symm).1;omega),gA.block b (by omega) (by simp),g2.block b (by omega) (by simp)];exact h.grown.block b hb (by simp)
 ·have hxl:xs.length=i:=by have:=hx.1;omega
  by_cases hpi:p<i
  ·rw[alp (by omega)]at hp;obtain⟨k',hk',hl⟩:=hr p y hp;refine⟨k',hk',?_⟩;refine((hl.kept (ex':=ov.ownBlock) g2 (fun b h1 _ _=>⟨by simp,h1⟩)).kept (ex':=ov.ownBlock) gA (fun b h1 _ _=>⟨by simp,h1⟩)).kept g3 (fun b h1 h2 _=>⟨h1,fun e=> ?_⟩);have e:b=g:=by simpa[Value.ownBlock]using e
   subst e;rcases hat with hat|hat
   ·exact h1 hat.symm
   ·omega
  ·have hpe:p=i:=by
    have:=(akX.1 hp).1;simp at this;omega
   subst hpe;rw[alm (by omega),hxl,Nat.sub_self]at hp;have hp:v'=y:=by simpa using hp
   subst hp;refine⟨k,hk,?_⟩;refine((hv.kept (ex':=none) gA (fun b h1 _ _=>⟨by simp,h1⟩)).kept g3 (fun b h1 h2 h3=>⟨fun e=> ?_,fun e=> ?_⟩)).more s1
   ·have:=(hlt b e.symm).2;omega
   ·have e:b=g:=by simpa[Value.ownBlock]using e
    subst e;rcases hat with hat|hat
    ·have:=(hlt b hat).2;omega
    ·omega
theorem OI.done{l:List lV}{w w1 wr:World}{ov:Value}(hs:w.Since w.heap.size w1)(h:OI l w1 wr ov (sorted (kI l)).length):BU l w (.returned ov) wr:=by
 obtain⟨xs,hx,hr⟩:=h.rows;have s0:=hs.size;have s1:=h.grown.size;refine⟨ov,rfl,?_,h.grown.os.trans hs.os,h.grown.tape.trans hs.tape,h.grown.output.trans hs.output,by omega,fun i hi=>(h.grown.block i (by omega) (by simp)).trans (hs.block i hi)⟩;have e:pR l=(sorted (kI l)).map (xH l):=rfl;refine JR (t:=.row jG) (n:=(sorted (kI l)).length) (by rw[e];exact ald ..) (by decide) hx (fun c o hc=>am0 hc s0) (fun p x _=>rfl) (fun p x hp j u hj=> ?_);have hp:((sorted (kI l)).map (xH l))[p]?=some x:=hp;rw[ale]at hp;obtain⟨k,hk,rfl⟩:=alf.1 hp;have hj':([bR jG (xH l k) false]:List AV)[j]?=some u:=hj;have hxl:xs.length=(sorted (kI l)).length:=by have:=hx.1;omega
 have hpl:=(akX.1 hk).1;obtain⟨y,hy⟩:∃y,xs[p]?=some y:=⟨_,alh (by omega)⟩
 obtain⟨k',hk',hl⟩:=hr p y hy;rw[hk]at hk';cases hk'
 match j,hj' with
 |0,hj'=>
  simp at hj';subst hj';exact⟨y,by simpa[Ty.size]using hy,hl.one,hl.pr s0⟩
 |j+1,hj'=>simp at hj'
theorem Xm{w:World}{base e n:Nat}{v:Value}{xs:List Value}(h:w.ownsRow base e 1 v n xs):∃a g cap,v= .slice a n cap∧(n≠0→a=some ⟨g,0,none⟩):=by
 rcases h.2 with⟨rfl,rfl⟩|⟨g,cap,cur,rfl,_⟩
 ·exact⟨none,0,0,rfl,fun h=>absurd rfl h⟩
 ·exact⟨_,g,cap,rfl,fun _=>rfl⟩
theorem Ym{l:List lV}{k:ByteArray}(h:k∈kI l):∃g∈l,∃m∈g.2.2.1,m.1=k:=by
 obtain⟨m,hm,e⟩:=(J4.1 h).resolve_left (by simp);unfold bW at hm;obtain⟨g,hg,hm⟩:=amC.1 hm;exact⟨g,hg,m,(am3.1 hm).1,e⟩
theorem aao{l:List lV}(hb:BInv l)(k:List UInt8):(xH l k).length≤4294967296:=by
 unfold xH jD
 cases hf:(bW l).find? (fun m=>decide (m.1=⟨k.toArray⟩))with
 |none=>exact alD _
 |some m=>
  have hm:=List.mem_of_find?_eq_some hf;unfold bW at hm;obtain⟨g,hg,hm⟩:=amC.1 hm;exact(hb.mem g hg m (am3.1 hm).1).2
theorem LZ{w w':World}(h:Below w.heap.size w w'):w.grownBy w' none:=⟨h.os,h.tape,h.output,h.size,fun k hk _=>h.block k hk⟩
theorem Wn{w w':World}{v:Value}{x:AV}(h:PR w Hg v x)(hs:w.Since w.heap.size w'):PR w' Hg v x:=h.mono (yK _ hs.os hs.tape hs.output hs.size hs.block)
end Go.Proofs.YtchnmpafhfjimaaGreatDoor.Fr
