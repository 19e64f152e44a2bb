/- Lemmas for the statement of the last text of this claim. -/
import Derived.Test.YtcelhemfoehedaaGreatV7F
set_option linter.unusedSimpArgs false
set_option linter.unusedVariables false
namespace Go.Proofs.YtcelhemfoehedaaGreat
open Go Go.Abs Go.Bnd Go.Plain
theorem c15(id pg at':Int)(d:Dice)(hd:DOK d)(h1:1≤id∧id≤999)(h2:0≤at'∧at'≤8000000000):Ens (m15 ((id,pg,at',()),((d,()),()))) (fun r=>DOK r.2.1.1∧AnOK r.2.2.1.1∧aId r.2.2.1.1=id∧aPage r.2.2.1.1=pg∧aAt r.2.2.1.1=at'):=by
  have hw1:∀x:Int,0≤x→x<9→w64 (1+x)=1+x:=fun x h0 h1=>w64_id (by omega) (by omega)
  have hw2:∀x:Int,0≤x→x<9→w64 (x-1)=x-1:=fun x h0 h1=>w64_id (by omega) (by omega)
  unfold m15
  dsimp only
  repeat' first|(rw[hw1 _ (by omega) (by omega)])|(rw[hw2 _ (by omega) (by omega)])|(with_reducible refine ens_tail (c19 _ _ (by assumption) (by omega)) ?_;rintro⟨⟨_,⟨⟩⟩,⟨⟨_,⟨⟩⟩,⟨⟩⟩⟩ ⟨hdd,hlo,hhi⟩;dsimp only at hdd hlo hhi;try dsimp only)|(with_reducible refine ens_tail (c22 _ _ (by assumption) (by decide) (by decide)) ?_;rintro⟨⟨_,⟨⟩⟩,⟨⟨_,⟨⟩⟩,⟨⟩⟩⟩ ⟨hdd,hm⟩;dsimp only at hdd;simp only[List.mem_cons,List.not_mem_nil,or_false]at hm;try dsimp only)|with_reducible exact True.intro|(with_reducible refine ens_at (by omega) ?_;intro _ _ _;try dsimp only)|with_reducible refine ens_bind ?_|with_reducible refine ens_t ?_|with_reducible refine ens_f ?_|with_reducible refine ens_nt ?_|with_reducible refine ens_nf ?_|(with_reducible refine ens_need ?_ ?_;first|exact And.intro (by omega) (by omega)|omega|(simp only[List.length_append,List.length_cons,List.length_nil];omega))|(with_reducible refine ens_ite ?_ ?_<;>intro _)|(with_reducible refine ens_bif ?_ ?_<;>intro _)|(with_reducible refine ens_some ?_;try dsimp only)|(with_reducible refine ens_row (by omega) (by omega) ?_;intro _ _ _;try dsimp only)|(with_reducible refine ens_sum ?_ ?_<;>(intro _ e;subst e;try dsimp only))
  all_goals refine⟨by assumption,?_,rfl,rfl,rfl⟩
  all_goals (try simp only[beq_iff_eq,beq_eq_false_iff_ne]at *)
  all_goals exact⟨h1,by dsimp only[aWho];omega,by dsimp only[aKind];omega,by dsimp only[aKind,aArg];omega,by dsimp only[aKind,aArg];omega,by dsimp only[aKind,aArg];omega,h2⟩
def PIn(b:BookT)(p:PgT)(now:Int):Prop:=(∃pol n,PG b.2.1 pol n p)∧pLast p≤now∧∀x∈pSeen p,x<10
theorem pin_up{b:BookT}{p:PgT}{n m:Int}(h:PIn b p n)(hn:n≤m):PIn b p m:=⟨h.1,Int.le_trans h.2.1 hn,h.2.2⟩
theorem hRun{c:CfgT}(hc:CrewOK c){b:BookT}(hb:BookOK b)(hbl:b.2.1.length≤1000)(p:PgT)(now now':Int)(h:PIn b p now)(hn:now≤now'):Ens (m14 ((c,b,p,now',()),())) (fun r=>∃p',r=ret 0 p'∧PIn b p' now'∧pId p'=pId p):=by
  obtain⟨⟨pol,n,hp⟩,hl,hs⟩:=h
  obtain⟨p',n',e,r⟩:=run14 hc hb hbl hp now'
  exact⟨_,e,p',rfl,⟨⟨pol,n',r.pg⟩,by have:=r.last;omega,fun x hx=>hs x (r.same.seen ▸ hx)⟩,r.same.id⟩
theorem hAns{c:CfgT}{b:BookT}(hbl:b.2.1.length≤1000)(p:PgT)(now:Int)(a:AnT)(h:PIn b p now)(ha:AnOK a)(h1:aPage a=pId p)(h2:aAt a=now)(h3:aId a<10):Ens (m16 ((c,b,p,a,()),())) (fun r=>∃e p',r=ret e p'∧(e=0→PIn b p' now)):=by
  obtain⟨⟨pol,n,hp⟩,hl,hs⟩:=h
  obtain⟨e,p',q,r,_⟩:=answer16 (c:=c) hbl hp ha h1
  refine⟨_,q,e,p',rfl,fun e0=> ?_⟩
  rcases r e0 with⟨rfl,_⟩|r
  · exact⟨⟨pol,n,hp⟩,hl,hs⟩
  · refine⟨⟨pol,n,r.pg⟩,by have:=r.last;omega,fun x hx=> ?_⟩
    rw[r.seen]at hx
    rcases List.mem_append.1 hx with hx|hx
    · exact hs x hx
    · simp only[List.mem_singleton]at hx;subst hx;exact h3
theorem page_loop{c:CfgT}(hc:CrewOK c){b:BookT}(hb:BookOK b)(hbl:b.2.1.length≤1000)(k now:Int)(d:Dice)(p:PgT)(c0:Core)(hd:DOK d)(hk:0≤k∧k≤6)(hn:0≤now∧now≤900000)(hp:PIn b p now):
    Ens (loopT l13_0_6 ((k,now,()),((d,()),((core p,()),((b,()),((c,()),((c0,()),(pSts p,(pDec p,(pSeen p,()))))))))))
      (fun r=>DOK r.2.1.1∧∃p',r.2.2.2.1.1=core p'∧r.2.2.2.2.1=pSts p'∧r.2.2.2.2.2.1=pDec p'∧r.2.2.2.2.2.2.1=pSeen p'∧PIn b p' r.1.1∧0≤r.1.1∧r.1.1≤1000000):=by
  refine ens_loop (fun v=>DOK v.2.1.1∧b=v.2.2.2.1.1∧c=v.2.2.2.2.1.1∧0≤v.1.1∧v.1.1≤6∧0≤v.1.2.1∧v.1.2.1+2000*v.1.1≤950000∧∃p',v.2.2.1.1=core p'∧v.2.2.2.2.2.2.1=pSts p'∧v.2.2.2.2.2.2.2.1=pDec p'∧v.2.2.2.2.2.2.2.2.1=pSeen p'∧PIn b p' v.1.2.1) (fun v=>v.1.1.toNat) ?_ _ ⟨hd,rfl,rfl,hk.1,hk.2,hn.1,by dsimp only;omega,p,rfl,rfl,rfl,rfl,hp⟩
  rintro⟨⟨k,now,⟨⟩⟩,⟨⟨d,⟨⟩⟩,⟨_,⟨⟩⟩,⟨_,⟨⟩⟩,⟨_,⟨⟩⟩,⟨c0,⟨⟩⟩,_,_,_,⟨⟩⟩⟩ ⟨hd,rfl,rfl,h0,h1,h2,h3,p,rfl,rfl,rfl,rfl,hp⟩
  dsimp only at hd h0 h1 h2 h3 hp ⊢
  clear hk hn
  obtain⟨_,_,_,_,_,_,_,_,_,_,_,_,_,_,⟨⟩⟩:=p
  have hw:0<k→w64 (k-1)=k-1:=fun _=>w64_dn h0 (by omega)
  have hw1:∀x:Int,0≤x→x<9→w64 (1+x)=1+x:=fun x h0 h1=>w64_id (by omega) (by omega)
  have hwn:∀x:Int,0≤x→x≤2000→w64 (now+x)=now+x:=fun x h0 h1=>w64_id (by omega) (by omega)
  unfold l13_0_6
  dsimp only[core,pSts,pDec,pSeen]
  refine ens_ite (fun hk=> ?_) (fun hk=> ?_)
  · have hw:=hw hk
    obtain⟨_,_,_,_,_,_,_,_,_,_,_,⟨⟩⟩:=c0
    repeat' first
      |(with_reducible refine ens_tail (c19 _ _ (by assumption) (by omega)) ?_;rintro⟨⟨_,⟨⟩⟩,⟨⟨_,⟨⟩⟩,⟨⟩⟩⟩ ⟨hdd,hlo,hhi⟩;dsimp only at hdd hlo hhi;try dsimp only)|(with_reducible refine ens_tail (c22 _ _ (by assumption) (by decide) (by decide)) ?_;rintro⟨⟨_,⟨⟩⟩,⟨⟨_,⟨⟩⟩,⟨⟩⟩⟩ ⟨hdd,hm⟩;dsimp only at hdd;simp only[List.mem_cons,List.not_mem_nil,or_false]at hm;try dsimp only)
      |(rw[hwn _ (by omega) (by omega)])
      |(rw[hw1 _ (by omega) (by omega)])
      |(with_reducible refine ens_tail (hRun hc hb hbl _ _ _ (by assumption) (by omega)) ?_;rintro _ ⟨⟨_,_,_,_,_,_,_,_,_,_,_,_,_,_,⟨⟩⟩,rfl,hpn,hpid⟩;dsimp only[ret,core,pSts,pDec,pSeen,pId]at *)
      |(with_reducible refine ens_tail (c15 _ _ _ _ (by assumption) (by omega) (by omega)) ?_;rintro⟨⟨⟩,⟨⟨_,⟨⟩⟩,⟨⟨_,_,_,_,_,_,⟨⟩⟩,⟨⟩⟩,⟨⟩⟩⟩ ⟨hdd,hao,ha1,ha2,ha3⟩;dsimp only[aId,aPage,aAt]at hdd ha1 ha2 ha3;subst ha1 ha2 ha3;try dsimp only)
      |(with_reducible refine ens_tail (hAns hbl _ _ _ (by assumption) (by assumption) rfl rfl (by dsimp only[aId];omega)) ?_;rintro _ ⟨e,⟨_,_,_,_,_,_,_,_,_,_,_,_,_,_,⟨⟩⟩,rfl,hpe⟩;dsimp only[ret,core,pSts,pDec,pSeen]at *)
      |(with_reducible refine ens_tail (hAns hbl _ _ _ (pin_up hp (by dsimp only[aAt];omega)) (by assumption) rfl rfl (by dsimp only[aId];omega)) ?_;rintro _ ⟨e,⟨_,_,_,_,_,_,_,_,_,_,_,_,_,_,⟨⟩⟩,rfl,hpe⟩;dsimp only[ret,core,pSts,pDec,pSeen]at *)
      |with_reducible refine ens_bind ?_
      |with_reducible refine ens_t ?_
      |with_reducible refine ens_f ?_
      |(with_reducible refine ens_ite ?_ ?_<;>intro _)
      |(with_reducible refine ens_bif ?_ ?_<;>intro _)
      |(with_reducible refine ens_some ?_;try dsimp only)
    all_goals (rw[hw])
    all_goals exact⟨⟨by assumption,rfl,rfl,by omega,by omega,by omega,by omega,(_,_,_,_,_,_,_,_,_,_,_,_,_,_,()),rfl,rfl,rfl,rfl,by first|assumption|exact hpe (beq_iff_eq.1 (by assumption))|exact pin_up hp (by omega)⟩,by omega⟩
  · exact ens_some ⟨hd,_,rfl,rfl,rfl,rfl,hp,by dsimp only;omega,by dsimp only;omega⟩
theorem page_spec{c:CfgT}(hc:CrewOK c){b:BookT}(hb:BookOK b)(hbl:1≤b.2.1.length∧b.2.1.length≤3)(m:Int)(hm:0≤m∧m≤6)(d:Dice)(hd:DOK d):
    ∃(now:Int) (p:PgT) (d':Dice),m13 ((c,b,m,()),((d,()),()))=some ((now,()),((d',()),((core p,()),(pSts p,(pDec p,(pSeen p,()))))))∧DOK d'∧PIn b p now∧0≤now∧now≤1000000:=by
  have key:Ens (m13 ((c,b,m,()),((d,()),()))) (fun r=>DOK r.2.1.1∧∃p',r.2.2.1.1=core p'∧r.2.2.2.1=pSts p'∧r.2.2.2.2.1=pDec p'∧r.2.2.2.2.2.1=pSeen p'∧PIn b p' r.1.1∧0≤r.1.1∧r.1.1≤1000000):=by
    unfold m13
    dsimp only
    refine ens_call (c22 _ _ hd (by decide) (by decide)) ?_
    rintro⟨⟨x,⟨⟩⟩,⟨⟨d1,⟨⟩⟩,⟨⟩⟩⟩ ⟨hd1,hx⟩
    dsimp only at hd1
    simp only[List.mem_cons,List.not_mem_nil,or_false]at hx
    refine ens_call (c19 _ _ hd1 (by omega)) ?_
    rintro⟨⟨y,⟨⟩⟩,⟨⟨d2,⟨⟩⟩,⟨⟩⟩⟩ ⟨hd2,y0,y1⟩
    dsimp only at hd2 y0 y1
    have hmx:(if(1:Int)>(b.2.1.length:Int)then 1 else(b.2.1.length:Int))=b.2.1.length:=if_neg (by omega)
    simp only[hmx]
    refine ens_call (c19 _ _ hd2 (by omega)) ?_
    rintro⟨⟨z,⟨⟩⟩,⟨⟨d3,⟨⟩⟩,⟨⟩⟩⟩ ⟨hd3,z0,z1⟩
    dsimp only at hd3 z0 z1
    have w1:w64 (1+y)=1+y:=w64_id (by omega) (by omega)
    have w2:w64 (864000+x)=864000+x:=w64_id (by omega) (by omega)
    have w3:w64 (m+1)=m+1:=w64_id (by omega) (by omega)
    have hz:=z1 (by omega)
    have q20:=new_ok (b:=b) (id:=1+y) (pol:=z) (st:=864000+x) (by omega) (by omega) ⟨z0,hz⟩ (by omega)
    have hne:((0:Int) !=0)=false:=rfl
    simp only[w1,w2,w3,q20,hne,sS]
    refine ens_call (c19 _ _ hd3 (by omega)) ?_
    rintro⟨⟨k,⟨⟩⟩,⟨⟨d4,⟨⟩⟩,⟨⟩⟩⟩ ⟨hd4,k0,k1⟩
    dsimp only at hd4 k0 k1
    have hzl:z.toNat<b.2.1.length:=by omega
    have hpol:=hb.2 _ (List.getElem_mem hzl)
    have hrest:=rest_bound hpol.1 (Nat.zero_le (cnt b.2.1[z.toNat]))
    have hpin:PIn b (1+y,z,864000+x,0,864000+x,0,-1,0,864000+x,0,0,[],[],[],()) (864000+x):=by
      refine⟨⟨b.2.1[z.toNat],0,⟨by dsimp only[pId];omega,z0,List.getElem?_eq_getElem hzl,hpol.1,by dsimp only[pStart];omega,rfl,Nat.zero_le _,by dsimp only[pState];omega,by dsimp only[pBy];omega,by dsimp only[pStart,pLast];omega,by dsimp only[pDue];omega,by dsimp only[pUntil];omega,by dsimp only[pSn];omega,by dsimp only[pHd];omega,trivial,Int.le_refl _,by show((0:Nat):Int)≤((0:Nat):Int)+0;omega,set_nil,⟨List.nodup_nil,Nat.zero_le _,fun x hx=>by cases hx⟩,fun _=>⟨Int.le_refl _,by dsimp only[pDue];omega⟩,fun e=>by dsimp only[pState]at e;omega⟩⟩,Int.le_refl _,fun x hx=>by cases hx⟩
    have hpl:=page_loop hc hb (by omega) k (864000+x) d4 (1+y,z,864000+x,0,864000+x,0,-1,0,864000+x,0,0,[],[],[],()) (0,0,0,0,0,0,0,0,0,0,0,()) hd4 ⟨k0,by omega⟩ (by omega) hpin
    dsimp only[core,pSts,pDec,pSeen]at hpl
    refine ens_call hpl ?_
    rintro⟨⟨now,⟨⟩⟩,⟨⟨d5,⟨⟩⟩,⟨_,⟨⟩⟩,⟨cc,⟨⟩⟩,a1,a2,a3,⟨⟩⟩⟩ ⟨hd5,p',e1,e2,e3,e4,hp',g1,g2⟩
    dsimp only at hd5 e1 e2 e3 e4 hp' g1 g2
    subst e1 e2 e3 e4
    exact ens_some ⟨hd5,p',rfl,rfl,rfl,rfl,hp',g1,g2⟩
  obtain⟨⟨⟨now,⟨⟩⟩,⟨⟨d',⟨⟩⟩,⟨_,⟨⟩⟩,_,_,_,⟨⟩⟩⟩,e,hd',p',rfl,rfl,rfl,rfl,hp',g1,g2⟩:=key
  exact⟨now,p',d',e,hd',hp',g1,g2⟩
end Go.Proofs.YtcelhemfoehedaaGreat
namespace Go.Proofs.YtcelhemfoehedaaGreat
open Go Go.Abs Go.Bnd Go.Plain
abbrev ChT:=Int×Int×Int×Int×Unit
abbrev PfT:=Int×List ChT×Unit
def ChOK(c:ChT):Prop:=(0≤c.1∧c.1≤2)∧(0≤c.2.1∧c.2.1≤3600)∧(1≤c.2.2.1∧c.2.2.1≤4)∧(1≤c.2.2.2.1∧c.2.2.2.1≤120)
def PfOK(f:PfT):Prop:=(0≤f.1∧f.1≤3)∧f.2.1.length≤3∧∀c∈f.2.1,ChOK c
theorem c110(a b c:Int):m110 ((a,b,c,()),())=some ((decide (b≤a∧a≤c),()),()):=by
  unfold m110
  by_cases h1:a≥b<;>by_cases h2:a≤c<;>simp[h1,h2]
theorem c108(a b c:Int):m108 ((a,b,c,()),())=some ((decide (b≤a∧a≤c),()),()):=by
  unfold m108
  by_cases h1:a≥b<;>by_cases h2:a≤c<;>simp[h1,h2]
def worst(c:ChT):Int:=(c.2.2.1-1)*c.2.2.2.1+c.2.1
def bd(f:PfT):Int:=f.2.1.foldl (fun n c=>max n (worst c)) 0
theorem max_if'(a b:Int):(if(b:Int)>a then b else a)=max a b:=by split<;>omega
structure PsOK(l:List PfT):Prop where
  len:l.length≤4
  ok:∀f∈l,PfOK f
  up:l.Pairwise (fun a b=>a.1<b.1)
theorem PsOK.one{l:List PfT}(h:PsOK l){f g:PfT}(hf:f∈l)(hg:g∈l)(e:f.1=g.1):f=g:=by
  obtain⟨i,hi,rfl⟩:=List.mem_iff_getElem.1 hf
  obtain⟨j,hj,rfl⟩:=List.mem_iff_getElem.1 hg
  have:=List.pairwise_iff_getElem.1 h.up
  rcases Nat.lt_trichotomy i j with hij|hij|hij
  · have:=this i j hi hj hij;omega
  · subst hij;rfl
  · have:=this j i hj hi hij;omega
end Go.Proofs.YtcelhemfoehedaaGreat
namespace Go.Proofs.YtcelhemfoehedaaGreat
open Go Go.Abs Go.Bnd Go.Plain
theorem SL_at{nx:Int}:∀{l:List StT} {at' k:Int},SL nx at' k l→∀s∈l,at'≤s.2.1∧s.2.1≤lastAt at' l
  | [],_,_,_,s,hs=>by cases hs
  | x ::r,at',k,h,s,hs=>by
    rcases List.mem_cons.1 hs with rfl|hs
    · exact⟨h.1,lastAt_ge (l:=r) h.2.2.2⟩
    · have:=SL_at (l:=r) h.2.2.2 s hs
      exact⟨Int.le_trans h.1 this.1,this.2⟩
theorem c70(d:Dice)(hd:DOK d):Ens (m70 ((),((d,()),()))) (fun r=>DOK r.2.1.1∧ChOK r.2.2.1.1):=by
  have hw1:∀x:Int,0≤x→x<9→w64 (1+x)=1+x:=fun x h0 h1=>w64_id (by omega) (by omega)
  unfold m70
  dsimp only
  repeat' first|(rw[hw1 _ (by omega) (by omega)])|(with_reducible refine ens_tail (c19 _ _ (by assumption) (by omega)) ?_;rintro⟨⟨_,⟨⟩⟩,⟨⟨_,⟨⟩⟩,⟨⟩⟩⟩ ⟨hdd,hlo,hhi⟩;dsimp only at hdd hlo hhi;try dsimp only)|(with_reducible refine ens_tail (c22 _ _ (by assumption) (by decide) (by decide)) ?_;rintro⟨⟨_,⟨⟩⟩,⟨⟨_,⟨⟩⟩,⟨⟩⟩⟩ ⟨hdd,hm⟩;dsimp only at hdd;simp only[List.mem_cons,List.not_mem_nil,or_false]at hm;try dsimp only)|with_reducible exact True.intro|(with_reducible refine ens_at (by omega) ?_;intro _ _ _;try dsimp only)|with_reducible refine ens_bind ?_|with_reducible refine ens_t ?_|with_reducible refine ens_f ?_|with_reducible refine ens_nt ?_|with_reducible refine ens_nf ?_|(with_reducible refine ens_need ?_ ?_;first|exact And.intro (by omega) (by omega)|omega|(simp only[List.length_append,List.length_cons,List.length_nil];omega))|(with_reducible refine ens_ite ?_ ?_<;>intro _)|(with_reducible refine ens_bif ?_ ?_<;>intro _)|(with_reducible refine ens_some ?_;try dsimp only)|(with_reducible refine ens_row (by omega) (by omega) ?_;intro _ _ _;try dsimp only)|(with_reducible refine ens_sum ?_ ?_<;>(intro _ e;subst e;try dsimp only))
  all_goals refine⟨by assumption,⟨?_,?_⟩,⟨?_,?_⟩,⟨?_,?_⟩,⟨?_,?_⟩⟩
  all_goals (dsimp only;omega)
theorem c30(k:Int)(d:Dice)(hd:DOK d):Ens (m30 ((k,()),((d,()),()))) (fun r=>DOK r.2.1.1∧r.2.2.1.1.1=k∧r.2.2.2.1.length≤3∧∀c∈r.2.2.2.1,ChOK c):=by
  unfold m30
  dsimp only
  refine ens_call (c19 _ _ hd (by omega)) ?_
  rintro⟨⟨n,⟨⟩⟩,⟨⟨d1,⟨⟩⟩,⟨⟩⟩⟩ ⟨hd1,n0,n1⟩
  dsimp only at hd1 n0 n1 ⊢
  have n1:=n1 (by omega)
  refine ens_call (R:=fun r=>DOK r.2.1.1∧r.2.2.2.1.1.1=k∧r.2.2.2.2.1.length≤3∧∀c∈r.2.2.2.2.1,ChOK c) ?_ ?_
  · refine ens_loop (fun v=>DOK v.2.1.1∧v.2.2.1.1.1=k∧0≤v.1.1∧v.1.1+(v.2.2.2.2.1.length:Int)≤3∧∀c∈v.2.2.2.2.1,ChOK c) (fun v=>v.1.1.toNat) ?_ _ ⟨hd1,rfl,n0,by simp only[List.length_nil];omega,fun c hc=>by cases hc⟩
    rintro⟨⟨j,⟨⟩⟩,⟨⟨d,⟨⟩⟩,⟨⟨a,⟨⟩⟩,⟨⟩⟩,⟨⟨b,⟨⟩⟩,⟨⟩⟩,cs,⟨⟩⟩⟩ ⟨hd,ha,h0,h1,h2⟩
    dsimp only at hd ha h0 h1 h2
    subst ha
    unfold l30_0_3
    dsimp only
    refine ens_ite (fun hj=> ?_) (fun hj=>ens_some ⟨hd,rfl,by dsimp only;omega,h2⟩)
    have hw:=w64_dn h0 (by omega)
    refine ens_call (c70 _ hd) ?_
    rintro⟨⟨⟩,⟨⟨d2,⟨⟩⟩,⟨c,⟨⟩⟩,⟨⟩⟩⟩ ⟨hd2,hc⟩
    dsimp only at hd2 hc ⊢
    refine ens_need (by rw[List.length_singleton];omega) ?_
    rw[hw]
    refine ens_some ⟨⟨hd2,rfl,by dsimp only;omega,?_,fun x hx=> ?_⟩,by dsimp only;omega⟩
    · dsimp only;rw[List.length_append,List.length_singleton];omega
    · rcases List.mem_append.1 hx with hx|hx
      · exact h2 x hx
      · simp only[List.mem_singleton]at hx;subst hx;exact hc
  · rintro⟨⟨⟩,⟨⟨d2,⟨⟩⟩,_,⟨⟨a,⟨⟩⟩,⟨⟩⟩,cs,⟨⟩⟩⟩ ⟨hd2,ha,h1,h2⟩
    exact ens_some ⟨hd2,ha,h1,h2⟩
theorem c24 (d:Dice) (hd:DOK d):Ens (m24 ((),((d,()),()))) (fun r=>DOK r.2.1.1∧PsOK r.2.2.1):=by
  unfold m24
  dsimp only
  refine ens_call (R:=fun r=>DOK r.2.1.1∧PsOK r.2.2.1) ?_ ?_
  · refine ens_loop (fun v=>DOK v.2.1.1∧0≤v.1.1∧v.1.1≤4∧(v.2.2.1.length:Int)≤v.1.1∧(∀f∈v.2.2.1,f.1<v.1.1)∧PsOK v.2.2.1) (fun v=>(4-v.1.1).toNat) ?_ _ ⟨hd,Int.le_refl _,by dsimp only;omega,Int.le_refl _,fun f hf=>(by cases hf),⟨Nat.zero_le _,fun f hf=>(by cases hf),List.Pairwise.nil⟩⟩
    rintro⟨⟨i,⟨⟩⟩,⟨⟨d,⟨⟩⟩,l,⟨⟩⟩⟩ ⟨hd,h0,h1,h2,h3,h4⟩
    dsimp only at hd h0 h1 h2 h3 h4
    unfold l24_0_3
    dsimp only
    refine ens_ite (fun hi=> ?_) (fun hi=>ens_some ⟨hd,h4⟩)
    have hw:w64 (i+1)=i+1:=w64_up h0 (by omega)
    refine ens_bind ?_
    refine ens_tail (R:=fun v=>v.1.1=i∧DOK v.2.1.1∧(v.2.2.1.length:Int)≤i+1∧(∀f∈v.2.2.1,f.1<i+1)∧PsOK v.2.2.1) ?_ ?_
    · refine ens_call (c19 _ _ hd (by omega)) ?_
      rintro⟨⟨n,⟨⟩⟩,⟨⟨d1,⟨⟩⟩,⟨⟩⟩⟩ ⟨hd1,n0,n1⟩
      dsimp only at hd1 n0 n1 ⊢
      refine ens_ite (fun _=> ?_) (fun _=>ens_some ⟨rfl,hd1,by dsimp only;omega,fun f hf=>by have:=h3 f hf;omega,h4⟩)
      refine ens_call (c30 i _ hd1) ?_
      rintro⟨⟨⟩,⟨⟨d2,⟨⟩⟩,⟨⟨a,⟨⟩⟩,⟨⟩⟩,cs,⟨⟩⟩⟩ ⟨hd2,ha,hcl,hc⟩
      dsimp only at hd2 ha hcl hc ⊢
      subst ha
      refine ens_need (by rw[List.length_singleton];omega) ?_
      refine ens_some ⟨rfl,hd2,by dsimp only;rw[List.length_append,List.length_singleton];omega,fun f hf=> ?_,⟨by dsimp only;rw[List.length_append,List.length_singleton];omega,fun f hf=> ?_,?_⟩⟩
      · rcases List.mem_append.1 hf with hf|hf
        · have:=h3 f hf;omega
        · simp only[List.mem_singleton]at hf;subst hf;dsimp only;omega
      · rcases List.mem_append.1 hf with hf|hf
        · exact h4.ok f hf
        · simp only[List.mem_singleton]at hf;subst hf;exact⟨by dsimp only;omega,hcl,hc⟩
      · refine List.pairwise_append.2 ⟨h4.up,List.pairwise_singleton _ _,fun x hx y hy=> ?_⟩
        simp only[List.mem_singleton]at hy;subst hy
        exact h3 x hx
    · rintro⟨⟨j,⟨⟩⟩,⟨⟨d2,⟨⟩⟩,l2,⟨⟩⟩⟩ ⟨e,hd2,g1,g2,g3⟩
      dsimp only at e g1 g2 ⊢
      subst e
      rw[hw]
      exact ens_some ⟨⟨hd2,by dsimp only;omega,by dsimp only;omega,g1,g2,g3⟩,by dsimp only;omega⟩
  · intro r hr
    exact ens_some hr
end Go.Proofs.YtcelhemfoehedaaGreat
namespace Go.Proofs.YtcelhemfoehedaaGreat
open Go Go.Abs Go.Bnd Go.Plain
theorem w64_pred{j:Nat}(h:j<9223372036854775807):w64 (((j+1:Nat):Int)-1)=(j:Int):=by
  rw[show(((j+1:Nat):Int)-1)=(j:Int) by omega]
  exact w64_id (by omega) (by omega)
theorem gt0(j:Nat):decide (((j+1:Nat):Int)>0)=true:=decide_eq_true (by omega)
theorem set79E{l:List Int}(hn:l.length≤1000000):m79 ((l,32,()),())=some ((setB l,()),()):=by
  obtain⟨j,_,hl⟩:=loop_scan (f:=l79_0_2) l (fun i=>(((i:Int),l,32,()),())) (badS l) (fun _=>.inl ((false,()),())) (.inr ((),())) (fun i e he hi _=>by
    have w:=w64_nat (i:=i) (by omega)
    unfold badS
    by_cases h0:e<0
    · rw[show decide (0≤e∧e≤31)=false from decide_eq_false (by omega)]
      simp only[l79_0_2,lt_t hi,rowAt_G,rowG_nat he,h0,Bool.true_or,sumE,sS]
    by_cases h1:e≥32
    · rw[show decide (0≤e∧e≤31)=false from decide_eq_false (by omega)]
      simp only[l79_0_2,lt_t hi,rowAt_G,rowG_nat he,h0,h1,Bool.true_or,sumE,sS]
    rw[show decide (0≤e∧e≤31)=true from decide_eq_true (by omega)]
    cases i with
    | zero=>
      simp only[l79_0_2,lt_t hi,rowAt_G,rowG_nat he,h0,h1,w,Bool.false_or,sumE,sS]
      rfl
    | succ j=>
      obtain⟨q,hq⟩:=getD_some (l:=l) (i:=j) (by omega)
      simp only[l79_0_2,lt_t hi,rowAt_G,rowG_nat he,h0,h1,w,gt0,w64_pred (show j<9223372036854775807 by omega),rowG_nat hq,hq,Bool.false_or,sumE,sS]
      rw[show decide (q≥e)=decide (e≤q)from rfl]
      cases decide (e≤q)<;>rfl) (fun _=>by simp only[l79_0_2,lt_f,sumE,sS])
  unfold m79
  refine bind_of _ hl ?_
  unfold setB
  cases scanB (badS l) 0 l<;>rfl
theorem set90E {l:List Int} (hn:l.length≤1000000):m90 ((l,()),())=some ((setB l,()),()):=by
  obtain⟨j,_,hl⟩:=loop_scan (f:=l90_0_2) l (fun i=>(((i:Int),l,l,(l.length:Int),()),())) (badS l) (fun _=>.inl ((false,()),())) (.inr ((),())) (fun i e he hi _=>by
    have w:=w64_nat (i:=i) (by omega)
    unfold badS
    by_cases h0:0≤e∧e≤31
    · rw[decide_eq_true h0]
      cases i with
      | zero=>
        simp only[l90_0_2,lt_t hi,rowAt_G,rowG_nat he,c85,decide_eq_true h0,w,Bool.false_or,sumE,sS]
        rfl
      | succ j=>
        obtain⟨q,hq⟩:=getD_some (l:=l) (i:=j) (by omega)
        simp only[l90_0_2,lt_t hi,rowAt_G,rowG_nat he,c85,decide_eq_true h0,w,gt0,w64_pred (show j<9223372036854775807 by omega),rowG_nat hq,hq,Bool.false_or,sumE,sS]
        cases decide (e≤q)<;>rfl
    · simp only[l90_0_2,lt_t hi,rowAt_G,rowG_nat he,c85,decide_eq_false h0,Bool.true_or,sumE,sS]) (fun _=>by simp only[l90_0_2,lt_f,sumE,sS])
  unfold m90
  refine bind_of _ hl ?_
  unfold setB
  cases scanB (badS l) 0 l<;>rfl
theorem has47E(l:List Int)(x:Int)(hn:l.length≤1000000):m47 ((l,x,()),())=some ((decide (x∈l),()),()):=by
  obtain⟨j,_,hl⟩:=loop_scan (f:=l47_0_2) l (fun i=>(((i:Int),x,l,()),())) (fun _ e=>decide (e=x)) (fun _=>.inl ((true,()),())) (.inr ((),())) (fun i e he hi _=>by
    have w:=w64_nat (i:=i) (by omega)
    by_cases h0:e=x
    · subst h0
      simp only[l47_0_2,lt_t hi,rowAt_G,rowG_nat he,sumE,sS]
    · rw[decide_eq_false h0]
      simp only[l47_0_2,lt_t hi,rowAt_G,rowG_nat he,beq_false_of_ne h0,w,sumE,sS]) (fun _=>by simp only[l47_0_2,lt_f,sumE,sS])
  unfold m47
  refine bind_of _ hl ?_
  cases hs:scanB (fun(_:Nat) e=>decide (e=x)) 0 l
  · have:x∈l:=by
      refine Classical.byContradiction fun hx=> ?_
      have:scanB (fun(_:Nat) e=>decide (e=x)) 0 l=true:=scanB_iff.2 fun j e he=>decide_eq_false fun h=>hx (h ▸ List.mem_of_getElem? he)
      rw[hs]at this;cases this
    rw[decide_eq_true this];rfl
  · have:x∉l:=fun hx=>by
      obtain⟨j,hj⟩:=List.mem_iff_getElem?.1 hx
      have:=scanB_iff.1 hs j x hj
      simp at this
    rw[decide_eq_false this];rfl
theorem idx119E(l:List Int)(x:Int)(hn:l.length≤1000000):∃j:Nat,m119 ((l,x,()),())=some ((if x∈l then(j:Int)else -1,()),()):=by
  obtain⟨j,_,hl⟩:=loop_scan (f:=l119_0_2) l (fun i=>(((i:Int),l,x,(l.length:Int),()),())) (fun _ e=>decide (x=e)) (fun i=>.inl (((i:Int),()),())) (.inr ((),())) (fun i e he hi _=>by
    have w:=w64_nat (i:=i) (by omega)
    by_cases h0:x=e
    · subst h0
      simp only[l119_0_2,lt_t hi,rowAt_G,rowG_nat he,sumE,sS]
    · rw[decide_eq_false h0]
      simp only[l119_0_2,lt_t hi,rowAt_G,rowG_nat he,beq_false_of_ne h0,w,sumE,sS]) (fun _=>by simp only[l119_0_2,lt_f,sumE,sS])
  refine⟨j,?_⟩
  unfold m119
  refine bind_of _ hl ?_
  cases hs:scanB (fun(_:Nat) e=>decide (x=e)) 0 l
  · have:x∈l:=by
      refine Classical.byContradiction fun hx=> ?_
      have:scanB (fun(_:Nat) e=>decide (x=e)) 0 l=true:=scanB_iff.2 fun j e he=>decide_eq_false fun h=>hx (h ▸ List.mem_of_getElem? he)
      rw[hs]at this;cases this
    rw[if_pos this];rfl
  · have:x∉l:=fun hx=>by
      obtain⟨j,hj⟩:=List.mem_iff_getElem?.1 hx
      have:=scanB_iff.1 hs j x hj
      simp at this
    rw[if_neg this];rfl
theorem has107E(l:List Int)(x:Int)(hn:l.length≤1000000):m107 ((l,x,()),())=some ((decide (x∈l),()),()):=by
  obtain⟨j,q⟩:=idx119E l x hn
  unfold m107
  simp only[q,sumE,sS]
  by_cases h:x∈l
  · simp only[h,if_true,show decide ((j:Int)≥0)=true from decide_eq_true (by omega),decide_true]
  · simp only[h,if_false,decide_false];rfl
theorem seen91E{l:List Int}(hn:l.length≤1000000):m91 ((l,()),())=some ((seenB l,()),()):=by
  obtain⟨j,_,hl⟩:=loop_scan (f:=l91_0_2) l (fun i=>(((i:Int),l,l,(l.length:Int),()),())) (badN l) (fun _=>.inl ((false,()),())) (.inr ((l,()),())) (fun i e he hi _=>by
    have w:=w64_nat (i:=i) (by omega)
    have q:=has107E (l.take (i:Int).toNat) e (by rw[List.length_take];omega)
    have d1:decide ((0:Int)≤(i:Int))=true:=decide_eq_true (by omega)
    have d2:decide (0≤(i:Int).toNat∧(i:Int).toNat≤l.length)=true:=decide_eq_true (by omega)
    unfold badN
    simp only[l91_0_2,lt_t hi,rowAt_G,rowG_nat he,d1,d2,q,w,sumE,sS]
    rw[Int.toNat_natCast]
    cases decide (e∈l.take i)<;>rfl) (fun _=>by simp only[l91_0_2,lt_f,sumE,sS])
  unfold m91
  refine bind_of _ hl ?_
  unfold seenB
  cases scanB (badN l) 0 l
  · rfl
  · simp only[sumE,cond_true,Bool.true_and]
    rw[show decide ((l.length:Int)≤64)=decide (l.length≤64)from decide_eq_decide.2 (by omega)]
end Go.Proofs.YtcelhemfoehedaaGreat
namespace Go.Proofs.YtcelhemfoehedaaGreat
open Go Go.Abs Go.Bnd Go.Plain
theorem scan_all{E:Type}(q:E→Bool):∀(l:List E) (i:Nat),scanB (fun _ e=> !q e) i l=l.all q
  | [],_=>rfl
  | x::r,i=>by
    unfold scanB
    rw[scan_all q r (i+1),List.all_cons,Bool.not_not]
theorem starts89E {p:PgT} (h0:0≤pNext p) (hnx:pNext p≤1000) (hl:(pSts p).length≤1000000) (hs:∀s∈pSts p,s.2.2.1.length≤1000000):m89 ((p,()),())=some ((startB p,()),()):=by
  obtain ⟨j,_,hl⟩:=loop_scan (f:=l89_0_3) (pSts p) (fun i=>(((i:Int),topK (-1) ((pSts p).take i),lastAt (pStart p) ((pSts p).take i),pSts p,((pSts p).length:Int),()),((p,()),()))) (badT p) (fun _=>.inl ((false,()),())) (.inr ((),((p,()),()))) (fun i e he hi hb=>by
    have hw:w64 ((i:Int)+1)=((i+1:Nat):Int):=w64_nat (by omega)
    have hk:=topK_ge (-1) ((pSts p).take i)
    have hk2:=topK_lt h0 i (by omega) hb
    have q:=set90E (hs e (List.mem_of_getElem? he))
    have w1:w64 (topK (-1) ((pSts p).take i)+1)=topK (-1) ((pSts p).take i)+1:=w64_id (by omega) (by omega)
    have w2:w64 (pNext p-1)=pNext p-1:=w64_id (by omega) (by omega)
    have hm:(if(e.1:Int)>topK (-1) ((pSts p).take i)then e.1 else topK (-1) ((pSts p).take i))=max (topK (-1) ((pSts p).take i)) e.1:=by split<;>omega
    rw[take_snoc he,lastAt_snoc,topK_snoc]
    unfold badT
    cases d1:decide (e.2.1<lastAt (pStart p) ((pSts p).take i))
    · cases d2:setB e.2.2.1
      · simp only[l89_0_3,lt_t hi,rowAt_G,rowG_nat he,d1,q,d2,Bool.true_or,Bool.false_or,sumE,sS]
      · by_cases d3:e.1= -1
        · have d3':(e.1 != -1)=false:=by rw[d3];rfl
          have d4:decide (e.1≠ -1)=false:=decide_eq_false (fun h=>h d3)
          simp only[l89_0_3,lt_t hi,rowAt_G,rowG_nat he,d1,q,d2,d3',d4,hm,hw,Bool.false_or,sumE,sS]
        · have d3':(e.1 != -1)=true:=bne_iff_ne.2 d3
          have d4:decide (e.1≠ -1)=true:=decide_eq_true d3
          cases d5:decide (topK (-1) ((pSts p).take i)+1≤e.1∧e.1≤pNext p-1)
          · simp only[l89_0_3,lt_t hi,rowAt_G,rowG_nat he,d1,q,d2,d3',d4,c85,w1,w2,d5,hm,hw,Bool.false_or,sumE,sS]
          · simp only[l89_0_3,lt_t hi,rowAt_G,rowG_nat he,d1,q,d2,d3',d4,c85,w1,w2,d5,hm,hw,Bool.false_or,sumE,sS]
    · simp only[l89_0_3,lt_t hi,rowAt_G,rowG_nat he,d1,Bool.true_or,sumE,sS]) (fun _=>by simp only[l89_0_3,lt_f,sumE,sS])
  unfold m89
  refine bind_of _ hl ?_
  unfold startB
  cases scanB (badT p) 0 (pSts p)
  · rfl
  · simp only[sumE,cond_true,Bool.true_and]
    rw[show decide (((pSts p).length:Int)≤200)=decide ((pSts p).length≤200)from decide_eq_decide.2 (by omega)]
theorem starts78E {p:PgT} (h0:0≤pNext p) (hnx:pNext p≤1000) (hl:(pSts p).length≤1000000) (hs:∀s∈pSts p,s.2.2.1.length≤1000000):m78 ((p,()),())=some ((startB p,()),()):=by
  obtain ⟨j,_,hl⟩:=loop_scan (f:=l78_0_3) (pSts p) (fun i=>(((i:Int),topK (-1) ((pSts p).take i),lastAt (pStart p) ((pSts p).take i),()),((p,()),()))) (badT p) (fun _=>.inl ((false,()),())) (.inr ((),((p,()),()))) (fun i e he hi hb=>by
    have hw:w64 ((i:Int)+1)=((i+1:Nat):Int):=w64_nat (by omega)
    have hk:=topK_ge (-1) ((pSts p).take i)
    have q:=set79E (hs e (List.mem_of_getElem? he))
    rw[take_snoc he,lastAt_snoc,topK_snoc]
    unfold badT
    cases d1:decide (e.2.1<lastAt (pStart p) ((pSts p).take i))
    · by_cases d3:e.1< -1
      · have d4:decide (e.1≠ -1)=true:=decide_eq_true (by omega)
        have d5:decide (topK (-1) ((pSts p).take i)+1≤e.1∧e.1≤pNext p-1)=false:=decide_eq_false (by omega)
        simp only[l78_0_3,lt_t hi,rowAt_G,rowG_nat he,d1,decide_eq_true d3,d4,d5,Bool.or_true,Bool.false_or,sumE,sS]
      · by_cases d6:e.1≥0
        · have d4:decide (e.1≠ -1)=true:=decide_eq_true (by omega)
          by_cases d7:e.1≤topK (-1) ((pSts p).take i)
          · have d5:decide (topK (-1) ((pSts p).take i)+1≤e.1∧e.1≤pNext p-1)=false:=decide_eq_false (by omega)
            simp only[l78_0_3,lt_t hi,rowAt_G,rowG_nat he,d1,decide_eq_false d3,decide_eq_true d6,decide_eq_true d7,d4,d5,Bool.or_true,Bool.false_or,sumE,sS]
          · by_cases d8:e.1≥pNext p
            · have d5:decide (topK (-1) ((pSts p).take i)+1≤e.1∧e.1≤pNext p-1)=false:=decide_eq_false (by omega)
              simp only[l78_0_3,lt_t hi,rowAt_G,rowG_nat he,d1,decide_eq_false d3,decide_eq_true d6,decide_eq_false d7,decide_eq_true d8,d4,d5,Bool.or_true,Bool.false_or,sumE,sS]
            · have d5:decide (topK (-1) ((pSts p).take i)+1≤e.1∧e.1≤pNext p-1)=true:=decide_eq_true (by omega)
              have hm:max (topK (-1) ((pSts p).take i)) e.1=e.1:=by omega
              cases d2:setB e.2.2.1
              · simp only[l78_0_3,lt_t hi,rowAt_G,rowG_nat he,d1,decide_eq_false d3,decide_eq_true d6,decide_eq_false d7,decide_eq_false d8,d4,d5,q,d2,Bool.true_or,Bool.false_or,sumE,sS]
              · simp only[l78_0_3,lt_t hi,rowAt_G,rowG_nat he,d1,decide_eq_false d3,decide_eq_true d6,decide_eq_false d7,decide_eq_false d8,d4,d5,q,d2,hm,hw,Bool.true_or,Bool.false_or,sumE,sS]
        · have d4:decide (e.1≠ -1)=false:=decide_eq_false (by omega)
          have hm:max (topK (-1) ((pSts p).take i)) e.1=topK (-1) ((pSts p).take i):=by omega
          cases d2:setB e.2.2.1
          · simp only[l78_0_3,lt_t hi,rowAt_G,rowG_nat he,d1,decide_eq_false d3,decide_eq_false d6,d4,q,d2,Bool.true_or,Bool.false_or,sumE,sS]
          · simp only[l78_0_3,lt_t hi,rowAt_G,rowG_nat he,d1,decide_eq_false d3,decide_eq_false d6,d4,q,d2,hm,hw,Bool.true_or,Bool.false_or,sumE,sS]
    · simp only[l78_0_3,lt_t hi,rowAt_G,rowG_nat he,d1,Bool.true_or,sumE,sS]) (fun _=>by simp only[l78_0_3,lt_f,sumE,sS])
  unfold m78
  refine bind_of _ hl ?_
  unfold startB
  cases scanB (badT p) 0 (pSts p)
  · rfl
  · simp only[sumE,cond_true,Bool.true_and]
    rw[show decide (((pSts p).length:Int)≤200)=decide ((pSts p).length≤200)from decide_eq_decide.2 (by omega)]
theorem waits75E{w:Pol}(hn:w.2.1.length≤1000000):m75 ((w,()),())=some ((waitsB w,()),()):=by
  obtain⟨j,_,hl⟩:=loop_scan (f:=l75_0_2) w.2.1 (fun i=>(((i:Int),()),((w,()),()))) (fun _ e=> !decide (0≤e.1∧e.1≤86400)) (fun _=>.inl ((false,()),())) (.inr ((),())) (fun i e he hi _=>by
    have hw:=w64_nat (i:=i) (by omega)
    cases d1:decide (0≤e.1∧e.1≤86400)
    · simp only[l75_0_2,lt_t hi,rowAt_G,rowG_nat he,c56,d1,sumE,sS]
    · simp only[l75_0_2,lt_t hi,rowAt_G,rowG_nat he,c56,d1,hw,sumE,sS]) (fun _=>by simp only[l75_0_2,lt_f,sumE,sS])
  rw[scan_all (fun(e:Bnd.Step)=>decide (0≤e.1∧e.1≤86400))]at hl
  unfold m75
  refine bind_of _ hl ?_
  unfold waitsB
  cases w.2.1.all fun s=>decide (0≤s.1∧s.1≤86400)<;>rfl
theorem cnt_big{w:Pol}:(decide (0≤w.2.2.1∧w.2.2.1≤8)=true→decide ((w.2.1.length:Int)>8)=false→w64 ((w.2.1.length:Int)*w64 (w.2.2.1+1))=(cntE w:Int))∧(decide (0≤w.2.2.1∧w.2.2.1≤8)=false∨decide ((w.2.1.length:Int)>8)=true→cntE w=0):=by
  constructor
  · intro h1 h2
    have h1:=of_decide_eq_true h1
    have h2:=of_decide_eq_false h2
    unfold cntE
    rw[if_pos ⟨h1,by omega⟩]
    generalize hr:w.2.2.1.toNat=r
    have hr2:w.2.2.1=(r:Int):=by omega
    have hr3:r≤8:=by omega
    have:w.2.1.length*(r+1)≤72:=Nat.le_trans (Nat.mul_le_mul (show w.2.1.length≤8 by omega) (show r+1≤9 by omega)) (by decide)
    rw[hr2,w64_id (x:=(r:Int)+1) (by omega) (by omega)]
    have e:(w.2.1.length:Int)*((r:Int)+1)=((w.2.1.length*(r+1):Nat):Int):=by rw[Int.natCast_mul];rfl
    rw[e,w64_id (by omega) (by omega)]
  · intro h
    unfold cntE
    rw[if_neg]
    rintro⟨h1,h2⟩
    rcases h with h|h
    · exact of_decide_eq_false h h1
    · have:=of_decide_eq_true h;omega
theorem cnt73E(w:Pol):m73 ((w,()),())=some (((cntE w:Int),()),()):=by
  obtain⟨k1,k2⟩:=cnt_big (w:=w)
  unfold m73
  cases d1:decide (0≤w.2.2.1∧w.2.2.1≤8)
  · have:=k2 (.inl d1)
    simp only[c56,d1,this,sumE,sS];rfl
  · cases d2:decide ((w.2.1.length:Int)>8)
    · have:=k1 d1 d2
      simp only[c56,d1,d2,this,sumE,sS]
    · have:=k2 (.inr d2)
      simp only[c56,d1,d2,this,sumE,sS];rfl
theorem cnt58E(w:Pol):m58 ((w,()),())=some (((cntE w:Int),()),()):=by
  obtain⟨k1,k2⟩:=cnt_big (w:=w)
  unfold m58
  cases d1:decide (0≤w.2.2.1∧w.2.2.1≤8)
  · have:=k2 (.inl d1)
    simp only[c84,d1,this,sumE,sS];rfl
  · cases d2:decide ((w.2.1.length:Int)>8)
    · have:=k1 d1 d2
      simp only[c84,d1,d2,this,sumE,sS]
    · have:=k2 (.inr d2)
      simp only[c84,d1,d2,this,sumE,sS];rfl
def offsW(l:List Bnd.Step)(n:Nat):List Int:=(List.range (n+1)).map (Sw l)
theorem offsW_succ(l:List Bnd.Step)(n:Nat):offsW l (n+1)=offsW l n++ [Sw l (n+1)]:=by
  unfold offsW
  rw[List.range_succ (n:=n+1),List.map_append]
  rfl
theorem offsW_len(l:List Bnd.Step)(n:Nat):(offsW l n).length=n+1:=by simp[offsW]
theorem offsW_get(l:List Bnd.Step){n k:Nat}(h:k≤n):(offsW l n)[k]?=some (Sw l k):=by
  unfold offsW
  rw[List.getElem?_map,List.getElem?_range (by omega)]
  rfl
theorem m83E{w:Pol}(hn:w.2.1.length≤1000000):m83 ((w,()),())=some ((),((if waitsB w=true then offsW w.2.1 (cntE w)else []),())):=by
  have hc:=cntE_le w
  have h1:loopT l83_0_3 ((0,(cntE w:Int),()),((w,()),([0],())))=some ((),(offsW w.2.1 (cntE w),((w,()),()))):=by
    refine drop_e (loop_ind (f:=l83_0_3) (Q:=fun b=>b=((),(offsW w.2.1 (cntE w),((w,()),())))) (fun i st=>st=(((i:Int),(cntE w:Int),()),((w,()),(offsW w.2.1 i,())))) (cntE w) ?_ ?_ _ rfl)
    · rintro i _ hi rfl
      have hpos:=cntE_pos (w:=w) (by omega)
      obtain⟨s,hg,hm,he⟩:=wt_get (l:=w.2.1) (k:=i) hpos
      have hw:w64 ((i:Int)+1)=((i+1:Nat):Int):=w64_nat (by omega)
      have hw2:w64 (Sw w.2.1 i+s.1)=Sw w.2.1 (i+1):=by rw[he];rfl
      have b0:decide ((0:Int)≤(i:Int)∧(i:Int)<(((offsW w.2.1 i).length:Nat):Int))=true:=decide_eq_true (by rw[offsW_len];omega)
      have b1:decide ((w.2.1.length:Int)≠(0:Int))=true:=decide_eq_true (by omega)
      have b2:decide ((offsW w.2.1 i).length+ [Sw w.2.1 (i+1)].length≤4294967296)=true:=decide_eq_true (by rw[offsW_len];simp;omega)
      have hx:(offsW w.2.1 i)[(i:Int).toNat]?=some (Sw w.2.1 i):=by rw[Int.toNat_natCast];exact offsW_get _ (Nat.le_refl _)
      refine⟨_,?_,rfl⟩
      rw[offsW_succ]
      simp only[l83_0_3,lt_t hi,b0,hx,b1,tmod_nat,rowAt_G,rowG_nat hg,hw2,b2,hw,sumE,sS]
    · rintro _ rfl
      refine⟨_,?_,rfl⟩
      simp only[l83_0_3,lt_f,sumE,sS]
  obtain⟨j,_,h2⟩:=loop_scan (f:=l83_0_8) w.2.1 (fun i=>(((i:Int),w.2.1,(w.2.1.length:Int),()),(offsW w.2.1 (cntE w),()))) (fun _ e=> !decide (0≤e.1∧e.1≤86400)) (fun _=>.inl ((),([],()))) (.inr ((),(offsW w.2.1 (cntE w),()))) (fun i e he hi _=>by
    have hw:=w64_nat (i:=i) (by omega)
    cases d1:decide (0≤e.1∧e.1≤86400)
    · simp only[l83_0_8,lt_t hi,rowAt_G,rowG_nat he,c84,d1,sumE,sS]
    · simp only[l83_0_8,lt_t hi,rowAt_G,rowG_nat he,c84,d1,hw,sumE,sS]) (fun _=>by simp only[l83_0_8,lt_f,sumE,sS])
  rw[scan_all (fun(e:Bnd.Step)=>decide (0≤e.1∧e.1≤86400))]at h2
  unfold m83
  simp only[cnt58E w,sumE,sS]
  refine bind_of _ h1 ?_
  refine bind_of _ h2 ?_
  unfold waitsB
  cases w.2.1.all fun s=>decide (0≤s.1∧s.1≤86400)<;>rfl
theorem m57E{w:Pol}(hn:w.2.1.length≤1000000)(k:Int):m57 ((w,k,()),())=some (((offE w k).1,(offE w k).2,()),()):=by
  have hc:=cntE_le w
  unfold m57 offE
  cases hw:waitsB w
  · have h1:w64 ((([]:List Int).length:Int)-1)= -1:=by rfl
    have d1:decide (0≤k∧k≤ -1)=false:=decide_eq_false (by omega)
    simp only[m83E hn,hw,Bool.false_eq_true,if_false,and_false,c84,h1,d1,sumE,sS]
  · simp only[m83E hn,hw,if_true,and_true,c84,sumE,sS]
    have h1:w64 ((((offsW w.2.1 (cntE w)).length:Nat):Int)-1)=(cntE w:Int):=by rw[offsW_len,w64_id (by omega) (by omega)];omega
    by_cases hk:0≤k∧k≤cntE w
    · have d1:decide (0≤k∧k≤(cntE w:Int))=true:=decide_eq_true hk
      have d2:decide ((0:Int)≤k∧k<(((offsW w.2.1 (cntE w)).length:Nat):Int))=true:=decide_eq_true (by rw[offsW_len];omega)
      have h4:(offsW w.2.1 (cntE w))[k.toNat]?=some (Sw w.2.1 k.toNat):=offsW_get _ (by omega)
      rw[if_pos hk]
      simp only[h1,d1,d2,h4,sumE,sS]
    · have d1:decide (0≤k∧k≤(cntE w:Int))=false:=decide_eq_false hk
      rw[if_neg hk]
      simp only[h1,d1,sumE,sS]
theorem m59E{w:Pol}(hn:w.2.1.length≤1000000):m59 ((w,()),())=some ((endE w,()),()):=by
  unfold m59 endE
  simp only[cnt58E w,m57E hn,sumE,sS]
end Go.Proofs.YtcelhemfoehedaaGreat
namespace Go.Proofs.YtcelhemfoehedaaGreat
open Go Go.Abs Go.Bnd Go.Plain
def timesB(p:PgT):Bool:=decide (pStart p≤pLast p∧pLast p≤17179869184)&&(decide (0≤pDue p∧pDue p≤17179869184)&&(decide (0≤pUntil p∧pUntil p≤17179869184)&&(decide (0≤pSn p∧pSn p≤4)&&decide (0≤pHd p∧pHd p≤4))))
def restB(p:PgT):Bool:=decide (0≤pState p∧pState p≤4)&&(decide (-1≤pBy p∧pBy p≤31)&&(timesB p&&(startB p&&(setB (pDec p)&&seenB (pSeen p)))))
def chkE(ps:List Pol)(p:PgT):Bool:=
  decide (1≤pId p∧pId p≤999999)&&(decide (0≤pPol p∧pPol p≤(ps.length:Int)-1)&&(decide (0≤pStart p∧pStart p≤8589934592)&&(match ps[(pPol p).toNat]? with|none=>false|some w=>waitsB w&&(decide (0≤pNext p∧pNext p≤(cntE w:Int))&&restB p))))
structure PgL(p:PgT):Prop where
  sts:(pSts p).length≤1000000
  ppl:∀s∈pSts p,s.2.2.1.length≤1000000
  dec:(pDec p).length≤1000000
  seen:(pSeen p).length≤1000000
structure BkL(ps:List Pol):Prop where
  len:ps.length≤1000000
  sts:∀w∈ps,w.2.1.length≤1000000
theorem m88E(p:PgT):m88 ((p,()),())=some ((timesB p,()),()):=by
  unfold m88 timesB
  cases h1:decide (pStart p≤pLast p∧pLast p≤17179869184)
  · simp only[c85,h1,sumE,sS]
  cases h2:decide (0≤pDue p∧pDue p≤17179869184)
  · simp only[c85,h1,h2,sumE,sS]
  cases h3:decide (0≤pUntil p∧pUntil p≤17179869184)
  · simp only[c85,h1,h2,h3,sumE,sS]
  cases h4:decide (0≤pSn p∧pSn p≤4)
  · simp only[c85,h1,h2,h3,h4,sumE,sS]
  simp only[c85,h1,h2,h3,h4,sumE,sS]
theorem loop60E{w:Pol}(hn:w.2.1.length≤1000000):∃j:Nat,loopT l60_2_2 ((0,w.2.1,(w.2.1.length:Int),()),())=some (bif waitsB w then .inr ((),())else .inl (((j:Int),()),())):=by
  obtain⟨j,_,hl⟩:=loop_scan (f:=l60_2_2) w.2.1 (fun i=>(((i:Int),w.2.1,(w.2.1.length:Int),()),())) (fun _ e=> !decide (0≤e.1∧e.1≤86400)) (fun i=>.inl (((i:Int),()),())) (.inr ((),())) (fun i e he hi _=>by
    have hw:=w64_nat (i:=i) (by omega)
    cases d1:decide (0≤e.1∧e.1≤86400)
    · simp only[l60_2_2,lt_t hi,rowAt_G,rowG_nat he,m87,c85,d1,sumE,sS]
    · simp only[l60_2_2,lt_t hi,rowAt_G,rowG_nat he,m87,c85,d1,hw,sumE,sS]) (fun _=>by simp only[l60_2_2,lt_f,sumE,sS])
  rw[scan_all (fun(e:Bnd.Step)=>decide (0≤e.1∧e.1≤86400))]at hl
  exact⟨j,hl⟩
theorem chk60E{b1:List Team}{ps:List Pol}(hb:BkL ps){p:PgT}(hp:PgL p):m60 (((b1,ps,()),p,()),())=some ((chkE ps p,()),()):=by
  have w:w64 ((ps.length:Int)-1)=ps.length-1:=by have:=hb.len;exact w64_id (by omega) (by omega)
  unfold m60 chkE
  cases a1:decide (1≤pId p∧pId p≤999999)
  · simp only[c85,a1,sumE,sS]
  cases a2:decide (0≤pPol p∧pPol p≤(ps.length:Int)-1)
  · simp only[c85,a1,a2,w,sumE,sS]
  cases a3:decide (0≤pStart p∧pStart p≤8589934592)
  · simp only[c85,a1,a2,a3,w,sumE,sS]
  have h2:=of_decide_eq_true a2
  obtain⟨v,hv⟩:=getD_some (l:=ps) (i:=(pPol p).toNat) (by omega)
  have hvl:=hb.sts v (List.mem_of_getElem? hv)
  obtain⟨j,q⟩:=loop60E hvl
  have hj:decide ((j:Int)≥0)=true:=decide_eq_true (by omega)
  simp only[c85,a1,a2,a3,w,rowAt_G,rowG_int h2.1 hv,hv,q,sumE,sS]
  cases a4:waitsB v
  · simp only[sumE,hj,sumE,sS]
  cases a5:decide (0≤pNext p∧pNext p≤(cntE v:Int))
  · simp only[cnt58E,c85,a5,sumE,sS]
  have h5:=of_decide_eq_true a5
  have:=cntE_le v
  have q89:=starts89E (p:=p) h5.1 (by omega) hp.sts hp.ppl
  unfold restB
  cases a6:decide (0≤pState p∧pState p≤4)
  · simp only[cnt58E,c85,a5,a6,sumE,sS]
  cases a7:decide (-1≤pBy p∧pBy p≤31)
  · simp only[cnt58E,c85,a5,a6,a7,sumE,sS]
  cases a8:timesB p
  · simp only[cnt58E,c85,a5,a6,a7,m88E,a8,sumE,sS]
  cases a9:startB p
  · simp only[cnt58E,c85,a5,a6,a7,m88E,a8,q89,a9,sumE,sS]
  cases a10:setB (pDec p)
  · simp only[cnt58E,c85,a5,a6,a7,m88E,a8,q89,a9,set90E hp.dec,a10,sumE,sS]
  simp only[cnt58E,c85,a5,a6,a7,m88E,a8,q89,a9,set90E hp.dec,a10,seen91E hp.seen,sumE,sS]
theorem new20E{b1:List Team}{ps:List Pol}(hb:BkL ps)(id pol st:Int):∃(e:Int) (r:_),m20 (((b1,ps,()),id,pol,st,()),())=some ((e,()),r)∧(e !=0)= !(decide (1≤id∧id≤999999)&&(decide (0≤pol∧pol≤(ps.length:Int)-1)&&decide (0≤st∧st≤8589934592))):=by
  have w:w64 ((ps.length:Int)-1)=ps.length-1:=by have:=hb.len;exact w64_id (by omega) (by omega)
  unfold m20
  cases a1:decide (1≤id∧id≤999999)
  · simp only[c56,a1,w,sumE,sS]
    exact⟨_,_,rfl,rfl⟩
  cases a3:decide (0≤st∧st≤8589934592)
  · simp only[c56,a1,a3,w,sumE,sS]
    exact⟨_,_,rfl,rfl⟩
  cases a2:decide (0≤pol∧pol≤(ps.length:Int)-1)
  · simp only[c56,a1,a2,a3,w,sumE,sS]
    exact⟨_,_,rfl,rfl⟩
  · simp only[c56,a1,a2,a3,w,sumE,sS]
    exact⟨_,_,rfl,rfl⟩
end Go.Proofs.YtcelhemfoehedaaGreat
namespace Go.Proofs.YtcelhemfoehedaaGreat
open Go Go.Abs Go.Bnd Go.Plain
theorem loop43E{p:PgT}(hn:(pSeen p).length≤1000000):loopT l43_0_9 ((0,()),((p,()),()))=some (bif scanB (badN (pSeen p)) 0 (pSeen p)then .inr ((),())else .inl ((false,()),())):=by
  obtain⟨j,_,hl⟩:=loop_scan (f:=l43_0_9) (pSeen p) (fun i=>(((i:Int),()),((p,()),()))) (badN (pSeen p)) (fun _=>.inl ((false,()),())) (.inr ((),())) (fun i e he hi _=>by
    have w:=w64_nat (i:=i) (by omega)
    have q:=has47E ((pSeen p).take (i:Int).toNat) e (by rw[List.length_take];omega)
    have d1:decide ((0:Int)≤(i:Int))=true:=decide_eq_true (by omega)
    have d2:decide (0≤(i:Int).toNat∧(i:Int).toNat≤(pSeen p).length)=true:=decide_eq_true (by omega)
    unfold badN
    simp only[l43_0_9,lt_t hi,rowAt_G,rowG_nat he,d1,d2,q,w,sumE,sS]
    rw[Int.toNat_natCast]
    cases decide (e∈(pSeen p).take i)<;>rfl) (fun _=>by simp only[l43_0_9,lt_f,sumE,sS])
  exact hl
theorem chk43E{b1:List Team}{ps:List Pol}(hb:BkL ps){p:PgT}(hp:PgL p):m43 (((b1,ps,()),p,()),())=some ((chkE ps p,()),()):=by
  obtain⟨e,r,q,hq⟩:=new20E (b1:=b1) hb (pId p) (pPol p) (pStart p)
  unfold m43 chkE
  simp only[q,hq,sumE,sS]
  cases a1:decide (1≤pId p∧pId p≤999999)
  · simp only[a1,sumE,sS]
  cases a2:decide (0≤pPol p∧pPol p≤(ps.length:Int)-1)
  · simp only[a1,a2,sumE,sS]
  cases a3:decide (0≤pStart p∧pStart p≤8589934592)
  · simp only[a1,a2,a3,sumE,sS]
  have h2:=of_decide_eq_true a2
  obtain⟨v,hv⟩:=getD_some (l:=ps) (i:=(pPol p).toNat) (by omega)
  have hvl:=hb.sts v (List.mem_of_getElem? hv)
  simp only[rowAt_G,rowG_int h2.1 hv,hv,waits75E hvl,cnt73E,c56,sumE,sS]
  cases a4:waitsB v
  · simp only[a1,a2,a3,a4,sumE,sS]
  cases a5:decide (0≤pNext p∧pNext p≤(cntE v:Int))
  · simp only[a1,a2,a3,a4,a5,sumE,sS]
  have h5:=of_decide_eq_true a5
  have:=cntE_le v
  have q78:=starts78E (p:=p) h5.1 (by omega) hp.sts hp.ppl
  unfold restB timesB
  cases a6:decide (0≤pState p∧pState p≤4)
  · simp only[a1,a2,a3,a4,a5,a6,sumE,sS]
  cases a7:decide (-1≤pBy p∧pBy p≤31)
  · simp only[a1,a2,a3,a4,a5,a6,a7,sumE,sS]
  cases a8:decide (pStart p≤pLast p∧pLast p≤17179869184)
  · simp only[a1,a2,a3,a4,a5,a6,a7,a8,sumE,sS]
  cases a9:decide (0≤pDue p∧pDue p≤17179869184)
  · simp only[a1,a2,a3,a4,a5,a6,a7,a8,a9,sumE,sS]
  cases a10:decide (0≤pUntil p∧pUntil p≤17179869184)
  · simp only[a1,a2,a3,a4,a5,a6,a7,a8,a9,a10,sumE,sS]
  cases a11:decide (0≤pSn p∧pSn p≤4)
  · simp only[a1,a2,a3,a4,a5,a6,a7,a8,a9,a10,a11,sumE,sS]
  cases a12:decide (0≤pHd p∧pHd p≤4)
  · simp only[a1,a2,a3,a4,a5,a6,a7,a8,a9,a10,a11,a12,sumE,sS]
  cases a13:startB p
  · simp only[a1,a2,a3,a4,a5,a6,a7,a8,a9,a10,a11,a12,a13,q78,a13,sumE,sS]
  cases a14:setB (pDec p)
  · simp only[a1,a2,a3,a4,a5,a6,a7,a8,a9,a10,a11,a12,a13,a14,q78,a13,set79E hp.dec,a14,sumE,sS]
  unfold seenB
  by_cases a15:(pSeen p).length≤64
  · have d:decide (((pSeen p).length:Int)>64)=false:=decide_eq_false (by omega)
    simp only[a1,a2,a3,a4,a5,a6,a7,a8,a9,a10,a11,a12,a13,a14,q78,set79E hp.dec,d,a15,sumE,sS]
    refine bind_of _ (loop43E hp.seen) ?_
    cases scanB (badN (pSeen p)) 0 (pSeen p)<;>rfl
  · have d:decide (((pSeen p).length:Int)>64)=true:=decide_eq_true (by omega)
    simp only[a1,a2,a3,a4,a5,a6,a7,a8,a9,a10,a11,a12,a13,a14,q78,set79E hp.dec,d,a15,sumE,sS]
def lftE(ps:List Pol)(p:PgT):Int:=match ps[(pPol p).toNat]? with|none=>0|some w=>endE w-(offE w (pNext p)).1
theorem chk_facts{ps:List Pol}{p:PgT}(h:chkE ps p=true):∃w,ps[(pPol p).toNat]?=some w∧0≤pPol p∧waitsB w=true∧(0≤pNext p∧pNext p≤(cntE w:Int))∧restB p=true:=by
  unfold chkE at h
  simp only[Bool.and_eq_true,decide_eq_true_eq]at h
  obtain⟨_,h2,_,h4⟩:=h
  cases hv:ps[(pPol p).toNat]? with
  |none=>rw[hv]at h4;cases h4
  | some w=>
    rw[hv]at h4
    simp only[Bool.and_eq_true,decide_eq_true_eq]at h4
    exact⟨w,rfl,h2.1,h4.1,h4.2.1,h4.2.2⟩
theorem off_le{w:Pol}(hw:waitsB w=true){k:Int}(hk:0≤k∧k≤(cntE w:Int)):offE w k=(Sw w.2.1 k.toNat,true)∧0≤Sw w.2.1 k.toNat∧Sw w.2.1 k.toNat≤6220800:=by
  have hc:=cntE_le w
  refine⟨if_pos ⟨hk,hw⟩,?_⟩
  by_cases h0:k.toNat=0
  · rw[h0];exact⟨by show(0:Int)≤0;omega,by show(0:Int)≤6220800;omega⟩
  · have:=Sw_le hw (cntE_pos (w:=w) (by omega)) k.toNat (by omega)
    omega
theorem end_le{w:Pol}(hw:waitsB w=true):endE w=Sw w.2.1 (cntE w)∧0≤endE w∧endE w≤6220800:=by
  obtain⟨h1,h2,h3⟩:=off_le hw (k:=(cntE w:Int)) (by omega)
  have e:endE w=Sw w.2.1 (cntE w):=by unfold endE;rw[h1,Int.toNat_natCast]
  rw[Int.toNat_natCast]at h2 h3
  rw[e]
  exact⟨rfl,h2,h3⟩
theorem lft_le{ps:List Pol}{p:PgT}(h:chkE ps p=true): -6220800≤lftE ps p∧lftE ps p≤6220800:=by
  obtain⟨w,hv,_,hw,hn,_⟩:=chk_facts h
  obtain⟨h1,h2,h3⟩:=off_le hw hn
  obtain⟨e1,e2,e3⟩:=end_le hw
  unfold lftE
  rw[hv]
  simp only[h1]
  omega
theorem m32E{b1:List Team}{ps:List Pol}(hb:BkL ps){p:PgT}(hp:PgL p):m32 (((b1,ps,()),p,()),())=some ((if chkE ps p=true then lftE ps p else 0,chkE ps p,()),()):=by
  unfold m32
  simp only[chk60E hb hp,sumE,sS]
  cases a:chkE ps p
  · simp only[Bool.false_eq_true,if_false,sumE,sS]
  obtain⟨w,hv,h0,hw,hn,_⟩:=chk_facts a
  obtain⟨h1,h2,h3⟩:=off_le hw hn
  obtain⟨e1,e2,e3⟩:=end_le hw
  have hvl:=hb.sts w (List.mem_of_getElem? hv)
  have w1:w64 (0-Sw w.2.1 (pNext p).toNat)= -Sw w.2.1 (pNext p).toNat:=by rw[w64_id (by omega) (by omega)];omega
  have q:=m52_two (a:=endE w) (b:= -Sw w.2.1 (pNext p).toNat) (by omega) (by omega)
  simp only[rowAt_G,rowG_int h0 hv,m57E hvl,m59E hvl,h1,w1,q,lftE,hv,if_true,sumE,sS]
  rfl
def dueB(p:PgT):Bool:=decide (pState p=0)||decide (pState p=2)
theorem m51E(p:PgT):m51 ((p,()),())=some ((if dueB p=true then dueP p else 0,dueB p,()),()):=by
  unfold m51 dueB dueP
  by_cases h0:pState p=0
  · have e:(pState p==0)=true:=beq_iff_eq.2 h0
    simp only[e,h0,decide_true,Bool.true_or,if_true,sumE,sS]
  · have e:(pState p==0)=false:=beq_false_of_ne h0
    by_cases h2:pState p=2
    · have e2:(pState p==2)=true:=beq_iff_eq.2 h2
      simp only[e,e2,h0,h2,decide_true,decide_false,Bool.or_true,if_true,if_false,sumE,sS]
      rfl
    · have e2:(pState p==2)=false:=beq_false_of_ne h2
      simp only[e,e2,h0,h2,decide_false,Bool.or_false,Bool.false_eq_true,if_false,sumE,sS]
theorem m45_51(p:PgT):m45 ((p,()),())=m51 ((p,()),()):=rfl
def latE(ps:List Pol)(p:PgT):Int:=if chkE ps p=true then(if dueB p=true then dueP p+lftE ps p else pLast p)else 0
theorem due_le{p:PgT}(h:restB p=true):0≤dueP p∧dueP p≤17179869184:=by
  unfold restB timesB at h
  simp only[Bool.and_eq_true,decide_eq_true_eq]at h
  unfold dueP
  split<;>omega
theorem m17E{b1:List Team}{ps:List Pol}(hb:BkL ps){p:PgT}(hp:PgL p):m17 (((b1,ps,()),p,()),())=some ((latE ps p,chkE ps p,()),()):=by
  unfold m17 latE
  simp only[m32E hb hp,m51E,sumE,sS]
  cases a:chkE ps p
  · simp only[Bool.false_eq_true,if_false,sumE,sS]
  cases a2:dueB p
  · simp only[Bool.false_eq_true,if_false,if_true,sumE,sS]
  obtain⟨_,_,_,_,_,hr⟩:=chk_facts a
  have h1:=due_le hr
  have h2:=lft_le a
  have q:=m52_two (a:=dueP p) (b:=lftE ps p) (by omega) (by omega)
  simp only[q,if_true,sumE,sS]
end Go.Proofs.YtcelhemfoehedaaGreat
namespace Go.Proofs.YtcelhemfoehedaaGreat
open Go Go.Abs Go.Bnd Go.Plain
theorem loop_find {A B E:Type} {f:A→Option (A⊕B)} (l:List E) (st:Nat→A) (bad:E→Bool) (no:E→B) (yes:B)
    (h1:∀i e,l[i]?=some e→i<l.length→f (st i)=some (bif bad e then .inr (no e)else .inl (st (i+1)))) (h2:f (st l.length)=some (.inr yes)):
    loopT f (st 0)=some (match l.find? bad with|some e=>no e|none=>yes):=by
  have key:∀(k i:Nat),i+k=l.length→loopT f (st i)=some (match(l.drop i).find? bad with|some e=>no e|none=>yes):=by
    intro k
    induction k with
    | zero=>
      intro i h
      obtain rfl:i=l.length:=by omega
      rw[List.drop_length]
      exact loopT_inr h2
    | succ k ih=>
      intro i h
      obtain⟨e,he,hd⟩:=drop_at (l:=l) (i:=i) (by omega)
      have q:=h1 i e he (by omega)
      rw[hd,List.find?_cons]
      cases hx:bad e
      · rw[hx]at q
        exact(loopT_inl q).trans (ih (i+1) (by omega))
      · rw[hx]at q
        exact loopT_inr q
  have:=key l.length 0 (by omega)
  rwa [List.drop_zero]at this
theorem m97E(c:ChE):m97 ((c,()),())=some ((vch c,()),()):=by
  unfold m97 vch
  cases a1:decide (0≤c.1∧c.1≤2)
  · simp only[c110,a1,sumE,sS]
  cases a2:decide (0≤c.2.1∧c.2.1≤3600)
  · simp only[c110,a1,a2,sumE,sS]
  cases a3:decide (1≤c.2.2.1∧c.2.2.1≤6)
  · simp only[c110,a1,a2,a3,sumE,sS]
  simp only[c110,a1,a2,a3,sumE,sS]
theorem m98E{c:ChE}(h:vch c=true):m98 ((c,()),())=some ((wst c,()),()):=by
  obtain⟨h1,h2,h3,h4⟩:=wst_le h
  have hv:=h
  unfold vch at hv
  simp only[Bool.and_eq_true,decide_eq_true_eq]at hv
  have w1:w64 (c.2.2.1-1)=c.2.2.1-1:=w64_id (by omega) (by omega)
  have w2:w64 ((c.2.2.1-1)*c.2.2.2.1)=(c.2.2.1-1)*c.2.2.2.1:=w64_id (by omega) (by omega)
  have w3:w64 ((c.2.2.1-1)*c.2.2.2.1+c.2.1)=(c.2.2.1-1)*c.2.2.2.1+c.2.1:=w64_id (by unfold wst at h3;omega) (by unfold wst at h4;omega)
  unfold m98
  simp only[m97E,h,w1,w2,w3,sumE,sS]
  rfl
theorem m68E{f:PfE}(hn:f.2.1.length≤1000000):m68 ((f,()),())=some ((vpf f,()),()):=by
  obtain⟨j,_,hl⟩:=loop_scan (f:=l68_2_2) f.2.1 (fun i=>(((i:Int),f.2.1,(f.2.1.length:Int),()),())) (fun _ e=> !vch e) (fun i=>.inl (((i:Int),()),())) (.inr ((),())) (fun i e he hi _=>by
    have hw:=w64_nat (i:=i) (by omega)
    cases d1:vch e
    · simp only[l68_2_2,lt_t hi,rowAt_G,rowG_nat he,m96,m97E,d1,sumE,sS]
    · simp only[l68_2_2,lt_t hi,rowAt_G,rowG_nat he,m96,m97E,d1,hw,sumE,sS]) (fun _=>by simp only[l68_2_2,lt_f,sumE,sS])
  rw[scan_all vch]at hl
  have q94:m94 ((f.1,()),())=some ((decide (0≤f.1∧f.1≤31),()),()):=by unfold m94;simp only[c108,sumE,sS]
  have hj:decide ((j:Int)≥0)=true:=decide_eq_true (by omega)
  have hl':loopT l68_2_2 ((0,f.2.1,(f.2.1.length:Int),()),())=_:=hl
  unfold m68 vpf
  cases a1:decide (0≤f.1∧f.1≤31)
  · simp only[q94,a1,sumE,sS]
  have e4:decide ((f.2.1.length:Int)≤4)=decide (f.2.1.length≤4):=decide_eq_decide.2 (by omega)
  cases a2:decide (f.2.1.length≤4)
  · simp only[q94,a1,e4,a2,sumE,sS]
  cases a3:f.2.1.all vch
  · simp only[q94,a1,e4,a2,hl',a3,hj,sumE,sumE,sS]
  · simp only[q94,a1,e4,a2,hl',a3,sumE,sumE,sS]
theorem m69E{f:PfE}(h:vpf f=true):m69 ((f,()),())=some ((bdE f,()),()):=by
  have hv:=h
  unfold vpf at hv
  simp only[Bool.and_eq_true,decide_eq_true_eq,List.all_eq_true]at hv
  have q68:=m68E (f:=f) (by omega)
  rw[h]at q68
  have hl:=loop_list0 (f:=l69_0_3) f.2.1 (fun i (s:Int)=>(((i:Int),s,f.2.1,(f.2.1.length:Int),()),((f,()),()))) (fun _ s e=>.inl (max s (wst e))) (fun s=>((s,()),())) (fun i e s he hi=>by
    have q:=m98E (hv.2.2 e (List.mem_of_getElem? he))
    have w:=w64_nat (i:=i) (by omega)
    simp only[l69_0_3,lt_t hi,rowAt_G,rowG_nat he,q68,q,w,max_if',sumE,sS]) (fun s=>by simp only[l69_0_3,lt_f,sumE,sS]) 0
  rw[runL_fold]at hl
  unfold m69
  refine bind_of _ hl ?_
  rfl
structure PsL(l:List PfE):Prop where
  len:l.length≤1000000
  chs:∀f∈l,f.2.1.length≤1000000
theorem m29E{l:List PfE}(h:PsL l)(k:Int):m29 ((l,k,()),())=some (((persE l k).1,(persE l k).2,()),()):=by
  have hl:=loop_find (f:=l29_0_2) l (fun i=>(((i:Int),k,l,(l.length:Int),()),())) (fun f=>decide (f.1=k)&&vpf f) (fun f=>.inl ((bdE f,true,()),())) (.inr ((),())) (fun i e he hi=>by
    have hw:=w64_nat (i:=i) (by have:=h.len;omega)
    have q68:=m68E (h.chs e (List.mem_of_getElem? he))
    by_cases hk:e.1=k
    · have hk':(e.1==k)=true:=beq_iff_eq.2 hk
      have hk2:decide (e.1=k)=true:=decide_eq_true hk
      cases hv:vpf e
      · simp only[l29_0_2,lt_t hi,rowAt_G,rowG_nat he,hk',hk2,q68,hv,hw,sumE,sS]
      · simp only[l29_0_2,lt_t hi,rowAt_G,rowG_nat he,hk',hk2,q68,hv,m69E hv,sumE,sS]
    · have hk':(e.1==k)=false:=beq_false_of_ne hk
      have hk2:decide (e.1=k)=false:=decide_eq_false hk
      simp only[l29_0_2,lt_t hi,rowAt_G,rowG_nat he,hk',hk2,hw,sumE,sS]) (by simp only[l29_0_2,lt_f,sumE,sS])
  unfold m29
  refine bind_of _ hl ?_
  unfold persE
  cases l.find? fun f=>decide (f.1=k)&&vpf f<;>rfl
theorem m52_any{a b:Int}(ha: -9223372036854775808≤a∧a≤9223372036854775807):m52 (([a,b],()),())=some ((w64 (a+b),()),()):=by
  have w1:w64 (0+a)=a:=by rw[Int.zero_add];exact w64_id (by omega) (by omega)
  have s0:l52_0_3 ((0,0,[a,b],2,()),())=some (.inl ((1,a,[a,b],2,()),())):=by
    have:l52_0_3 ((0,0,[a,b],2,()),())=some (.inl ((1,w64 (0+a),[a,b],2,()),())):=rfl
    rw[this,w1]
  have s1:l52_0_3 ((1,a,[a,b],2,()),())=some (.inl ((2,w64 (a+b),[a,b],2,()),())):=rfl
  have s2:l52_0_3 ((2,w64 (a+b),[a,b],2,()),())=some (.inr ((w64 (a+b),()),())):=rfl
  unfold m52
  refine bind_of _ ((loopT_inl s0).trans ((loopT_inl s1).trans (loopT_inr s2))) ?_
  rfl
theorem reachP_eq(l:List PfE)(a m x:Int):reachP l a m x=if(persE l x).2=true then max m (w64 (a+(persE l x).1))else m:=rfl
theorem m25E{b1:List Team}{ps:List Pol}(hb:BkL ps){l:List PfE}(h:PsL l){p:PgT}(hp:PgL p)(ha:∀s∈pSts p,-9223372036854775808≤s.2.1∧s.2.1≤9223372036854775807):
    m25 (((b1,ps,()),l,p,()),())=some ((reachE (chkE ps p) l p,()),()):=by
  have inner:∀s∈pSts p,∀(m:Int) (a1 a2:Int),loopT l25_0_8 ((0,m,l,s.2.2.1,pSts p,a1,a2,(s.2.2.1.length:Int),()),((s,()),()))=some ((reachS l m s,l,pSts p,a1,a2,()),()):=fun s hs m a1 a2=>by
    have hl:=loop_list0 (f:=l25_0_8) s.2.2.1 (fun i (m:Int)=>(((i:Int),m,l,s.2.2.1,pSts p,a1,a2,(s.2.2.1.length:Int),()),((s,()),()))) (fun _ m e=>.inl (reachP l s.2.1 m e)) (fun m=>((m,l,pSts p,a1,a2,()),())) (fun i e m he hi=>by
      have hn:=hp.ppl s hs
      have hw:=w64_nat (i:=i) (by omega)
      simp only[l25_0_8,lt_t hi,rowAt_G,rowG_nat he,m29E h,reachP_eq,sumE,sS]
      cases hq:(persE l e).2
      · simp only[hw,Bool.false_eq_true,if_false,sumE,sS]
      · simp only[m52_any (ha s hs),hw,max_if',if_true,sumE,sS]) (fun m=>by simp only[l25_0_8,lt_f,sumE,sS]) m
    rw[runL_fold]at hl
    exact hl
  have hl:=loop_list0 (f:=l25_0_5) (pSts p) (fun i (m:Int)=>((m,l,(i:Int),pSts p,((pSts p).length:Int),()),())) (fun _ m s=>.inl (reachS l m s)) (fun m=>((m,()),())) (fun i s m he hi=>by
    have hn:=hp.sts
    have hw:=w64_nat (i:=i) (by omega)
    have q:=inner s (List.mem_of_getElem? he) m
    simp only[l25_0_5,lt_t hi,rowAt_G,rowG_nat he,q,hw,sumE,sS]) (fun m=>by simp only[l25_0_5,lt_f,sumE,sS]) 0
  rw[runL_fold]at hl
  unfold m25 reachE
  simp only[chk60E hb hp,sumE,sS]
  cases a:chkE ps p
  · simp only[Bool.false_eq_true,if_false,sumE,sS]
  · simp only[if_true,sumE,sS]
    exact bind_of _ hl rfl
end Go.Proofs.YtcelhemfoehedaaGreat
namespace Go.Proofs.YtcelhemfoehedaaGreat
open Go Go.Abs Go.Bnd Go.Plain
theorem m62E(c:ChE):m62 ((c,()),())=some ((vch c,()),()):=by
  unfold m62 vch
  cases a1:decide (0≤c.1∧c.1≤2)
  · simp only[c56,a1,sumE,sS]
  cases a2:decide (0≤c.2.1∧c.2.1≤3600)
  · simp only[c56,a1,a2,sumE,sS]
  cases a3:decide (1≤c.2.2.1∧c.2.2.1≤6)
  · simp only[c56,a1,a2,a3,sumE,sS]
  simp only[c56,a1,a2,a3,sumE,sS]
theorem m76E{f:PfE}(hn:f.2.1.length≤1000000):m76 ((f,()),())=some ((vpf f,()),()):=by
  obtain⟨j,_,hl⟩:=loop_scan (f:=l76_0_4) f.2.1 (fun i=>(((i:Int),()),((f,()),()))) (fun _ e=> !vch e) (fun _=>.inl ((false,()),())) (.inr ((),())) (fun i e he hi _=>by
    have hw:=w64_nat (i:=i) (by omega)
    cases d1:vch e
    · simp only[l76_0_4,lt_t hi,rowAt_G,rowG_nat he,m62E,d1,sumE,sS]
    · simp only[l76_0_4,lt_t hi,rowAt_G,rowG_nat he,m62E,d1,hw,sumE,sS]) (fun _=>by simp only[l76_0_4,lt_f,sumE,sS])
  rw[scan_all vch]at hl
  have hl':loopT l76_0_4 ((0,()),((f,()),()))=_:=hl
  unfold m76 vpf
  cases a1:decide (0≤f.1∧f.1≤31)
  · simp only[c56,a1,sumE,sS]
  have e4:decide ((f.2.1.length:Int)>4)= !decide (f.2.1.length≤4):=by
    by_cases h:f.2.1.length≤4
    · rw[decide_eq_true h,decide_eq_false (by omega)];rfl
    · rw[decide_eq_false h,decide_eq_true (by omega)];rfl
  cases a2:decide (f.2.1.length≤4)
  · simp only[c56,a1,e4,a2,sumE,sS]
  cases a3:f.2.1.all vch
  · simp only[c56,a1,e4,a2,hl',a3,sumE,sumE,sS]
  · simp only[c56,a1,e4,a2,hl',a3,sumE,sumE,sS]
end Go.Proofs.YtcelhemfoehedaaGreat
namespace Go.Proofs.YtcelhemfoehedaaGreat
open Go Go.Abs Go.Bnd Go.Plain
theorem m72E{w:Pol}(hn:w.2.1.length≤1000000)(k:Int):m72 ((w,k,()),())=some (((offE w k).1,(offE w k).2,()),()):=by
  have hc:=cntE_le w
  unfold m72 offE
  by_cases h0:k<0
  · rw[if_neg (by omega)]
    simp only[decide_eq_true h0,sumE,sS]
  by_cases h1:k>cntE w
  · rw[if_neg (by omega)]
    simp only[decide_eq_false h0,cnt73E,decide_eq_true h1,sumE,sS]
  cases hw:waitsB w
  · rw[if_neg (by simp)]
    simp only[decide_eq_false h0,cnt73E,decide_eq_false h1,waits75E hn,hw,sumE,sS]
  rw[if_pos ⟨by omega,rfl⟩]
  obtain⟨q,rfl⟩:=Int.eq_ofNat_of_zero_le (show 0≤k by omega)
  have hl:loopT l72_0_5 ((0,0,(q:Int),()),((w,()),()))=some ((Sw w.2.1 q,()),()):=by
    refine drop_e (loop_ind (f:=l72_0_5) (Q:=fun b=>b=((Sw w.2.1 q,()),())) (fun i st=>st=(((i:Int),Sw w.2.1 i,(q:Int),()),((w,()),()))) q ?_ ?_ _ rfl)
    · rintro i _ hi rfl
      have hpos:=cntE_pos (w:=w) (by omega)
      obtain⟨s,hg,hm,he⟩:=wt_get (l:=w.2.1) (k:=i) hpos
      have hw1:w64 ((i:Int)+1)=((i+1:Nat):Int):=w64_nat (by omega)
      have hw2:w64 (Sw w.2.1 i+s.1)=Sw w.2.1 (i+1):=by rw[he];rfl
      have b1:decide ((w.2.1.length:Int)≠(0:Int))=true:=decide_eq_true (by omega)
      refine⟨_,?_,rfl⟩
      simp only[l72_0_5,lt_t hi,b1,tmod_nat,rowAt_G,rowG_nat hg,hw2,hw1,sumE,sS]
    · rintro _ rfl
      refine⟨_,?_,rfl⟩
      simp only[l72_0_5,lt_f,sumE,sS]
  simp only[decide_eq_false h0,cnt73E,decide_eq_false h1,waits75E hn,hw,sumE,sS]
  exact bind_of _ hl rfl
theorem m74E{w:Pol}(hn:w.2.1.length≤1000000):m74 ((w,()),())=some ((endE w,()),()):=by
  unfold m74 endE
  simp only[cnt73E,m72E hn,sumE,sS]
theorem m38E{w:Pol}(hn:w.2.1.length≤1000000):m38 ((w,()),())=some ((endE w,()),()):=by
  unfold m38
  simp only[m74E hn,sumE,sS]
theorem m37E{w:Pol}(hn:w.2.1.length≤1000000):m37 ((w,()),())=some ((endE w,()),()):=by
  unfold m37
  simp only[m59E hn,sumE,sS]
theorem m52_3{a:Int}(ha: -9223372036854775808≤a∧a≤9223372036854775807):m52 (([a,345600,2400],()),())=some ((w64 (w64 (a+345600)+2400),()),()):=by
  have w1:w64 (0+a)=a:=by rw[Int.zero_add];exact w64_id (by omega) (by omega)
  have s0:l52_0_3 ((0,0,[a,345600,2400],3,()),())=some (.inl ((1,a,[a,345600,2400],3,()),())):=by
    have:l52_0_3 ((0,0,[a,345600,2400],3,()),())=some (.inl ((1,w64 (0+a),[a,345600,2400],3,()),())):=rfl
    rw[this,w1]
  have s1:l52_0_3 ((1,a,[a,345600,2400],3,()),())=some (.inl ((2,w64 (a+345600),[a,345600,2400],3,()),())):=rfl
  have s2:l52_0_3 ((2,w64 (a+345600),[a,345600,2400],3,()),())=some (.inl ((3,w64 (w64 (a+345600)+2400),[a,345600,2400],3,()),())):=rfl
  have s3:l52_0_3 ((3,w64 (w64 (a+345600)+2400),[a,345600,2400],3,()),())=some (.inr ((w64 (w64 (a+345600)+2400),()),())):=rfl
  unfold m52
  refine bind_of _ ((loopT_inl s0).trans ((loopT_inl s1).trans ((loopT_inl s2).trans (loopT_inr s3)))) ?_
  rfl
theorem m39E{w:Pol}(hn:w.2.1.length≤1000000):m39 ((w,()),())=some ((worstE w,()),()):=by
  unfold m39 worstE
  by_cases h0:cntE w=0
  · have e:(((cntE w:Nat):Int)==0)=true:=beq_iff_eq.2 (by omega)
    rw[if_pos (.inl h0)]
    simp only[cnt73E,e,sumE,sS]
  have e:(((cntE w:Nat):Int)==0)=false:=beq_false_of_ne (by omega)
  cases hw:waitsB w
  · rw[if_pos (.inr rfl)]
    simp only[cnt73E,e,waits75E hn,hw,sumE,sS]
  · rw[if_neg (by simp[h0])]
    simp only[cnt73E,e,waits75E hn,hw,m74E hn,sumE,sS]
theorem m21E{w:Pol}(hn:w.2.1.length≤1000000):m21 ((w,()),())=some ((worstE w,()),()):=by
  unfold m21 worstE
  have q:(offE w 0).2=waitsB w:=by
    unfold offE
    cases waitsB w
    · rw[if_neg (by simp)]
    · rw[if_pos ⟨by omega,rfl⟩]
  by_cases h0:cntE w=0
  · have e:(((cntE w:Nat):Int)==0)=true:=beq_iff_eq.2 (by omega)
    rw[if_pos (.inl h0)]
    cases hw:waitsB w
    · simp only[m57E hn,q,hw,cnt58E,e,sumE,sS]
    · simp only[m57E hn,q,hw,cnt58E,e,sumE,sS]
  have e:(((cntE w:Nat):Int)==0)=false:=beq_false_of_ne (by omega)
  cases hw:waitsB w
  · rw[if_pos (.inr rfl)]
    simp only[m57E hn,q,hw,cnt58E,e,sumE,sS]
  · rw[if_neg (by simp[h0])]
    have he:=end_le hw
    simp only[m57E hn,q,hw,cnt58E,e,m59E hn,m52_3 (show -9223372036854775808≤endE w∧endE w≤9223372036854775807 by omega),sumE,sS]
theorem m33E{b1:List Team}{ps:List Pol}(hb:BkL ps){p:PgT}(hp:PgL p):m33 (((b1,ps,()),p,()),())=some ((if chkE ps p=true then lftE ps p else 0,chkE ps p,()),()):=by
  unfold m33
  simp only[chk43E hb hp,sumE,sS]
  cases a:chkE ps p
  · simp only[Bool.false_eq_true,if_false,sumE,sS]
  obtain⟨w,hv,h0,hw,hn,_⟩:=chk_facts a
  have hvl:=hb.sts w (List.mem_of_getElem? hv)
  have hl:=lft_le a
  have e:lftE ps p=endE w-(offE w (pNext p)).1:=by unfold lftE;rw[hv]
  have w1:w64 (endE w-(offE w (pNext p)).1)=lftE ps p:=by rw[←e];exact w64_id (by omega) (by omega)
  simp only[rowAt_G,rowG_int h0 hv,cnt73E,m72E hvl,if_true,sumE,sS]
  rw[show(offE w (cntE w)).1=endE w from rfl,w1]
theorem m34E{b1:List Team}{ps:List Pol}(hb:BkL ps){p:PgT}(hp:PgL p):m34 (((b1,ps,()),p,()),())=some ((latE ps p,chkE ps p,()),()):=by
  unfold m34 latE
  simp only[m33E hb hp,m45_51,m51E,sumE,sS]
  cases a:chkE ps p
  · simp only[Bool.false_eq_true,if_false,sumE,sS]
  cases a2:dueB p
  · simp only[Bool.false_eq_true,if_false,if_true,sumE,sS]
  obtain⟨_,_,_,_,_,hr⟩:=chk_facts a
  have h1:=due_le hr
  have h2:=lft_le a
  have q:w64 (dueP p+lftE ps p)=dueP p+lftE ps p:=w64_id (by omega) (by omega)
  simp only[q,if_true,sumE,sS]
theorem m99E{c:ChE}(h:vch c=true):m99 ((c,()),())=some ((wst c,()),()):=by
  obtain⟨h1,h2,h3,h4⟩:=wst_le h
  have hv:=h
  unfold vch at hv
  simp only[Bool.and_eq_true,decide_eq_true_eq]at hv
  have w1:w64 (c.2.2.1-1)=c.2.2.1-1:=w64_id (by omega) (by omega)
  have w2:w64 ((c.2.2.1-1)*c.2.2.2.1)=(c.2.2.1-1)*c.2.2.2.1:=w64_id (by omega) (by omega)
  have w3:w64 ((c.2.2.1-1)*c.2.2.2.1+c.2.1)=(c.2.2.1-1)*c.2.2.2.1+c.2.1:=w64_id (by unfold wst at h3;omega) (by unfold wst at h4;omega)
  unfold m99
  simp only[m62E,h,w1,w2,w3,sumE,sS]
  rfl
theorem m77E{f:PfE}(h:vpf f=true):m77 ((f,()),())=some ((bdE f,()),()):=by
  have hv:=h
  unfold vpf at hv
  simp only[Bool.and_eq_true,decide_eq_true_eq,List.all_eq_true]at hv
  have q76:=m76E (f:=f) (by omega)
  rw[h]at q76
  have hl:=loop_list0 (f:=l77_0_3) f.2.1 (fun i (s:Int)=>(((i:Int),s,()),((f,()),()))) (fun _ s e=>.inl (max s (wst e))) (fun s=>((s,()),())) (fun i e s he hi=>by
    have q:=m99E (hv.2.2 e (List.mem_of_getElem? he))
    have w:=w64_nat (i:=i) (by omega)
    simp only[l77_0_3,lt_t hi,rowAt_G,rowG_nat he,q76,q,w,max_if',sumE,sS]) (fun s=>by simp only[l77_0_3,lt_f,sumE,sS]) 0
  rw[runL_fold]at hl
  unfold m77
  refine bind_of _ hl ?_
  rfl
theorem m40E{l:List PfE}(h:PsL l)(k:Int):m40 ((l,k,()),())=some (((persE l k).1,(persE l k).2,()),()):=by
  have hl:=loop_find (f:=l40_0_2) l (fun i=>(((i:Int),l,k,()),())) (fun f=>decide (f.1=k)&&vpf f) (fun f=>.inl ((bdE f,true,()),())) (.inr ((),())) (fun i e he hi=>by
    have hw:=w64_nat (i:=i) (by have:=h.len;omega)
    have q76:=m76E (h.chs e (List.mem_of_getElem? he))
    by_cases hk:e.1=k
    · have hk':(e.1==k)=true:=beq_iff_eq.2 hk
      have hk2:decide (e.1=k)=true:=decide_eq_true hk
      cases hv:vpf e
      · simp only[l40_0_2,lt_t hi,rowAt_G,rowG_nat he,hk',hk2,q76,hv,hw,sumE,sS]
      · simp only[l40_0_2,lt_t hi,rowAt_G,rowG_nat he,hk',hk2,q76,hv,m77E hv,sumE,sS]
    · have hk':(e.1==k)=false:=beq_false_of_ne hk
      have hk2:decide (e.1=k)=false:=decide_eq_false hk
      simp only[l40_0_2,lt_t hi,rowAt_G,rowG_nat he,hk',hk2,hw,sumE,sS]) (by simp only[l40_0_2,lt_f,sumE,sS])
  unfold m40
  refine bind_of _ hl ?_
  unfold persE
  cases l.find? fun f=>decide (f.1=k)&&vpf f<;>rfl
theorem m35E{b1:List Team}{ps:List Pol}(hb:BkL ps){l:List PfE}(h:PsL l){p:PgT}(hp:PgL p):
    m35 (((b1,ps,()),l,p,()),())=some ((reachE (chkE ps p) l p,()),()):=by
  have inner:∀(j:Nat) (s:StT),(pSts p)[j]?=some s→∀(m:Int),loopT l35_0_6 ((0,(j:Int),m,l,()),((p,()),(((b1,ps,()),()),())))=some ((reachS l m s,l,(j:Int),()),((p,()),(((b1,ps,()),()),()))):=fun j s hs m=>by
    have hl:=loop_list0 (f:=l35_0_6) s.2.2.1 (fun i (m:Int)=>(((i:Int),(j:Int),m,l,()),((p,()),(((b1,ps,()),()),())))) (fun _ m e=>.inl (reachP l s.2.1 m e)) (fun m=>((m,l,(j:Int),()),((p,()),(((b1,ps,()),()),())))) (fun i e m he hi=>by
      have hn:=hp.ppl s (List.mem_of_getElem? hs)
      have hw:=w64_nat (i:=i) (by omega)
      simp only[l35_0_6,rowAt_G,rowG_nat hs,lt_t hi,rowG_nat he,m40E h,reachP_eq,sumE,sS]
      cases hq:(persE l e).2
      · simp only[hw,Bool.false_eq_true,if_false,sumE,sS]
      · simp only[hw,max_if',if_true,sumE,sS]) (fun m=>by simp only[l35_0_6,rowAt_G,rowG_nat hs,lt_f,sumE,sS]) m
    rw[runL_fold]at hl
    exact hl
  unfold m35 reachE
  cases a:chkE ps p
  · have hl:loopT l35_0_3 ((0,0,l,()),((p,()),(((b1,ps,()),()),())))=some ((0,()),()):=by
      refine loopT_inr ?_
      cases hd:decide ((0:Int)<((pSts p).length:Int))
      · simp only[l35_0_3,hd,sumE,sS]
      · simp only[l35_0_3,hd,chk43E hb hp,a,sumE,sS]
    simp only[Bool.false_eq_true,if_false]
    exact bind_of _ hl rfl
  · have hl:=loop_list0 (f:=l35_0_3) (pSts p) (fun i (m:Int)=>(((i:Int),m,l,()),((p,()),(((b1,ps,()),()),())))) (fun _ m s=>.inl (reachS l m s)) (fun m=>((m,()),())) (fun i s m he hi=>by
      have hn:=hp.sts
      have hw:=w64_nat (i:=i) (by omega)
      have q:=inner i s he m
      simp only[l35_0_3,lt_t hi,chk43E hb hp,a,q,hw,sumE,sS]) (fun m=>by simp only[l35_0_3,lt_f,sumE,sS]) 0
    rw[runL_fold]at hl
    simp only[if_true]
    exact bind_of _ hl rfl
end Go.Proofs.YtcelhemfoehedaaGreat
namespace Go.Proofs.YtcelhemfoehedaaGreat
open Go Go.Abs Go.Bnd Go.Plain
theorem c71(d:Dice)(hd:DOK d):Ens (m71 ((),((d,()),()))) (fun r=>DOK r.2.1.1∧r.2.2.1.length≤5):=by
  unfold m71
  dsimp only
  refine ens_call (c19 _ _ hd (by omega)) ?_
  rintro⟨⟨n,⟨⟩⟩,⟨⟨d1,⟨⟩⟩,⟨⟩⟩⟩ ⟨hd1,n0,n1⟩
  dsimp only at hd1 n0 n1 ⊢
  have n1:=n1 (by omega)
  refine ens_call (R:=fun r=>DOK r.2.1.1∧r.2.2.1.length≤5) ?_ ?_
  · refine ens_loop (fun v=>DOK v.2.1.1∧0≤v.1.1∧v.1.1+(v.2.2.1.length:Int)≤5) (fun v=>v.1.1.toNat) ?_ _ ⟨hd1,n0,by simp only[List.length_nil];omega⟩
    rintro⟨⟨j,⟨⟩⟩,⟨⟨d,⟨⟩⟩,cs,⟨⟩⟩⟩ ⟨hd,h0,h1⟩
    dsimp only at hd h0 h1
    unfold l71_0_3
    dsimp only
    refine ens_ite (fun hj=> ?_) (fun hj=>ens_some ⟨hd,by dsimp only;omega⟩)
    have hw:=w64_dn h0 (by omega)
    refine ens_call (c19 _ _ hd (by omega)) ?_
    rintro⟨⟨n,⟨⟩⟩,⟨⟨d2,⟨⟩⟩,⟨⟩⟩⟩ ⟨hd2,_⟩
    dsimp only at hd2 ⊢
    refine ens_need (by rw[List.length_singleton];omega) ?_
    rw[hw]
    refine ens_some ⟨⟨hd2,by dsimp only;omega,?_⟩,by dsimp only;omega⟩
    dsimp only;rw[List.length_append,List.length_singleton];omega
  · rintro⟨⟨⟩,⟨⟨d2,⟨⟩⟩,cs,⟨⟩⟩⟩ ⟨hd2,h1⟩
    exact ens_some ⟨hd2,h1⟩
def StsM(l:List StT):Prop:=l.length≤200∧∀s∈l,s.2.2.1.length≤200∧0≤s.2.1∧s.2.1≤9000000000
theorem StsM.one{l:List StT}(h:StsM l)(hl:l.length≤100){s:StT}(h1:s.2.2.1.length≤200)(h2:0≤s.2.1∧s.2.1≤9000000000):StsM (l++ [s]):=
  ⟨by rw[List.length_append,List.length_singleton];omega,fun x hx=>by
    rcases List.mem_append.1 hx with hx|hx
    · exact h.2 x hx
    · simp only[List.mem_singleton]at hx;subst hx;exact⟨h1,h2⟩⟩
theorem c31 {p:PgT} (h1:StsM (pSts p)) (h1':(pSts p).length≤100) (h2:(pDec p).length≤100) (h3:(pSeen p).length≤100) (d:Dice) (hd:DOK d):
    Ens (m31 ((p,()),((d,()),()))) (fun r=>DOK r.2.1.1∧StsM r.2.2.2.1∧r.2.2.2.2.1.length≤200∧r.2.2.2.2.2.1.length≤200):=by
  unfold m31
  dsimp only
  refine ens_call ⟨_,copy44 (p:=p) ⟨by omega,fun s hs=>by have:=(h1.2 s hs).1;omega⟩ (by omega) (by omega),rfl⟩ ?_
  rintro _ rfl
  dsimp only
  refine ens_call (R:=fun r=>DOK r.2.1.1∧StsM r.2.2.2.2.1∧r.2.2.2.2.2.1.length≤200∧r.2.2.2.2.2.2.1.length≤200) ?_ ?_
  · refine ens_call (c19 _ _ hd (by omega)) ?_
    rintro⟨⟨n,⟨⟩⟩,⟨⟨d1,⟨⟩⟩,⟨⟩⟩⟩ ⟨hd1,n0,n1⟩
    dsimp only at hd1 n0 n1 ⊢
    clear n0 n1
    have fin:∀(d':Dice),DOK d'→∀(a b:Core),Ens (some (((),((d',()),((a,()),((b,()),(pSts p,(pDec p,(pSeen p,()))))))):Unit×(Dice×Unit)×(Core×Unit)×(Core×Unit)×List StT×List Int×List Int×Unit)) (fun r=>DOK r.2.1.1∧StsM r.2.2.2.2.1∧r.2.2.2.2.2.1.length≤200∧r.2.2.2.2.2.2.1.length≤200):=
      fun d' h' a b=>ens_some ⟨h',h1,by dsimp only;omega,by dsimp only;omega⟩
    iterate 4
      refine ens_bif (fun _=> ?_) (fun _=> ?_)
      · refine ens_call (c22 _ _ hd1 (by decide) (by decide)) ?_
        rintro⟨⟨x,⟨⟩⟩,⟨⟨d2,⟨⟩⟩,⟨⟩⟩⟩ ⟨hd2,_⟩
        exact fin d2 hd2 _ _
    refine ens_bif (fun _=> ?_) (fun _=> ?_)
    · refine ens_call (c19 _ _ hd1 (by omega)) ?_
      rintro⟨⟨x,⟨⟩⟩,⟨⟨d2,⟨⟩⟩,⟨⟩⟩⟩ ⟨hd2,_⟩
      exact fin d2 hd2 _ _
    iterate 4
      refine ens_bif (fun _=> ?_) (fun _=> ?_)
      · refine ens_call (c22 _ _ hd1 (by decide) (by decide)) ?_
        rintro⟨⟨x,⟨⟩⟩,⟨⟨d2,⟨⟩⟩,⟨⟩⟩⟩ ⟨hd2,_⟩
        exact fin d2 hd2 _ _
    refine ens_bif (fun _=> ?_) (fun _=> ?_)
    · refine ens_call (c19 _ _ hd1 (by omega)) ?_
      rintro⟨⟨x,⟨⟩⟩,⟨⟨d2,⟨⟩⟩,⟨⟩⟩⟩ ⟨hd2,_⟩
      dsimp only at hd2 ⊢
      refine ens_need (by show(pSeen p).length+2≤4294967296;omega) (ens_some ⟨hd2,h1,by dsimp only;omega,?_⟩)
      dsimp only
      rw[List.length_append]
      show(pSeen p).length+2≤200
      omega
    refine ens_bif (fun _=> ?_) (fun _=> ?_)
    · refine ens_call (c19 _ _ hd1 (by omega)) ?_
      rintro⟨⟨x,⟨⟩⟩,⟨⟨d2,⟨⟩⟩,⟨⟩⟩⟩ ⟨hd2,_⟩
      refine ens_call (c19 _ _ hd2 (by omega)) ?_
      rintro⟨⟨y,⟨⟩⟩,⟨⟨d3,⟨⟩⟩,⟨⟩⟩⟩ ⟨hd3,_⟩
      exact ens_some ⟨hd3,h1,by show 2≤200;omega,by dsimp only;omega⟩
    refine ens_bif (fun _=> ?_) (fun _=> ?_)
    · refine ens_call (c19 _ _ hd1 (by omega)) ?_
      rintro⟨⟨x,⟨⟩⟩,⟨⟨d2,⟨⟩⟩,⟨⟩⟩⟩ ⟨hd2,_⟩
      refine ens_call (c22 _ _ hd2 (by decide) (by decide)) ?_
      rintro⟨⟨y,⟨⟩⟩,⟨⟨d3,⟨⟩⟩,⟨⟩⟩⟩ ⟨hd3,hy⟩
      refine ens_call (c71 _ hd3) ?_
      rintro⟨⟨⟩,⟨⟨d4,⟨⟩⟩,cs,⟨⟩⟩⟩ ⟨hd4,hc⟩
      dsimp only at hd4 hc hy ⊢
      refine ens_need (by show(pSts p).length+1≤4294967296;omega) (ens_some ⟨hd4,h1.one h1' (by dsimp only;omega) ?_,by dsimp only;omega,by dsimp only;omega⟩)
      dsimp only
      simp only[List.mem_cons,List.not_mem_nil,or_false]at hy
      omega
    refine ens_bif (fun _=> ?_) (fun _=> ?_)
    · refine ens_call (c22 _ _ hd1 (by decide) (by decide)) ?_
      rintro⟨⟨x,⟨⟩⟩,⟨⟨d2,⟨⟩⟩,⟨⟩⟩⟩ ⟨hd2,_⟩
      exact fin d2 hd2 _ _
    · exact fin d1 hd1 _ _
  · rintro⟨⟨⟩,⟨⟨d2,⟨⟩⟩,_,⟨b,⟨⟩⟩,s,t,u,⟨⟩⟩⟩ ⟨hd2,h4,h5,h6⟩
    exact ens_some ⟨hd2,h4,h5,h6⟩
end Go.Proofs.YtcelhemfoehedaaGreat
namespace Go.Proofs.YtcelhemfoehedaaGreat
open Go Go.Abs Go.Bnd Go.Plain
theorem c19x (n:Int) (d:Dice) (hd:DOK d) (hn1:1≤n) (hn:n≤9223372036854775807):
    ∃k j,Od.nxt d.1 d.2.1 n=(k,j)∧m19 ((n,()),((d,()),()))=some ((k,()),(((d.1,j,()),()),()))∧DOK (d.1,j,())∧0≤k∧k<n:=by
  have hm:m19 ((n,()),((d,()),()))=some (((Od.nxt d.1 d.2.1 n).1,()),(((d.1,(Od.nxt d.1 d.2.1 n).2,()),()),())):=by
    obtain⟨l,i,⟨⟩⟩:=d
    obtain⟨h0,h1,h2⟩:=hd
    dsimp only at h0 h1 h2 ⊢
    by_cases h:i≥(l.length:Int)
    · have e:Od.nxt l i n=(0,i):=by unfold Od.nxt;rw[if_pos (.inl h)]
      rw[e]
      simp only[m19,decide_eq_true h,sumE,sS]
    · obtain⟨p,rfl⟩:=Int.eq_ofNat_of_zero_le h0
      have hp:p<l.length:=by omega
      have he:=List.getElem?_eq_getElem hp
      have e:Od.nxt l (p:Int) n=((if(l[p]:Int).tmod n<0 then w64 ((l[p]:Int).tmod n+n)else(l[p]:Int).tmod n),w64 ((p:Int)+1)):=by
        unfold Od.nxt
        rw[if_neg (by omega),Int.toNat_natCast,List.getD_eq_getElem?_getD,he]
        rfl
      rw[e]
      have b1:decide (n<1)=false:=decide_eq_false (by omega)
      have b2:decide (n≠0)=true:=decide_eq_true (by omega)
      generalize l[p]=x at he
      by_cases hx:x.tmod n<0
      · simp only[m19,decide_eq_false h,b1,b2,rowAt_G,rowG_nat he,decide_eq_true hx,if_pos hx,sumE,sS]
      · simp only[m19,decide_eq_false h,b1,b2,rowAt_G,rowG_nat he,decide_eq_false hx,if_neg hx,sumE,sS]
  obtain⟨r,hr,q1,q2,q3⟩:=c19 n d hd hn
  rw[hm]at hr
  cases hr
  exact⟨_,_,rfl,hm,q1,q2,q3 hn1⟩
def EnsH{A:Type}(H:Prop)(o:Option A)(Q:A→Prop):Prop:=Ens o Q∨(o=none∧H)
section
variable{A B:Type}{H:Prop}
theorem ensH_some{x:A}{Q:A→Prop}(h:Q x):EnsH H (some x) Q:=.inl ⟨x,rfl,h⟩
theorem ensH_call{o:Option A}{R:A→Prop}{f:A→Option B}{Q:B→Prop}(h:Ens o R)(h2:∀x,R x→EnsH H (f x) Q):EnsH H (o.bind f) Q:=by
  obtain⟨x,rfl,hx⟩:=h;exact h2 x hx
theorem ensH_then{o:Option A}{R:A→Prop}{f:A→Option B}{Q:B→Prop}(h:EnsH H o R)(h2:∀x,R x→EnsH H (f x) Q):EnsH H (o.bind f) Q:=by
  rcases h with h|⟨rfl,h⟩
  · exact ensH_call h h2
  · exact .inr ⟨rfl,h⟩
theorem ensH_bif{b:Bool}{x y:Option A}{Q:A→Prop}(h1:b=true→EnsH H x Q)(h2:b=false→EnsH H y Q):EnsH H (bif b then x else y) Q:=by
  cases b
  · exact h2 rfl
  · exact h1 rfl
theorem ensH_need{P:Prop}[Decidable P]{x:Option A}{Q:A→Prop}(h:P)(h1:EnsH H x Q):EnsH H (bif decide P then x else none) Q:=by
  rw[decide_eq_true h];exact h1
theorem ensH_at{l:List A}{i:Nat}{f:A→Option B}{Q:B→Prop}{e:A}(h1:l[i]?=some e)(h:EnsH H (f e) Q):EnsH H ((l[i]?).bind f) Q:=by rw[h1];exact h
theorem ensH_no{o:Option A}{Q:B→Prop}(h:H):EnsH H (o.bind fun _=>(none:Option B)) Q:=.inr ⟨by cases o<;>rfl,h⟩
theorem ensH_no2{C:Type}{o:Option A}{p:A→Option C}{Q:B→Prop}(h:H):EnsH H (o.bind fun x=>(p x).bind fun _=>(none:Option B)) Q:=.inr ⟨by cases o with|none=>rfl|some x=>show(p x).bind _=none;cases p x<;>rfl,h⟩
end
theorem loopT_none{A D:Type}{f:A→Option (A⊕D)}{a:A}(h:f a=none):loopT f a=none:=by
  cases hl:loopT f a with
  |none=>rfl
  | some d=>
    obtain⟨n,hn⟩:=loopT_iff.1 hl
    cases n with
    |zero=>cases hn
    |succ n=>rw[loopN,h]at hn;cases hn
def PolsM(l:List Od.PolD):Prop:=l.length≤1000∧∀w∈l,w.2.1.length≤1000
theorem PolsM.set{l:List Od.PolD}(h:PolsM l)(i:Nat){x:Od.PolD}(hx:x.2.1.length≤1000):PolsM (l.set i x):=
  ⟨by rw[List.length_set];exact h.1,fun w hw=>by
    rcases List.mem_or_eq_of_mem_set hw with hw|rfl
    · exact h.2 w hw
    · exact hx⟩
theorem loop36a{ts:List Od.TeamD}{ps:List Od.PolD}(h1:ts.length≤1000)(h2:∀t∈ts,t.2.1.length≤1000)(d:Dice):
    loopT l36_0_3 ((0,()),((d,()),(((),()),(((ts,(ps,())),()),(((),()),([],()))))))=some ((),((d,()),(((),()),(((ts,(ps,())),()),(((),()),(ts,())))))):=by
  refine drop_e (loop_ind (f:=l36_0_3) (Q:=fun b=>b=((),((d,()),(((),()),(((ts,(ps,())),()),(((),()),(ts,()))))))) (fun i st=>st=(((i:Int),()),((d,()),(((),()),(((ts,(ps,())),()),(((),()),(ts.take i,()))))))) ts.length ?_ ?_ _ rfl)
  · rintro i _ hi rfl
    obtain⟨e,he⟩:=getD_some (l:=ts) (i:=i) hi
    have hw:w64 ((i:Int)+1)=((i+1:Nat):Int):=w64_nat (by omega)
    have b1:decide (0+e.2.1.length≤4294967296)=true:=decide_eq_true (by have:=h2 e (List.mem_of_getElem? he);omega)
    have b2:decide ((ts.take i).length+([e]:List Od.TeamD).length≤4294967296)=true:=decide_eq_true (by simp;omega)
    refine⟨_,?_,rfl⟩
    rw[take_snoc he]
    simp only[l36_0_3,lt_t hi,rowAt_G,rowG_nat he,b1,b2,hw,sumE,sS]
  · rintro _ rfl
    refine⟨_,?_,rfl⟩
    simp only[l36_0_3,lt_f,List.take_length,sumE,sS]
theorem loop36b{ts:List Od.TeamD}{ps:List Od.PolD}(h1:ps.length≤1000)(h2:∀t∈ps,t.2.1.length≤1000)(d:Dice):
    loopT l36_0_9 ((0,()),((d,()),(((),()),(((ts,(ps,())),()),(((),()),(ts,([],())))))))=some ((),((d,()),(((),()),(((),()),(ts,(ps,())))))):=by
  refine drop_e (loop_ind (f:=l36_0_9) (Q:=fun b=>b=((),((d,()),(((),()),(((),()),(ts,(ps,()))))))) (fun i st=>st=(((i:Int),()),((d,()),(((),()),(((ts,(ps,())),()),(((),()),(ts,(ps.take i,())))))))) ps.length ?_ ?_ _ rfl)
  · rintro i _ hi rfl
    obtain⟨e,he⟩:=getD_some (l:=ps) (i:=i) hi
    have hw:w64 ((i:Int)+1)=((i+1:Nat):Int):=w64_nat (by omega)
    have b1:decide (0+e.2.1.length≤4294967296)=true:=decide_eq_true (by have:=h2 e (List.mem_of_getElem? he);omega)
    have b2:decide ((ps.take i).length+([e]:List Od.PolD).length≤4294967296)=true:=decide_eq_true (by simp;omega)
    refine⟨_,?_,rfl⟩
    rw[take_snoc he]
    simp only[l36_0_9,lt_t hi,rowAt_G,rowG_nat he,b1,b2,hw,sumE,sS]
  · rintro _ rfl
    refine⟨_,?_,rfl⟩
    simp only[l36_0_9,lt_f,List.take_length,sumE,sS]
end Go.Proofs.YtcelhemfoehedaaGreat
namespace Go.Proofs.YtcelhemfoehedaaGreat
open Go Go.Abs Go.Bnd Go.Plain
theorem BookOK.pols{ts:List Od.TeamD}{ps:List Od.PolD}(hb:BookOK (ts,ps,()))(hp:ps.length≤3):PolsM ps∧(∀p∈ps,1≤p.2.1.length∧p.2.1.length≤3)∧∀p∈ps,∀s∈p.2.1,s.2.2.1.length≤3:=
  ⟨⟨by omega,fun w hw=>by have:=(hb.2 w hw).1.2.1;omega⟩,fun p hm=>(hb.2 p hm).1.2.1,fun p hm=>(hb.2 p hm).2⟩
set_option maxHeartbeats 800000 in
theorem c36{ts:List Od.TeamD}{ps:List Od.PolD}(hb:BookOK (ts,ps,()))(hp1:1≤ps.length∧ps.length≤3)(d:Dice)(hd:DOK d):
    EnsH (∃u,HandU (((ts,(ps,())),()),((d,()),())) u) (m36 (((ts,(ps,())),()),((d,()),()))) (fun r=>DOK r.2.1.1∧PolsM r.2.2.2.2.1):=by
  obtain⟨hM,hst,htg⟩:=hb.pols hp1.2
  have hts:ts.length≤2:=hb.1.1
  have htm:∀t∈ts,1≤t.2.1.length∧t.2.1.length≤3:=hb.1.2
  unfold m36
  dsimp only
  rw[loop36a (by omega) (fun t ht=>by have:=htm t ht;omega) d]
  rw[show∀(f:Unit×(Dice×Unit)×(Unit×Unit)×((List Od.TeamD×List Od.PolD×Unit)×Unit)×(Unit×Unit)×List Od.TeamD×Unit→Option _) x,(some x).bind f=f x from fun _ _=>rfl]
  dsimp only
  rw[loop36b (by omega) (fun t ht=>by have:=hst t ht;omega) d]
  rw[show∀(f:Unit×Y39→Option _) x,(some x).bind f=f x from fun _ _=>rfl]
  dsimp only
  have b0:(((ps.length:Nat):Int)==0)=false:=by rw[beq_eq_false_iff_ne];omega
  rw[b0]
  show EnsH _ (Option.bind _ _) _
  obtain⟨k1,j1,n1,e1,hd1,k10,k1n⟩:=c19x (ps.length:Int) d hd (by omega) (by omega)
  rw[e1]
  show EnsH _ (bif _ then _ else none) _
  dsimp only
  refine ensH_need ⟨k10,k1n⟩ ?_
  obtain⟨ii,rfl⟩:=Int.eq_ofNat_of_zero_le k10
  have hii:ii<ps.length:=by omega
  have hpp:=List.getElem?_eq_getElem hii
  have hpm:=List.getElem_mem hii
  generalize ps[ii]=pp at hpp hpm
  have hs:=hst pp hpm
  rw[Int.toNat_natCast]
  refine ensH_at hpp ?_
  have b1:((pp.2.1.length:Int)==0)=false:=by rw[beq_eq_false_iff_ne];omega
  rw[b1]
  show EnsH _ (Option.bind _ _) _
  refine ensH_at hpp ?_
  refine ensH_at hpp ?_
  obtain⟨k2,j2,n2,e2,hd2,k20,k2n⟩:=c19x (pp.2.1.length:Int) (d.1,j1,()) hd1 (by omega) (by omega)
  rw[e2]
  show EnsH _ (Abs.rowAt _ _ _) _
  dsimp only
  obtain⟨kk,rfl⟩:=Int.eq_ofNat_of_zero_le k20
  have hkk:kk<pp.2.1.length:=by omega
  have hsp:=List.getElem?_eq_getElem hkk
  have hsm:=List.getElem_mem hkk
  generalize pp.2.1[kk]=sp at hsp hsm
  have htl:=htg pp hpm sp hsm
  rw[rowAt_G,rowG_nat hsp]
  obtain⟨k3,j3,n3,e3,hd3,k30,k3n⟩:=c19x 9 (d.1,j2,()) hd2 (by omega) (by omega)
  rw[e3]
  dsimp only at n1 n2 n3
  have pre:Od.OddPre d.2.1 ts ps:=⟨hd.1,hp1.1,by omega,by omega,fun t ht=>by have:=htm t ht;omega,fun p hp=>by have:=hst p hp;omega⟩
  have hand:∀(sp':Od.StepD) (atf:Int),Od.OddStep d.1 k3 j3 sp sp' atf→∃u,HandU (((ts,(ps,())),()),((d,()),())) u:=fun sp' atf h=>
    ⟨_,atf,_,⟨pre,ii,kk,pp,sp,sp',k3,j1,j2,j3,n1,hd1.1,hpp,n2,hd2.1,hsp,n3,hd3.1,h,rfl⟩,rfl⟩
  refine ensH_then (R:=fun r=>DOK r.2.1.1∧PolsM r.2.2.2.2.2.1) ?_ ?_
  · show EnsH _ (bif _ then _ else _) _
    dsimp only
    have up:∀x:Od.PolD,x.2.1.length≤1000→PolsM (ps.set ii x):=fun x hx=>hM.set ii hx
    refine ensH_bif (fun _=> ?_) (fun _=> ?_)
    · refine ensH_call (c19 _ _ hd3 (by omega)) ?_
      rintro⟨⟨x,⟨⟩⟩,⟨⟨d2,⟨⟩⟩,⟨⟩⟩⟩ ⟨hd4,x0,x1⟩
      have x1:=x1 (by omega)
      dsimp only at hd4 x0 x1 ⊢
      refine ensH_need ⟨x0,by show x<5;omega⟩ ?_
      refine ensH_call (ens_at' (Q:=fun _=>True) (by show x.toNat<5;omega) (fun _ _ _=>trivial)) ?_
      intro y _
      refine ensH_at hpp ?_
      exact ensH_some ⟨hd4,up _ (by show pp.2.1.length≤1000;omega)⟩
    refine ensH_bif (fun _=> ?_) (fun _=> ?_)
    · refine ensH_call (c22 _ _ hd3 (by decide) (by decide)) ?_
      rintro⟨⟨x,⟨⟩⟩,⟨⟨d2,⟨⟩⟩,⟨⟩⟩⟩ ⟨hd4,_⟩
      dsimp only at hd4 ⊢
      refine ensH_at hpp ?_
      exact ensH_some ⟨hd4,up _ (by show pp.2.1.length≤1000;omega)⟩
    refine ensH_bif (fun hc=> ?_) (fun _=> ?_)
    · have hc:k3=2:=by simpa using hc
      refine ensH_no ?_
      obtain⟨k4,j4,n4,_,_,k40,k4n⟩:=c19x 3 (d.1,j3,()) hd3 (by omega) (by omega)
      obtain⟨q,rfl⟩:=Int.eq_ofNat_of_zero_le k40
      have hq:q<3:=by omega
      dsimp only at n4
      obtain⟨z,hz⟩:∃z,([-1,86400,86401]:List Int)[q]?=some z:=⟨_,List.getElem?_eq_getElem hq⟩
      exact hand _ _ (.inl ⟨hc,q,z,by rw[n4],hz,rfl,rfl⟩)
    refine ensH_bif (fun hc=> ?_) (fun _=> ?_)
    · have hc:k3=3:=by simpa using hc
      refine ensH_no2 ?_
      obtain⟨k4,j4,n4,_,hd4,_,_⟩:=c19x 5 (d.1,j3,()) hd3 (by omega) (by omega)
      dsimp only at n4
      exact hand _ _ (.inr (.inl ⟨hc,by rw[n4];exact hd4.1,rfl,rfl⟩))
    refine ensH_bif (fun _=> ?_) (fun _=> ?_)
    · refine ensH_at hpp ?_
      exact ensH_some ⟨hd3,up _ (by show 0≤1000;omega)⟩
    refine ensH_bif (fun _=> ?_) (fun _=> ?_)
    · show EnsH _ (bif _ then _ else _) _
      refine ensH_bif (fun hl=> ?_) (fun _=>ensH_some ⟨hd3,hM⟩)
      have hl:0<ts.length:=by have:=of_decide_eq_true hl;omega
      refine ensH_call (c19 _ _ hd3 (by omega)) ?_
      rintro⟨⟨x,⟨⟩⟩,⟨⟨d2,⟨⟩⟩,⟨⟩⟩⟩ ⟨hd4,x0,x1⟩
      have x1:=x1 (by omega)
      dsimp only at hd4 x0 x1 ⊢
      refine ensH_need ⟨x0,x1⟩ ?_
      refine ensH_call (c19 _ _ hd4 (by omega)) ?_
      rintro⟨⟨y,⟨⟩⟩,⟨⟨d5,⟨⟩⟩,⟨⟩⟩⟩ ⟨hd5,y0,y1⟩
      have y1:=y1 (by omega)
      dsimp only at hd5 y0 y1 ⊢
      refine ensH_need ⟨y0,by show y<5;omega⟩ ?_
      refine ensH_call (ens_at' (Q:=fun _=>True) (by show y.toNat<5;omega) (fun _ _ _=>trivial)) ?_
      intro z _
      refine ensH_call (ens_at' (Q:=fun _=>True) (by omega) (fun _ _ _=>trivial)) ?_
      intro z2 _
      exact ensH_some ⟨hd5,hM⟩
    refine ensH_bif (fun _=> ?_) (fun _=> ?_)
    · show EnsH _ (bif _ then _ else _) _
      refine ensH_bif (fun hl=> ?_) (fun _=>ensH_some ⟨hd3,hM⟩)
      have hl:0<ts.length:=by have:=of_decide_eq_true hl;omega
      refine ensH_call (c19 _ _ hd3 (by omega)) ?_
      rintro⟨⟨y,⟨⟩⟩,⟨⟨d5,⟨⟩⟩,⟨⟩⟩⟩ ⟨hd5,y0,y1⟩
      have y1:=y1 (by omega)
      dsimp only at hd5 y0 y1 ⊢
      refine ensH_need ⟨y0,by show y<3;omega⟩ ?_
      refine ensH_call (ens_at' (Q:=fun _=>True) (by show y.toNat<3;omega) (fun _ _ _=>trivial)) ?_
      intro z _
      refine ensH_need ⟨by omega,by omega⟩ ?_
      refine ensH_call (ens_at' (Q:=fun _=>True) (by omega) (fun _ _ _=>trivial)) ?_
      intro z2 _
      exact ensH_some ⟨hd5,hM⟩
    refine ensH_bif (fun hc=> ?_) (fun _=> ?_)
    · have hc:k3=7:=by simpa using hc
      refine .inr ⟨?_,hand _ _ (.inr (.inr ⟨hc,by omega,rfl,rfl⟩))⟩
      rw[loopT_none rfl]
      rfl
    · exact ensH_some ⟨hd3,hM⟩
  · rintro⟨⟨⟩,⟨⟨d2,⟨⟩⟩,_,_,a,b,⟨⟩⟩⟩ ⟨h1,h2⟩
    exact ensH_some ⟨h1,h2⟩
theorem oddE {ts:List Od.TeamD} {ps:List Od.PolD} (hb:BookOK (ts,ps,())) (hp1:1≤ps.length∧ps.length≤3) (d:Dice) (hd:DOK d):
    Ens (oddM (((ts,(ps,())),()),((d,()),()))) (fun r=>DOK r.2.1.1∧PolsM r.2.2.2.2.1):=by
  rcases c36 hb hp1 d hd with⟨u,h1,h2⟩|⟨h1,u0,h2⟩
  · exact⟨u,oddM_main h1,h2⟩
  · obtain⟨u,hu⟩:=oddM_hand h2
    refine⟨u,hu,?_⟩
    rcases oddM_cases hu with h|h
    · rw[h1]at h;cases h
    · obtain⟨atf,ps',⟨pre,ii,kk,pp,sp,sp',cs,at2,at3,at4,n1,n10,hpp,n2,n20,hsp,n3,n30,hstep,rfl⟩,rfl⟩:=h
      obtain⟨hM,hst,htg⟩:=hb.pols hp1.2
      have hs:=hst pp (List.mem_of_getElem? hpp)
      dsimp only at n1 n2 n3
      obtain⟨_,j1,m1,_,hd1,_,_⟩:=c19x (ps.length:Int) d hd (by omega) (by omega)
      have e1:at2=j1:=by have:=n1.symm.trans m1;exact congrArg Prod.snd this
      subst e1
      obtain⟨_,j2,m2,_,hd2,_,_⟩:=c19x (pp.2.1.length:Int) (d.1,at2,()) hd1 (by omega) (by omega)
      have e2:at3=j2:=by have:=n2.symm.trans m2;exact congrArg Prod.snd this
      subst e2
      obtain⟨_,j3,m3,_,hd3,_,_⟩:=c19x 9 (d.1,at3,()) hd2 (by omega) (by omega)
      have e3:at4=j3:=by have:=n3.symm.trans m3;exact congrArg Prod.snd this
      subst e3
      refine⟨?_,hM.set ii (by show(pp.2.1.set kk sp').length≤1000;rw[List.length_set];omega)⟩
      show DOK (d.1,atf,())
      rcases hstep with⟨_,_,_,_,_,_,rfl⟩|⟨_,_,_,rfl⟩|⟨_,_,_,rfl⟩
      · obtain⟨_,j4,m4,_,hd4,_,_⟩:=c19x 3 (d.1,at4,()) hd3 (by omega) (by omega)
        dsimp only at m4
        rw[m4];exact hd4
      · obtain⟨_,j4,m4,_,hd4,_,_⟩:=c19x 5 (d.1,at4,()) hd3 (by omega) (by omega)
        dsimp only at m4
        rw[m4]
        obtain⟨_,j5,m5,_,hd5,_,_⟩:=c19x 6 (d.1,j4,()) hd4 (by omega) (by omega)
        dsimp only at m5
        rw[m5];exact hd5
      · exact hd3
end Go.Proofs.YtcelhemfoehedaaGreat
namespace Go.Proofs.YtcelhemfoehedaaGreat
open Go Go.Abs Go.Bnd Go.Plain
theorem m9_true:m9 ((),())=some ((true,()),()):=by kernel_rfl
abbrev YT:(Bool×Unit)×Unit:=((true,()),())
theorem ens_tt{o:Option ((Bool×Unit)×Unit)}(h:Ens o (fun r=>r=YT)):o=some YT:=by
  obtain⟨_,rfl,rfl⟩:=h
  rfl
theorem dok_start{x:List Int}(h:(x.length:Int)≤500):DOK (x,0,()):=⟨Int.le_refl _,by show(0:Int)≤(x.length:Int);omega,by show x.length≤500;omega⟩
theorem loop7c{l:List PfE}(hl:PsL l){ks:List Int}(hn:ks.length≤1000):loopT l7_0_26 ((0,((ks.length:Nat):Int),()),(l,(ks,())))=some (.inr ((),())):=by
  refine drop_e (loop_ind (f:=l7_0_26) (Q:=fun b=>b= .inr ((),())) (fun i st=>st=(((i:Int),((ks.length:Nat):Int),()),(l,(ks,())))) ks.length ?_ ?_ _ rfl)
  · rintro i _ hi rfl
    obtain⟨e,he⟩:=getD_some (l:=ks) (i:=i) hi
    have hw:w64 ((i:Int)+1)=((i+1:Nat):Int):=w64_nat (by omega)
    have b1:decide ((0:Int)≤i∧(i:Int)<ks.length)=true:=decide_eq_true ⟨by omega,by omega⟩
    refine⟨_,?_,rfl⟩
    simp only[l7_0_26,lt_t hi,b1,Int.toNat_natCast,he,m29E hl,m40E hl,bne_self_eq_false,beq_self_eq_true,hw,sumE,sS]
  · rintro _ rfl
    refine⟨_,?_,rfl⟩
    simp only[l7_0_26,lt_f,sumE,sS]
theorem loop7b{ws:List Pol}(hw1:ws.length≤1000000)(hw2:∀w∈ws,w.2.1.length≤1000000)(k:Int)(l:List PfE)(d:Dice):
    loopT l7_0_20 ((0,k,((ws.length:Nat):Int),()),(ws,(l,((d,()),()))))=some (.inr ((k,()),(l,((d,()),())))):=by
  refine drop_e (loop_ind (f:=l7_0_20) (Q:=fun b=>b= .inr ((k,()),(l,((d,()),())))) (fun i st=>st=(((i:Int),k,((ws.length:Nat):Int),()),(ws,(l,((d,()),()))))) ws.length ?_ ?_ _ rfl)
  · rintro i _ hi rfl
    obtain⟨e,he⟩:=getD_some (l:=ws) (i:=i) hi
    have hw:w64 ((i:Int)+1)=((i+1:Nat):Int):=w64_nat (by omega)
    have hs:=hw2 e (List.mem_of_getElem? he)
    have b1:decide ((0:Int)≤i∧(i:Int)<ws.length)=true:=decide_eq_true ⟨by omega,by omega⟩
    refine⟨_,?_,rfl⟩
    simp only[l7_0_20,lt_t hi,b1,Int.toNat_natCast,he,m37E hs,m38E hs,m21E hs,m39E hs,bne_self_eq_false,hw,sumE,sS]
  · rintro _ rfl
    refine⟨_,?_,rfl⟩
    simp only[l7_0_20,lt_f,sumE,sS]
theorem loop7a{ts:List Team}{ps:List Pol}(hb:BkL ps){l:List PfE}(hl:PsL l){pgs:List PgT}(hn:pgs.length≤1000)(hp:∀p∈pgs,PgL p)(ha:∀p∈pgs,∀s∈pSts p,-9223372036854775808≤s.2.1∧s.2.1≤9223372036854775807)(k:Int)(d:Dice)(raw:Pol):
    loopT l7_0_10 ((0,k,((pgs.length:Nat):Int),()),(l,(((),()),(pgs,((d,()),((raw,()),(ts,(ps,()))))))))=some (.inr ((k,()),(l,((d,()),((raw,()),(((),()),(ts,(ps,())))))))):=by
  refine drop_e (loop_ind (f:=l7_0_10) (Q:=fun b=>b= .inr ((k,()),(l,((d,()),((raw,()),(((),()),(ts,(ps,())))))))) (fun i st=>st=(((i:Int),k,((pgs.length:Nat):Int),()),(l,(((),()),(pgs,((d,()),((raw,()),(ts,(ps,()))))))))) pgs.length ?_ ?_ _ rfl)
  · rintro i _ hi rfl
    obtain⟨e,he⟩:=getD_some (l:=pgs) (i:=i) hi
    have hw:w64 ((i:Int)+1)=((i+1:Nat):Int):=w64_nat (by omega)
    have hm:=List.mem_of_getElem? he
    have b1:decide ((0:Int)≤i∧(i:Int)<pgs.length)=true:=decide_eq_true ⟨by omega,by omega⟩
    refine⟨_,?_,rfl⟩
    simp only[l7_0_10,lt_t hi,b1,Int.toNat_natCast,he,m32E hb (hp e hm),m33E hb (hp e hm),m17E hb (hp e hm),m34E hb (hp e hm),m25E hb hl (hp e hm) (ha e hm),m35E hb hl (hp e hm),bne_self_eq_false,beq_self_eq_true,hw,sumE,sS]
  · rintro _ rfl
    refine⟨_,?_,rfl⟩
    simp only[l7_0_10,lt_f,sumE,sS]
theorem PsOK.psl{l:List PfE}(h:PsOK l):l.length≤4∧∀f∈l,f.2.1.length≤3:=⟨h.len,fun f hf=>(h.ok f hf).2.1⟩
set_option maxHeartbeats 1600000 in
theorem law7' (xs:List Int) (raw:Pol) (k:Int):m7 ((xs,(raw,(k,()))),())=some YT:=by
  refine ens_tt ?_
  unfold m7
  simp only[m8,m10,m9_true,sumE,sS]
  by_cases hx:(xs.length:Int)≤500
  case neg=>
    simp only[decide_eq_false hx,sumE,sS]
    exact ens_some rfl
  by_cases hr:(raw.2.1.length:Int)>20
  · simp only[decide_eq_true hx,decide_eq_true hr,sumE,sS]
    exact ens_some rfl
  simp only[decide_eq_true hx,decide_eq_false hr,sumE,sS]
  refine ens_call (crew_spec _ (dok_start hx)) ?_
  rintro⟨⟨⟩,⟨⟨d1,⟨⟩⟩,_,c1,c2,c3,⟨⟩⟩⟩ ⟨hd1,hc⟩
  dsimp only at hd1 hc
  refine ens_call (book_spec _ hd1) ?_
  rintro⟨⟨⟩,⟨⟨d2,⟨⟩⟩,_,b1,b2,⟨⟩⟩⟩ ⟨hd2,hb,hbl⟩
  dsimp only at hd2 hb hbl
  obtain⟨now,p,d3,e13,hd3,⟨⟨pol,n,hp⟩,hl,hs⟩,hn0,hn1⟩:=page_spec hc hb hbl 5 (by omega) _ hd2
  have hfew:=hp.few
  have hseen:=hp.seen.2.1
  have hdec:=set_len hp.dec
  have hst:∀s∈pSts p,s.2.2.1.length≤200∧0≤s.2.1∧s.2.1≤9000000000:=fun s hs=>by
    have a:=SL_at hp.sts s hs
    have b:=hp.start;have c:=hp.stl
    have e:=set_len (SL_sets hp.sts s hs)
    have f:=hp.last
    exact⟨by omega,by omega,by omega⟩
  have hM:StsM (pSts p):=⟨by omega,hst⟩
  have hPg:PgL p:=⟨by omega,fun s hs=>by have:=(hst s hs).1;omega,by omega,by omega⟩
  have h31:=fun(d:Dice) (hd:DOK d)=>c31 (p:=p) hM (by omega) (by omega) (by omega) d hd
  obtain⟨i,po,st,nx,du,s,by',un,la,sn,hd',sts,dec,seen,⟨⟩⟩:=p
  dsimp only[core,pSts,pDec,pSeen]at e13 hst hM h31 ⊢
  simp only[e13,sumE,sS]
  refine ens_call (c24 _ hd3) ?_
  rintro⟨⟨⟩,⟨⟨d4,⟨⟩⟩,l,⟨⟩⟩⟩ ⟨hd4,hl4⟩
  dsimp only at hd4 hl4 ⊢
  obtain⟨hl5,hl6⟩:=hl4.psl
  refine ens_call (R:=fun r=>PsL r.2.1∧DOK r.2.2.2.1.1∧∃(l':List PfE) (d':Dice),r=((k,()),(l',(((),()),((d',()),((raw,()),(((i,(po,(st,(nx,(du,(s,(by',(un,(la,(sn,(hd',()))))))))))),()),(b1,(b2,(sts,(dec,(seen,())))))))))))) ?_ ?_
  · refine ens_call (c19 _ _ hd4 (by omega)) ?_
    rintro⟨⟨x,⟨⟩⟩,⟨⟨d5,⟨⟩⟩,⟨⟩⟩⟩ ⟨hd5,_⟩
    dsimp only at hd5 ⊢
    refine ens_bif (fun _=> ?_) (fun _=> ?_)
    · refine ens_call (c30 1 _ hd5) ?_
      rintro⟨⟨⟩,⟨⟨d6,⟨⟩⟩,⟨⟨y,⟨⟩⟩,⟨⟩⟩,cs,⟨⟩⟩⟩ ⟨hd6,_,hcs,_⟩
      dsimp only at hd6 hcs ⊢
      refine ens_need (by show l.length+3≤4294967296;omega) (ens_some ⟨⟨?_,fun f hf=> ?_⟩,hd6,_,_,rfl⟩)
      · dsimp only
        rw[List.length_append]
        show l.length+3≤1000000
        omega
      · dsimp only at hf
        rcases List.mem_append.1 hf with hf|hf
        · have:=hl6 f hf;omega
        · simp only[List.mem_cons,List.not_mem_nil,or_false]at hf
          rcases hf with rfl|rfl|rfl
          · dsimp only;omega
          · show 0≤1000000;omega
          · show 1≤1000000;omega
    · exact ens_some ⟨⟨by dsimp only;omega,fun f hf=>by have:=hl6 f hf;omega⟩,hd5,_,_,rfl⟩
  rintro _ ⟨hpl,hd5,l',d5,rfl⟩
  dsimp only at hpl hd5 ⊢
  refine ens_call (h31 d5 hd5) ?_
  rintro⟨⟨⟩,⟨⟨d6,⟨⟩⟩,⟨⟨q1,q2,q3,q4,q5,q6,q7,q8,q9,q10,q11,⟨⟩⟩,⟨⟩⟩,qs,qd,qe,⟨⟩⟩⟩ ⟨hd6,hqs,hqd,hqe⟩
  dsimp only at hd6 hqs hqd hqe ⊢
  have hBk:BkL b2:=⟨by omega,fun w hw=>by have:=(hb.2 w hw).1.2.1;omega⟩
  have l7a:=loop7a (ts:=b1) hBk hpl (pgs:=[(i,(po,(st,(nx,(du,(s,(by',(un,(la,(sn,(hd',(sts,(dec,(seen,())))))))))))))),(q1,(q2,(q3,(q4,(q5,(q6,(q7,(q8,(q9,(q10,(q11,(qs,(qd,(qe,()))))))))))))))]) (by show 2≤1000;omega) (fun p hp=>by
      simp only[List.mem_cons,List.not_mem_nil,or_false]at hp
      rcases hp with rfl|rfl
      · exact hPg
      · exact⟨by show qs.length≤1000000;have:=hqs.1;omega,fun s hs=>by have:=(hqs.2 s hs).1;omega,by show qd.length≤1000000;omega,by show qe.length≤1000000;omega⟩) (fun p hp s hs=>by
      simp only[List.mem_cons,List.not_mem_nil,or_false]at hp
      rcases hp with rfl|rfl
      · have:=(hst s hs).2;omega
      · have:=(hqs.2 s hs).2;omega) k d6 raw
  refine ens_call ⟨_,l7a,rfl⟩ ?_
  rintro _ rfl
  refine ens_call (oddE (ts:=b1) (ps:=b2) hb hbl d6 hd6) ?_
  rintro⟨⟨⟩,⟨⟨d7,⟨⟩⟩,_,ts',ps',⟨⟩⟩⟩ ⟨hd7,hps⟩
  dsimp only at hd7 hps ⊢
  have hps1:=hps.1
  refine ens_need (by show ps'.length+1≤4294967296;omega) ?_
  have l7b:=loop7b (ws:=ps'++ [raw]) (by rw[List.length_append];show ps'.length+1≤1000000;omega) (fun w hw=>by
      rcases List.mem_append.1 hw with hw|hw
      · have:=hps.2 w hw;omega
      · simp only[List.mem_cons,List.not_mem_nil,or_false]at hw
        subst hw
        omega) k l' d7
  refine ens_call ⟨_,l7b,rfl⟩ ?_
  rintro _ rfl
  refine ens_call (c19 _ _ hd7 (by omega)) ?_
  rintro⟨⟨y,⟨⟩⟩,⟨⟨d8,⟨⟩⟩,⟨⟩⟩⟩ _
  have l7c:=loop7c hpl (ks:=[k,w64 (y-1)]) (by show 2≤1000;omega)
  refine ens_call ⟨_,l7c,rfl⟩ ?_
  rintro _ rfl
  exact ens_some rfl
theorem law7:∀x,Abs.InRs [.row (.int .i64),.cons .str (.cons (.row (.cons (.int .i64) (.cons .bool (.cons (.row (.cons (.int .i64) (.cons (.int .i64) .unit))) .unit)))) (.cons (.int .i64) .unit)),.int .i64] x→m7 (x,())=some ((true,()),()):=fun x _=>law7' x.1 x.2.1 x.2.2.1
end Go.Proofs.YtcelhemfoehedaaGreat
