/- Lemmas for the statement of the last text of this claim. -/
import Derived.Test.YtchnmpafhfjimaaGreatDoorV4A
set_option linter.unusedSimpArgs false
set_option linter.unusedVariables false
namespace Go.Abs
open Go
def Agree(H H':Heap)(l:List Nm):Prop:=∀g,g∈l→get H' g=get H g
theorem Agree.sub{H H':Heap}{l m:List Nm}(h:Agree H H' l)(hs:∀g,g∈m→g∈l):Agree H H' m:=fun g hg=>h g (hs g hg)
section
variable{P:Program}{H H':Heap}
theorem CG{x u:AV}{l:List Nm}(h:eB H x=some (u,l))(ha:Agree H H' l):eB H' x=some (u,l):=by
 cases x with
 |own g sz off len=>
  have hl:l=[g]:=by
   simp only[eB]at h;split at h
   ·split at h
    ·simp only[alg,al1]at h;exact h.2.symm
    ·cases h
   ·cases h
  have e:=ha g (by simp[hl]);simp only[eB]at h ⊢;rw[e];exact h
 |_=>exact h
theorem M8:∀(xs us:List AV) (l:List Nm),pu H xs=some (us,l)→Agree H H' l→pu H' xs=some (us,l):=by
 intro xs
 induction xs with
 |nil=>intro us l h _;exact h
 |cons x r ih=>
  intro us l h ha;simp only[pu]at h ⊢
  cases h1:eB H x with
  |none=>simp[h1]at h
  |some p=>
   obtain⟨y,m⟩:=p
   cases h2:pu H r with
   |none=>simp[h1,h2]at h
   |some q=>
    obtain⟨ys,k⟩:=q;simp only[h1,h2,alg,al1]at h;obtain⟨rfl,rfl⟩:=h;rw[CG h1 (ha.sub fun g hg=>by simp[hg]),ih ys k h2 (ha.sub fun g hg=>by simp[hg])]
theorem Dp{x u:AV}{l:List Nm}(h:jO H x=some (u,l))(ha:Agree H H' l):jO H' x=some (u,l):=by
 cases x with
 |agg cs=>
  simp only[jO]at h ⊢
  cases h1:pu H cs with
  |none=>simp[h1]at h
  |some p=>
   obtain⟨ys,m⟩:=p;simp only[h1,alg,al1]at h;obtain⟨rfl,rfl⟩:=h;rw[M8 cs ys m h1 ha]
 |tup vs=>exact h
 |own g sz off len=>exact CG (x:=.own g sz off len) h ha
 |_=>exact h
theorem p9{l:List Nm}(ha:Agree H H' l):stops H' l=stops H l:=by
 unfold stops;refine alO fun g hg=> ?_
 rw[ha g hg]
theorem JM{t:TypeId}{p:AV}{r:iD}(h:mF P t p H=some r)(ha:Agree H H' (r.rd++r.wr.map (·.1))):mF P t p H'=some r:=by
 cases p with
 |ptr g sz i off=>
  have hg:g∈r.rd:=by
   simp only[mF]at h;split at h
   ·split at h
    ·split at h
     ·split at h
      ·obtain⟨v,_,rfl⟩:=alf.1 h;simp
      ·cases h
     ·cases h
    ·cases h
   ·cases h
  have e:=ha g (by simp[hg]);simp only[mF]at h ⊢;rw[e];exact h
 |_=>exact h
theorem GN{t:TypeId}{p v:AV}{r:iD}(h:l5 P t p v H=some r)(ha:Agree H H' (r.rd++r.wr.map (·.1))):l5 P t p v H'=some r:=by
 cases p with
 |ptr g sz i off=>
  simp only[l5]at h;split at h
  ·rename_i size hs;split at h
   ·rename_i b hb;split at h
    ·rename_i h1;split at h
     ·rename_i x hx;split at h
      ·rename_i hbox;split at h
       ·rename_i h2;split at h
        ·rename_i x' hx';simp only[alg]at h;subst h;have e:=ha g (by simp);simp only[l5,hs,e,hb,h1,hx,hbox,h2,hx',and_self,if_true]
        ·cases h
       ·cases h
      ·rename_i hbox;split at h
       ·rename_i u l hu;split at h
        ·rename_i h2;split at h
         ·rename_i x' hx';simp only[alg]at h;subst h;have e:=ha g (by simp);have el:Agree H H' l:=ha.sub fun g hg=>by simp[hg]
          simp only[l5,hs,e,hb,h1,hx,hbox,Dp hu el,h2,hx',and_self,if_true,if_false,p9 el,amG];simp
         ·cases h
        ·cases h
       ·cases h
     ·cases h
    ·cases h
   ·cases h
  ·cases h
 |_=>exact h
theorem Mx{size:Nat}{agg:Bool}:∀(xs:List (Nat×AV)) (es es':List AV) (l l':List Nm),pW H size agg es l xs=some (es',l')→Agree H H' l'→pW H' size agg es l xs=some (es',l'):=by
 intro xs
 induction xs with
 |nil=>intro es es' l l' h _;exact h
 |cons p r ih=>
  intro es es' l l' h ha;obtain⟨i,v⟩:=p;simp only[pW]at h ⊢
  cases h1:jO H v with
  |none=>simp[h1]at h
  |some q=>
   obtain⟨u,m⟩:=q;simp only[h1]at h;split at h
   ·rename_i hc;have hsub:=(Cc r _ es' (l++m) l' h).2;rw[Dp h1 (ha.sub fun g hg=>hsub g (by simp[hg]))];simp only[hc,and_self,if_true];exact ih _ es' (l++m) l' h ha
   ·cases h
theorem yD{t:TypeId}{n:Nat}{ps:List (Nat×AV)}{slot:Nat}{r:iD}(h:gG P t n ps H slot=some r)(ha:Agree H H' (r.rd++r.wr.map (·.1))):gG P t n ps H' slot=some r:=by
 simp only[gG]at h ⊢;split at h
 ·split at h
  ·split at h
   ·rename_i hc;simp only[hc,and_self,if_true];split at h
    ·rename_i es l hl;simp only[alg]at h;subst h;have el:Agree H H' l:=ha.sub fun g hg=>by simp[hg]
     rw[Mx _ _ _ _ _ hl el];simp only[p9 el]
    ·cases h
   ·cases h
  ·cases h
 ·cases h
theorem GR{t:TypeId}{x:AV}{lo hi mx:Option AV}{r:iD}(h:gH P t x lo hi mx H=some r)(ha:Agree H H' (r.rd++r.wr.map (·.1))):gH P t x lo hi mx H'=some r:=by
 cases x with
 |own g sz off len=>
  cases hu:P.underlying t with
  |none=>simp[gH,hu]at h
  |some d=>
   cases d with
   |slice e=>
    simp only[gH,hu]at h ⊢;split at h
    ·rename_i hsz;rw[if_pos hsz]
     cases mx with
     |none=>
      cases hl:bound lo 0 with
      |none=>simp[hl]at h
      |some l=>
       cases hh:bound hi len with
       |none=>simp[hl,hh]at h
       |some k=>simp only[hl,hh]at h ⊢;exact h
     |some m=>
      cases hl:bound lo 0 with
      |none=>simp[hl]at h
      |some l=>
       cases hh:bound hi len with
       |none=>simp[hl,hh]at h
       |some k=>
        cases hm:bound (some m) 0 with
        |none=>simp[hl,hh,hm]at h
        |some m'=>
         cases hg:get H g with
         |none=>simp[hl,hh,hm,hg]at h
         |some b=>
          simp only[hl,hh,hm,hg]at h;split at h
          ·rename_i hc;simp only[alg]at h;subst h;have e:=ha g (by simp);have el:Agree H H' [g]:=fun g' hg'=>by simp at hg';rw[hg',e]
           simp only[hl,hh,hm,e,hg,p9 el];rw[if_pos hc]
          ·cases h
    ·cases h
   |_=>simp[gH,hu]at h
 |_=>
  cases hu:P.underlying t with
  |none=>simp[gH,hu]at h
  |some d=>cases d<;>first|(simp[gH,hu]at h;done)|(simp only[gH,hu]at h ⊢;exact h)
theorem CP{x:AV}{sz:Nat}{ys:List AV}{l:List Nm}(h:jP H x=some (sz,ys,l))(ha:Agree H H' l):jP H' x=some (sz,ys,l):=by
 cases x with
 |own g sz' off len=>
  have hl:l=[g]:=by
   simp only[jP]at h;split at h
   ·split at h
    ·simp only[alg,al1]at h;exact h.2.2.symm
    ·cases h
   ·cases h
  have e:=ha g (by simp[hl]);simp only[jP]at h ⊢;rw[e];exact h
 |_=>exact h
theorem Gn{t:TypeId}{s x:AV}{slot:Nat}{r:iD}(h:lF P t s x H slot=some r)(ha:Agree H H' (r.rd++r.wr.map (·.1))):lF P t s x H' slot=some r:=by
 simp only[lF]at h ⊢;split at h
 ·split at h
  ·rename_i size bytes z sz' ys l h1 h2 h3 h4;split at h
   ·rename_i hc;have key:Agree H H' l→jP H' x=some (sz',ys,l):=CP h4;split at h
    ·split at h
     ·rename_i hq;split at h
      ·rename_i hd;simp only[alg]at h;subst h;rw[key (ha.sub fun g hg=>by simp[hg])];simp only[h1,h2,h3];rw[if_pos hc,if_pos hq];exact if_pos hd
      ·cases h
     ·rename_i hq;split at h
      ·rename_i hd;simp only[alg]at h;subst h;rw[key (ha.sub fun g hg=>by simp[hg])];simp only[h1,h2,h3];rw[if_pos hc,if_neg hq];exact if_pos hd
      ·cases h
    ·rename_i g sz off len;split at h
     ·rename_i b hb;split at h
      ·rename_i hd;simp only[alg]at h;subst h;rw[key (ha.sub fun g hg=>by simp[hg]),ha g (by simp)];simp only[h1,h2,h3,hb];rw[if_pos hc];exact if_pos hd
      ·cases h
     ·cases h
    ·cases h
   ·cases h
  ·cases h
 ·cases h
theorem OQ(r l:List Nm):∀g,g∈l→g∈jg l r:=fun g hg=>(PK r l g).2 (.inl hg)
theorem yQ{l:List Nm}(ha:Agree H H' l):grow H' l=grow H l:=by
 unfold grow
 congr 1
 have:∀g,g∈l→H8 H' g=H8 H g:=fun g hg=>by unfold H8;rw[ha g hg]
 clear ha
 induction l with
 |nil=>rfl
 |cons a r ih=>rw[ams,ams,this a (by simp),ih fun g hg=>this g (by simp[hg])]
theorem Gh(l:List Nm):∀g,g∈l→g∈grow H l:=OQ _ l
theorem Md{l:List Nm}(ha:Agree H H' (reach H l)):reach H' l=reach H l:=by
 unfold reach at ha ⊢;have h1:Agree H H' (grow H (grow H (jg [] l))):=ha.sub (Gh _);have h2:Agree H H' (grow H (jg [] l)):=h1.sub (Gh _);have h3:Agree H H' (jg [] l):=h2.sub (Gh _);rw[yQ h3,yQ h2,yQ h1]
theorem mapM_congr{α β:Type}{f g:α→Option β}:∀(l:List α),(∀x,x∈l→f x=g x)→l.mapM f=l.mapM g:=by
 intro l
 induction l with
 |nil=>intro _;rfl
 |cons a r ih=>
  intro h;rw[List.mapM_cons,List.mapM_cons,h a (by simp),ih fun x hx=>h x (by simp[hx])]
theorem Dn{share:Bool}{f:Ren}{x:AV}(ha:share=false→Agree H H' (bC x))(hx:x.isAgg=false):qU H' share f x=qU H share f x:=by
 cases x with
 |own g sz off len=>
  cases share with
  |true=>rfl
  |false=>
   have e:=ha rfl g (by simp[bC]);simp only[qU,eB,e]
 |_=>rfl
theorem Nu{share:Bool}{f:Ren}{x:AV}(ha:share=false→Agree H H' (bC x)):qL H' share f x=qL H share f x:=by
 cases x with
 |agg cs=>
  simp only[qL]
  congr 1
  refine mapM_congr cs fun c hc=> ?_
  cases c with
  |own g sz off len=>exact Dn (fun hs g' hg'=>ha hs g' (by simp only[bC,amC];exact⟨_,hc,by simpa[bC]using hg'⟩)) rfl
  |_=>rfl
 |own g sz off len=>exact Dn ha rfl
 |_=>rfl
theorem Jw{share:Bool}{call:List AV→List cB→Option Out}{args:List AV}{slot:Nat}{r:iD}(h:mq share call args H slot=some r):
  r.rd=reach H (args.flatMap (if share then fun v=>fu v++bC v else fu))++(if share then []else args.flatMap bC):=by
 unfold mq at h;simp only at h;generalize (if share then []else args.flatMap bC)=lent at h ⊢;generalize reach H (args.flatMap (if share then fun v=>fu v++bC v else fu))=R at h ⊢;split at h
 ·cases h
 ·split at h
  ·split at h
   ·split at h
    ·simp only[alg]at h;rw[←h]
    ·cases h
   ·cases h
  ·cases h
theorem Ka{share:Bool}{call:List AV→List cB→Option Out}{args:List AV}{slot:Nat}{r:iD}(h:mq share call args H slot=some r)
  (ha:Agree H H' (r.rd++r.wr.map (·.1))):mq share call args H' slot=some r:=by
 have hrd:=Jw h;have hR:Agree H H' (reach H (args.flatMap (if share then fun v=>fu v++bC v else fu))):=ha.sub fun g hg=>by rw[hrd];simp[hg]
 have hl:Agree H H' (if share then []else args.flatMap bC):=ha.sub fun g hg=>by rw[hrd];simp only[alx];exact .inl (.inr hg)
 have e1:reach H' (args.flatMap (if share then fun v=>fu v++bC v else fu))=reach H (args.flatMap (if share then fun v=>fu v++bC v else fu)):=Md hR;unfold mq at h ⊢;simp only at h ⊢;rw[e1,p9 hl]
 have e2:∀f,args.mapM (qL H' share f)=args.mapM (qL H share f):=fun f=>mapM_congr args fun x hx=>Nu fun hs g hg=>hl g (by
  rw[hs];simp only[alo,if_false,amC];exact⟨x,hx,hg⟩)
 have e3:∀f:Ren,(reach H (args.flatMap (if share then fun v=>fu v++bC v else fu))).mapM (fun g=>(get H' g).map (bZ f))=
   (reach H (args.flatMap (if share then fun v=>fu v++bC v else fu))).mapM (fun g=>(get H g).map (bZ f)):=fun f=>mapM_congr _ fun g hg=>by rw[hR g hg]
 rw[e2,e3];exact h
theorem Dq{m:AV}{g:Nm}{k:cB}(h:zu H m=some (g,k))(e:get H' g=get H g):zu H' m=some (g,k):=by
 unfold zu at h ⊢;split at h
 ·rename_i g';split at h
  ·rename_i b hb;split at h
   ·rename_i hc;cases h;simp only[e,hb,if_pos hc]
   ·cases h
  ·cases h
 ·cases h
theorem DI{t:TypeId}{m k:AV}{ok:Bool}{r:iD}(h:jN P t m k ok H=some r)(ha:Agree H H' (r.rd++r.wr.map (·.1))):jN P t m k ok H'=some r:=by
 unfold jN at h ⊢;split at h
 ·rename_i et g b n h1 h2;split at h
  ·rename_i z hz;split at h
   ·rename_i hc;cases h;have e:=ha g (by simp);simp only[h1,Dq h2 e,hz,if_pos hc]
   ·cases h
  ·cases h
 ·cases h
theorem AA{t:TypeId}{m k v:AV}{r:iD}(h:iw P t m k v H=some r)(ha:Agree H H' (r.rd++r.wr.map (·.1))):iw P t m k v H'=some r:=by
 unfold iw at h ⊢;split at h
 ·rename_i et g b n h1 h2;split at h
  ·rename_i hc;cases h;have e:=ha g (by simp);simp only[h1,Dq h2 e,if_pos hc]
  ·cases h
 ·cases h
theorem Jj{t:TypeId}{d x:AV}{r:iD}(h:uN P t d x H=some r)(ha:Agree H H' (r.rd++r.wr.map (·.1))):uN P t d x H'=some r:=by
 unfold uN at h ⊢;split at h
 ·split at h
  ·rename_i size g sz off len sz' ys l h1 h2;split at h
   ·rename_i b hb;split at h
    ·rename_i hc;cases h;have e:=ha g (by simp);have e2:=CP h2 (ha.sub fun g hg=>by simp[hg]);simp only[h1,e2,e,hb,if_pos hc]
    ·cases h
   ·cases h
  ·cases h
 ·cases h
theorem GJ{t:TypeId}{d:AV}{r:iD}(h:p8 P t d H=some r)(ha:Agree H H' (r.rd++r.wr.map (·.1))):p8 P t d H'=some r:=by
 unfold p8 at h ⊢;split at h
 ·split at h
  ·rename_i size z g sz off len h1 h2;split at h
   ·rename_i b hb;split at h
    ·rename_i hc;cases h;have e:=ha g (by simp);simp only[h1,h2,e,hb,if_pos hc]
    ·cases h
   ·cases h
  ·cases h
 ·cases h
theorem xJ{fr fr':Fr}{ps:Array (Nat×Operand)}(h:∀p,p∈ps.toList→sP fr' p.2=sP fr p.2):partsOf fr' ps=partsOf fr ps:=by
 unfold partsOf;refine alO fun p hp=> ?_
 rw[h p hp]
theorem FJ{fr fr':Fr}{l:List Operand}(h:∀x,x∈l→sP fr' x=sP fr x):l.map (sP fr')=l.map (sP fr):=alO h
theorem KC {N:FuncId→Note} {call:CL} {o:Oper} {fr fr':Fr} {slot:Nat} (h:∀x,x∈o.op.operands→sP fr' x=sP fr x):aQ P N call o fr' H slot=aQ P N call o fr H slot:=by
 obtain⟨dst,op,type,pos,after,guard⟩:=o;cases op<;>simp only[Op.operands]at h<;>simp only[aQ]
 case assign x=>
  have e:=h x (by simp);unfold lN;split
  ·rfl
  ·rw[e]
 case build t ps=>rw[xJ fun p hp=>h p.2 (by rw[List.mem_toArray];exact amb.2 ⟨p,hp,rfl⟩)]
 case buildSlice t n ps=>rw[xJ fun p hp=>h p.2 (by rw[List.mem_toArray];exact amb.2 ⟨p,hp,rfl⟩)]
 case makeMap t res=>cases res<;>rfl
 case makeFunc fn first caps=>
  cases fn with
  |func f=>
   simp only;split
   ·rw[FJ (l:=caps.toList) fun x hx=>h x (by simp at hx;simp[hx])]
   ·rfl
  |_=>rfl
 case slice t x lo hi mx=>
  have e1:=h x (by simp);have e2:lo.map (sP fr')=lo.map (sP fr):=by cases lo<;>simp_all
  have e3:hi.map (sP fr')=hi.map (sP fr):=by cases hi<;>simp_all
  have e4:mx.map (sP fr')=mx.map (sP fr):=by cases mx<;>simp_all
  rw[e1,e2,e3,e4]
 case call c=>
  have ea:c.args.toList.map (sP fr')=c.args.toList.map (sP fr):=FJ fun x hx=>h x (by simp at hx;simp[Call.operands,hx])
  cases hc:c.callee with
  |value f=>
   have e:=h f (by simp[Call.operands,hc]);simp only[e,ea]
  |invoke r m=>rfl
  |builtin b=>
   cases b with
   |len=>
    simp only;split
    ·rename_i x t hx ht
     rw [h x (by have:x∈c.args.toList:=by rw[hx];simp
                 simp at this;simp[Call.operands,this])]
    ·rfl
   |append=>
    simp only;split
    ·rename_i s x t t' hx ht;have m1:s∈c.args.toList:=by rw[hx];simp
     have m2:x∈c.args.toList:=by rw[hx];simp
     simp at m1 m2;rw[h s (by simp[Call.operands,m1]),h x (by simp[Call.operands,m2])]
    ·rfl
   |copy=>
    simp only;split
    ·rename_i s x t t' hx ht;have m1:s∈c.args.toList:=by rw[hx];simp
     have m2:x∈c.args.toList:=by rw[hx];simp
     simp at m1 m2;rw[h s (by simp[Call.operands,m1]),h x (by simp[Call.operands,m2])]
    ·rfl
   |clear=>
    simp only;split
    ·rename_i s t hx ht;have m1:s∈c.args.toList:=by rw[hx];simp
     simp at m1;rw[h s (by simp[Call.operands,m1])]
    ·rfl
   |min=>simp only[ea]
   |max=>simp only[ea]
   |_=>rfl
 all_goals first|rfl|(simp_all;done)|skip
theorem C9{N:FuncId→Note}{call:CL}{o:Oper}{fr:Fr}{slot:Nat}{r:iD}(h:aQ P N call o fr H slot=some r)(ha:Agree H H' (r.rd++r.wr.map (·.1))):aQ P N call o fr H' slot=some r:=by
 obtain⟨dst,op,type,pos,after,guard⟩:=o;cases op<;>simp only[aQ]at h ⊢
 case buildSlice t n ps=>exact yD h ha
 case load t a=>exact JM h ha
 case store t a x=>exact GN h ha
 case slice t x lo hi mx=>exact GR h ha
 case lookup t m k ok=>
  split at h
  ·exact h
  ·exact DI h ha
 case mapUpdate t m k v=>exact AA h ha
 case makeMap t res=>
  cases res with
  |none=>exact h
  |some x=>cases h
 case call c=>
  cases hc:c.callee with
  |value f=>
   simp only[hc]at h ⊢
   cases hv:sP fr f with
   |clo fn caps=>simp only[hv]at h ⊢;exact Ka h ha
   |_=>simp[hv]at h
  |invoke r m=>simp only[hc]at h;cases h
  |builtin b=>
   cases b with
   |append=>
    simp only[hc]at h ⊢
    revert h
    generalize c.args.toList=akV;generalize c.argTypes.toList=ts;intro h
    match akV,ts,h with
    | [s,x],[t,t'],h=>
     simp only at h ⊢;split at h
     ·rename_i e;rw[if_pos e];exact Gn h ha
     ·cases h
   |copy=>
    simp only[hc]at h ⊢
    revert h
    generalize c.args.toList=akV;generalize c.argTypes.toList=ts;intro h
    match akV,ts,h with
    | [s,x],[t,t'],h=>exact Jj h ha
   |clear=>
    simp only[hc]at h ⊢
    revert h
    generalize c.args.toList=akV;generalize c.argTypes.toList=ts;intro h
    match akV,ts,h with
    | [s],[t],h=>exact GJ h ha
   |len=>simp only[hc]at h ⊢;exact h
   |min=>simp only[hc]at h ⊢;exact h
   |max=>simp only[hc]at h ⊢;exact h
   |_=>simp only[hc]at h;cases h
 case makeFunc fn first caps=>
  cases fn with
  |func f=>exact h
  |_=>simp only at h;cases h
 all_goals with_reducible exact h
theorem qm{op:Op}(hh:hot op=false):makes op=false:=by
 cases op
 case call c=>
  obtain⟨callee,args,argTypes⟩:=c
  cases callee with
  |builtin b=>cases b<;>first|(simp only[hot]at hh;exact hh)|rfl|(simp[hot]at hh;done)
  |_=>first|(simp only[hot]at hh;exact hh)|rfl|(simp[hot]at hh;done)
 case slice t x lo hi mx=>cases mx<;>first|rfl|(simp[hot]at hh;done)
 all_goals first|(simp only[hot]at hh;exact hh)|rfl|(simp[hot]at hh;done)
theorem iy{N:FuncId→Note}{call:CL}{o:Oper}{fr:Fr}{slot:Nat}{r:iD}(h:aQ P N call o fr H slot=some r)(hh:hot o.op=false):r.rd=[]∧r.wr=[]∧makes o.op=false:=by
 have hm:=qm hh
 suffices hx:r.rd=[]∧r.wr=[]from⟨hx.1,hx.2,hm⟩
 obtain⟨dst,op,type,pos,after,guard⟩:=o;cases op<;>simp only[aQ]at h
 all_goals first|(cases h;done)|skip
 all_goals first|(simp[hot,makes]at hh;done)|skip
 case makeMap t res=>
  cases res with
  |none=>simp[hot,makes]at hh
  |some x=>cases h
 case assign x=>
  unfold lN at h;split at h
  ·simp[hot,makes]at hh
  ·cases h;exact⟨rfl,rfl⟩
 case slice t x lo hi mx=>
  cases mx with
  |some m=>simp[hot]at hh
  |none=>
   simp only[gH,Option.map_none]at h;split at h
   ·split at h
    ·split at h
     ·cases h;exact⟨rfl,rfl⟩
     ·cases h
    ·cases h
   ·split at h
    ·split at h
     ·split at h
      ·cases h;exact⟨rfl,rfl⟩
      ·cases h
     ·rename_i e _ _;cases e
     ·cases h
    ·cases h
   ·split at h
    ·split at h
     ·split at h
      ·cases h;exact⟨rfl,rfl⟩
      ·cases h
     ·rename_i e _ _;cases e
     ·cases h
    ·cases h
   ·cases h
 case call c=>
  cases hc:c.callee with
  |value f=>
   obtain⟨callee,args,argTypes⟩:=c;simp only at hc;subst hc;simp[hot,makes]at hh
  |invoke r m=>simp only[hc]at h;cases h
  |builtin b=>
   cases b with
   |append=>
    obtain⟨callee,args,argTypes⟩:=c;simp only at hc;subst hc;simp[hot,makes]at hh
   |copy=>
    obtain⟨callee,args,argTypes⟩:=c;simp only at hc;subst hc;simp[hot]at hh
   |clear=>
    obtain⟨callee,args,argTypes⟩:=c;simp only at hc;subst hc;simp[hot]at hh
   |len=>
    simp only[hc]at h;split at h
    ·obtain⟨v,_,rfl⟩:=alf.1 h;exact⟨rfl,rfl⟩
    ·cases h
   |min=>
    simp only[hc]at h;split at h
    ·obtain⟨v,_,rfl⟩:=alf.1 h;exact⟨rfl,rfl⟩
    ·cases h
   |max=>
    simp only[hc]at h;split at h
    ·obtain⟨v,_,rfl⟩:=alf.1 h;exact⟨rfl,rfl⟩
    ·cases h
   |_=>simp only[hc]at h;cases h
 case makeFunc fn first caps=>
  cases fn with
  |func f=>
   simp only at h;split at h
   ·cases h;exact⟨rfl,rfl⟩
   ·cases h
  |_=>simp only at h;cases h
 all_goals first
  |(obtain⟨v,_,rfl⟩:=alf.1 h;exact⟨rfl,rfl⟩)
  |(cases h;exact⟨rfl,rfl⟩)
  |(split at h<;>first|(cases h;done)|(cases h;exact⟨rfl,rfl⟩)|(split at h<;>first|(cases h;done)|(cases h;exact⟨rfl,rfl⟩)))
theorem Cv{N:FuncId→Note}{call:CL}{o:Oper}{fr:Fr}{slot:Nat}{r:iD}(h:aQ P N call o fr H slot=some r)(hh:isLoad o.op=true):r.wr=[]∧makes o.op=false:=by
 obtain⟨dst,op,type,pos,after,guard⟩:=o
 cases op<;>simp only[isLoad]at hh<;>first|(cases hh;done)|skip
 case load t a=>
  refine⟨?_,rfl⟩;simp only[aQ,mF]at h;split at h
  ·split at h
   ·split at h
    ·split at h
     ·split at h
      ·obtain⟨v,_,rfl⟩:=alf.1 h;rfl
      ·cases h
     ·cases h
    ·cases h
   ·split at h
    ·split at h
     ·obtain⟨v,_,rfl⟩:=alf.1 h;rfl
     ·cases h
    ·cases h
   ·split at h
    ·cases h;rfl
    ·cases h
   ·cases h
  ·cases h
end
theorem xI(g:Nm):∀(l:List (Nm×Option cB)) (H:Heap),g∉l.map (·.1)→get (aP H l) g=get H g:=by
 intro l
 induction l with
 |nil=>intro H _;rfl
 |cons p r ih=>
  intro H h;obtain⟨g',b⟩:=p;simp only[al3,alN,not_or]at h
  show get (aP (set H g' b) r) g=_
  rw[ih _ h.2,lu h.1]
theorem set_comm(H:Heap){g g':Nm}(h:g≠g')(b b':Option cB):set (set H g b) g' b'=set (set H g' b') g b:=by
 obtain⟨a,c⟩:=g;obtain⟨a',c'⟩:=g';unfold set;apply List.ext_getElem?;intro i;simp only[List.getElem?_modify];by_cases h1:a'=i
 ·by_cases h2:a=i
  ·subst h1 h2;have hc:c≠c':=fun e=>h (by rw[e])
   cases hl:H[a]? with
   |none=>simp
   |some l=>simp[List.set_comm _ _ hc]
  ·simp[h1,h2]
 ·by_cases h2:a=i<;>simp[h1,h2]
theorem Pb(g:Nm)(b:Option cB):∀(l:List (Nm×Option cB)) (H:Heap),g∉l.map (·.1)→aP (set H g b) l=set (aP H l) g b:=by
 intro l
 induction l with
 |nil=>intro H _;rfl
 |cons p r ih=>
  intro H h;obtain⟨g',b'⟩:=p;simp only[al3,alN,not_or]at h
  show aP (set (set H g b) g' b') r=set (aP (set H g' b') r) g b
  rw[set_comm H h.1,ih _ h.2]
theorem pX:∀(l l':List (Nm×Option cB)) (H:Heap),(∀g,g∈l.map (·.1)→g∉l'.map (·.1))→aP (aP H l) l'=aP (aP H l') l:=by
 intro l
 induction l with
 |nil=>intro l' H _;rfl
 |cons p r ih=>
  intro l' H h;obtain⟨g,b⟩:=p
  show aP (aP (set H g b) r) l'=aP (set (aP H l') g b) r
  rw[ih l' _ fun g' hg'=>h g' (by simp only[al3,alN];exact .inr hg'),Pb g b l' H (h g (by simp))]
theorem TD(H:Heap){g:Nm}{slot:Nat}(h:g.1≠slot)(b:Option cB)(l:List (Option cB)):set (H.set slot l) g b=(set H g b).set slot l:=by
 obtain⟨a,c⟩:=g;simp only at h;unfold set;apply List.ext_getElem?;intro i;simp only[List.getElem?_modify,List.getElem?_set,List.length_modify];by_cases h1:slot=i
 ·have h2:¬ a=i:=fun e=>h (e.trans h1.symm)
  by_cases hl:slot<H.length
  ·simp[h1,h2,h1 ▸ hl]
  ·simp[h1,h2,h1 ▸ hl]
 ·by_cases h2:a=i<;>simp[h1,h2]
theorem nD{slot:Nat}(k:List (Option cB)):∀(l:List (Nm×Option cB)) (H:Heap),(∀g,g∈l.map (·.1)→g.1≠slot)→aP (H.set slot k) l=(aP H l).set slot k:=by
 intro l
 induction l with
 |nil=>intro H _;rfl
 |cons p r ih=>
  intro H h;obtain⟨g,b⟩:=p
  show aP (set (H.set slot k) g b) r=(aP (set H g b) r).set slot k
  rw[TD H (h g (by simp)),ih _ fun g' hg'=>h g' (by simp only[al3,alN];exact .inr hg')]
def Cq(x:Option iD)(slot:Nat)(mk:Bool)(H:Heap):Heap:=
 match x with
 |none=>H
 |some r=>if mk then(aP H r.wr).set slot (r.new.map some)else aP H r.wr
theorem zP{H H':Heap}{slot:Nat}{mk:Bool}{new:List cB}:eH H slot mk new=some H'↔H'=(if mk then H.set slot (new.map some)else H)∧(mk=true∨new=[]):=by
 unfold eH
 cases mk with
 |true=>simp[eq_comm]
 |false=>
  cases new with
  |nil=>simp[eq_comm]
  |cons a r=>simp
structure Clear(x y:Option iD)(sx sy:Nat)(mx my:Bool):Prop where
 rw:∀a b,x=some a→y=some b→∀g,g∈a.rd++a.wr.map (·.1)→g∉b.wr.map (·.1)
 slot:∀a,x=some a→my=true→∀g,g∈a.rd++a.wr.map (·.1)→g.1≠sy
theorem LJ{x y:Option iD}{sx sy:Nat}{mx my:Bool}(h:Clear x y sx sy mx my){a:iD}(hx:x=some a)(H:Heap):Agree H (Cq y sy my H) (a.rd++a.wr.map (·.1)):=by
 intro g hg
 cases y with
 |none=>rfl
 |some b=>
  have h1:=h.rw a b hx rfl g hg;simp only[Cq];split
  ·rename_i hm;rw[jR,if_neg (fun e=>h.slot a hx hm g hg e.1),xI g _ _ h1]
  ·rw[xI g _ _ h1]
theorem TK{x y:Option iD}{sx sy:Nat}{mx my:Bool}(h:Clear x y sx sy mx my)(h':Clear y x sy sx my mx)(hs:mx=true→my=true→sx≠sy)(H:Heap):
  Cq x sx mx (Cq y sy my H)=Cq y sy my (Cq x sx mx H):=by
 cases x with
 |none=>rfl
 |some a=>
  cases y with
  |none=>rfl
  |some b=>
   have h1:∀g,g∈b.wr.map (·.1)→g∉a.wr.map (·.1):=fun g hg=>h'.rw b a rfl rfl g (by simp only[alx];exact .inr hg)
   simp only[Cq]
   cases mx with
   |false=>
    cases my with
    |false=>simp only[alo,if_false];exact pX _ _ _ h1
    |true=>
     simp only[alo,if_false,if_true];rw[nD _ _ _ fun g hg=>h.slot a rfl rfl g (by simp only[alx];exact .inr hg),pX _ _ _ h1]
   |true=>
    cases my with
    |false=>
     simp only[alo,if_false,if_true];rw[nD _ _ _ fun g hg=>h'.slot b rfl rfl g (by simp only[alx];exact .inr hg),pX _ _ _ h1]
    |true=>
     simp only[if_true]
     rw[nD _ _ _ fun g hg=>h.slot a rfl rfl g (by simp only[alx];exact .inr hg),nD _ _ _ fun g hg=>h'.slot b rfl rfl g (by simp only[alx];exact .inr hg),pX _ _ _ h1,
      List.set_comm _ _ (hs rfl rfl)]
structure Alike(s s':St):Prop where
 fr:∀t,look s'.fr t=look s.fr t
 hp:s'.hp=s.hp
theorem Alike.refl(s:St):Alike s s:=⟨fun _=>rfl,rfl⟩
theorem Alike.symm{a b:St}(h:Alike a b):Alike b a:=⟨fun t=>(h.fr t).symm,h.hp.symm⟩
theorem Alike.trans{a b c:St}(h:Alike a b)(k:Alike b c):Alike a c:=⟨fun t=>(k.fr t).trans (h.fr t),k.hp.trans h.hp⟩
theorem qB(fr:Fr)(dst:Option Nat)(v:AV)(t:Nat):look (putDst fr dst v) t=if dst=some t then v else look fr t:=by
 cases dst with
 |none=>simp[putDst]
 |some d=>simp[putDst,Oi]
theorem Wo{fr fr':Fr}{x:Operand}(h:∀t,x= .tmp t→look fr' t=look fr t):sP fr' x=sP fr x:=by
 cases x with
 |tmp t=>exact h t rfl
 |_=>rfl
section
variable{E:Env}{ops:Array Oper}{base:Nat}
def valOf:Option iD→AV
 |none=>.tup []
 |some r=>r.val
structure Did(E:Env)(ops:Array Oper)(o:Oper)(slot:Nat)(s:St)(x:Option iD)(s':St):Prop where
 dst:QY E.nt o.dst=true
 go:kY ops s.fr o=some x.isSome
 op:∀r,x=some r→aQ E.P E.N (E.call slot) o s.fr s.hp slot=some r∧(makes o.op=true∨r.new=[])
 fr:s'.fr=putDst s.fr o.dst (valOf x)
 hp:s'.hp=Cq x slot (makes o.op) s.hp
theorem nK{i:Nat}{o:Oper}(ho:ops[i]?=some o){s s':St}{x:Option iD}:jc E ops base i s=some (s',x)↔Did E ops o (bP ops base i) s x s':=by
 unfold jc;simp only[ho];constructor
 ·intro h;split at h
  ·rename_i hd;split at h
   ·cases h
   ·rename_i hg;simp only[alg,al1]at h;obtain⟨rfl,rfl⟩:=h;exact⟨hd,hg,fun r hr=>(by cases hr),rfl,rfl⟩
   ·rename_i hg;split at h
    ·rename_i r hr;split at h
     ·rename_i H hH;simp only[alg,al1]at h;obtain⟨rfl,rfl⟩:=h;obtain⟨h1,h2⟩:=zP.1 hH;exact⟨hd,hg,fun r' hr'=>by cases hr';exact⟨hr,h2⟩,rfl,h1⟩
     ·cases h
    ·cases h
  ·cases h
 ·rintro⟨h1,h2,h3,h4,h5⟩;rw[if_pos h1];obtain⟨fr',hp'⟩:=s';simp only at h4 h5
  cases x with
  |none=>
   simp only[Option.isSome_none]at h2;simp only[h2,h4,h5,valOf,Cq]
  |some r=>
   simp only[Option.isSome_some]at h2;obtain⟨h6,h7⟩:=h3 r rfl;simp only[h2,h6];have:eH (aP s.hp r.wr) (bP ops base i) (makes o.op) r.new=some hp':=zP.2 ⟨h5,h7⟩;rw[this];simp only[h4,valOf]
theorem vK{fr fr':Fr}{o:Oper}(h:∀t,t∈o.looksAt ops→look fr' t=look fr t):kY ops fr' o=kY ops fr o:=by
 unfold kY
 cases hg:o.guard with
 |none=>rfl
 |some gw=>
  obtain⟨j,want⟩:=gw;simp only
  cases hd:(ops[j]?).bind (·.dst)with
  |none=>rfl
  |some d=>
   simp only;rw[h d (by simp[Oper.looksAt,hg,hd])]
theorem vI{call:CL}{o:Oper}{fr fr':Fr}{H:Heap}{slot:Nat}(h:∀t,t∈o.looksAt ops→look fr' t=look fr t):aQ E.P E.N call o fr' H slot=aQ E.P E.N call o fr H slot:=
 KC fun x hx=>Wo fun t ht=>h t (by
  subst ht;exact List.mem_append_left _ (List.mem_filterMap.2 ⟨.tmp t,by simpa using hx,rfl⟩))
theorem Did.alike{o:Oper}{slot:Nat}{s s' t:St}{x:Option iD}(h:Did E ops o slot s x s')(ha:Alike s t):∃t',Did E ops o slot t x t'∧Alike s' t':=by
 refine⟨⟨putDst t.fr o.dst (valOf x),Cq x slot (makes o.op) t.hp⟩,⟨h.dst,?_,fun r hr=> ?_,rfl,rfl⟩,⟨fun u=> ?_,?_⟩⟩
 ·rw[vK fun u _=>ha.fr u];exact h.go
 ·rw[ha.hp,vI (ops:=ops) fun u _=>ha.fr u];exact h.op r hr
 ·rw[h.fr,qB,qB,ha.fr u]
 ·rw[h.hp,ha.hp]
theorem Did.swap{o p:Oper}{so sp:Nat}{s s1 s2:St}{x y:Option iD}(hp:Did E ops p sp s y s1)(ho:Did E ops o so s1 x s2)
  (h1:∀d,p.dst=some d→d∉o.looksAt ops) (h2:∀d,p.dst=some d→o.dst≠some d) (h3:∀d,o.dst=some d→d∉p.looksAt ops)
  (hc:Clear x y so sp (makes o.op) (makes p.op)) (hc':Clear y x sp so (makes p.op) (makes o.op)) (hs:makes o.op=true→makes p.op=true→so≠sp):
  ∃t1 t2,Did E ops o so s x t1∧Did E ops p sp t1 y t2∧Alike s2 t2:=by
 have e1:∀t,t∈o.looksAt ops→look s.fr t=look s1.fr t:=fun t ht=>by
  rw[hp.fr,qB,if_neg fun e=>h1 t e ht]
 refine⟨⟨putDst s.fr o.dst (valOf x),Cq x so (makes o.op) s.hp⟩,⟨putDst (putDst s.fr o.dst (valOf x)) p.dst (valOf y),Cq y sp (makes p.op) (Cq x so (makes o.op) s.hp)⟩,
  ⟨ho.dst,?_,fun r hr=>⟨?_,(ho.op r hr).2⟩,rfl,rfl⟩,⟨hp.dst,?_,fun r hr=>⟨?_,(hp.op r hr).2⟩,rfl,rfl⟩,⟨fun t=> ?_,?_⟩⟩
 ·rw[vK e1];exact ho.go
 ·rw[vI e1];refine C9 (ho.op r hr).1 fun g hg=> ?_
  rw[hp.hp];exact(LJ hc hr s.hp g hg).symm
 ·rw[vK (fr:=s.fr) fun t ht=>by simp only[qB];rw[if_neg fun e=>h3 t e ht]];exact hp.go
 ·rw[vI (fr:=s.fr) fun t ht=>by simp only[qB];rw[if_neg fun e=>h3 t e ht]];exact C9 (hp.op r hr).1 (LJ hc' hr s.hp)
 ·rw[ho.fr,hp.fr];simp only[qB];by_cases e:p.dst=some t
  ·rw[if_pos e,if_neg (h2 t e),if_pos e]
  ·simp only[if_neg e]
 ·rw[ho.hp,hp.hp];exact(TK hc hc' hs s.hp).symm
theorem Qo:∀(l:List Nat) (s s' t:St) (xs:List (Option iD)),(∀i,i∈l→i<ops.size)→gm E ops base l s=some (s',xs)→Alike s t→∃t',gm E ops base l t=some (t',xs)∧Alike s' t':=by
 intro l
 induction l with
 |nil=>
  intro s s' t xs _ h ha;simp only[gm,alg,al1]at h;obtain⟨rfl,rfl⟩:=h;exact⟨t,rfl,ha⟩
 |cons i r ih=>
  intro s s' t xs hl h ha;simp only[gm]at h ⊢
  have ho:ops[i]?=some ops[i]!:=by
   have:i<ops.size:=hl i (by simp);rw[alT this];simp[this]
  cases h1:jc E ops base i s with
  |none=>simp[h1]at h
  |some p=>
   obtain⟨s1,x⟩:=p;simp only[h1]at h
   cases h2:gm E ops base r s1 with
   |none=>simp[h2]at h
   |some q=>
    obtain⟨s2,ys⟩:=q;simp only[h2,alg,al1]at h;obtain⟨rfl,rfl⟩:=h;obtain⟨t1,d1,a1⟩:=((nK ho).1 h1).alike ha;rw[(nK ho).2 d1];obtain⟨t2,e2,a2⟩:=ih s1 s2 t1 ys (fun j hj=>hl j (by simp[hj])) h2 a1;simp only[e2];exact⟨t2,rfl,a2⟩
theorem Oj:∀(l:List Nat) (s s':St) (xs:List (Option iD)),gm E ops base l s=some (s',xs)→xs.length=l.length:=by
 intro l
 induction l with
 |nil=>intro s s' xs h;simp only[gm,alg,al1]at h;rw[←h.2];rfl
 |cons i r ih=>
  intro s s' xs h;simp only[gm]at h
  cases h1:jc E ops base i s with
  |none=>simp[h1]at h
  |some p=>
   obtain⟨s1,x⟩:=p;simp only[h1]at h
   cases h2:gm E ops base r s1 with
   |none=>simp[h2]at h
   |some q=>
    obtain⟨s2,ys⟩:=q;simp only[h2,alg,al1]at h;rw[←h.2];simp[ih _ _ _ h2]
def Loose(ops:Array Oper)(base:Nat)(T:Nat→Option iD)(j i:Nat):Prop:=
 ∃p o,ops[j]?=some p∧ops[i]?=some o∧p.apart ops o=true∧(hot p.op=false∨hot o.op=false∨(isLoad p.op=true∧isLoad o.op=true)∨rE ops base j i (T j) (T i)=true)
theorem Dg{mk:Bool}{slot:Nat}{x:Option iD}(h:noSlot mk slot x=true):∀a,x=some a→mk=true→∀g,g∈a.rd++a.wr.map (·.1)→g.1≠slot:=by
 intro a hx hm g hg;subst hx hm;simp only[noSlot,al2,alk,alF]at h;simpa using h g hg
theorem CZ{x y:Option iD}(h:JC x y=true):∀a b,x=some a→y=some b→(∀g,g∈a.rd++a.wr.map (·.1)→g∉b.wr.map (·.1))∧(∀g,g∈b.rd++b.wr.map (·.1)→g∉a.wr.map (·.1)):=by
 intro a b hx hy;subst hx hy;simp only[JC,alu,alF]at h;obtain⟨h1,h2⟩:=h
 have k1:∀g,g∈b.rd++b.wr.map (·.1)→g∉a.wr.map (·.1):=fun g hg hm=>by
  have:=h1 g hg;simp only[am5,List.contains_eq_mem,amk]at this;exact this hm
 refine⟨fun g hg hm=> ?_,k1⟩;rcases alx.1 hg with hg|hg
 ·have:=h2 g hg;simp only[am5,List.contains_eq_mem,amk]at this;exact this hm
 ·exact k1 g (alx.2 (.inr hm)) hg
theorem Loose.swap{T:Nat→Option iD}{i j:Nat}(hne:i≠j)(h:Loose ops base T j i){s s1 s2:St}(hj:jc E ops base j s=some (s1,T j))(hi:jc E ops base i s1=some (s2,T i)):
  ∃t1 t2,jc E ops base i s=some (t1,T i)∧jc E ops base j t1=some (t2,T j)∧Alike s2 t2:=by
 obtain⟨p,o,hp,ho,hap,hc⟩:=h;have dj:=(nK hp).1 hj;have di:=(nK ho).1 hi;obtain⟨a1,a2,a3⟩:=Oper.apart_spec hap
 have key:Clear (T i) (T j) (bP ops base i) (bP ops base j) (makes o.op) (makes p.op)∧Clear (T j) (T i) (bP ops base j) (bP ops base i) (makes p.op) (makes o.op):=by
  rcases hc with hc|hc|hc|hc
  ·refine⟨⟨fun a b ha hb g hg=> ?_,fun a ha hm=> ?_⟩,⟨fun a b ha hb g hg=> ?_,fun a ha hm g hg=> ?_⟩⟩
   ·obtain⟨c1,c2,c3⟩:=iy (dj.op b hb).1 hc;simp[c2]
   ·cases hT:T j with
    |none=>
     have hmk:=qm hc;rw[hmk]at hm;cases hm
    |some b=>rw[(iy (dj.op b hT).1 hc).2.2]at hm;cases hm
   ·obtain⟨c1,c2,c3⟩:=iy (dj.op a ha).1 hc;simp[c1,c2]at hg
   ·obtain⟨c1,c2,c3⟩:=iy (dj.op a ha).1 hc;simp[c1,c2]at hg
  ·refine⟨⟨fun a b ha hb g hg=> ?_,fun a ha hm g hg=> ?_⟩,⟨fun a b ha hb g hg=> ?_,fun a ha hm=> ?_⟩⟩
   ·obtain⟨c1,c2,c3⟩:=iy (di.op a ha).1 hc;simp[c1,c2]at hg
   ·obtain⟨c1,c2,c3⟩:=iy (di.op a ha).1 hc;simp[c1,c2]at hg
   ·obtain⟨c1,c2,c3⟩:=iy (di.op b hb).1 hc;simp[c2]
   ·cases hT:T i with
    |none=>
     have hmk:=qm hc;rw[hmk]at hm;cases hm
    |some b=>rw[(iy (di.op b hT).1 hc).2.2]at hm;cases hm
  ·have mk:∀q:Oper,isLoad q.op=true→makes q.op=false:=by
    intro q hq;obtain⟨dst,op,type,pos,after,guard⟩:=q
    cases op<;>first|rfl|(simp[isLoad]at hq;done)
   refine⟨⟨fun a b ha hb g hg=> ?_,fun a ha hm=> ?_⟩,⟨fun a b ha hb g hg=> ?_,fun a ha hm=> ?_⟩⟩
   ·obtain⟨c1,c2⟩:=Cv (dj.op b hb).1 hc.1;simp[c1]
   ·rw[mk p hc.1]at hm;cases hm
   ·obtain⟨c1,c2⟩:=Cv (di.op b hb).1 hc.2;simp[c1]
   ·rw[mk o hc.2]at hm;cases hm
  ·simp only[rE,alu]at hc;obtain⟨⟨c1,c2⟩,c3⟩:=hc;rw[iK hp]at c2;rw[iK ho]at c3;exact⟨⟨fun a b ha hb=>(CZ c1 b a hb ha).2,Dg c2⟩,⟨fun a b ha hb=>(CZ c1 a b ha hb).1,Dg c3⟩⟩
 obtain⟨t1,t2,e1,e2,e3⟩:=dj.swap di a1 a2 a3 key.1 key.2 (fun m1 m2=>Bp hne (by rw[iK ho];exact m1) (by rw[iK hp];exact m2));exact⟨t1,t2,(nK ho).2 e1,(nK hp).2 e2,e3⟩
theorem Cr{T:Nat→Option iD}{i:Nat}{r:List Nat}{s s':St}:gm E ops base (i::r) s=some (s',(i::r).map T)↔∃s1,jc E ops base i s=some (s1,T i)∧gm E ops base r s1=some (s',r.map T):=by
 simp only[gm];constructor
 ·intro h
  cases h1:jc E ops base i s with
  |none=>simp[h1]at h
  |some p=>
   obtain⟨s1,x⟩:=p;simp only[h1]at h
   cases h2:gm E ops base r s1 with
   |none=>simp[h2]at h
   |some q=>
    obtain⟨s2,ys⟩:=q;simp only[h2,alg,al1,al3,List.cons.injEq]at h;obtain⟨rfl,rfl,rfl⟩:=h;exact⟨s1,rfl,h2⟩
 ·rintro⟨s1,h1,h2⟩;simp only[h1,h2,al3]
theorem bubble{T:Nat→Option iD}{i:Nat}{L2:List Nat}:∀(L1:List Nat) (s s':St),(∀j,j∈L1++i::L2→j<ops.size)→(∀j,j∈L1→j≠i∧Loose ops base T j i)→gm E ops base (L1++i::L2) s=some (s',(L1++i::L2).map T)→
  ∃s1 s'',jc E ops base i s=some (s1,T i)∧gm E ops base (L1++L2) s1=some (s'',(L1++L2).map T)∧Alike s' s'':=by
 intro L1
 induction L1 with
 |nil=>
  intro s s' _ _ h;obtain⟨s1,h1,h2⟩:=Cr.1 h;exact⟨s1,s',h1,h2,Alike.refl _⟩
 |cons j r ih=>
  intro s s' hb hl h;obtain⟨sj,h1,h2⟩:=Cr.1 h;obtain⟨si,s'',h3,h4,h5⟩:=ih sj s' (fun k hk=>hb k (by simp only[am1,alN];exact .inr hk)) (fun k hk=>hl k (by simp[hk])) h2;obtain⟨t1,t2,e1,e2,e3⟩:=(hl j (by simp)).2.swap (Ne.symm (hl j (by simp)).1) h1 h3
  obtain⟨t3,e4,e5⟩:=Qo (r++L2) si s'' t2 _ (fun k hk=>hb k (by
   simp only[am1,alN,alx]at hk ⊢;rcases hk with hk|hk
   ·exact .inr (.inl hk)
   ·exact .inr (.inr (.inr hk)))) h4 e3
  exact⟨t1,t3,e1,Cr.2 ⟨t2,e2,e4⟩,h5.trans e5⟩
theorem Dj(l:List Oper):∀acc:Array Nat,(l.foldl (fun acc o=>acc.push (CheckFast.one (fun i=>acc.getD i 0) o)) acc).size=acc.size+l.length:=by
 induction l with
 |nil=>intro acc;rfl
 |cons o r ih=>intro acc;rw[List.foldl_cons,ih];simp;omega
theorem CB(l:List Oper):∀(acc:Array Nat) (i:Nat),i<acc.size→(l.foldl (fun acc o=>acc.push (CheckFast.one (fun i=>acc.getD i 0) o)) acc).getD i 0=acc.getD i 0:=by
 induction l with
 |nil=>intro acc i _;rfl
 |cons o r ih=>
  intro acc i hi;rw[List.foldl_cons,ih _ i (by simp;omega)];simp only[ala,Array.getElem?_push];rw[if_neg (by omega)]
theorem Yd(look:Nat→Nat)(o:Oper)(j:Nat)(h:(CheckFast.one look o).testBit j=true):∃e∈o.after.toList,Region.binds .any e=true∧(e.on=j∨(look e.on).testBit j=true):=by
 unfold CheckFast.one at h;rw[←Array.foldl_toList]at h
 have key:∀(l:List Edge) (s:Nat),(l.foldl (fun s e=>if Region.binds .any e then s|||2 ^ e.on|||look e.on else s) s).testBit j=true→s.testBit j=true∨∃e∈l,Region.binds .any e=true∧(e.on=j∨(look e.on).testBit j=true):=by
  intro l
  induction l with
  |nil=>intro s h;exact .inl h
  |cons e r ih=>
   intro s h;rw[List.foldl_cons]at h;rcases ih _ h with h1|⟨e',h1,h2,h3⟩
   ·split at h1
    ·rename_i hb;rw[Nat.testBit_or,Nat.testBit_or,amF,amF]at h1;rcases h1 with(h1|h1)|h1
     ·exact .inl h1
     ·rw[Nat.testBit_two_pow]at h1;exact .inr ⟨e,by simp,hb,.inl (by simpa using h1)⟩
     ·exact .inr ⟨e,by simp,hb,.inr h1⟩
    ·exact .inl h1
   ·exact .inr ⟨e',by simp[h1],h2,h3⟩
 rcases key _ _ h with h|h
 ·simp at h
 ·exact h
theorem Py(ops:Array Oper){i j:Nat}(h:((Region.before ops).getD i 0).testBit j=true):
  ∃o,ops[i]?=some o∧∃e∈o.after.toList,Region.binds .any e=true∧(e.on=j∨(e.on<i∧((Region.before ops).getD e.on 0).testBit j=true)):=by
 have hdef:Region.before ops=ops.toList.foldl (fun acc o=>acc.push (CheckFast.one (fun i=>acc.getD i 0) o)) #[]:=by
  unfold Region.before;rw[←Array.foldl_toList];rfl
 have hi:i<ops.toList.length:=by
  rcases am8 i ops.toList.length with hi|hi
  ·exact hi
  ·have:(Region.before ops).size=ops.toList.length:=by rw[hdef,Dj];simp
   rw[ala,Array.getElem?_eq_none (by rw[this];exact hi)]at h;simp at h
 have hi':i<ops.size:=by simpa using hi
 have hsplit:ops.toList=ops.toList.take i++ops.toList[i]::ops.toList.drop (i+1):=by
  rw[List.getElem_cons_drop,amu]
 have hval:(Region.before ops).getD i 0=CheckFast.one (fun k=>if k<i then(Region.before ops).getD k 0 else 0) ops.toList[i]:=by
  have e:Region.before ops=(ops.toList.drop (i+1)).foldl (fun acc o=>acc.push (CheckFast.one (fun i=>acc.getD i 0) o))
    (((ops.toList.take i).foldl (fun acc o=>acc.push (CheckFast.one (fun i=>acc.getD i 0) o)) #[]).push (CheckFast.one (fun k=>((ops.toList.take i).foldl (fun acc o=>acc.push (CheckFast.one (fun i=>acc.getD i 0) o)) #[]).getD k 0) ops.toList[i])):=by
   rw[hdef]
   conv=>lhs;rw[hsplit]
   rw[List.foldl_append,List.foldl_cons]
  generalize hA:(ops.toList.take i).foldl (fun acc o=>acc.push (CheckFast.one (fun i=>acc.getD i 0) o)) #[]=A at e;have hsz:A.size=i:=by rw[←hA,Dj];simp;omega
  have e1:(fun k=>if k<i then(Region.before ops).getD k 0 else 0)=fun k=>A.getD k 0:=by
   funext k
   split
   ·rename_i hk;rw[e,CB _ _ k (by simp;omega)];simp only[ala,Array.getElem?_push];rw[if_neg (by omega)]
   ·rw[ala,Array.getElem?_eq_none (by omega)];rfl
  rw[e1];rw[e,CB _ _ i (by simp;omega)];simp only[ala,Array.getElem?_push];rw[if_pos hsz.symm];rfl
 rw[hval]at h;obtain⟨e,h1,h2,h3⟩:=Yd _ _ _ h;refine⟨ops.toList[i],by simp[alT (show i<ops.size by simpa using hi)],e,h1,h2,?_⟩;rcases h3 with h3|h3
 ·exact .inl h3
 ·split at h3
  ·rename_i hlt;exact .inr ⟨hlt,h3⟩
  ·simp at h3
def Down(ops:Array Oper)(listed:Array Bool):Prop:=
 ∀i o,ops[i]?=some o→listed.getD i true=true→∀e∈o.after.toList,Region.binds .any e=true→listed.getD e.on false=true
theorem Down.anc{ops:Array Oper}{listed:Array Bool}(hs:listed.size=ops.size)(hd:Down ops listed):∀(i:Nat) (o:Oper),ops[i]?=some o→(∀e∈o.after.toList,Region.binds .any e=true→listed.getD e.on false=true)→
  ∀j,((Region.before ops).getD i 0).testBit j=true→listed.getD j false=true:=by
 intro i
 induction i using Nat.strongRecOn with
 |ind i ih=>
  intro o ho hall j hj;obtain⟨o',ho',e,he,hb,h⟩:=Py ops hj;rw[ho]at ho';cases ho';have h1:=hall e he hb;rcases h with h|⟨hlt,h⟩
  ·rw[←h];exact h1
  ·have hsz:e.on<ops.size:=by
    rcases am8 e.on ops.size with h|h
    ·exact h
    ·rw[ala,Array.getElem?_eq_none (by omega)]at h1;cases h1
   have h2:listed.getD e.on true=true:=by
    simp only[ala]at h1 ⊢;rw[alT (by omega)]at h1 ⊢;exact h1
   have ho2:ops[e.on]?=some ops[e.on]:=alT hsz;exact ih e.on hlt _ ho2 (hd _ _ ho2 h2) j h
end
section
variable{E:Env}{Y:XT}{ops:Array Oper}{Q:Exit→Act→World→Prop}{base:Nat}
theorem SR.alike{nt:Nat}{w:World}{ρ:dP}{a:Act}{s t:St}(h:SR Y nt w ρ a s)(ha:Alike s t):SR Y nt w ρ a t:=
 ⟨h.tsz,h.Yb,fun u=>by rw[ha.hp,ha.fr u];exact h.fr u,by rw[ha.hp];exact h.hp⟩
theorem HR.drew{w:World}{ρ:dP}{H:Heap}(h:HR Y w ρ H):HR Y w.drew ρ H:=by
 refine⟨fun g k hg=> ?_,h.inj,h.dom,h.lt,h.sep,h.ylt⟩;rcases h.blk g k hg with hb|⟨b,h1,h2⟩
 ·exact .inl hb
 ·exact .inr ⟨b,h1,h2.keep (Stable.refl w (XU Y ρ H)).drew (fun _ _ e=>e) rfl⟩
theorem SR.drew{nt:Nat}{w:World}{ρ:dP}{a:Act}{s:St}(h:SR Y nt w ρ a s):SR Y nt w.drew ρ a s:=
 ⟨h.tsz,h.Yb,h.fr.mono (Stable.refl w _).drew fun _ _ e=>e,h.hp.drew⟩
theorem Iq{listed:Array Bool}{i:Nat}(h:i∈Region.ready .any ops listed):i<ops.size∧listed.getD i true=false∧∃o,ops[i]?=some o∧∀e∈o.after.toList,Region.binds .any e=true→listed.getD e.on false=true:=by
 unfold Region.ready at h;simp only[am3,amI,alu,am5]at h;obtain⟨h1,h2,h3⟩:=h;refine⟨h1,h2,ops[i],alT h1,fun e he hb=> ?_⟩;rw[alT h1]at h3;simp only[al4,amt]at h3;have he':e∈ops[i].after:=by simpa using he
 obtain⟨k,hk,rfl⟩:=Array.mem_iff_getElem.1 he';have:=(Array.all_eq_true.1 h3) k hk;simp only[hb,al2,alk]at this;exact this
theorem RX(hS:∀i,Sound E.P (E.call i)){T:Nat→Option iD}{s':St}
  (hloose:∀j i,j<i→i<ops.size→((Region.before ops).getD i 0).testBit j=true∨Loose ops base T j i)
  (hedge:∀i o,ops[i]?=some o→∀e∈o.after.toList,Region.binds .any e=true→e.on<i):
  ∀(n:Nat) (L:List Nat) (listed:Array Bool) (s s'':St) (a:Act) (w:World) (ρ:dP),L.length=n→L.Pairwise (· < ·)→listed.size=ops.size→(∀i,i∈L↔i<ops.size∧listed.getD i true=false)→
   Down ops listed→SR Y E.nt w ρ a s→(∀i∈L,dY ops i=true→Free s.hp (bP ops base i))→gm E ops base L s=some (s'',L.map T)→Alike s' s''→
   (∀a' w' ρ',SR Y E.nt w' ρ' a' s'→sQ w ρ s.hp w' ρ' s'.hp→Q .normal a' w')→wpAny E.P .any ops Q n listed a w:=by
 intro n
 induction n with
 |zero=>
  intro L listed s s'' a w ρ hlen _ _ hmem _ hsr _ hrun hal hQ;have hL:L=[]:=amc hlen;subst hL;simp only[gm,alJ,alg,al1]at hrun;obtain⟨rfl,_⟩:=hrun;refine⟨?_,hQ a w ρ (hsr.alike hal.symm) (by rw[←hal.hp];exact sQ.refl _ _ _)⟩
  cases hr:Region.ready .any ops listed with
  |nil=>rfl
  |cons i r=>
   have:=Iq (ops:=ops) (listed:=listed) (i:=i) (by rw[hr];simp);have:=(hmem i).2 ⟨this.1,this.2.1⟩;simp at this
 |succ n ih=>
  intro L listed s s'' a w ρ hlen hsort hsz hmem hdown hsr hfree hrun hal hQ;refine⟨fun hnil=> ?_,fun i hi=> ?_⟩
  ·
   exfalso
   cases L with
   |nil=>simp at hlen
   |cons j r=>
    obtain⟨hj1,hj2⟩:=(hmem j).1 (by simp)
    have hin:j∈Region.ready .any ops listed:=by
     unfold Region.ready;simp only[am3,amI,alu,am5];refine⟨hj1,hj2,?_⟩;rw[alT hj1];simp only[al4,amt,Array.all_eq_true];intro k hk
     cases hb:Region.binds .any ops[j].after[k]with
     |false=>simp
     |true=>
      simp only[al2,alk];have hlt:=hedge j ops[j] (alT hj1) ops[j].after[k] (by simp) hb
      cases hl:listed.getD (ops[j].after[k]).on false with
      |true=>rfl
      |false=>
       have hl':listed.getD (ops[j].after[k]).on true=false:=by
        simp only[ala]at hl ⊢;rw[alT (by omega)]at hl ⊢;exact hl
       have:=(hmem (ops[j].after[k]).on).2 ⟨by omega,hl'⟩;simp only[alN]at this;rcases this with e|e
       ·omega
       ·have:=List.rel_of_pairwise_cons hsort e;omega
    rw[hnil]at hin;simp at hin
  ·obtain⟨h1,h2,o,ho,hed⟩:=Iq hi;have hiL:i∈L:=(hmem i).2 ⟨h1,h2⟩;obtain⟨L1,L2,rfl⟩:=List.append_of_mem hiL;have hpw:=List.pairwise_append.1 hsort;have hlt:∀j,j∈L1→j<i:=fun j hj=>hpw.2.2 j hj i (by simp)
   obtain⟨s1,s2,e1,e2,e3⟩:=bubble L1 s s'' (fun j hj=>((hmem j).1 hj).1) (fun j hj=>by
    refine⟨Nat.ne_of_lt (hlt j hj),?_⟩;rcases hloose j i (hlt j hj) h1 with hb|hb
    ·have:=Down.anc hsz hdown i o ho hed j hb;have h3:=((hmem j).1 (by simp[hj])).2;simp only[ala]at this h3
     cases hg:listed[j]? with
     |none=>rw[hg]at h3;cases h3
     |some v=>rw[hg]at h3 this;simp at h3 this;rw[h3]at this;cases this
    ·exact hb) hrun
   have hnd:(L1++i::L2).Nodup:=hsort.imp Nat.ne_of_lt
   have hni:i∉L1++L2:=by
    intro hm;rw[List.nodup_append]at hnd;simp only[alx]at hm;rcases hm with hm|hm
    ·exact hnd.2.2 i hm i (by simp) rfl
    ·exact(List.nodup_cons.1 hnd.2.1).1 hm
   refine wpOp_step hS hsr (hfree i hiL) e1 (fun a' w' ρ' h3 h4=> ?_);refine ih (L1++L2) (listed.setIfInBounds i true) s1 s2 a' w' ρ' (by simp at hlen ⊢;omega) ?_ (by simpa using hsz) (fun j=> ?_) (fun j p hp hj e he hb=> ?_) h3 (fun j hj hm=> ?_) e2 (hal.trans e3) (fun a2 w2 ρ2 h5 h6=>hQ a2 w2 ρ2 h5 (h4.trans h6))
   ·exact hsort.sublist (List.Sublist.append (List.Sublist.refl _) (List.sublist_cons_self _ _))
   ·simp only[ala,Array.getElem?_setIfInBounds];have:=hmem j;simp only[ala,alx,alN]at this ⊢;by_cases hij:i=j
    ·subst hij;constructor
     ·intro hm;exact absurd (alx.2 hm) hni
     ·intro hm;simp[hsz,h1]at hm
    ·rw[if_neg hij,←this];simp[Ne.symm hij]
   ·simp only[ala,Array.getElem?_setIfInBounds]at hj ⊢
    have get:∀k,listed.getD k false=true→((if i=k then(if i<listed.size then some true else none)else listed[k]?)).getD false=true:=by
     intro k hk;split
     ·rename_i e;subst e;simp[hsz,h1]
     ·rwa [ala]at hk
    by_cases hij:i=j
    ·subst hij;rw[ho]at hp;cases hp;exact get _ (hed e he hb)
    ·rw[if_neg hij]at hj;exact get _ (hdown j p hp (by rw[ala];exact hj) e he hb)
   ·have hji:j≠i:=fun e=>hni (e ▸ hj)
    have hjL:j∈L1++i::L2:=by
     simp only[alx,alN]at hj ⊢;rcases hj with hj|hj
     ·exact .inl hj
     ·exact .inr (.inr hj)
    exact FV e1 (Ne.symm hji) hm (hfree j hjL hm)
theorem J6(hS:∀i,Sound E.P (E.call i))(hm:E.P.follows .mixedOrders=true){id:Nat}{ops:Array Oper}{draw:Bool}{s s':St}{a:Act}{w:World}{ρ:dP}{Q:Exit→Act→World→Prop}
  (hsr:SR Y E.nt w ρ a s) (hok:draw=true→Qv (E.pairs id) ops=true) (h:nL E id ops draw s=some s')
  (hQ:∀a' w' ρ',SR Y E.nt w' ρ' a' s'→sQ w ρ s.hp w' ρ' s'.hp→Q .normal a' w'):(Code.region id ops draw).wp E.P Q a w:=by
 unfold nL at h;split at h
 ·rename_i s1 xs hrun;split at h
  ·cases h
  ·rename_i hchk;simp only[alg]at h;subst h;have hfree:∀i∈List.range ops.size,dY ops i=true→Free (s.hp++List.replicate (oq ops) []) (bP ops s.hp.length i):=fun i _ hi=>Free.more (zI hi).1 (zI hi).2
   have hgrew:∀w' ρ' (H:Heap),sQ w ρ (s.hp++List.replicate (oq ops) []) w' ρ' H→sQ w ρ s.hp w' ρ' H:=fun w' ρ' H hg=>⟨by have:=hg.st;rwa [Ao]at this,hg.le⟩
   cases draw with
   |false=>
    refine wp_region (TF hS _ _ _ _ a w ρ List.nodup_range (hsr.more _) hfree hrun fun a' w' ρ' h1 h2=> ?_);exact hQ a' w' ρ' (h1.clear E.j6) (hgrew _ _ _ h2)
   |true=>
    have hok:=hok rfl;simp only[alL,am5,Bool.not_eq_false,alF]at hchk;have hlen:=Oj _ _ _ _ hrun
    have hxs:xs=(List.range ops.size).map fun i=>xs.getD i none:=by
     apply List.ext_getElem
     ·simpa using hlen
     ·intro i h1 h2;simp[al8,alh h1]
    rw[hxs]at hrun;simp only[Qv,alF,amI]at hok;refine wp_region_any hm ?_;refine RX (T:=fun i=>xs.getD i none) (base:=s.hp.length) (s':=s1) hS (fun j i hji hi=> ?_) (fun i o ho e he hb=> ?_) ops.size (List.range ops.size) _ _ s1 a w.drew ρ (by simp) List.pairwise_lt_range (by simp) (fun i=> ?_) (fun i o ho hl=> ?_)
     (hsr.more _).drew hfree hrun (Alike.refl _) (fun a' w' ρ' h1 h2=>hQ a' w' ρ' (h1.clear E.j6) (hgrew _ _ _ ⟨(Stable.refl w _).drew.trans h2.st,h2.le⟩))
    ·have:=hok i hi;rw[alT hi]at this;simp only[alu,alF,amI]at this;have:=this.2 j hji;rw[amF]at this;rcases this with this|this
     ·exact .inl this
     ·refine .inr ?_;have hj:j<ops.size:=by omega
      rw[alT hj]at this;simp only[alu,amF,am5]at this;refine⟨ops[j],ops[i],alT hj,alT hi,this.1,?_⟩;rcases this.2 with((h1|h1)|h1)|h1
      ·exact .inl h1
      ·exact .inr (.inl h1)
      ·exact .inr (.inr (.inl h1))
      ·exact .inr (.inr (.inr (hchk (j,i) (by simpa using h1))))
    ·have hi:i<ops.size:=(amf.1 ho).1;have:=hok i hi;rw[ho]at this;simp only[alu,alF]at this;have:=this.1 e he;simpa[hb]using this
    ·simp only[amI,ala,Array.getElem?_replicate];constructor
     ·intro hi;simp[hi]
     ·exact fun h=>h.1
    ·have hi:i<ops.size:=(amf.1 ho).1;simp[ala,Array.getElem?_replicate,hi]at hl
 ·cases h
end
section
variable{E:Env}{Y:XT}
def TP:Ex→Exit
 | .normal=>.normal
 | .exit id=>.exit id
 | .ret=>.ret
theorem vN{H:Heap}{m:Nat}{f:Ren}{R:List Nm}{g:Nm}{k:cB}(h:get (qz H m f R) g=some k):
  g.2=0∧∃g0 k0,(aL m++R)[g.1]?=some g0∧get H g0=some k0∧k=bZ f k0:=by
 obtain⟨a,c⟩:=g;simp only[get,qz,ale]at h
 cases hg:(aL m++R)[a]? with
 |none=>simp[hg]at h
 |some g0=>
  cases c with
  |zero=>
   simp only[hg,al4,List.getElem?_cons_zero,Option.join_some]at h;obtain⟨k0,h1,rfl⟩:=alf.1 h;exact⟨rfl,g0,k0,rfl,h1,rfl⟩
  |succ c=>simp[hg]at h
def fV(ρ:dP)(m:Nat)(R:List Nm):dP:=fun g=>if g.2=0 then(match(aL m++R)[g.1]? with|some g0=>ρ g0|none=>none)else none
theorem SS{m i:Nat}{g:Nm}(h:(aL m)[i]?=some g):g=(i,0)∧i<m:=by
 unfold aL at h;rw[ale]at h
 cases hr:(List.range m)[i]? with
 |none=>simp[hr]at h
 |some j=>
  simp[hr]at h;have:=akX.1 hr;obtain⟨h1,h2⟩:=this;simp at h1 h2;subst h2;exact⟨h.symm,h1⟩
theorem rF{ρ:dP}{m:Nat}{R:List Nm}:Moves (je m R) ρ (fV ρ m R):=by
 intro g g' b hg hb;unfold je at hg;split at hg
 ·rename_i hlt;split at hg
  ·rename_i h0;cases hg;simp only[fV,h0,if_true]
   have:(aL m++R)[g.1]?=some (g.1,0):=by
    rw[alp (by simpa[aL]using hlt)];simp[aL,hlt]
   rw[this];simp only;rw[show((g.1,0):Nm)=g from by rw[←h0]];exact hb
  ·cases hg
 ·cases hi:idxOf g R 0 with
  |none=>simp[hi]at hg
  |some i=>
   simp[hi]at hg;subst hg;obtain⟨_,hR⟩:=iI g R 0 i hi;simp only[fV,if_true]
   have:(aL m++R)[m+i]?=some g:=by
    rw[alm (by simp[aL])];simpa[aL]using hR
   rw[this];exact hb
theorem TQ{m:Nat}{R:List Nm}(hR:R.Nodup)(ho:∀g,g∈R→¬ g.1<m){i j:Nat}{g:Nm}(h1:(aL m++R)[i]?=some g)(h2:(aL m++R)[j]?=some g):i=j:=by
 have key:∀i,(aL m++R)[i]?=some g→(i<m∧g=(i,0))∨(m≤i∧R[i-m]?=some g):=by
  intro i h;rcases am8 i m with hi|hi
  ·rw[alp (by simpa[aL]using hi)]at h;exact .inl ⟨hi,(SS h).1⟩
  ·rw[alm (by simpa[aL]using hi)]at h;exact .inr ⟨hi,by simpa[aL]using h⟩
 rcases key i h1 with⟨a1,a2⟩|⟨a1,a2⟩<;>rcases key j h2 with⟨b1,b2⟩|⟨b1,b2⟩
 ·rw[a2]at b2;simpa using b2
 ·exact absurd (by rw[a2];exact a1) (ho g (alb b2))
 ·exact absurd (by rw[b2];exact b1) (ho g (alb a2))
 ·have i1:=j5 R 0 _ g hR a2;have i2:=j5 R 0 _ g hR b2;rw[i1]at i2;simp at i2;omega
theorem sH{H:Heap}{m:Nat}{roots:List Nm}:(reached H m roots).Nodup∧∀g,g∈reached H m roots→¬ g.1<m:=by
 unfold reached outside;refine⟨(Da _ _).filter _,fun g hg=> ?_⟩;simp only[am3]at hg;simpa using hg.2
theorem HR.pack{w:World}{ρ:dP}{H:Heap}(hr:HR Y w ρ H){m:Nat}{R:List Nm}(hR:R.Nodup)(ho:∀g,g∈R→¬ g.1<m):
  HR Y w (fV ρ m R) (qz H m (je m R) R)∧Stable w (XX ρ H) w (XX (fV ρ m R) (qz H m (je m R) R)):=by
 have hrho:∀i g0,(aL m++R)[i]?=some g0→fV ρ m R (i,0)=ρ g0:=by
  intro i g0 h;simp[fV,h]
 have hX:∀b o,XX (fV ρ m R) (qz H m (je m R) R) b o→XX ρ H b o:=by
  intro b o ⟨g,k,hg,hb,hk⟩;obtain⟨h0,g0,k0,h1,h2,rfl⟩:=vN hg;obtain⟨a,c⟩:=g;simp only at h0 h1;subst h0;rw[hrho a g0 h1]at hb;rw[(mZ _ k0).1,(mZ _ k0).2.1]at hk;exact⟨g0,k0,h2,hb,hk⟩
 have hst:Stable w (XX ρ H) w (XX (fV ρ m R) (qz H m (je m R) R)):=(Stable.refl w _).less fun b o _ h=>hX b o h
 refine⟨⟨fun g k hg=> ?_,fun g g' k k' b hg hg' h1 h2=> ?_,fun g b hb=> ?_,fun g b hb=> ?_,fun g k b o hg hb=> ?_,hr.ylt⟩,hst⟩
 ·obtain⟨h0,g0,k0,h1,h2,rfl⟩:=vN hg;obtain⟨a,c⟩:=g;simp only at h0 h1;subst h0;rw[hrho a g0 h1];rcases hr.blk g0 k0 h2 with⟨b1,b2,b3⟩|⟨b,b1,b2⟩
  ·exact .inl ⟨b1,EJ _ b2,by rw[(mZ _ k0).2.2.1];exact b3⟩
  ·exact .inr ⟨b,b1,jC.ren rF (b2.keep (hst.xu Y) (fun _ _ h=>h) rfl)⟩
 ·obtain⟨h0,g0,k0,e1,e2,rfl⟩:=vN hg;obtain⟨h0',g0',k0',e1',e2',rfl⟩:=vN hg';obtain⟨a,c⟩:=g;obtain⟨a',c'⟩:=g';simp only at h0 h0' e1 e1';subst h0 h0';rw[hrho a g0 e1]at h1;rw[hrho a' g0' e1']at h2;have:=hr.inj g0 g0' k0 k0' b e2 e2' h1 h2;subst this;rw[TQ hR ho e1 e1']
 ·simp only[fV]at hb;split at hb
  ·rename_i h0
   cases hg:(aL m++R)[g.1]? with
   |none=>simp[hg]at hb
   |some g0=>
    rw[h0];simp only[qz,al8,ale,hg,al4,amt];simp
  ·cases hb
 ·simp only[fV]at hb;split at hb
  ·cases hg:(aL m++R)[g.1]? with
   |none=>simp[hg]at hb
   |some g0=>simp[hg]at hb;exact hr.lt g0 b hb
  ·cases hb
 ·obtain⟨h0,g0,k0,h1,h2,rfl⟩:=vN hg;obtain⟨a,c⟩:=g;simp only at h0 h1;subst h0;rw[hrho a g0 h1]at hb;exact hr.sep g0 k0 b o h2 hb
def Held(ρ ρ':dP)(m:Nat):Prop:=∀j,j<m→∀b,ρ (j,0)=some b→ρ' (j,0)=some b
theorem VN(f:AV→AV)(hf:f .undef= .undef):∀(fr:Fr) (t:Nat),look (fr.map fun p=>(p.1,f p.2)) t=f (look fr t):=by
 intro fr
 induction fr with
 |nil=>intro t;simp[look,hf]
 |cons p r ih=>
  intro t;obtain⟨s,x⟩:=p;simp only[al3,look,ih];split<;>rfl
structure qN(m:Nat)(w:World)(ρ:dP)(H:Heap)(w':World)(ρ':dP)(H':Heap):Prop where
 st:Stable w (XX ρ H) w' (XX ρ' H')
 held:Held ρ ρ' m
theorem qN.refl(m:Nat)(w:World)(ρ:dP)(H:Heap):qN m w ρ H w ρ H:=⟨Stable.refl _ _,fun _ _ _ h=>h⟩
theorem qN.trans{m:Nat}{w w' w'':World}{ρ ρ' ρ'':dP}{H H' H'':Heap}(h:qN m w ρ H w' ρ' H')(k:qN m w' ρ' H' w'' ρ'' H''):qN m w ρ H w'' ρ'' H'':=
 ⟨h.st.trans k.st,fun j hj b e=>k.held j hj b (h.held j hj b e)⟩
theorem sQ.went{m:Nat}{w w':World}{ρ ρ':dP}{H H':Heap}(h:sQ w ρ H w' ρ' H'):qN m w ρ H w' ρ' H':=⟨h.st,fun j _ b e=>h.le (j,0) b e⟩
theorem SR.tidy{w:World}{ρ:dP}{a:Act}{s:St}{nt m:Nat}(h:SR Y nt w ρ a s):∃ρ',SR Y nt w ρ' a (Abs.tidy m s)∧qN m w ρ s.hp w ρ' (Abs.tidy m s).hp:=by
 unfold Abs.tidy;simp only;obtain⟨hn,ho⟩:=sH (H:=s.hp) (m:=m) (roots:=s.fr.flatMap fun p=>mI p.2);generalize reached s.hp m (s.fr.flatMap fun p=>mI p.2)=R at hn ho ⊢;obtain⟨h1,h2⟩:=h.hp.pack (m:=m) hn ho;refine⟨fV ρ m R,⟨h.tsz,h.Yb,fun t=> ?_,h1⟩,h2,fun j hj b e=> ?_⟩
 ·simp only;rw[VN (BJ (je m R)) rfl];exact uQ rF ((h.fr t).mono (h2.xu Y) (fun _ _ h=>h))
 ·have:(aL m++R)[j]?=some (j,0):=by
   rw[alp (by simpa[aL]using hj)];simp[aL,hj]
  simp[fV,this,e]
end
def Good(P:Program)(N:FuncId→Note):Prop:=
 ∀ f fn, (N f).on = true → P.funcs[f]? = some fn → fn.name ≠ "runtime.NumGoroutine" ∧ ∀ body, fn.body = some body → iG (N f).pairs body = true
theorem entered {P : Program} {f : FuncId} {fn : Func} {body : Code} (h : P.funcs[f]? = some fn) (hb : fn.body = some body) (hn : fn.name ≠ "runtime.NumGoroutine") : mX P f := by
 intro args w;simp[callFunc,h,hb,hn]
theorem Iu:∀(l:List AV) (i t:Nat),look (BQ l i) t=if i≤t then(l[t-i]?).getD .undef else .undef:=by
 intro l
 induction l with
 |nil=>intro i t;simp[BQ,look]
 |cons x r ih=>
  intro i t;simp only[BQ,look,ih];by_cases h:i=t
  ·subst h;simp
  ·rw[if_neg h];by_cases h1:i≤t
   ·have h2:i+1≤t:=by omega
    rw[if_pos h1,if_pos h2,show t-i=(t-(i+1))+1 from by omega];simp
   ·rw[if_neg h1,if_neg (by omega)]
section
variable{Y:XT}{P:Program}
theorem ND{w:World}{ρ:dP}{H:Heap}{tmps:Array Value}{fr:Fr}(hr:HR Y w ρ H)(hf:FR w (XU Y ρ H) ρ tmps fr){x:ResultVar}{y:AV}(h:vU P fr H x=some y):
  ∃v,((match x with| .tmp t=>pure (tmps.getD t undef)| .cell a t=>do loadVar t (←asAddr (tmps.getD a undef)):Sem Value)).run P w= .ok v w∧VR w (XU Y ρ H) ρ v y:=by
 cases x with
 |tmp t=>
  simp only[vU,alg]at h;subst h;exact⟨_,rfl,hf t⟩
 |cell a t=>
  simp only[vU]at h;obtain⟨r,hr',rfl⟩:=alf.1 h;obtain⟨_,_,u,h1,h2⟩:=AB hr (hf a) hr';refine⟨u,?_,h2⟩
  have hptr:∃p,tmps.getD a undef= .pointer (some p):=by
   have hv:=hf a;generalize tmps.getD a undef=v at hv h1;unfold mF at hr';split at hr'
   ·split at hr'
    ·rename_i hl;rw[hl]at hv;split at hr'
     ·split at hr'
      ·rename_i hc;obtain⟨b,rfl,_⟩:=hv.Fh hc.2;exact⟨_,rfl⟩
      ·cases hr'
     ·cases hr'
    ·rename_i hl;rw[hl]at hv;obtain⟨b,o,rfl⟩:=hv.aco;exact⟨_,rfl⟩
    ·rename_i hl;rw[hl]at hv;cases hv with|pur v x hp=>cases hp with|fp b _ _ _=>exact⟨_,rfl⟩
    ·cases hr'
   ·cases hr'
  obtain⟨p,hp⟩:=hptr;rw[hp]at h1;simp only;rw[hp];simp only[Instr.loadAt,Instr.sureAddr]at h1;simpa[asAddr,Sem.run_bind]using h1
theorem Aj{w:World}{ρ:dP}{H:Heap}{tmps:Array Value}{fr:Fr}{fn:Func}(hr:HR Y w ρ H)(hf:FR w (XU Y ρ H) ρ tmps fr){y:AV}(h:Gt P fr H fn.results.toList=some y):
  ∃v,(results fn tmps).run P w= .ok v w∧VR w (XU Y ρ H) ρ v y:=by
 unfold Gt at h
 cases hm:fn.results.toList.mapM (vU P fr H)with
 |none=>simp[hm]at h
 |some ys=>
  obtain⟨hlen,hget⟩:=mapM_some _ _ _ hm
  have hex:∀x,x∈fn.results.toList→∃v,((match x with| .tmp t=>pure (tmps.getD t undef)| .cell a t=>do loadVar t (←asAddr (tmps.getD a undef)):Sem Value)).run P w= .ok v w∧∀y,vU P fr H x=some y→VR w (XU Y ρ H) ρ v y:=by
   intro x hx;obtain⟨i,hi⟩:=List.getElem?_of_mem hx;obtain⟨y,_,hy⟩:=hget i x hi;obtain⟨v,h1,h2⟩:=ND hr hf hy;exact⟨v,h1,fun y' hy'=>by rw[hy]at hy';cases hy';exact h2⟩
  classical
  let g:ResultVar→Value:=fun x=>if hx:x∈fn.results.toList then Classical.choose (hex x hx)else undef
  have hg:∀x,x∈fn.results.toList→((match x with| .tmp t=>pure (tmps.getD t undef)| .cell a t=>do loadVar t (←asAddr (tmps.getD a undef)):Sem Value)).run P w= .ok (g x) w∧∀y,vU P fr H x=some y→VR w (XU Y ρ H) ρ (g x) y:=by
   intro x hx;simp only[g,dif_pos hx];exact Classical.choose_spec (hex x hx)
  have hrun:=Array.zN (P:=P) (w:=w) (fun x:ResultVar=>(match x with| .tmp t=>pure (tmps.getD t undef)| .cell a t=>do loadVar t (←asAddr (tmps.getD a undef)):Sem Value)) g fn.results (fun x hx=>(hg x hx).1)
  have hval:(results fn tmps).run P w= .ok (if h:(fn.results.map g).size=1 then(fn.results.map g)[0]else .tuple (fn.results.map g)) w:=by
   unfold results;simp only[Sem.run_bind]
   erw [hrun]
   rfl
  have hel:∀(i:Nat) (y:AV),ys[i]?=some y→VR w (XU Y ρ H) ρ ((fn.results.map g).getD i undef) y:=by
   intro i y hy;have hi:i<ys.length:=(akX.1 hy).1;have hi':i<fn.results.toList.length:=by omega
   obtain⟨z,hz1,hz2⟩:=hget i fn.results.toList[i] (alh hi');rw[hy]at hz1;cases hz1;have:=(hg fn.results.toList[i] (List.getElem_mem hi')).2 y hz2;have hi2:i<fn.results.size:=by simpa using hi'
   simpa[ala,hi2]using this
  refine⟨_,hval,?_⟩;rw[hm]at h;have hsz:(fn.results.map g).size=ys.length:=by simp[hlen]
  cases ys with
  |nil=>
   simp only[alg]at h;subst h;rw[dif_neg (by rw[hsz];simp)];exact .tup _ _ hsz hel
  |cons y0 r=>
   cases r with
   |nil=>
    simp only[alg]at h;subst h;have h1:(fn.results.map g).size=1:=by rw[hsz];rfl
    rw[dif_pos h1];have:=hel 0 y0 (by simp)
    rwa [ala,alT (by omega)]at this
   |cons y1 r=>
    simp only[alg]at h;subst h;rw[dif_neg (by rw[hsz];simp)];exact .tup _ _ hsz hel
def Weak(nt keep:Nat)(s s':St):Prop:=∀(Y:XT) (w:World) (ρ:dP) (a:Act),SR Y nt w ρ a s→∃ρ',SR Y nt w ρ' a s'∧qN keep w ρ s.hp w ρ' s'.hp
theorem Weak.refl(nt keep:Nat)(s:St):Weak nt keep s s:=fun _ _ ρ _ h=>⟨ρ,h,qN.refl _ _ _ _⟩
theorem Weak.trans{nt keep:Nat}{s s1 s2:St}(h:Weak nt keep s s1)(k:Weak nt keep s1 s2):Weak nt keep s s2:=by
 intro Y w ρ a hr;obtain⟨ρ1,h1,h2⟩:=h Y w ρ a hr;obtain⟨ρ2,h3,h4⟩:=k Y w ρ1 a h1;exact⟨ρ2,h3,h2.trans h4⟩
def To(P:Program)(nt keep:Nat)(c:Code)(s:St)(e:Ex)(s':St):Prop:=
 ∀(Y:XT) (a:Act) (w:World) (ρ:dP) (Q:Exit→Act→World→Prop),SR Y nt w ρ a s→
  (∀a' w' ρ',SR Y nt w' ρ' a' s'→qN keep w ρ s.hp w' ρ' s'.hp→Q (TP e) a' w')→c.wp P Q a w
variable{nt keep:Nat}{s s1 s':St}{e:Ex}{c b:Code}
theorem To.pre(hw:Weak nt keep s s1)(h:To P nt keep c s1 e s'):To P nt keep c s e s':=by
 intro Y a w ρ Q hsr hQ;obtain⟨ρ1,h1,h2⟩:=hw Y w ρ a hsr;exact h Y a w ρ1 Q h1 (fun a' w' ρ' h3 h4=>hQ a' w' ρ' h3 (h2.trans h4))
theorem To.post(h:To P nt keep c s e s1)(hw:Weak nt keep s1 s'):To P nt keep c s e s':=by
 intro Y a w ρ Q hsr hQ;refine h Y a w ρ Q hsr (fun a' w' ρ' h1 h2=> ?_);obtain⟨ρ1,h3,h4⟩:=hw Y w' ρ' a' h1;exact hQ a' w' ρ1 h3 (h2.trans h4)
theorem To.skip:To P nt keep .skip s .normal s:=fun _ a w ρ _ hsr hQ=>wp_skip (hQ a w ρ hsr (qN.refl _ _ _ _))
theorem To.label{l:Nat}:To P nt keep (.label l) s .normal s:=fun _ a w ρ _ hsr hQ=>wp_label (hQ a w ρ hsr (qN.refl _ _ _ _))
theorem To.exit{id:Nat}:To P nt keep (.exit id) s (.exit id) s:=fun _ a w ρ _ hsr hQ=>wp_exit (hQ a w ρ hsr (qN.refl _ _ _ _))
theorem To.ret:To P nt keep .ret s .ret s:=fun _ a w ρ _ hsr hQ=>wp_ret (hQ a w ρ hsr (qN.refl _ _ _ _))
theorem To.region{E:Env}(hS:∀i,Sound E.P (E.call i))(hm:E.P.follows .mixedOrders=true){id:Nat}{ops:Array Oper}{draw:Bool}(hok:iG E.pairs (.region id ops draw)=true)
  (h:nL E id ops draw s=some s'):To E.P E.nt E.keep (.region id ops draw) s .normal s':=
 fun _ _ _ _ _ hsr hQ=>J6 hS hm hsr (fun hd=>by simpa[iG,hd]using hok) h (fun a' w' ρ' h3 h4=>hQ a' w' ρ' h3 h4.went)
theorem To.seq{x y:Code}(h1:To P nt keep x s .normal s1)(h2:To P nt keep y s1 e s'):To P nt keep (.seq x y) s e s':=by
 intro Y a w ρ Q hsr hQ;refine wp_seq (h1 Y a w ρ _ hsr (fun a' w' ρ' h3 h4=> ?_));exact h2 Y a' w' ρ' Q h3 (fun a2 w2 ρ2 h5 h6=>hQ a2 w2 ρ2 h5 (h4.trans h6))
theorem To.R5{x y:Code}(h1:To P nt keep x s e s')(he:e≠ .normal):To P nt keep (.seq x y) s e s':=by
 intro Y a w ρ Q hsr hQ;refine wp_seq (h1 Y a w ρ _ hsr (fun a' w' ρ' h3 h4=> ?_))
 cases e with
 |normal=>exact absurd rfl he
 |exit id=>exact hQ a' w' ρ' h3 h4
 |ret=>exact hQ a' w' ρ' h3 h4
theorem To.cond{o:Operand}{p:Bool}{x y:Code}(hp:sP s.fr o= .bool p)(h:To P nt keep (if p then x else y) s e s'):To P nt keep (.cond o x y) s e s':=by
 intro Y a w ρ Q hsr hQ;have hv:=El hsr.fr o;rw[hp]at hv;refine wp_cond (t:=p) hv.iY ?_
 cases p with
 |true=>exact h Y a w ρ Q hsr hQ
 |false=>exact h Y a w ρ Q hsr hQ
def leave(id:Nat):Ex→Ex
 | .exit j=>if j=id then .normal else .exit j
 |e=>e
theorem To.block{id:Nat}(h:To P nt keep b s e s'):To P nt keep (.block id b) s (leave id e) s':=by
 intro Y a w ρ Q hsr hQ;refine wp_block (h Y a w ρ _ hsr (fun a' w' ρ' h1 h2=> ?_))
 cases e with
 |normal=>exact hQ a' w' ρ' h1 h2
 |ret=>exact hQ a' w' ρ' h1 h2
 |exit j=>
  show if j=id then Q .normal a' w' else Q (.exit j) a' w'
  simp only[leave]at hQ;split
  ·rename_i hj;rw[if_pos hj]at hQ;exact hQ a' w' ρ' h1 h2
  ·rename_i hj;rw[if_neg hj]at hQ;exact hQ a' w' ρ' h1 h2
theorem To.scope(h:To P nt keep b s e s'):To P nt keep (.scope b) s e s':=by
 intro Y a w ρ Q hsr hQ;refine wp_scope_straight (h Y a w ρ _ hsr (fun a' w' ρ' h1 h2=> ?_))
 cases e with
 |normal=>exact hQ a' w' ρ' h1 h2
 |ret=>exact hQ a' w' ρ' h1 h2
 |exit j=>exact hQ a' w' ρ' h1 h2
inductive Iter(P:Program)(nt keep:Nat)(b:Code):St→Ex→St→Prop where
 |out {s s':St} {e:Ex} (h:To P nt keep b s e s') (he:e≠ .normal):Iter P nt keep b s e s'
 |next {s s1 s':St} {e:Ex} (h:To P nt keep b s .normal s1) (hr:Iter P nt keep b s1 e s'):Iter P nt keep b s e s'
theorem Iter.pre(hw:Weak nt keep s s1)(h:Iter P nt keep b s1 e s'):Iter P nt keep b s e s':=by
 cases h with
 |out h he=>exact .out (h.pre hw) he
 |next h hr=>exact .next (h.pre hw) hr
theorem To.loop(h:Iter P nt keep b s e s'):To P nt keep (.loop b) s e s':=by
 intro Y a w ρ Q hsr hQ bb k cs
 have key:∀(s s':St) (e:Ex),Iter P nt keep b s e s'→∀(a:Act) (w:World) (ρ:dP),SR Y nt w ρ a s→(∀a' w' ρ',SR Y nt w' ρ' a' s'→qN keep w ρ s.hp w' ρ' s'.hp→Q (TP e) a' w')→
   ∃e' a' w',Q e' a' w'∧Arrives P (lone (bb.at a (.code b:: .inLoop b::k)) cs w) bb k cs e' a' w':=by
  intro s s' e h
  induction h with
  |out h he=>
   intro a w ρ hsr hQ;rename_i s s' e;have hrun:=h Y a w ρ (fun x a' w'=>x=TP e∧∃ρ',SR Y nt w' ρ' a' s'∧qN keep w ρ s.hp w' ρ' s'.hp) hsr (fun a' w' ρ' h1 h2=>⟨rfl,ρ',h1,h2⟩);obtain⟨x,a1,w1,⟨hx,ρ1,h1,h2⟩,harr⟩:=hrun bb (.inLoop b::k) cs;subst hx
   cases e with
   |normal=>exact absurd rfl he
   |exit id=>exact⟨_,a1,w1,hQ a1 w1 ρ1 h1 h2,.pass (x:=.inLoop b) rfl (fun _ _=>.inl (by simp[TP])) harr⟩
   |ret=>exact⟨_,a1,w1,hQ a1 w1 ρ1 h1 h2,.pass (x:=.inLoop b) rfl (fun _ _=>.inl (by simp[TP])) harr⟩
  |next h hr ih=>
   intro a w ρ hsr hQ;rename_i s s1 s' e;have hrun:=h Y a w ρ (fun x a' w'=>x=TP .normal∧∃ρ',SR Y nt w' ρ' a' s1∧qN keep w ρ s.hp w' ρ' s1.hp) hsr (fun a' w' ρ' h1 h2=>⟨rfl,ρ',h1,h2⟩);obtain⟨x,a1,w1,⟨hx,ρ1,h1,h2⟩,harr⟩:=hrun bb (.inLoop b::k) cs;subst hx;obtain⟨e',a2,w2,hq,harr2⟩:=ih a1 w1 ρ1 h1 (fun a' w' ρ' h3 h4=>hQ a' w' ρ' h3 (h2.trans h4));exact⟨e',a2,w2,hq,.of_steps (Steps.trans harr (.one step_inLoop)) harr2⟩
 obtain⟨e',a',w',hq,harr⟩:=key s s' e h a w ρ hsr hQ;exact⟨e',a',w',hq,.of_steps (.one step_loop) harr⟩
theorem vP{f:FuncId}{fn:Func}{body:Code}{args:List AV}{sub:List cB}{out:Out}{s1:St}(hfn:P.funcs[f]?=some fn)(hbody:fn.body=some body)
  (hlen:args.length≤fn.ntmps) (hto:To P fn.ntmps sub.length body {fr:=BQ args 0,hp:=aT sub} e s1) (he:e= .normal∨e= .ret) (hfin:finish P fn sub.length s1=some out):Contract P f args sub out:=by
 intro Y w ρ vals hr hsz hargs
 have hstart:SR Y fn.ntmps w ρ {tmps:=vals++Array.replicate (fn.ntmps-vals.size) undef,defers:=[]} {fr:=BQ args 0,hp:=aT sub}:=by
  refine⟨by simp;omega,rfl,fun t=> ?_,hr⟩;rw[Iu];simp only[alD,if_true,Nat.sub_zero]
  cases ht:args[t]? with
  |none=>exact .undef _
  |some x=>
   have:=hargs t x ht;have hlt:t<vals.size:=by rw[hsz];exact(akX.1 ht).1
   simp only[amt];rw[ala,am4 hlt]
   rwa [ala]at this
 have main:∀(s':St) (a':Act) (w':World) (ρ':dP),finish P fn sub.length s'=some out→SR Y fn.ntmps w' ρ' a' s'→qN sub.length w ρ (aT sub) w' ρ' s'.hp→
   a'.defers=[]∧∃v,(results fn a'.tmps).run P w'= .ok v w'∧∃v' ρ'',Ending.returned v= .returned v'∧HR Y w' ρ'' (aG out.2.1 out.2.2)∧VR w' (XU Y ρ'' (aG out.2.1 out.2.2)) ρ'' v' out.1∧
    Stable w (XX ρ (aT sub)) w' (XX ρ'' (aG out.2.1 out.2.2))∧∀g b,ρ g=some b→ρ'' g=some b:=by
  intro s' a' w' ρ' hfin hsr hwent;unfold finish at hfin;split at hfin
  ·rename_i y hy;obtain⟨v,hv1,hv2⟩:=Aj hsr.hp hsr.fr hy;refine⟨hsr.Yb,v,hv1,v,fV ρ' sub.length (reached s'.hp sub.length (mI y)),rfl,?_⟩;obtain⟨hn,ho⟩:=sH (H:=s'.hp) (m:=sub.length) (roots:=mI y);simp only at hfin;generalize reached s'.hp sub.length (mI y)=R at hn ho hfin ⊢;split at hfin
   ·rename_i new hnew;simp only[alg]at hfin;subst hfin;obtain⟨h1,h2⟩:=hsr.hp.pack (m:=sub.length) hn ho
    have hH:qz s'.hp sub.length (je sub.length R) R=aG ((aL sub.length).map (fun g=>(get s'.hp g).map (bZ (je sub.length R)))) new:=by
     unfold qz aG;rw[alB,amn]
     congr 1
     obtain⟨hlen,hget⟩:=mapM_some _ _ _ hnew;apply List.ext_getElem?;intro i;rw[ale,ale]
     cases hi:R[i]? with
     |none=>
      rw[ama (by rw[hlen];exact amj.1 hi)];rfl
     |some g=>
      obtain⟨k,hk1,hk2⟩:=hget i g hi;rw[hk1];simp only[al4,hk2]
    rw[hH]at h1 h2;refine⟨h1,?_,hwent.st.trans h2,fun g b hg=> ?_⟩
    ·exact uQ rF (hv2.mono (h2.xu Y) (fun _ _ e=>e))
    ·have hd:=hr.dom g b hg
     have hsub:(aT sub).getD g.1 []=(if h:g.1<sub.length then [some sub[g.1]]else []):=by
      simp only[al8,aT,ale];split
      ·rename_i h;simp[alh h]
      ·rename_i h;simp[ama (Nat.le_of_not_lt h)]
     rw[hsub]at hd;split at hd
     ·rename_i hlt;have h0:g.2=0:=by simpa using hd
      have hgg:g=(g.1,0):=by rw[←h0]
      have hfst:(aL sub.length++R)[g.1]?=some (g.1,0):=by
       rw[alp (by simpa[aL]using hlt)];simp[aL,hlt]
      unfold fV;rw[if_pos h0,hfst];exact hwent.held g.1 hlt b (by rw[←hgg];exact hg)
     ·simp at hd
   ·cases hfin
  ·cases hfin
 refine calls_of_wp hfn hbody ?_;refine hto Y _ w ρ _ hstart (fun a' w' ρ' h1 h2=> ?_);rcases he with rfl|rfl
 ·exact main s1 a' w' ρ' hfin h1 h2
 ·exact main s1 a' w' ρ' hfin h1 h2
def eX(m n:Nat):Ren:=fun g=>some (if g.1<m then g else(g.1-m+n,g.2))
def EP(ρ ρ0:dP)(m n:Nat):dP:=fun g=>if g.1<m then ρ0 g else if g.1<n then ρ g else ρ0 (g.1-n+m,g.2)
theorem J3{m n:Nat}{ρ ρ0:dP}(hmn:m≤n):Moves (eX m n) ρ0 (EP ρ ρ0 m n):=by
 intro g g' b hg hb;simp only[eX,alg]at hg;subst hg;unfold EP;by_cases h:g.1<m
 ·simp only[h,if_true];exact hb
 ·simp only[h,if_false];rw[if_neg (by omega),if_neg (by omega),show g.1-m+n-n+m=g.1 by omega];exact hb
theorem Ho{f:FuncId}{fn:Func}{body:Code}{args:List AV}{sub:List cB}{out:Out}{s1:St}{m:Nat}(hm:m≤sub.length)(hfn:P.funcs[f]?=some fn)(hbody:fn.body=some body)
  (hlen:args.length≤fn.ntmps) (hto:To P fn.ntmps m body {fr:=BQ args 0,hp:=aT sub} e s1) (he:e= .normal∨e= .ret) (hfin:finish P fn m s1=some out):
  Contract P f args sub (BJ (eX m sub.length) out.1,out.2.1.map (fun b=>b.map (bZ (eX m sub.length)))++(sub.drop m).map (fun _=>none),out.2.2.map (bZ (eX m sub.length))):=by
 intro Y w ρ vals hr hsz hargs
 have hstart:SR Y fn.ntmps w ρ {tmps:=vals++Array.replicate (fn.ntmps-vals.size) undef,defers:=[]} {fr:=BQ args 0,hp:=aT sub}:=by
  refine⟨by simp;omega,rfl,fun t=> ?_,hr⟩;rw[Iu];simp only[alD,if_true,Nat.sub_zero]
  cases ht:args[t]? with
  |none=>exact .undef _
  |some x=>
   have:=hargs t x ht;have hlt:t<vals.size:=by rw[hsz];exact(akX.1 ht).1
   simp only[amt];rw[ala,am4 hlt]
   rwa [ala]at this
 generalize hS:eX m sub.length=S;generalize hB:out.2.1.map (fun b=>b.map (bZ S))++(sub.drop m).map (fun _=>(none:Option cB))=B
 have main:∀(s':St) (a':Act) (w':World) (ρ':dP),finish P fn m s'=some out→SR Y fn.ntmps w' ρ' a' s'→qN m w ρ (aT sub) w' ρ' s'.hp→
   a'.defers=[]∧∃v,(results fn a'.tmps).run P w'= .ok v w'∧∃v' ρ'',Ending.returned v= .returned v'∧HR Y w' ρ'' (aG B (out.2.2.map (bZ S)))∧
    VR w' (XU Y ρ'' (aG B (out.2.2.map (bZ S)))) ρ'' v' (BJ S out.1)∧
    Stable w (XX ρ (aT sub)) w' (XX ρ'' (aG B (out.2.2.map (bZ S))))∧∀g b,ρ g=some b→ρ'' g=some b:=by
  intro s' a' w' ρ' hfin hsr hwent;unfold finish at hfin;split at hfin
  ·rename_i y hy;obtain⟨v,hv1,hv2⟩:=Aj hsr.hp hsr.fr hy;refine⟨hsr.Yb,v,hv1,v,?_⟩;obtain⟨hn,ho⟩:=sH (H:=s'.hp) (m:=m) (roots:=mI y);simp only at hfin;generalize reached s'.hp m (mI y)=R at hn ho hfin ⊢;split at hfin
   ·rename_i new hnew;simp only[alg]at hfin;subst hfin;simp only at hB ⊢;obtain⟨h1,h2⟩:=hsr.hp.pack (m:=m) hn ho;generalize hA:(aL m).map (fun g=>(get s'.hp g).map (bZ (je m R)))=A at hB ⊢;have hAl:A.length=m:=by rw[←hA];simp[aL]
    have hBl:B.length=sub.length:=by rw[←hB];simp[hAl];omega
    have hH:qz s'.hp m (je m R) R=aG A new:=by
     unfold qz aG;rw[alB,←hA,amn]
     congr 1
     obtain⟨hlen,hget⟩:=mapM_some _ _ _ hnew;apply List.ext_getElem?;intro i;rw[ale,ale]
     cases hi:R[i]? with
     |none=>
      rw[ama (by rw[hlen];exact amj.1 hi)];rfl
     |some g=>
      obtain⟨k,hk1,hk2⟩:=hget i g hi;rw[hk1];simp only[al4,hk2]
    rw[hH]at h1 h2;have hv3:=uQ (rF (m:=m) (R:=R) (ρ:=ρ')) (hv2.mono (h2.xu Y) (fun _ _ e=>e));have hst:=hwent.st.trans h2
    have hheld:∀g b,ρ g=some b→g.1<m→fV ρ' m R g=some b:=by
     intro g b hg hlt;have hd:=hr.dom g b hg
     have h0:g.2=0:=by
      simp only[al8,aT,ale]at hd;rw[alh (show g.1<sub.length by omega)]at hd;simpa using hd
     have hgg:g=(g.1,0):=by rw[←h0]
     have hfst:(aL m++R)[g.1]?=some (g.1,0):=by
      rw[alp (by simpa[aL]using hlt)];simp[aL,hlt]
     unfold fV;rw[if_pos h0,hfst];exact hwent.held g.1 hlt b (by rw[←hgg];exact hg)
    generalize fV ρ' m R=ρ0 at h1 h2 hv3 hst hheld;generalize hn0:sub.length=n at hS hm hBl
    let φ:Nat→Nat:=fun i=>if i<m then i else i-m+n
    have hφ:∀g:Nm,S g=some (φ g.1,g.2):=by
     intro g;rw[←hS];unfold eX;simp only[φ];split<;>rfl
    have g1:∀g,get (aG A new) g=if g.2=0 then(if g.1<m then(A[g.1]?).join else new[g.1-m]?)else none:=by
     intro g;rw[ko,hAl]
    have g2:∀g,get (aG B (new.map (bZ S))) g=if g.2=0 then(if g.1<n then(B[g.1]?).join else(new[g.1-n]?).map (bZ S))else none:=by
     intro g;rw[ko,hBl];simp only[ale]
    have Bg:∀i,i<n→(B[i]?).join=if i<m then((A[i]?).join).map (bZ S)else none:=by
     intro i hi;rw[←hB];by_cases h:i<m
     ·rw[alp (by simpa[hAl]using h),if_pos h,ale]
      cases A[i]? with
      |none=>rfl
      |some q=>rfl
     ·rw[alm (by simp[hAl];omega),if_neg h,ale];simp only[ald,hAl]
      cases (sub.drop m)[i-m]? with
      |none=>rfl
      |some q=>rfl
    have up:∀i,EP ρ ρ0 m n (φ i,0)=ρ0 (i,0):=by
     intro i;unfold EP;simp only[φ];by_cases h:i<m
     ·simp[h]
     ·simp only[h,if_false];rw[if_neg (by omega),if_neg (by omega),show i-m+n-n+m=i by omega]
    have back:∀g k,get (aG B (new.map (bZ S))) g=some k→∃i k0,g=(φ i,0)∧get (aG A new) (i,0)=some k0∧k=bZ S k0:=by
     rintro⟨x,y⟩ k hk;rw[g2]at hk;split at hk
     ·rename_i h0;simp only at h0 hk;subst h0;split at hk
      ·rename_i hlt;rw[Bg x hlt]at hk;split at hk
       ·rename_i hm';obtain⟨k0,e1,e2⟩:=alf.1 hk;refine⟨x,k0,by simp[φ,hm'],?_,e2.symm⟩;rw[g1];simp only[hm',if_true];exact e1
       ·cases hk
      ·rename_i hge;obtain⟨k0,e1,e2⟩:=alf.1 hk;refine⟨x-n+m,k0,?_,?_,e2.symm⟩
       ·simp only[φ];rw[if_neg (by omega),show x-n+m-m+n=x by omega]
       ·rw[g1];simp only[if_true];rw[if_neg (by omega),show x-n+m-m=x-n by omega];exact e1
     ·cases hk
    have forth:∀i k0,get (aG A new) (i,0)=some k0→get (aG B (new.map (bZ S))) (φ i,0)=some (bZ S k0):=by
     intro i k0 hk;rw[g1]at hk;rw[g2];simp only[if_true,φ]at hk ⊢;by_cases h:i<m
     ·rw[if_pos h]at hk;rw[if_pos h,if_pos (by omega),Bg i (by omega),if_pos h,hk];rfl
     ·rw[if_neg h]at hk;rw[if_neg h,if_neg (by omega),show i-m+n-n=i-m by omega,hk];rfl
    have hsz2:∀k,(bZ S k).sz=k.sz∧(bZ S k).jw=k.jw∧(bZ S k).box=k.box:=by
     intro k;unfold bZ;split
     ·exact⟨rfl,rfl,rfl⟩
     ·exact⟨rfl,rfl,rfl⟩
    have hXX:XX (EP ρ ρ0 m n) (aG B (new.map (bZ S)))=XX ρ0 (aG A new):=by
     funext b o
     apply propext;constructor
     ·rintro⟨g,k,a1,a2,a3⟩;obtain⟨i,k0,rfl,e1,rfl⟩:=back g k a1;rw[up]at a2;rw[(hsz2 k0).1,(hsz2 k0).2.1]at a3;exact⟨(i,0),k0,e1,a2,a3⟩
     ·rintro⟨⟨i,y⟩,k,a1,a2,a3⟩
      have hy0:y=0:=by
       rw[g1]at a1;by_cases h0:y=0
       ·exact h0
       ·simp[h0]at a1
      subst hy0;refine⟨(φ i,0),bZ S k,forth i k a1,by rw[up];exact a2,?_⟩;rw[(hsz2 k).1,(hsz2 k).2.1];exact a3
    have hXU:XU Y (EP ρ ρ0 m n) (aG B (new.map (bZ S)))=XU Y ρ0 (aG A new):=by
     funext b o
     simp only[XU,hXX]
    have hdom0:∀g b,ρ g=some b→g.1<n∧g.2=0:=by
     intro g b hg;have hd:=hr.dom g b hg;simp only[al8,aT,ale]at hd;by_cases hlt:g.1<sub.length
     ·rw[alh hlt]at hd;simp at hd;exact⟨by omega,hd⟩
     ·rw[ama (by omega)]at hd;simp at hd
    have hmv:Moves S ρ0 (EP ρ ρ0 m n):=by rw[←hS];exact J3 hm
    have hdomB:∀j,j<n→((aG B (new.map (bZ S))).getD j []).length=1:=by
     intro j hj;simp only[al8,aG];rw[alp (by simp[hBl,hj]),ale,alh (by omega)];rfl
    refine⟨EP ρ ρ0 m n,trivial,⟨fun g k hg=> ?_,fun g g' k k' b hg hg' hb hb'=> ?_,fun g b hb=> ?_,fun g b hb=> ?_,fun g k b o hg hb=> ?_,h1.ylt⟩,?_,?_,fun g b hg=> ?_⟩
    ·obtain⟨i,k0,rfl,e1,rfl⟩:=back g k hg;rcases h1.blk (i,0) k0 e1 with⟨n1,n2,n3⟩|⟨b,n1,n2⟩
     ·left;refine⟨(up i).trans n1,?_,?_⟩
      ·unfold bZ;rw[n3];exact n2
      ·rw[(hsz2 k0).2.2];exact n3
     ·right;refine⟨b,(up i).trans n1,?_⟩;rw[hXU];exact jC.ren hmv n2
    ·obtain⟨i,k0,rfl,e1,rfl⟩:=back g k hg;obtain⟨i',k0',rfl,e1',rfl⟩:=back g' k' hg'
     replace hb:=(up _).symm.trans hb
     replace hb':=(up _).symm.trans hb'
     have:=h1.inj (i,0) (i',0) k0 k0' b e1 e1' hb hb';cases this;rfl
    ·unfold EP at hb;split at hb
     ·rename_i hlt;have:=h1.dom g b hb
      have h0:((aG A new).getD g.1 []).length=1:=by
       simp only[al8,aG];rw[alp (by simp[hAl,hlt]),ale,alh (by omega)];rfl
      rw[h0]at this;rw[hdomB _ (by omega)];exact this
     ·split at hb
      ·rename_i hlt;rw[hdomB _ hlt,(hdom0 g b hb).2];exact Nat.lt_succ_self 0
      ·rename_i hge;have:=h1.dom _ b hb;simp only[al8,aG]at this ⊢;rw[alm (by simp[hBl];omega)];rw[alm (by simp[hAl])]at this;simp only[ald,ale,hAl,hBl]at this ⊢;rw[show g.1-n+m-m=g.1-n by omega]at this
       cases hn2:new[g.1-n]? with
       |none=>rw[hn2]at this;simp at this
       |some q=>rw[hn2]at this;simpa using this
    ·unfold EP at hb;split at hb
     ·exact h1.lt _ b hb
     ·split at hb
      ·exact am0 (hr.lt g b hb) hst.size
      ·exact h1.lt _ b hb
    ·obtain⟨i,k0,rfl,e1,rfl⟩:=back g k hg
     replace hb:=(up _).symm.trans hb
     exact h1.sep (i,0) k0 b o e1 hb
    ·rw[hXU];exact uQ hmv hv3
    ·rw[hXX];exact hst
    ·unfold EP;split
     ·rename_i hlt;exact hheld g b hg hlt
     ·rw[if_pos (hdom0 g b hg).1];exact hg
   ·cases hfin
  ·cases hfin
 refine calls_of_wp hfn hbody ?_;refine hto Y _ w ρ _ hstart (fun a' w' ρ' h1 h2=> ?_);rcases he with rfl|rfl
 ·exact main s1 a' w' ρ' hfin h1 h2
 ·exact main s1 a' w' ρ' hfin h1 h2
end
inductive Ty where
 |int (k:IntKind)
 |bool
 |str
 |row (t:Ty)
 |unit
 |cons (a b:Ty)
 deriving DecidableEq
def Ty.den:Ty→Type
 | .int _=>Int
 | .bool=>Bool
 | .str=>ByteArray
 | .row t=>List t.den
 | .unit=>Unit
 | .cons a b=>a.den×b.den
def Ty.agg:Ty→Bool
 | .unit| .cons ..=>true
 |_=>false
def Ty.size:Ty→Nat
 | .unit=>0
 | .cons a b=>a.size+b.size
 |_=>1
def wrap(agg:Bool)(cs:List AV):AV:=
 match agg with
 |true=>.agg cs
 |false=>match cs with
  | [c]=>c
  |_=>.undef
def fT:(t:Ty)→t.den→List AV
 | .int k,n=> [.int k n]
 | .bool,b=> [.bool b]
 | .str,s=> [.str s]
 | .row t,l=> [.eO (Bd t.size (List.map (fun x=>wrap t.agg (fT t x)) l)) (List.map (fun x=>wrap t.agg (fT t x)) l) false]
 | .unit,_=> []
 | .cons a b,x=>fT a x.1++fT b x.2
def enc(t:Ty)(x:t.den):AV:=wrap t.agg (fT t x)
inductive SV where
 |undef
 |int (k:IntKind) (n:Int)
 |bool (b:Bool)
 |str (s:ByteArray)
 |nilp
 |nilf
 |row (t:Ty) (l:List t.den) (tight:Bool)
 |own (t:Ty) (g:Nm)
 |part (t:Ty) (g:Nm) (off len:Nat)
 |ptr (g:Nm) (sz i off:Nat)
 |lp (t:Ty) (l:List t.den) (i:Nat) (x:t.den) (h:l[i]?=some x) (off:Nat)
 |clo (f:FuncId) (caps:List SV)
 |fm (l:List (Int×FuncId×List FuncId))
 |fp (g:FuncId)
 |agg (cs:List SV)
 |tup (vs:List SV)
instance:Inhabited SV:=⟨.undef⟩
abbrev Lens:=Nm→Nat
def bR(t:Ty)(l:List t.den)(tight:Bool):AV:=.eO (Bd t.size (l.map (enc t))) (l.map (enc t)) tight
def d1(ℓ:Lens):SV→AV
 | .int k n=>.int k n
 | .bool b=>.bool b
 | .str s=>.str s
 | .nilp=>.nilp
 | .nilf=>.nilf
 | .row t l tight=>bR t l tight
 | .own t g=>.own g t.size 0 (ℓ g)
 | .part t g off len=>.own g t.size off len
 | .ptr g sz i off=>.ptr g sz i off
 | .lp t l i _ _ off=>.lp t.size (l.map (enc t)) i off
 | .fm l=>.fm l
 | .fp g=>.fp g
 |_=>.undef
def dC(ℓ:Lens):SV→AV
 | .clo f cs=>.clo f (cs.map (d1 ℓ))
 |v=>d1 ℓ v
def dA(ℓ:Lens):SV→AV
 | .agg cs=>.agg (cs.map (dC ℓ))
 |v=>dC ℓ v
def dV(ℓ:Lens):SV→AV
 | .tup vs=>.tup (vs.map (dA ℓ))
 |v=>dA ℓ v
def SV.cells:SV→List SV
 | .agg cs=>cs
 |v=> [v]
def SV.isAgg:SV→Bool
 | .agg _=>true
 |_=>false
def ZW:SV→Bool
 | .undef| .agg _| .tup _=>false
 |_=>true
def PD:SV→Bool
 | .agg _=>true
 |v=>ZW v
inductive Fz where
 |zero
 |all
 |low (k:Nat)
def Fz.n(len:Nat):Fz→Nat
 | .zero=>0
 | .all=>len
 | .low k=>len-k
inductive SB where
 |box (sz:Nat) (v:SV)
 |arr (t:Ty) (l:List t.den) (z:Fz)
 |mp (t:Ty) (l:List (Int×t.den))
 |dead (n:Nat)
def SB.len:SB→Nat
 | .arr _ l _=>l.length
 | .dead n=>n
 | .mp ..=>0
 | .box ..=>0
abbrev aV:=List (List SB)
def dB(ℓ:Lens):SB→Option cB
 | .box sz v=>some ⟨sz,[dA ℓ v],0,true⟩
 | .arr t l z=>some ⟨t.size,l.map (enc t),z.n l.length,false⟩
 | .mp t l=>some ⟨0,l.map fun p=>.agg [.int .i64 p.1,enc t p.2],0,false⟩
 | .dead _=>none
def dH(ℓ:Lens)(H:aV):Heap:=H.map fun l=>l.map (dB ℓ)
def bO(H:aV)(g:Nm):Option SB:=
 match H[g.1]? with
 |some l=>l[g.2]?
 |none=>none
def yS(H:aV)(g:Nm)(b:SB):aV:=H.modify g.1 fun l=>l.set g.2 b
def gM(H:aV):Lens:=fun g=>match bO H g with
 |some b=>b.len
 |none=>0
def gq(ℓ:Lens)(H:aV):Prop:=∀g b,bO H g=some b→ℓ g=b.len
abbrev yN:=List (Nat×SV)
def jm:yN→Nat→SV
 | [],_=>.undef
 |(s,x)::r,t=>if s=t then x else jm r t
def Zk(s:Nat)(x:SV):yN→yN
 | []=> [(s,x)]
 |(t,y)::r=>if s<t then(s,x)::(t,y)::r else if s=t then(s,x)::r else(t,y)::Zk s x r
structure tH where
 fr:yN
 hp:aV
def dF(ℓ:Lens)(fr:yN):Fr:=fr.map fun p=>(p.1,dV ℓ p.2)
def dS(ℓ:Lens)(s:tH):St:={fr:=dF ℓ s.fr,hp:=dH ℓ s.hp}
def Cb:SV→List Nm
 | .ptr g _ _ _=> [g]
 | .own _ g=> [g]
 | .part _ g _ _=> [g]
 |_=> []
def Jk:SV→List Nm
 | .clo _ cs=>cs.flatMap Cb
 |v=>Cb v
def Cj:SV→List Nm
 | .agg cs=>cs.flatMap Jk
 |v=>Jk v
def qg:SV→List Nm
 | .tup vs=>vs.flatMap Cj
 |v=>Cj v
def KR:SV→List Nm
 | .ptr g _ _ _=> [g]
 | .clo _ cs=>cs.flatMap Cb
 |_=> []
def xg:SV→List Nm
 | .agg cs=>cs.flatMap KR
 |v=>KR v
def OG(H:aV)(g:Nm):List Nm:=
 match bO H g with
 |some (.box _ v)=>Cj v
 |_=> []
def NJ(H:aV)(l:List Nm):List Nm:=jg l (l.flatMap (OG H))
def FU(H:aV)(l:List Nm):List Nm:=NJ H (NJ H (NJ H (jg [] l)))
def o8(H:aV)(m:Nat)(roots:List Nm):List Nm:=outside m (FU H (jg (aL m) roots))
def mM(f:Ren):SV→SV
 | .ptr g sz i off=>match f g with
  |some g'=>.ptr g' sz i off
  |none=>.undef
 | .own t g=>match f g with
  |some g'=>.own t g'
  |none=>.undef
 | .part t g off len=>match f g with
  |some g'=>.part t g' off len
  |none=>.undef
 | .clo _ _=>.undef
 | .agg _=>.undef
 | .tup _=>.undef
 |v=>v
def oJ(f:Ren):SV→SV
 | .clo fn cs=>.clo fn (cs.map (mM f))
 |v=>mM f v
def tN(f:Ren):SV→SV
 | .agg cs=>.agg (cs.map (oJ f))
 |v=>oJ f v
def sK(f:Ren):SV→SV
 | .tup vs=>.tup (vs.map (tN f))
 |v=>tN f v
def fD(f:Ren):SB→SB
 | .box sz v=>.box sz (tN f v)
 |b=>b
inductive Tr(α:Type):Type 1 where
 |ret (a:α)
 |fail
 |need (g:Bool) (t:Tr α)
 |br (p:Bool) (x y:Tr α)
 |ask {A:Type} (m:Option A) (k:A→Tr α)
 |look {A:Type} (l:List A) (n:Int) (k:(x:A)→l[n.toNat]?=some x→Tr α)
 |cs {A B:Type} (r:A⊕B) (f:A→Tr α) (g:B→Tr α)
def rowAt{A B:Type}(l:List A)(n:Int)(k:(x:A)→l[n.toNat]?=some x→Option B):Option B:=
 cond (decide (0≤n)) (Option.pbind l[n.toNat]? k) none
def au{A B C:Type}(r:A⊕B)(f:A→C)(g:B→C):C:=
 match r with
 | .inl a=>f a
 | .inr b=>g b
def Tr.mean{α:Type}:Tr α→Option α
 | .ret a=>some a
 | .fail=>none
 | .need g t=>cond g t.mean none
 | .br p x y=>cond p x.mean y.mean
 | .ask m k=>m.bind fun a=>(k a).mean
 | .look l n k=>rowAt l n fun x h=>(k x h).mean
 | .cs r f g=>au r (fun a=>(f a).mean) (fun b=>(g b).mean)
def Tr.bind{α β:Type}(t:Tr α)(k:α→Tr β):Tr β:=
 match t with
 | .ret a=>k a
 | .fail=>.fail
 | .need g t=>.need g (t.bind k)
 | .br p x y=>.br p (x.bind k) (y.bind k)
 | .ask m f=>.ask m fun a=>(f a).bind k
 | .look l n f=>.look l n fun x h=>(f x h).bind k
 | .cs r f g=>.cs r (fun a=>(f a).bind k) (fun b=>(g b).bind k)
def Tr.map{α β:Type}(f:α→β)(t:Tr α):Tr β:=t.bind fun a=>.ret (f a)
def Tr.of{α:Type}:Option α→Tr α
 |some a=>.ret a
 |none=>.fail
def Tr.when{α:Type}(b:Bool)(t:Tr α):Tr α:=
 match b with
 |true=>t
 |false=>.fail
def Tr.mapM{α β:Type}(f:α→Tr β):List α→Tr (List β)
 | []=>.ret []
 |a::r=>(f a).bind fun b=>(Tr.mapM f r).bind fun bs=>.ret (b::bs)
def Jg:(t:Ty)→t.den→List SV
 | .int k,n=> [.int k n]
 | .bool,b=> [.bool b]
 | .str,s=> [.str s]
 | .row t,l=> [.row t l false]
 | .unit,_=> []
 | .cons a b,x=>Jg a x.1++Jg b x.2
def DU(t:Ty)(x:t.den):SV:=
 match t.agg with
 |true=>.agg (Jg t x)
 |false=>match Jg t x with
  | [c]=>c
  |_=>.undef
def zW{t t':Ty}(l:List t.den):Option (List t'.den):=
 if h:t=t' then some (h ▸ l)else match l with
  | []=>some []
  |_=>none
def J2:(t:Ty)→List SV→Option (t.den×List SV)
 | .int k,.int k' n::r=>if k=k' then some (n,r)else none
 | .bool,.bool b::r=>some (b,r)
 | .str,.str s::r=>some (s,r)
 | .row t,.row t' l _::r=>match zW (t:=t') (t':=t) l with
  |some l=>some (l,r)
  |none=>none
 | .unit,r=>some ((),r)
 | .cons a b,r=>match J2 a r with
  |some (x,r)=>match J2 b r with
   |some (y,r)=>some ((x,y),r)
   |none=>none
  |none=>none
 |_,_=>none
def Oy(t:Ty)(v:SV):Option t.den:=
 if v.isAgg=t.agg then
  match J2 t v.cells with
  |some (x,[])=>some x
  |_=>none
 else none
inductive o6 where
 |undef
 |nilp
 |nilf
 |nil
 |own (t:Ty) (g:Nm)
 |ptr (g:Nm) (sz i off:Nat)
 |clo (f:FuncId) (caps:List (Nm×Nat×Nat×Nat))
 |fm (l:List (Int×FuncId×List FuncId))
 |fp (g:FuncId)
 deriving DecidableEq
inductive Sh where
 |nil
 |st (x:o6) (r:Sh)
 |dat (t:Ty) (r:Sh)
 |part (t:Ty) (g:Nm) (r:Sh)
 |eptr (g:Nm) (sz off:Nat) (r:Sh)
 |agg (i r:Sh)
def Sh.den:Sh→Type
 | .nil=>Unit
 | .st _ r=>r.den
 | .dat t r=>t.den×r.den
 | .part _ _ r=>(Nat×Nat)×r.den
 | .eptr _ _ _ r=>Nat×r.den
 | .agg i r=>i.den×r.den
def o6.un:o6→SV
 | .undef=>.undef
 | .nilp=>.nilp
 | .nilf=>.nilf
 | .nil=>.row .unit [] true
 | .own t g=>.own t g
 | .ptr g sz i off=>.ptr g sz i off
 | .clo f caps=>.clo f (caps.map fun c=>.ptr c.1 c.2.1 c.2.2.1 c.2.2.2)
 | .fm l=>.fm l
 | .fp g=>.fp g
def Sh.un:(s:Sh)→s.den→List SV
 | .nil,_=> []
 | .st x r,v=>x.un::Sh.un r v
 | .dat t r,v=>DU t v.1::Sh.un r v.2
 | .part t g r,v=>.part t g v.1.1 v.1.2::Sh.un r v.2
 | .eptr g sz off r,v=>.ptr g sz v.1 off::Sh.un r v.2
 | .agg i r,v=>.agg (Sh.un i v.1)::Sh.un r v.2
def ptrEq(c:Nm×Nat×Nat×Nat):SV→Bool
 | .ptr g sz i off=>decide (c=(g,sz,i,off))
 |_=>false
def J5:List (Nm×Nat×Nat×Nat)→List SV→Bool
 | [],[]=>true
 |c::r,v::vs=>ptrEq c v&&J5 r vs
 |_,_=>false
def o6.fits:o6→SV→Bool
 | .undef,v=> !v.isAgg
 | .nilp,.nilp=>true
 | .nilf,.nilf=>true
 | .nil,.row _ [] true=>true
 | .own t g,.own t' g'=>decide (t=t'∧g=g')
 | .ptr g sz i off,.ptr g' sz' i' off'=>decide (g=g'∧sz=sz'∧i=i'∧off=off')
 | .clo f caps,.clo f' cs=>decide (f=f')&&J5 caps cs
 | .fm l,.fm l'=>decide (l=l')
 | .fp g,.fp g'=>decide (g=g')
 |_,_=>false
def Sh.pa:(s:Sh)→List SV→Option s.den
 | .nil,[]=>some ()
 | .st x r,v::vs=>if x.fits v then Sh.pa r vs else none
 | .dat t r,v::vs=>match Oy t v,Sh.pa r vs with
  |some a,some b=>some (a,b)
  |_,_=>none
 | .part t g r,v::vs=>match v,Sh.pa r vs with
  | .part t' g' off len,some b=>if t=t'∧g=g' then some ((off,len),b)else none
  |_,_=>none
 | .eptr g sz off r,v::vs=>match v,Sh.pa r vs with
  | .ptr g' sz' i off',some b=>if g=g'∧sz=sz'∧off=off' then some (i,b)else none
  |_,_=>none
 | .agg i r,v::vs=>match v,Sh.pa r vs with
  | .agg cs,some b=>match Sh.pa i cs with
   |some a=>some (a,b)
   |none=>none
  |_,_=>none
 |_,_=>none
inductive ja where
 |nil
 |box (sz:Nat) (s:Sh) (r:ja)
 |arr (t:Ty) (frozen:Bool) (r:ja)
 |mp (t:Ty) (r:ja)
 |dead (n:Nat) (r:ja)
def ja.den:ja→Type
 | .nil=>Unit
 | .box _ s r=>s.den×r.den
 | .arr t _ r=>List t.den×r.den
 | .mp t r=>List (Int×t.den)×r.den
 | .dead _ r=>r.den
def ja.len:ja→Nat
 | .nil=>0
 | .box _ _ r=>r.len+1
 | .arr _ _ r=>r.len+1
 | .mp _ r=>r.len+1
 | .dead _ r=>r.len+1
def ahy(frozen:Bool):Fz:=
 match frozen with
 |true=>.all
 |false=>.zero
def ja.un:(b:ja)→b.den→aV
 | .nil,_=> []
 | .box sz s r,v=> [.box sz ((s.un v.1).headD .undef)]::ja.un r v.2
 | .arr t z r,v=> [.arr t v.1 (ahy z)]::ja.un r v.2
 | .mp t r,v=> [.mp t v.1]::ja.un r v.2
 | .dead n r,v=> [.dead n]::ja.un r v
structure Sg where
 slots:List Nat
 sh:Sh
 bk:ja
abbrev Sg.den(σ:Sg):Type:=σ.sh.den×σ.bk.den
def uF:List Nat→List SV→yN
 |t::r,v::vs=>(t,v)::uF r vs
 |_,_=> []
def Sg.un(σ:Sg)(v:σ.den):tH:={fr:=uF σ.slots (σ.sh.un v.1),hp:=σ.bk.un v.2}
def ai0:Bool→Fz→Bool
 |true,.all=>true
 |false,.zero=>true
 |_,_=>false
def ja.pa:(b:ja)→aV→Option b.den
 | .nil,[]=>some ()
 | .box sz s r,[.box sz' v]::H=>if sz=sz' then(match s.pa [v],ja.pa r H with
  |some a,some b=>some (a,b)
  |_,_=>none)else none
 | .arr t z r,[.arr t' l f]::H=>if h:t'=t then(if ai0 z f=true then(match ja.pa r H with
  |some b=>some (h ▸ l,b)
  |none=>none)else none)else none
 | .mp t r,[.mp t' l]::H=>if h:t'=t then(match ja.pa r H with
  |some b=>some (h ▸ l,b)
  |none=>none)else none
 | .dead n r,[.dead n']::H=>if n=n' then ja.pa r H else none
 |_,_=>none
def jh(H:aV):SV→Tr (SV×List Nm)
 | .own t g=>match bO H g with
  |some (.arr t' l _)=>if h:t'=t then(if 0<t.size then .ret (.row t (h ▸ l) false,[g])else .fail)else .fail
  |_=>.fail
 | .part t g off len=>match bO H g with
  |some (.arr t' l _)=>if h:t'=t then(if 0<t.size then .need (decide (off+len≤l.length)) (.ret (.row t (((h ▸ l:List t.den).drop off).take len) false,[g]))else .fail)else .fail
  |_=>.fail
 | .ptr ..=>.fail
 | .clo ..=>.fail
 | .lp ..=>.fail
 | .fm _=>.fail
 | .fp _=>.fail
 | .agg _=>.fail
 | .tup _=>.fail
 | .row t l _=>.ret (.row t l false,[])
 |v=>.ret (v,[])
def Qx(H:aV):List SV→Tr (List SV×List Nm)
 | []=>.ret ([],[])
 |x::r=>(jh H x).bind fun p=>(Qx H r).bind fun q=>.ret (p.1::q.1,p.2++q.2)
def Gc(H:aV):SV→Tr (SV×List Nm)
 | .agg cs=>(Qx H cs).bind fun p=>.ret (.agg p.1,p.2)
 | .tup _=>.fail
 |v=>jh H v
def SB.stop:SB→SB
 | .arr t l _=>.arr t l .all
 |b=>b
def iH(H:aV):List (Nm×SB)→aV
 | []=>H
 |(g,b)::r=>iH (yS H g b) r
def jJ(H:aV)(l:List Nm):List (Nm×SB):=l.map fun g=>(g,match bO H g with
 |some b=>b.stop
 |none=>.dead 0)
def qy(H:aV)(l:List Nm):aV:=iH H (jJ H l)
def sN:SV→SV
 | .tup _=>.undef
 |v=>v
def jW:Sh→List SV→aV→Tr (List SV×aV)
 | .nil,vs,H=>.ret (vs,H)
 |_,[],H=>.ret ([],H)
 | .st x r,v::vs,H=>match x,v with
  | .own t _,.row _ [] true=>(jW r vs (H++ [[.arr t [] .zero]])).bind fun q=>.ret (.own t (H.length,0)::q.1,q.2)
  | .undef,v=>(if v.isAgg=false then(jW r vs H).bind fun q=>.ret (.undef::q.1,q.2)else .fail)
  |_,v=>(jW r vs H).bind fun q=>.ret (v::q.1,q.2)
 | .dat _ r,v::vs,H=>(Gc H v).bind fun p=>(jW r vs (qy H p.2)).bind fun q=>.ret (p.1::q.1,q.2)
 | .part t' _ r,v::vs,H=>match v with
  | .row _ [] true=>(jW r vs (H++ [[.arr t' [] .zero]])).bind fun q=>.ret (.part t' (H.length,0) 0 0::q.1,q.2)
  |v=>(jW r vs H).bind fun q=>.ret ((match v with
  | .own t g=>(match bO H g with
   |some b=>.part t g 0 b.len
   |none=>.own t g)
  |v=>v)::q.1,q.2)
 | .eptr _ _ _ r,v::vs,H=>(jW r vs H).bind fun q=>.ret (v::q.1,q.2)
 | .agg i r,v::vs,H=>match v with
  | .agg cs=>(jW i cs H).bind fun p=>(jW r vs p.2).bind fun q=>.ret (.agg p.1::q.1,q.2)
  |v=>(jW r vs H).bind fun q=>.ret (v::q.1,q.2)
def NS(m:Nat)(s:tH):Option tH:=
 let R:=o8 s.hp m (s.fr.flatMap fun p=>qg p.2)
 let f:=je m R
 match(aL m++R).mapM (fun g=>(bO s.hp g).map fun b=> [fD f b])with
 |some hp=>some {fr:=s.fr.map fun p=>(p.1,sK f p.2),hp}
 |none=>none
def Bh:ja→Nat→aV→Tr aV
 | .nil,_,H=>.ret H
 | .box _ s r,j,H=>match bO H (j,0)with
  |some (.box sz v)=>(jW s [v] H).bind fun p=>match p.1 with
   | [v']=>Bh r (j+1) (yS p.2 (j,0) (.box sz v'))
   |_=>.fail
  |_=>.fail
 | .arr _ z r,j,H=>Bh r (j+1) (match z with
  |true=>(match bO H (j,0)with
   |some (.arr ..)=>qy H [(j,0)]
   |_=>H)
  |false=>H)
 | .mp _ r,j,H=>Bh r (j+1) H
 | .dead _ r,j,H=>Bh r (j+1) H
def ja.soft:ja→ja
 | .nil=>.nil
 | .box sz s r=>.box sz s r.soft
 | .arr t _ r=>.arr t false r.soft
 | .mp t r=>.mp t r.soft
 | .dead n r=>.dead n r.soft
def fit(m:Nat)(σ:Sg)(s:tH):Tr σ.den:=
 (jW σ.sh (σ.slots.map fun t=>sN (jm s.fr t)) s.hp).bind fun p=>
 (Tr.of (NS m {fr:=uF σ.slots (p.1.map sN),hp:=p.2})).bind fun s1=>
 (Bh σ.bk.soft 0 s1.hp).bind fun H2=>
 (Tr.of (NS m {fr:=s1.fr,hp:=H2})).bind fun s1=>
 (Bh σ.bk 0 s1.hp).bind fun H2=>
 (Tr.of (NS m {fr:=s1.fr,hp:=H2})).bind fun s2=>
 match σ.sh.pa (σ.slots.map (jm s2.fr)),σ.bk.pa s2.hp with
 |some a,some b=>.ret (a,b)
 |_,_=>.fail
theorem wJ(ℓ:Lens):∀(fr:yN) (t:Nat),look (dF ℓ fr) t=dV ℓ (jm fr t):=by
 intro fr
 induction fr with
 |nil=>intro t;rfl
 |cons p r ih=>
  intro t;obtain⟨s,x⟩:=p;simp only[dF,al3,look,jm];split
  ·rfl
  ·exact ih t
theorem ac2(ℓ:Lens)(s:Nat)(x:SV):∀(fr:yN),dF ℓ (Zk s x fr)=ins s (dV ℓ x) (dF ℓ fr):=by
 intro fr
 induction fr with
 |nil=>rfl
 |cons p r ih=>
  obtain⟨t,y⟩:=p;simp only[dF,al3,ins,Zk]at ih ⊢;split
  ·rfl
  ·split
   ·rfl
   ·simp only[al3,ih]
theorem eG(ℓ:Lens)(H:aV)(g:Nm):get (dH ℓ H) g=(bO H g).bind (dB ℓ):=by
 simp only[get,bO,dH,ale]
 cases H[g.1]? with
 |none=>rfl
 |some l=>
  simp only[al4,ale]
  cases l[g.2]? with
  |none=>rfl
  |some b=>rfl
theorem Ra(ℓ:Lens)(H:aV)(g:Nm)(b:SB):dH ℓ (yS H g b)=set (dH ℓ H) g (dB ℓ b):=by
 simp only[dH,yS,set];apply List.ext_getElem?;intro i;simp only[ale,List.getElem?_modify]
 cases H[i]? with
 |none=>rfl
 |some l=>
  simp only[al4];split
  ·simp[List.map_set]
  ·rfl
theorem Ch(ℓ:Lens)(H K:aV):dH ℓ (H++K)=dH ℓ H++dH ℓ K:=alB ..
theorem Tm(ℓ:Lens)(H:aV):(dH ℓ H).length=H.length:=by simp[dH]
theorem lq(H:aV)(g g':Nm)(b:SB):bO (yS H g b) g'=if g'=g∧(bO H g).isSome then some b else bO H g':=by
 obtain⟨a,c⟩:=g;obtain⟨a',c'⟩:=g';simp only[bO,yS,List.getElem?_modify,al1];by_cases ha:a=a'
 ·subst ha
  cases hl:H[a]? with
  |none=>simp
  |some l=>
   simp only[if_true,al4,List.getElem?_set,true_and];by_cases hc:c=c'
   ·subst hc;by_cases hlt:c<l.length
    ·simp[hlt]
    ·simp[hlt]
   ·simp[hc,Ne.symm hc]
 ·have:¬ a'=a:=fun h=>ha h.symm
  cases hl:H[a']?<;>simp[ha,this]
theorem tX{H K:aV}{g:Nm}{b:SB}(h:bO H g=some b):bO (H++K) g=some b:=by
 simp only[bO]at h ⊢
 cases hl:H[g.1]? with
 |none=>simp[hl]at h
 |some l=>
  rw[hl]at h;rw[alp (akX.1 hl).1,hl];exact h
theorem gq.append{ℓ:Lens}{H K:aV}(h:gq ℓ (H++K)):gq ℓ H:=fun g b hg=>h g b (tX hg)
theorem gq.yS{ℓ:Lens}{H:aV}{g:Nm}{b b0:SB}(h0:bO H g=some b0)(hl:b.len=b0.len)(h:gq ℓ (yS H g b)):gq ℓ H:=by
 intro g' x hx;by_cases e:g'=g
 ·subst e;rw[h0]at hx;cases hx;rw[←hl];exact h _ b (by rw[lq];simp[h0])
 ·exact h g' x (by rw[lq,if_neg (fun hh=>e hh.1)];exact hx)
theorem gU(H:aV):gq (gM H) H:=fun g b h=>by simp[gM,h]
theorem DR(ℓ:Lens)(v:SV):QT (d1 ℓ v)=Cb v:=by cases v<;>rfl
theorem kU{f:AV→List Nm}{g:SV→List Nm}{d:SV→AV}(h:∀v,f (d v)=g v)(l:List SV):(l.map d).flatMap f=l.flatMap g:=by
 simp only[List.flatMap_map,h]
theorem aaC(ℓ:Lens)(v:SV):NY (dC ℓ v)=Jk v:=by
 cases v<;>first|rfl|exact kU (DR ℓ) _
theorem zK(ℓ:Lens)(v:SV):mI (dA ℓ v)=Cj v:=by
 cases v<;>first|rfl|exact kU (aaC ℓ) _|exact kU (DR ℓ) _
theorem Rl(ℓ:Lens)(v:SV):mI (dV ℓ v)=qg v:=by
 cases v with
 |tup vs=>
  simp only[dV,mI,qg];refine kU (fun v=> ?_) vs;have:=zK ℓ v
  cases v<;>first|rfl|exact this
 |agg cs=>exact zK ℓ (.agg cs)
 |clo f cs=>exact zK ℓ (.clo f cs)
 |_=>rfl
theorem Vk(ℓ:Lens)(v:SV):PO (dC ℓ v)=KR v:=by
 cases v<;>first|rfl|exact kU (DR ℓ) _
theorem Xv(ℓ:Lens)(v:SV):fu (dA ℓ v)=xg v:=by
 cases v with
 |agg cs=>exact kU (Vk ℓ) _
 |clo f cs=>exact kU (DR ℓ) _
 |_=>rfl
theorem aaK(ℓ:Lens)(H:aV)(g:Nm):H8 (dH ℓ H) g=OG H g:=by
 simp only[H8,OG,eG]
 cases bO H g with
 |none=>rfl
 |some b=>
  cases b with
  |box sz v=>simp[dB,zK]
  |arr t l z=>simp[dB]
  |mp t l=>simp[dB]
  |dead n=>simp[dB]
theorem aex(ℓ:Lens)(H:aV)(l:List Nm):grow (dH ℓ H) l=NJ H l:=by
 simp only[grow,NJ]
 congr 1
 exact congrArg (fun f=>l.flatMap f) (funext (aaK ℓ H))
theorem Ri(ℓ:Lens)(H:aV)(l:List Nm):reach (dH ℓ H) l=FU H l:=by simp only[reach,FU,aex]
theorem I5(ℓ:Lens)(H:aV)(m:Nat)(l:List Nm):reached (dH ℓ H) m l=o8 H m l:=by simp only[reached,o8,Ri]
def Goes(f:Ren)(ℓ ℓ':Lens):Prop:=∀g g',f g=some g'→ℓ' g'=ℓ g
section
variable{f:Ren}{ℓ ℓ':Lens}
theorem JO(h:Goes f ℓ ℓ')(v:SV):D5 f (d1 ℓ v)=d1 ℓ' (mM f v):=by
 cases v with
 |own t g=>
  simp only[d1,D5,mM]
  cases e:f g with
  |none=>rfl
  |some g'=>simp only[d1,h g g' e]
 |part t g off len=>
  simp only[d1,D5,mM];cases e:f g<;>rfl
 |ptr g sz i off=>
  simp only[d1,D5,mM];cases e:f g<;>rfl
 |row t l tight=>rfl
 |_=>rfl
theorem WM{F:AV→AV}{G:SV→SV}{d d':SV→AV}(h:∀v,F (d v)=d' (G v))(l:List SV):(l.map d).map F=(l.map G).map d':=by
 simp only[amn];exact alO fun v _=>h v
theorem ve(h:Goes f ℓ ℓ')(v:SV):Hr f (dC ℓ v)=dC ℓ' (oJ f v):=by
 cases v with
 |clo fn cs=>simp only[dC,Hr,oJ,WM (JO h)]
 |row t l tight=>rfl
 |own t g=>exact(JO h (.own t g)).trans (by simp only[oJ,mM];cases f g<;>rfl)
 |part t g off len=>exact(JO h (.part t g off len)).trans (by simp only[oJ,mM];cases f g<;>rfl)
 |ptr g sz i off=>exact(JO h (.ptr g sz i off)).trans (by simp only[oJ,mM];cases f g<;>rfl)
 |_=>rfl
theorem yu(h:Goes f ℓ ℓ')(v:SV):Hf f (dA ℓ v)=dA ℓ' (tN f v):=by
 cases v with
 |agg cs=>simp only[dA,Hf,tN,WM (ve h)]
 |clo fn cs=>exact ve h (.clo fn cs)
 |row t l tight=>rfl
 |own t g=>exact(ve h (.own t g)).trans (by simp only[tN,oJ,mM];cases f g<;>rfl)
 |part t g off len=>exact(ve h (.part t g off len)).trans (by simp only[tN,oJ,mM];cases f g<;>rfl)
 |ptr g sz i off=>exact(ve h (.ptr g sz i off)).trans (by simp only[tN,oJ,mM];cases f g<;>rfl)
 |_=>rfl
theorem K4(h:Goes f ℓ ℓ')(v:SV):BJ f (dV ℓ v)=dV ℓ' (sK f v):=by
 cases v with
 |tup vs=>simp only[dV,BJ,sK,WM (yu h)]
 |agg cs=>exact yu h (.agg cs)
 |clo fn cs=>exact yu h (.clo fn cs)
 |row t l tight=>rfl
 |own t g=>exact(yu h (.own t g)).trans (by simp only[sK,tN,oJ,mM];cases f g<;>rfl)
 |part t g off len=>exact(yu h (.part t g off len)).trans (by simp only[sK,tN,oJ,mM];cases f g<;>rfl)
 |ptr g sz i off=>exact(yu h (.ptr g sz i off)).trans (by simp only[sK,tN,oJ,mM];cases f g<;>rfl)
 |_=>rfl
theorem vR(h:Goes f ℓ ℓ')(b:SB):(dB ℓ b).map (bZ f)=dB ℓ' (fD f b):=by
 cases b with
 |box sz v=>simp[dB,bZ,fD,yu h]
 |arr t l z=>simp[dB,bZ,fD]
 |mp t l=>simp[dB,bZ,fD]
 |dead n=>rfl
theorem iO(f:Ren)(b:SB):(fD f b).len=b.len:=by cases b<;>rfl
end
theorem Hw(t:Ty)(x:t.den)(ℓ:Lens):(Jg t x).map (d1 ℓ)=fT t x∧(Jg t x).map (dC ℓ)=fT t x:=by
 induction t with
 |int k=>exact⟨rfl,rfl⟩
 |bool=>exact⟨rfl,rfl⟩
 |str=>exact⟨rfl,rfl⟩
 |row t ih=>exact⟨rfl,rfl⟩
 |unit=>exact⟨rfl,rfl⟩
 |cons a b iha ihb=>
  simp only[Jg,fT,alB];exact⟨by rw[(iha x.1).1,(ihb x.2).1],by rw[(iha x.1).2,(ihb x.2).2]⟩
theorem eF(t:Ty)(x:t.den):(fT t x).length=t.size:=by
 induction t with
 |cons a b iha ihb=>simp only[fT,alz,Ty.size,iha,ihb]
 |_=>rfl
theorem M4{t:Ty}(h:t.agg=false):t.size=1:=by cases t<;>first|rfl|cases h
theorem kZ(t:Ty)(x:t.den):(enc t x).cells=fT t x:=by
 unfold enc wrap
 cases h:t.agg with
 |true=>rfl
 |false=>
  have hl:=eF t x;rw[M4 h]at hl
  cases t<;>first|rfl|cases h
theorem TH(t:Ty)(x:t.den):(enc t x).isAgg=t.agg:=by
 cases t<;>rfl
theorem KD(t:Ty)(x:t.den):okV (enc t x)=true:=by cases t<;>rfl
theorem Eg(t:Ty)(x:t.den)(ℓ:Lens):dA ℓ (DU t x)=enc t x:=by
 cases t with
 |unit=>rfl
 |cons a b=>simp only[DU,Ty.agg,dA,enc,wrap,(Hw (.cons a b) x ℓ).2]
 |_=>rfl
theorem Tg(t:Ty)(x:t.den):(DU t x).cells=Jg t x:=by cases t<;>rfl
theorem SA(t:Ty)(x:t.den):(DU t x).isAgg=t.agg:=by cases t<;>rfl
theorem gW(ℓ:Lens)(v:SV):(dA ℓ v).cells=v.cells.map (dC ℓ):=by
 cases v<;>rfl
theorem o5(ℓ:Lens)(v:SV):(dA ℓ v).isAgg=v.isAgg:=by cases v<;>rfl
theorem FE(ℓ:Lens)(v:SV):okV (dA ℓ v)=PD v:=by cases v<;>rfl
def HW(H H':Heap):Prop:=∀(Y:XT) (w:World) (ρ:dP),HR Y w ρ H→HR Y w ρ H'∧Stable w (XX ρ H) w (XX ρ H')
def VW(H H':Heap)(x y:AV):Prop:=∀(Y:XT) (w:World) (ρ:dP) (v:Value),HR Y w ρ H→VR w (XU Y ρ H) ρ v x→VR w (XU Y ρ H') ρ v y
theorem HW.refl(H:Heap):HW H H:=fun _ _ _ h=>⟨h,Stable.refl _ _⟩
theorem HW.trans{A B C:Heap}(h:HW A B)(k:HW B C):HW A C:=fun Y w ρ hr=>by
 obtain⟨h1,h2⟩:=h Y w ρ hr;obtain⟨h3,h4⟩:=k Y w ρ h1;exact⟨h3,h2.trans h4⟩
theorem HW.vw{H H':Heap}(h:HW H H')(x:AV):VW H H' x x:=fun Y w ρ _ hr hv=>hv.mono ((h Y w ρ hr).2.xu Y) (fun _ _ e=>e)
theorem VW.refl(H:Heap)(x:AV):VW H H x x:=fun _ _ _ _ _ h=>h
theorem VW.trans{A B C:Heap}{x y z:AV}(hw:HW A B)(h:VW A B x y)(k:VW B C y z):VW A C x z:=fun Y w ρ v hr hv=>
 k Y w ρ v (hw Y w ρ hr).1 (h Y w ρ v hr hv)
theorem VW.undef{H H':Heap}{x:AV}:VW H H' x .undef:=fun _ _ _ _ _ _=>.undef _
structure CW(H H':Heap)(x y:AV):Prop where
 agg:x.isAgg=y.isAgg
 len:x.cells.length=y.cells.length
 cell:∀(j:Nat) (u u':AV),x.cells[j]?=some u→y.cells[j]?=some u'→VW H H' u u'
theorem nP{x:AV}(h:x.isAgg=false):x.cells=[x]:=by cases x<;>first|rfl|cases h
theorem CW.of(H H':Heap){x y:AV}(hx:x.isAgg=false)(hy:y.isAgg=false)(h:VW H H' x y):CW H H' x y:=by
 refine⟨by rw[hx,hy],by rw[nP hx,nP hy];rfl,fun j u u' h1 h2=> ?_⟩;rw[nP hx]at h1;rw[nP hy]at h2
 cases j with
 |zero=>simp at h1 h2;subst h1;subst h2;exact h
 |succ j=>simp at h1
theorem CW.vw{H H':Heap}{x y:AV}(h:CW H H' x y):VW H H' x y:=by
 cases hx:x.isAgg with
 |true=>
  cases x<;>first|cases hx|skip
  rename_i cs;have hy:=h.agg
  cases y<;>first|cases hy|skip
  rename_i cs';intro Y w ρ v hr hv;obtain⟨akV,rfl,hn,h1,hc⟩:=hv.kD;have hl:=h.len;simp only[AV.cells]at hl;refine .agg _ _ (by omega) h1 (fun i y hy=> ?_);have hi:i<cs.length:=by rw[hl];exact(akX.1 hy).1
  exact h.cell i cs[i] y (by simp[AV.cells,hi]) hy Y w ρ _ hr (hc i cs[i] (by simp[hi]))
 |false=>
  have hy:=h.agg;rw[hx]at hy;refine h.cell 0 x y ?_ ?_
  ·rw[nP hx];rfl
  ·rw[nP hy.symm];rfl
theorem CW.refl(H H':Heap)(hw:HW H H')(x:AV):CW H H' x x:=⟨rfl,rfl,fun j u u' h1 h2=>by rw[h1]at h2;cases h2;exact hw.vw u⟩
theorem CW.trans{A B C:Heap}{x y z:AV}(hw:HW A B)(h:CW A B x y)(k:CW B C y z):CW A C x z:=by
 refine⟨h.agg.trans k.agg,h.len.trans k.len,fun j u u' h1 h2=> ?_⟩;have hj:j<y.cells.length:=by rw[←h.len];exact(akX.1 h1).1
 exact(h.cell j u _ h1 (alh hj)).trans hw (k.cell j _ u' (alh hj) h2)
theorem HW.pw{H H':Heap}(h:∀g k',get H' g=some k'→∃k,get H g=some k∧k'.sz=k.sz∧k'.box=k.box∧k.jw≤k'.jw∧
   (k'.elems=k.elems∨(k.box=true∧k'.elems.length=k.elems.length∧∀(i:Nat) (x y:AV),k.elems[i]?=some x→k'.elems[i]?=some y→CW H H x y)))
  (hlen:∀i,(H'.getD i []).length=(H.getD i []).length):HW H H':=by
 intro Y w ρ hr
 have hx:∀b o,XX ρ H' b o→XX ρ H b o:=by
  rintro b o ⟨g,k',hg,hρ,ho⟩;obtain⟨k,hk,h1,_,h4,_⟩:=h g k' hg;exact⟨g,k,hk,hρ,alS (by rw[h1];exact alq _ h4) ho⟩
 have hst:Stable w (XX ρ H) w (XX ρ H'):=(Stable.refl w _).less fun b o _ e=>hx b o e
 refine⟨⟨fun g k' hg=> ?_,fun g g' k k' b hg hg' h1 h2=> ?_,fun g b hb=> ?_,hr.lt,fun g k' b o hg hb=> ?_,hr.ylt⟩,hst⟩
 ·obtain⟨k,hk,h1,h2,h3,h4⟩:=h g k' hg;rcases hr.blk g k hk with⟨a1,a2,a3⟩|⟨b,a1,a2⟩
  ·rcases h4 with h4|⟨h4,_⟩
   ·exact .inl ⟨a1,h4.trans a2,h2.trans a3⟩
   ·rw[h4]at a3;cases a3
  ·refine .inr ⟨b,a1,?_⟩;rcases a2 with⟨a0,cs,T,a2,a3⟩|⟨m1,m2,es,cl,m3,m4⟩
   case inr=>
    rcases h4 with h4|⟨h4,_⟩
    ·exact .inr ⟨h1.trans m1,h2.trans m2,es,cl,m3,by rw[h4];exact m4⟩
    ·rw[h4]at m2;cases m2
   refine .inl ⟨by rw[h1];exact a0,cs,T,a2,?_⟩;rcases h4 with h4|⟨h4,h5,h6⟩
   ·rw[h1,h4,h2];exact a3.mono (hst.xu Y) (fun _ _ h=>h)
   ·rw[h1,h2,h4];rw[h4]at a3;refine bg.mono (hst.xu Y) (fun _ _ h=>h) ⟨by rw[h5];exact a3.1,fun i y hy=> ?_⟩;have hi:i<k.elems.length:=by rw[←h5];exact(akX.1 hy).1
    have hxe:=alh hi;have hc:=h6 i _ y hxe hy;obtain⟨b1,b2⟩:=a3.2 i _ hxe;refine⟨by rw[←hc.len];exact b1,fun j u hu=> ?_⟩;have hj:j<k.elems[i].cells.length:=by rw[hc.len];exact(akX.1 hu).1
    obtain⟨b3,b4⟩:=b2 j _ (alh hj);exact⟨b3,hc.cell j _ u (alh hj) hu Y w ρ _ hr b4⟩
 ·obtain⟨x,hx,_⟩:=h g k hg;obtain⟨y,hy,_⟩:=h g' k' hg';exact hr.inj g g' x y b hx hy h1 h2
 ·rw[hlen];exact hr.dom g b hb
 ·obtain⟨x,hx,_⟩:=h g k' hg;exact hr.sep g x b o hx hb
theorem HW.less{H H':Heap}(h:Less H' H):HW H H':=fun _ _ _ hr=>⟨hr.less h,h.st⟩
theorem HW.grow(H:Heap)(sz:Nat):HW H (H++ [[some ⟨sz,[],0,false⟩]]):=by
 intro Y w ρ hr;have h1:=hr.more 1;obtain⟨h2,h3⟩:=h1.MZ (slot:=H.length) (Free.more (alj _) (by omega)) ⟨sz,[],0,false⟩ rfl rfl
 have e:(H++List.replicate 1 []).set H.length [some ⟨sz,[],0,false⟩]=H++ [[some ⟨sz,[],0,false⟩]]:=by
  rw[List.set_append_right _ _ (alj _)];simp
 rw[e]at h2 h3;rw[Ao]at h3;exact⟨h2,h3⟩
theorem VW.row{H H':Heap}(hw:HW H H'){sz:Nat}{xs:List AV}{t:Bool}:VW H H' (.eO sz xs t) (.eO sz xs false):=by
 intro Y w ρ v hr hv;obtain⟨a,cap,rfl,h1,h2,hp⟩:=hv.oD;have hp:=hp.mono ((hw Y w ρ hr).2.xu Y);refine .pur _ _ ?_;generalize hn:xs.length=n at hp
 cases hp with
 |lst0 a cap sz t ht=>exact .lst0 _ _ _ _ (fun e=>by cases e)
 |eO b o n cap sz t xs f hn hc ht hsz hx hr=>exact .eO b o _ cap sz _ xs f hn hc (fun e=>by cases e) hsz hx hr
theorem VW.nil{H H':Heap}{sz sz':Nat}{t t':Bool}(h:t=true∨t'=false):VW H H' (.eO sz [] t) (.eO sz' [] t'):=by
 intro Y w ρ v hr hv;obtain⟨a,cap,rfl,h1,h2,hp⟩:=hv.oD;refine .pur _ _ (.lst0 _ _ _ _ (fun e=> ?_));rcases h with h|h
 ·exact h2 h
 ·rw[h]at e;cases e
theorem VW.MZ{H H':Heap}{sz sz' off:Nat}{g:Nm}:VW H H' (.eO sz [] true) (.own g sz' off 0):=by
 intro Y w ρ v hr hv;obtain⟨a,cap,rfl,h1,h2,hp⟩:=hv.oD;have:=h2 rfl;subst this;exact .own0 _ _ _ _
variable{nt m:Nat}
theorem Weak.of{s s':St}(hw:HW s.hp s'.hp)(hf:∀t,VW s.hp s'.hp (look s.fr t) (look s'.fr t)):Weak nt m s s':=by
 intro Y w ρ a hr;obtain⟨h1,h2⟩:=hw Y w ρ hr.hp;exact⟨ρ,⟨hr.tsz,hr.Yb,fun t=>hf t Y w ρ _ hr.hp (hr.fr t),h1⟩,h2,fun _ _ _ e=>e⟩
theorem Weak.tidy(s:St):Weak nt m s (Abs.tidy m s):=fun _ _ _ _ hr=>hr.tidy
theorem O5{A B C:Type}(l:List A)(n:Int)(k:(x:A)→l[n.toNat]?=some x→Option B)(F:B→Option C):rowAt l n (fun x h=>(k x h).bind F)=(rowAt l n k).bind F:=by
 unfold rowAt
 cases decide (0≤n)with
 |false=>rfl
 |true=>
  simp only[cond_true];generalize hh:l[n.toNat]?=o at k
  cases o with
  |none=>rfl
  |some x=>rfl
theorem Tr.JG{α β:Type}(t:Tr α)(k:α→Tr β):(t.bind k).mean=t.mean.bind fun a=>(k a).mean:=by
 induction t with
 |ret a=>rfl
 |fail=>rfl
 |need g t ih=>cases g<;>simp[Tr.bind,Tr.mean,ih]
 |br p x y ihx ihy=>cases p<;>simp[Tr.bind,Tr.mean,ihx,ihy]
 |ask m f ih=>
  simp only[Tr.bind,Tr.mean]
  cases m with
  |none=>rfl
  |some a=>exact ih a
 |look l n f ih=>
  simp only[Tr.bind,Tr.mean,←O5]
  congr 1
  funext x h
  exact ih x h
 |cs r f g ihf ihg=>
  simp only[Tr.bind,Tr.mean]
  cases r with
  |inl a=>exact ihf a
  |inr b=>exact ihg b
theorem Tr.aC{α β:Type}{t:Tr α}{k:α→Tr β}{b:β}(h:(t.bind k).mean=some b):∃a,t.mean=some a∧(k a).mean=some b:=by
 rw[Tr.JG]at h;exact ame.1 h
theorem Tr.gV{α β:Type}{t:Tr α}{f:α→β}{b:β}(h:(t.map f).mean=some b):∃a,t.mean=some a∧f a=b:=by
 obtain⟨a,h1,h2⟩:=Tr.aC h;exact⟨a,h1,by simpa[Tr.mean]using h2⟩
theorem Tr.bX{α:Type}{o:Option α}{a:α}(h:(Tr.of o).mean=some a):o=some a:=by cases o<;>simp_all [Tr.of,Tr.mean]
theorem Tr.aN{α:Type}{b:Bool}{t:Tr α}{a:α}(h:(Tr.when b t).mean=some a):b=true∧t.mean=some a:=by cases b<;>simp_all [Tr.when,Tr.mean]
theorem Tr.aX{α:Type}{g:Bool}{t:Tr α}{a:α}(h:(Tr.need g t).mean=some a):g=true∧t.mean=some a:=by cases g<;>simp_all [Tr.mean]
theorem Tr.ay{α:Type}{a b:α}(h:(Tr.ret a).mean=some b):a=b:=by simpa[Tr.mean]using h
theorem Tr.ax{α:Type}{b:α}(h:(Tr.fail:Tr α).mean=some b):False:=by cases h
theorem Tr.BZ{α β:Type}{f:α→Tr β}:∀{l:List α} {l':List β},(Tr.mapM f l).mean=some l'→l'.length=l.length∧∀(i:Nat) (a:α),l[i]?=some a→∃b,l'[i]?=some b∧(f a).mean=some b:=by
 intro l
 induction l with
 |nil=>intro l' h;have:=Tr.ay h;subst this;exact⟨rfl,fun i a ha=>by simp at ha⟩
 |cons a r ih=>
  intro l' h;obtain⟨b,h1,h2⟩:=Tr.aC h;obtain⟨bs,h3,h4⟩:=Tr.aC h2;have:=Tr.ay h4;subst this;obtain⟨e1,e2⟩:=ih h3;refine⟨by simp[e1],fun i x hx=> ?_⟩
  cases i with
  |zero=>simp at hx;subst hx;exact⟨b,rfl,h1⟩
  |succ i=>simp at hx;obtain⟨y,h5,h6⟩:=e2 i x hx;exact⟨y,by simpa using h5,h6⟩
theorem Nr(sz:Nat)(xs:List AV):Bd (Bd sz xs) xs=Bd sz xs:=by cases xs<;>rfl
def mR(H:aV)(g:Nm):Prop:=∃t l z,bO H g=some (.arr t l z)
section
variable{H:aV}{ℓ:Lens}
theorem lS(ha:gq ℓ H){v u:SV}{l:List Nm}(h:(jh H v).mean=some (u,l)):
  eB (dH ℓ H) (d1 ℓ v)=some (d1 ℓ u,l)∧(∀g∈l,mR H g)∧v.isAgg=false∧u.isAgg=false∧dC ℓ v=d1 ℓ v∧dC ℓ u=d1 ℓ u:=by
 cases v with
 |own t g=>
  simp only[jh]at h;split at h
  ·rename_i t' l' z hg;split at h
   ·rename_i ht;subst ht;split at h
    case isFalse=>exact(Tr.ax h).elim
    rename_i hs0;have:=Tr.ay h;simp only[al1]at this;obtain⟨rfl,rfl⟩:=this;refine⟨?_,fun g' hg'=> ?_,rfl,rfl,rfl,rfl⟩
    ·simp only[d1,eB,eG,hg,alR,dB];have:=ha g _ hg;simp only[SB.len]at this;rw[if_pos (by simp[this,hs0])];have ht:List.take l'.length (List.map (enc t') l')=List.map (enc t') l':=alP (by simp);simp[this,bR,ht]
    ·simp at hg';subst hg';exact⟨_,_,_,hg⟩
   ·exact(Tr.ax h).elim
  ·exact(Tr.ax h).elim
 |part t g off len=>
  simp only[jh]at h;split at h
  ·rename_i t' l' z hg;split at h
   ·rename_i ht;subst ht;split at h
    case isFalse=>exact(Tr.ax h).elim
    rename_i hs0;obtain⟨h1,h2⟩:=Tr.aX h;have:=Tr.ay h2;simp only[al1]at this;obtain⟨rfl,rfl⟩:=this;refine⟨?_,fun g' hg'=> ?_,rfl,rfl,rfl,rfl⟩
    ·simp only[d1,eB,eG,hg,alR,dB];have:=ali h1;rw[if_pos (by simpa[hs0]using this)];simp[bR,List.map_take,List.map_drop]
    ·simp at hg';subst hg';exact⟨_,_,_,hg⟩
   ·exact(Tr.ax h).elim
  ·exact(Tr.ax h).elim
 |row t l' tg=>
  have:=Tr.ay h;simp only[al1]at this;obtain⟨rfl,rfl⟩:=this;exact⟨by simp only[d1,bR,eB,Nr],fun g hg=>by simp at hg,rfl,rfl,rfl,rfl⟩
 |undef|int k n|bool b|str s|nilp|nilf=>
  have:=Tr.ay h;simp only[al1]at this;obtain⟨rfl,rfl⟩:=this;exact⟨rfl,fun g hg=>by simp at hg,rfl,rfl,rfl,rfl⟩
 |_=>exact(Tr.ax h).elim
theorem Ob(ha:gq ℓ H):∀{vs us:List SV} {l:List Nm},(Qx H vs).mean=some (us,l)→pu (dH ℓ H) (vs.map (dC ℓ))=some (us.map (dC ℓ),l)∧(∀g∈l,mR H g):=by
 intro vs
 induction vs with
 |nil=>
  intro us l h;have:=Tr.ay h;simp only[al1]at this;obtain⟨rfl,rfl⟩:=this;exact⟨rfl,fun g hg=>by simp at hg⟩
 |cons v r ih=>
  intro us l h;obtain⟨⟨u,l1⟩,h1,h2⟩:=Tr.aC h;obtain⟨⟨us',l2⟩,h3,h4⟩:=Tr.aC h2;have:=Tr.ay h4;simp only[al1]at this;obtain⟨rfl,rfl⟩:=this;obtain⟨e1,e2,_,_,e3,e4⟩:=lS ha h1;obtain⟨e5,e6⟩:=ih h3;refine⟨?_,fun g hg=> ?_⟩
  ·simp only[al3,pu];rw[e3,e1,e5,e4]
  ·rcases alx.1 hg with hg|hg
   ·exact e2 g hg
   ·exact e6 g hg
theorem uG(ha:gq ℓ H){v u:SV}{l:List Nm}(h:(Gc H v).mean=some (u,l)):jO (dH ℓ H) (dA ℓ v)=some (dA ℓ u,l)∧(∀g∈l,mR H g):=by
 have other:(jh H v).mean=some (u,l)→jO (dH ℓ H) (dA ℓ v)=some (dA ℓ u,l)∧(∀g∈l,mR H g):=by
  intro h;obtain⟨e1,e2,e3,e4,e5,e6⟩:=lS ha h;have hv:dA ℓ v=dC ℓ v:=by cases v<;>first|rfl|cases e3
  have hu:dA ℓ u=dC ℓ u:=by cases u<;>first|rfl|cases e4
  rw[hv,hu,e5,e6];refine⟨?_,e2⟩;rw[←e1]
  cases v<;>first|rfl|cases e3
 cases v with
 |agg cs=>
  obtain⟨⟨us,l'⟩,h1,h2⟩:=Tr.aC h;have:=Tr.ay h2;simp only[al1]at this;obtain⟨rfl,rfl⟩:=this;obtain⟨e1,e2⟩:=Ob ha h1;exact⟨by simp only[dA,jO,e1],e2⟩
 |tup vs=>exact(Tr.ax h).elim
 |_=>exact other h
theorem Ep(ℓ:Lens):∀(wr:List (Nm×SB)) (H:aV),dH ℓ (iH H wr)=aP (dH ℓ H) (wr.map fun p=>(p.1,dB ℓ p.2)):=by
 intro wr
 induction wr with
 |nil=>intro H;rfl
 |cons p r ih=>
  intro H;obtain⟨g,b⟩:=p;simp only[iH,al3,aP,ih,Ra]
theorem abl(ℓ:Lens)(t:Ty)(l:List t.den)(z:Fz):dB ℓ (SB.stop (.arr t l z))=(dB ℓ (.arr t l z)).map cB.stop:=by
 simp only[SB.stop,dB,al4,cB.stop,Fz.n,ald]
 congr 2
 cases z<;>simp only[Fz.n]<;>omega
theorem lI{l:List Nm}(h:∀g∈l,mR H g):(jJ H l).map (fun p=>(p.1,dB ℓ p.2))=stops (dH ℓ H) l:=by
 simp only[jJ,stops,amn];refine alO fun g hg=> ?_
 obtain⟨t,x,z,e⟩:=h g hg;simp only[Function.comp,e,eG,alR,abl]
theorem Nt{l:List Nm}(h:∀g∈l,mR H g):dH ℓ (qy H l)=aP (dH ℓ H) (stops (dH ℓ H) l):=by
 rw[qy,Ep,lI h]
def bH(H:aV)(wr:List (Nm×SB)):Prop:=∀p∈wr,∀b,bO H p.1=some b→p.2.len=b.len
theorem Jc:∀(wr:List (Nm×SB)) (H:aV) (g:Nm) (b:SB),bO H g=some b→bH H wr→∃b',bO (iH H wr) g=some b'∧b'.len=b.len:=by
 intro wr
 induction wr with
 |nil=>intro H g b h _;exact⟨b,h,rfl⟩
 |cons p r ih=>
  intro H g b h hl;obtain⟨a,c⟩:=p;simp only[iH]
  have hl':bH (yS H a c) r:=by
   intro p hp x hx;rw[lq]at hx;split at hx
   ·rename_i hh;cases hx
    cases hb:bO H a with
    |none=>rw[hb]at hh;simp at hh
    |some y=>
     rw[hl p (by simp[hp]) y (by rw[hh.1];exact hb),hl (a,c) (by simp) y hb]
   ·exact hl p (by simp[hp]) x hx
  by_cases e:g=a
  ·subst e;have hs:bO (yS H g c) g=some c:=by rw[lq];simp[h]
   obtain⟨b',h1,h2⟩:=ih (yS H g c) g c hs hl';exact⟨b',h1,h2.trans (hl (g,c) (by simp) b h)⟩
  ·have hs:bO (yS H a c) g=some b:=by rw[lq,if_neg (fun hh=>e hh.1)];exact h
   exact ih (yS H a c) g b hs hl'
theorem gq.iH{wr:List (Nm×SB)}(hl:bH H wr)(h:gq ℓ (iH H wr)):gq ℓ H:=by
 intro g b hg;obtain⟨b',h1,h2⟩:=Jc wr H g b hg hl;rw[h g b' h1,h2]
theorem Xt(b:SB):b.stop.len=b.len:=by cases b<;>rfl
theorem oH(l:List Nm):bH H (jJ H l):=by
 intro p hp b hb;simp only[jJ,amb]at hp;obtain⟨g,_,rfl⟩:=hp;simp only at hb;simp only[hb,Xt]
theorem gq.qy{l:List Nm}(h:gq ℓ (qy H l)):gq ℓ H:=h.iH (oH l)
theorem HW.qy{l:List Nm}(h:∀g∈l,mR H g):HW (dH ℓ H) (dH ℓ (qy H l)):=by
 rw[Nt h];exact HW.less (Less.stops l _ (Less.refl _))
theorem VJ{H:Heap}{x u:AV}{l:List Nm}(h:jO H x=some (u,l)):CW H (aP H (stops H l)) x u:=by
 have one:∀{x u:AV} {m:List Nm},eB H x=some (u,m)→(∀g∈m,g∈l)→VW H (aP H (stops H l)) x u∧x.isAgg=false∧u.isAgg=false:=by
  intro x u m hp hm;refine⟨fun Y w ρ v hr hv=> ?_,?_,?_⟩
  ·have hless:Less (aP H (stops H l)) H:=Less.stops l H (Less.refl H);exact .pur _ _ (nS hr hv hp (Shut.mono (Shut.K5 hr hless (fun g hg k hk k' hk'=>qQ H g hk l H hg k' hk')) hm))
  ·cases x<;>first|rfl|simp[eB]at hp
  ·cases x with
   |own g sz off len=>
    simp only[eB]at hp;split at hp
    ·split at hp
     ·cases hp;rfl
     ·cases hp
    ·cases hp
   |_=>first|(simp[eB]at hp;done)|(simp only[eB,alg,al1]at hp;rw[←hp.1];rfl)
 cases x with
 |agg cs=>
  simp only[jO]at h;split at h
  ·rename_i ys m hy;simp only[alg,al1]at h;obtain⟨rfl,rfl⟩:=h;obtain⟨e1,e2⟩:=I6 cs ys m hy;refine⟨rfl,e1.symm,fun j a b h1 h2=> ?_⟩;obtain⟨u,m',h3,h4,h5⟩:=e2 j a h1;simp only[AV.cells]at h2;rw[h2]at h3;cases h3;exact(one h4 h5).1
  ·cases h
 |tup vs=>simp[jO]at h
 |_=>
  have h':=h;simp only[jO]at h';obtain⟨e1,e2,e3⟩:=one h' (fun _ h=>h);exact CW.of _ _ e2 e3 e1
end
inductive F2{α β:Type}(R:α→β→Prop):List α→List β→Prop where
 |nil:F2 R [] []
 |cons {a:α} {b:β} {l:List α} {m:List β} (h:R a b) (t:F2 R l m):F2 R (a::l) (b::m)
theorem F2.imp{α β:Type}{R S:α→β→Prop}(h:∀a b,R a b→S a b){l:List α}{m:List β}(k:F2 R l m):F2 S l m:=by
 induction k with
 |nil=>exact .nil
 |cons h1 _ ih=>exact .cons (h _ _ h1) ih
theorem F2.refl{α:Type}{R:α→α→Prop}(h:∀a,R a a):∀l,F2 R l l
 | []=>.nil
 |a::l=>.cons (h a) (F2.refl h l)
theorem F2.length{α β:Type}{R:α→β→Prop}{l:List α}{m:List β}(k:F2 R l m):l.length=m.length:=by
 induction k with
 |nil=>rfl
 |cons _ _ ih=>simp[ih]
theorem F2.get{α β:Type}{R:α→β→Prop}{l:List α}{m:List β}(k:F2 R l m):∀(i:Nat) (a:α) (b:β),l[i]?=some a→m[i]?=some b→R a b:=by
 induction k with
 |nil=>intro i a b h;simp at h
 |cons h _ ih=>
  intro i x y h1 h2
  cases i with
  |zero=>simp at h1 h2;subst h1;subst h2;exact h
  |succ i=>exact ih i x y (by simpa using h1) (by simpa using h2)
structure CV(ℓ:Lens)(H H':aV)(v v':SV):Prop where
 a:CW (dH ℓ H) (dH ℓ H') (dA ℓ v) (dA ℓ v')
 c:VW (dH ℓ H) (dH ℓ H') (dC ℓ v) (dC ℓ v')
section
variable{ℓ:Lens}{A B C H H':aV}{v v':SV}
theorem CV.refl(hw:HW (dH ℓ H) (dH ℓ H'))(v:SV):CV ℓ H H' v v:=⟨CW.refl _ _ hw _,hw.vw _⟩
theorem CV.then(hw:HW (dH ℓ A) (dH ℓ B))(hw':HW (dH ℓ B) (dH ℓ C))(h:CV ℓ A B v v'):CV ℓ A C v v':=⟨h.a.trans hw (CW.refl _ _ hw' _),h.c.trans hw (hw'.vw _)⟩
theorem CV.behind(hw:HW (dH ℓ A) (dH ℓ B))(h:CV ℓ B C v v'):CV ℓ A C v v':=⟨(CW.refl _ _ hw _).trans hw h.a,(hw.vw _).trans hw h.c⟩
structure Conv(ℓ:Lens)(vs vs':List SV)(H H':aV):Prop where
 agr:gq ℓ H
 hw:HW (dH ℓ H) (dH ℓ H')
 vals:F2 (CV ℓ H H') vs vs'
 box:∀g sz v,bO H g=some (.box sz v)→bO H' g=some (.box sz v)
theorem Conv.refl(h:gq ℓ H)(vs:List SV):Conv ℓ vs vs H H:=⟨h,HW.refl _,F2.refl (fun v=>CV.refl (HW.refl _) v) vs,fun _ _ _ h=>h⟩
theorem Conv.cons{vs vs':List SV}{v':SV}(h1:gq ℓ B→gq ℓ A∧HW (dH ℓ A) (dH ℓ B)∧CV ℓ A B v v'∧∀g sz v,bO A g=some (.box sz v)→bO B g=some (.box sz v))(h:Conv ℓ vs vs' B C):Conv ℓ (v::vs) (v'::vs') A C:=by
 obtain⟨a1,a2,a3,a4⟩:=h1 h.agr;exact⟨a1,a2.trans h.hw,.cons (a3.then a2 h.hw) (h.vals.imp fun _ _ k=>k.behind a2),fun g sz v e=>h.box g sz v (a4 g sz v e)⟩
theorem Conv.same{vs vs':List SV}(h:Conv ℓ vs vs' A C)(v:SV):Conv ℓ (v::vs) (v::vs') A C:=
 h.cons fun ha=>⟨ha,HW.refl _,CV.refl (HW.refl _) v,fun _ _ _ e=>e⟩
theorem CV.undef(hw:HW (dH ℓ H) (dH ℓ H'))(h:v.isAgg=false):CV ℓ H H' v .undef:=
 ⟨CW.of _ _ (by rw[o5];exact h) rfl VW.undef,VW.undef⟩
theorem ED{l:List Nm}(h:∀g∈l,mR H g){g:Nm}{sz:Nat}{v:SV}(hg:bO H g=some (.box sz v)):bO (qy H l) g=some (.box sz v):=by
 have key:∀(wr:List (Nm×SB)) (K:aV),(∀p∈wr,p.1≠g)→bO K g=some (.box sz v)→bO (iH K wr) g=some (.box sz v):=by
  intro wr
  induction wr with
  |nil=>intro K _ hk;exact hk
  |cons p r ih=>
   intro K hp hk;obtain⟨a,c⟩:=p;refine ih _ (fun q hq=>hp q (by simp[hq])) ?_;rw[lq,if_neg (fun hh=>hp (a,c) (by simp) hh.1.symm)];exact hk
 refine key _ _ (fun p hp e=> ?_) hg;simp only[jJ,amb]at hp;obtain⟨g',hg',rfl⟩:=hp;simp only at e;subst e;obtain⟨t,l',z,e⟩:=h _ hg';rw[hg]at e;cases e
theorem WR(H:aV)(b:SB):bO (H++ [[b]]) (H.length,0)=some b:=by simp[bO]
theorem Qn(h:v.isAgg=false)(ht:∀vs,v≠ .tup vs):Gc H v=jh H v:=by
 cases v<;>first|rfl|cases h|exact absurd rfl (ht _)
theorem rq:∀(sh:Sh) (vs:List SV) (H:aV) (vs':List SV) (H':aV),(jW sh vs H).mean=some (vs',H')→gq ℓ H'→Conv ℓ vs vs' H H':=by
 intro sh
 induction sh with
 |nil=>
  intro vs H vs' H' h ha;have:=Tr.ay h;simp only[al1]at this;obtain⟨rfl,rfl⟩:=this;exact .refl ha _
 |st x r ih=>
  intro vs H vs' H' h ha
  cases vs with
  |nil=>
   have:=Tr.ay h;simp only[al1]at this;obtain⟨rfl,rfl⟩:=this;exact .refl ha _
  |cons v vs=>
   have plain:∀{K:aV} {u:SV},((jW r vs K).bind fun q=>.ret (u::q.1,q.2)).mean=some (vs',H')→∃us,vs'=u::us∧Conv ℓ vs us K H':=by
    intro K u hk;obtain⟨q,h1,h2⟩:=Tr.aC hk;have:=Tr.ay h2;simp only[al1]at this;obtain⟨rfl,rfl⟩:=this;exact⟨q.1,rfl,ih _ _ _ _ h1 ha⟩
   simp only[jW]at h;split at h
   ·rename_i t g t';obtain⟨us,rfl,hc⟩:=plain h;refine hc.cons fun hb=>⟨hb.append,?_,?_,fun _ _ _ e=>tX e⟩
    ·rw[Ch];exact HW.grow _ _
    ·have hl:=hb _ _ (WR H (.arr t [] .zero))
     have:VW (dH ℓ H) (dH ℓ (H++ [[.arr t [] .zero]])) (dA ℓ (.row t' [] true)) (dA ℓ (.own t (H.length,0))):=by
      simp only[dA,dC,d1,bR,hl,SB.len,alJ,List.length_nil];exact VW.MZ
     exact⟨CW.of _ _ rfl rfl this,this⟩
   ·split at h
    ·obtain⟨us,rfl,hc⟩:=plain h;refine hc.cons fun hb=>⟨hb,HW.refl _,?_,fun _ _ _ e=>e⟩
     exact .undef (HW.refl _) (by assumption)
    ·exact(Tr.ax h).elim
   ·obtain⟨us,rfl,hc⟩:=plain h;exact hc.same _
 |dat t r ih=>
  intro vs H vs' H' h ha
  cases vs with
  |nil=>
   have:=Tr.ay h;simp only[al1]at this;obtain⟨rfl,rfl⟩:=this;exact .refl ha _
  |cons v vs=>
   simp only[jW]at h;obtain⟨⟨u,l⟩,h1,h2⟩:=Tr.aC h;obtain⟨q,h3,h4⟩:=Tr.aC h2;have:=Tr.ay h4;simp only[al1]at this;obtain⟨rfl,rfl⟩:=this;refine(ih _ _ _ _ h3 ha).cons fun hb=> ?_
   have ha0:=hb.qy;obtain⟨e1,e2⟩:=uG ha0 h1;have hcw:=VJ e1;rw[←Nt e2]at hcw;refine⟨ha0,HW.qy e2,⟨hcw,?_⟩,fun g sz v e=>ED e2 e⟩
   cases v with
   |agg cs=>
    obtain⟨p,h5,h6⟩:=Tr.aC h1;have:=Tr.ay h6;simp only[al1]at this;rw[←this.1];exact VW.undef
   |tup vs=>exact(Tr.ax h1).elim
   |_=>
    rw[Qn rfl (fun _ e=>by cases e)]at h1;obtain⟨f1,_,f3,f4,f5,f6⟩:=lS ha0 h1;have:=hcw.vw
    cases u<;>first|exact this|cases f4
 |part t g r ih=>
  intro vs H vs' H' h ha
  cases vs with
  |nil=>
   have:=Tr.ay h;simp only[al1]at this;obtain⟨rfl,rfl⟩:=this;exact .refl ha _
  |cons v vs=>
   simp only[jW]at h;split at h
   ·rename_i t';obtain⟨q,h3,h4⟩:=Tr.aC h;have:=Tr.ay h4;simp only[al1]at this;obtain⟨rfl,rfl⟩:=this;refine(ih _ _ _ _ h3 ha).cons fun hb=>⟨hb.append,?_,?_,fun _ _ _ e=>tX e⟩
    ·rw[Ch];exact HW.grow _ _
    ·have:VW (dH ℓ H) (dH ℓ (H++ [[.arr t [] .zero]])) (dA ℓ (.row t' [] true)) (dA ℓ (.part t (H.length,0) 0 0)):=by
      simp only[dA,dC,d1,bR,alJ];exact VW.MZ
     exact⟨CW.of _ _ rfl rfl this,this⟩
   obtain⟨q,h3,h4⟩:=Tr.aC h;have:=Tr.ay h4;simp only[al1]at this;obtain⟨rfl,rfl⟩:=this;have hc:=ih _ _ _ _ h3 ha;split
   ·rename_i t g hne;split
    ·rename_i b hb;refine hc.cons fun ha'=>⟨ha',HW.refl _,?_,fun _ _ _ e=>e⟩
     have e:d1 ℓ (.own t g)=d1 ℓ (.part t g 0 b.len):=by simp only[d1,ha' g b hb]
     have:VW (dH ℓ H) (dH ℓ H) (d1 ℓ (.own t g)) (d1 ℓ (.part t g 0 b.len)):=by rw[e];exact VW.refl _ _
     exact⟨CW.of _ _ rfl rfl this,this⟩
    ·exact hc.same _
   ·exact hc.same _
 |eptr g sz off r ih=>
  intro vs H vs' H' h ha
  cases vs with
  |nil=>
   have:=Tr.ay h;simp only[al1]at this;obtain⟨rfl,rfl⟩:=this;exact .refl ha _
  |cons v vs=>
   simp only[jW]at h;obtain⟨q,h3,h4⟩:=Tr.aC h;have:=Tr.ay h4;simp only[al1]at this;obtain⟨rfl,rfl⟩:=this;exact(ih _ _ _ _ h3 ha).same _
 |agg i r ihi ih=>
  intro vs H vs' H' h ha
  cases vs with
  |nil=>
   have:=Tr.ay h;simp only[al1]at this;obtain⟨rfl,rfl⟩:=this;exact .refl ha _
  |cons v vs=>
   simp only[jW]at h;split at h
   ·rename_i cs;obtain⟨p,h1,h2⟩:=Tr.aC h;obtain⟨q,h3,h4⟩:=Tr.aC h2;have:=Tr.ay h4;simp only[al1]at this;obtain⟨rfl,rfl⟩:=this;refine(ih _ _ _ _ h3 ha).cons fun hb=> ?_
    have hc:=ihi _ _ _ _ h1 hb;refine⟨hc.agr,hc.hw,⟨⟨rfl,?_,fun j u u' e1 e2=> ?_⟩,VW.undef⟩,hc.box⟩
    ·simp only[dA,AV.cells,ald];exact hc.vals.length
    ·simp only[dA,AV.cells,ale]at e1 e2;obtain⟨a,b1,rfl⟩:=alf.1 e1;obtain⟨a',b2,rfl⟩:=alf.1 e2;exact(hc.vals.get j a a' b1 b2).c
   ·obtain⟨q,h3,h4⟩:=Tr.aC h;have:=Tr.ay h4;simp only[al1]at this;obtain⟨rfl,rfl⟩:=this;exact(ih _ _ _ _ h3 ha).same _
end
section
variable{ℓ ℓ':Lens}{A B C H H' K:aV}{v v':SV}
theorem HW.box{H K:Heap}(hw:HW H K){g:Nm}{sz:Nat}{x y:AV}(h1:get H g=some ⟨sz,[x],0,true⟩)(h2:get K g=some ⟨sz,[x],0,true⟩)(hc:CW H K x y):
  HW H (set K g (some ⟨sz,[y],0,true⟩)):=by
 intro Y w ρ hr;obtain⟨hk,hst⟩:=hw Y w ρ hr;rcases hr.blk g _ h1 with⟨_,a2,_⟩|⟨b,hρ,⟨a0,cs,T,hcs,he⟩|⟨_,a2,_⟩⟩
 ·cases a2
 ·have hw1:=hk.write (w1:=w) (k1:=⟨sz,[y],0,true⟩) h2 hρ a0 rfl rfl rfl rfl (fun _ _=>rfl) hcs hcs rfl (fun _ _=>rfl) rfl (alj _) ⟨he.1,fun i z hz=>by
   cases i with
   |succ i=>simp at hz
   |zero=>
    simp at hz;subst hz;obtain⟨b1,b2⟩:=he.2 0 x rfl;refine⟨by rw[←hc.len];exact b1,fun j u hu=> ?_⟩;have hj:j<x.cells.length:=by rw[hc.len];exact(akX.1 hu).1
    obtain⟨b3,b4⟩:=b2 j _ (alh hj);exact⟨b3,hc.cell j _ u (alh hj) hu Y w ρ _ hr b4⟩⟩
  exact⟨hw1.1,hst.trans hw1.2⟩
 ·cases a2
theorem F6:∀(bk:ja) (j:Nat) (H H':aV),(Bh bk j H).mean=some H'→gq ℓ H'→gq ℓ H∧HW (dH ℓ H) (dH ℓ H'):=by
 intro bk
 induction bk with
 |nil=>intro j H H' h ha;have:=Tr.ay h;subst this;exact⟨ha,HW.refl _⟩
 |box sz s r ih=>
  intro j H H' h ha;simp only[Bh]at h;split at h
  ·rename_i sz' v hg;obtain⟨⟨l,K⟩,h1,h2⟩:=Tr.aC h;simp only at h2;split at h2
   ·rename_i v';obtain⟨a1,a2⟩:=ih _ _ _ h2 ha;have hkeep:∀ha':gq ℓ K,bO K (j,0)=some (.box sz' v):=fun ha'=>(rq (ℓ:=ℓ) s [v] H _ K h1 ha').box _ _ _ hg
    have hagr:gq ℓ K:=by
     cases hk:bO K (j,0)with
     |none=>
      intro g b hb;refine a1 g b ?_;rw[lq,if_neg (fun hh=>by rw[hk]at hh;simp at hh)];exact hb
     |some b0=>
      have hb0:=(rq (ℓ:=gM K) s [v] H _ K h1 (gU K)).box _ _ _ hg;exact gq.yS (b:=.box sz' v') hb0 rfl a1
    have hc:=rq (ℓ:=ℓ) s [v] H _ K h1 hagr
    have hv:CV ℓ H K v v':=by
     have:=hc.vals
     cases this with
     |cons h _=>exact h
    refine⟨hc.agr,(HW.box hc.hw (g:=(j,0)) (sz:=sz') ?_ ?_ hv.a).trans ?_⟩
    ·rw[eG,hg];rfl
    ·rw[eG,hc.box _ _ _ hg];rfl
    ·rw[Ra]at a2;exact a2
   ·exact(Tr.ax h2).elim
  ·exact(Tr.ax h).elim
 |arr t z r ih=>
  intro j H H' h ha;simp only[Bh]at h;obtain⟨a1,a2⟩:=ih _ _ _ h ha
  cases z with
  |false=>exact⟨a1,a2⟩
  |true=>
   simp only at a1 a2;split at a1
   ·rename_i t' l z hg;have hs:∀g∈ [((j,0):Nm)],mR H g:=fun g hg'=>by simp at hg';subst hg';exact⟨_,_,_,hg⟩
    rw[hg]at a2;exact⟨a1.qy,(HW.qy hs).trans a2⟩
   ·rename_i hn;split at a2
    ·rename_i t' l z hg;exact absurd hg (hn _ _ _)
    ·exact⟨a1,a2⟩
 |mp t r ih=>
  intro j H H' h ha;exact ih _ _ _ h ha
 |dead n r ih=>
  intro j H H' h ha;exact ih _ _ _ h ha
theorem LU{α β:Type}{f:α→Option β}{l:List α}{l':List β}(h:l.mapM f=some l'){i:Nat}{a:α}(ha:l[i]?=some a):∃b,l'[i]?=some b∧f a=some b:=(mapM_some _ _ _ h).2 i a ha
theorem yJ{m:Nat}{s s':tH}(h:NS m s=some s')(ha:gq ℓ s.hp)(ha':gq ℓ' s'.hp):Abs.tidy m (dS ℓ s)=dS ℓ' s':=by
 unfold NS at h;simp only at h;split at h
 ·rename_i hp hm;simp only[alg]at h;subst h
  have hroots:((dS ℓ s).fr.flatMap fun p=>mI p.2)=s.fr.flatMap fun p=>qg p.2:=by
   simp only[dS,dF,List.flatMap_map,Rl]
  have hR:reached (dS ℓ s).hp m ((dS ℓ s).fr.flatMap fun p=>mI p.2)=o8 s.hp m (s.fr.flatMap fun p=>qg p.2):=by
   rw[hroots];exact I5 ℓ s.hp m _
  unfold Abs.tidy;simp only;rw[hR];generalize o8 s.hp m (s.fr.flatMap fun p=>qg p.2)=R at hm ⊢
  have hgoes:Goes (je m R) ℓ ℓ':=by
   intro g g' hg
   have key:∀i,(aL m++R)[i]?=some g→g'=(i,0)→ℓ' g'=ℓ g:=by
    intro i hi e;obtain⟨b,h1,h2⟩:=LU hm hi;obtain⟨b0,h3,rfl⟩:=alf.1 h2;subst e;rw[ha' (i,0) (fD (je m R) b0) (by simp[bO,h1]),ha g b0 h3,iO]
   unfold je at hg;split at hg
   ·rename_i hlt;split at hg
    ·rename_i h0;cases hg;refine key g.1 ?_ (by rw[←h0]);rw[alp (by simpa[aL]using hlt)];simp[aL,hlt,←h0]
    ·cases hg
   ·cases hi:idxOf g R 0 with
    |none=>simp[hi]at hg
    |some i=>
     simp[hi]at hg;obtain⟨_,hR⟩:=iI g R 0 i hi;refine key (m+i) ?_ hg.symm;rw[alm (by simp[aL])];simpa[aL]using hR
  simp only[dS,dF,amn]
  congr 1
  ·refine alO fun p _=> ?_
   simp only[Function.comp,K4 hgoes]
  ·unfold qz;simp only[dH];apply List.ext_getElem?;intro i;simp only[ale]
   cases hi:(aL m++R)[i]? with
   |none=>
    have:hp[i]?=none:=by
     rw[amj,(mapM_some _ _ _ hm).1];exact amj.1 hi
    rw[this];rfl
   |some g=>
    obtain⟨b,h1,h2⟩:=LU hm hi;obtain⟨b0,h3,rfl⟩:=alf.1 h2;rw[h1];simp only[al4,al3,alJ];rw[show get (List.map (fun l=>List.map (dB ℓ) l) s.hp) g=_ from eG ℓ s.hp g,h3,alR,vR hgoes]
 ·cases h
theorem yH{t t':Ty}{l:List t.den}{l':List t'.den}(h:zW l=some l')(tight:Bool):bR t l tight=bR t' l' tight:=by
 unfold zW at h;split at h
 ·rename_i e;subst e;cases h;rfl
 ·split at h
  ·cases h;rfl
  ·cases h
theorem Xo:∀(t:Ty) (cs:List SV) (x:t.den) (r:List SV),J2 t cs=some (x,r)→∃pre,cs=pre++r∧F2 (fun c c'=>CV ℓ H H c c') pre (Jg t x):=by
 intro t
 induction t with
 |int k=>
  intro cs x r h
  cases cs with
  |nil=>cases h
  |cons c cs=>
   cases c<;>first|(cases h;done)|skip
   simp only[J2]at h;split at h
   ·rename_i e;subst e;cases h;exact⟨[_],rfl,.cons (CV.refl (HW.refl _) _) .nil⟩
   ·cases h
 |bool=>
  intro cs x r h
  cases cs with
  |nil=>cases h
  |cons c cs=>
   cases c<;>first|(cases h;done)|skip
   cases h;exact⟨[_],rfl,.cons (CV.refl (HW.refl _) _) .nil⟩
 |str=>
  intro cs x r h
  cases cs with
  |nil=>cases h
  |cons c cs=>
   cases c<;>first|(cases h;done)|skip
   cases h;exact⟨[_],rfl,.cons (CV.refl (HW.refl _) _) .nil⟩
 |row t ih=>
  intro cs x r h
  cases cs with
  |nil=>cases h
  |cons c cs=>
   cases c<;>first|cases h|skip
   rename_i t' l tg;simp only[J2]at h;split at h
   ·rename_i l' hl;cases h;refine⟨[_],rfl,.cons ?_ .nil⟩
    have hv:VW (dH ℓ H) (dH ℓ H) (bR t' l tg) (bR t x false):=by
     rw[←yH hl false];exact VW.row (HW.refl _)
    exact⟨CW.of _ _ rfl rfl hv,hv⟩
   ·cases h
 |unit=>intro cs x r h;cases h;exact⟨[],rfl,.nil⟩
 |cons a b iha ihb=>
  intro cs x r h;simp only[J2]at h;split at h
  ·rename_i y r1 h1;split at h
   ·rename_i z r2 h2;cases h;obtain⟨p1,rfl,f1⟩:=iha _ _ _ h1;obtain⟨p2,rfl,f2⟩:=ihb _ _ _ h2;refine⟨p1++p2,by simp,?_⟩;simp only[Jg]
    have app:∀{l m:List SV},F2 (fun c c'=>CV ℓ H H c c') l m→F2 (fun c c'=>CV ℓ H H c c') (l++p2) (m++Jg b z):=by
     intro l m f
     induction f with
     |nil=>exact f2
     |cons h _ ih=>exact .cons h ih
    exact app f1
   ·cases h
  ·cases h
theorem U9{t:Ty}{v:SV}{x:t.den}(h:Oy t v=some x):CV ℓ H H v (DU t x):=by
 unfold Oy at h;split at h
 ·rename_i hagg;split at h
  ·rename_i y hy;cases h;obtain⟨pre,h1,h2⟩:=Xo (ℓ:=ℓ) (H:=H) t _ _ _ hy;rw[alE]at h1;subst h1;have hu:(DU t x).cells=Jg t x:=Tg t x;have ha:v.isAgg=(DU t x).isAgg:=by rw[hagg,SA]
   refine⟨⟨by rw[o5,o5,ha],?_,fun j u u' e1 e2=> ?_⟩,?_⟩
   ·rw[gW,gW,hu,ald,ald];exact h2.length
   ·rw[gW]at e1 e2;rw[ale]at e1 e2;rw[hu]at e2;obtain⟨a,b1,rfl⟩:=alf.1 e1;obtain⟨a',b2,rfl⟩:=alf.1 e2;exact(h2.get j a a' b1 b2).c
   ·cases hv:v.isAgg with
    |true=>
     rw[hv]at ha
     have e:dC ℓ (DU t x)= .undef:=by
      generalize DU t x=z at ha
      cases z<;>first|rfl|cases ha
     rw[e];exact VW.undef
    |false=>
     rw[hv]at ha;have e1:v.cells=[v]:=by cases v<;>first|rfl|cases hv
     have e2:(DU t x).cells=[DU t x]:=by
      generalize DU t x=z at ha
      cases z<;>first|rfl|cases ha
     rw[e1,←hu,e2]at h2
     cases h2 with
     |cons h _=>exact h.c
  ·cases h
 ·cases h
theorem LB:∀(caps:List (Nm×Nat×Nat×Nat)) (cs:List SV),J5 caps cs=true→cs=caps.map fun c=>.ptr c.1 c.2.1 c.2.2.1 c.2.2.2:=by
 intro caps
 induction caps with
 |nil=>intro cs h;cases cs with
  |nil=>rfl
  |cons _ _=>cases h
 |cons c r ih=>
  intro cs h
  cases cs with
  |nil=>cases h
  |cons v vs=>
   simp only[J5,alu]at h;obtain⟨h1,h2⟩:=h;rw[ih vs h2]
   cases v<;>first|(cases h1;done)|skip
   simp only[ptrEq,alM]at h1;subst h1;rfl
theorem Um{x:o6}{v:SV}(h:x.fits v=true):CV ℓ H H v x.un:=by
 have eq:v=x.un→CV ℓ H H v x.un:=fun e=>by rw[←e];exact CV.refl (HW.refl _) v
 cases x with
 |undef=>exact CV.undef (HW.refl _) (by simpa[o6.fits]using h)
 |nil=>
  cases v<;>first|(cases h;done)|skip
  rename_i t l tg
  cases l<;>first|(cases h;done)|skip
  cases tg<;>first|(cases h;done)|skip
  have:dC ℓ (.row t [] true)=dC ℓ (.row .unit [] true):=rfl;refine⟨CW.of _ _ rfl rfl ?_,?_⟩
  ·exact VW.refl _ _
  ·exact VW.refl _ _
 |nilp=>cases v<;>first|(cases h;done)|exact eq rfl
 |nilf=>cases v<;>first|(cases h;done)|exact eq rfl
 |own t g=>
  cases v<;>first|(cases h;done)|skip
  simp only[o6.fits,alM]at h;obtain⟨rfl,rfl⟩:=h;exact eq rfl
 |ptr g sz i off=>
  cases v<;>first|(cases h;done)|skip
  simp only[o6.fits,alM]at h;obtain⟨rfl,rfl,rfl,rfl⟩:=h;exact eq rfl
 |clo f caps=>
  cases v<;>first|(cases h;done)|skip
  simp only[o6.fits,alu,alM]at h;obtain⟨rfl,h2⟩:=h;exact eq (by rw[LB _ _ h2];rfl)
 |fm l=>
  cases v<;>first|(cases h;done)|skip
  simp only[o6.fits,alM]at h;subst h;exact eq rfl
 |fp g=>
  cases v<;>first|(cases h;done)|skip
  simp only[o6.fits,alM]at h;subst h;exact eq rfl
theorem RA:∀(s:Sh) (vs:List SV) (x:s.den),s.pa vs=some x→F2 (CV ℓ H H) vs (s.un x):=by
 intro s
 induction s with
 |nil=>intro vs x h;cases vs with
  |nil=>exact .nil
  |cons _ _=>cases h
 |st y r ih=>
  intro vs x h
  cases vs with
  |nil=>cases h
  |cons v vs=>
   replace h:(if y.fits v=true then r.pa vs else none)=(some x:Option r.den):=h
   split at h
   ·rename_i hf;exact .cons (Um hf) (ih _ _ h)
   ·cases h
 |dat t r ih=>
  intro vs x h
  cases vs with
  |nil=>cases h
  |cons v vs=>
   simp only[Sh.pa]at h;split at h
   ·rename_i a b h1 h2;cases h;exact .cons (U9 h1) (ih _ _ h2)
   ·cases h
 |part t g r ih=>
  intro vs x h
  cases vs with
  |nil=>cases h
  |cons v vs=>
   simp only[Sh.pa]at h;split at h
   ·rename_i t' g' off len b h2;split at h
    ·rename_i e;obtain⟨rfl,rfl⟩:=e;cases h;exact .cons (CV.refl (HW.refl _) _) (ih _ _ h2)
    ·cases h
   ·cases h
 |eptr g sz off r ih=>
  intro vs x h
  cases vs with
  |nil=>cases h
  |cons v vs=>
   simp only[Sh.pa]at h;split at h
   ·rename_i g' sz' i off' b h2;split at h
    ·rename_i e;obtain⟨rfl,rfl,rfl⟩:=e;cases h;exact .cons (CV.refl (HW.refl _) _) (ih _ _ h2)
    ·cases h
   ·cases h
 |agg i r ihi ih=>
  intro vs x h
  cases vs with
  |nil=>cases h
  |cons v vs=>
   simp only[Sh.pa]at h;split at h
   ·rename_i cs b h2;split at h
    ·rename_i a h1;cases h;have f:=ihi _ _ h1;refine .cons ⟨⟨rfl,?_,fun j u u' e1 e2=> ?_⟩,VW.undef⟩ (ih _ _ h2)
     ·simp only[dA,AV.cells,ald];exact f.length
     ·simp only[dA,AV.cells,ale]at e1 e2;obtain⟨p,b1,rfl⟩:=alf.1 e1;obtain⟨q,b2,rfl⟩:=alf.1 e2;exact(f.get j p q b1 b2).c
    ·cases h
   ·cases h
end
section
variable{ℓ:Lens}{H H0:aV}
def RB(ℓ:Lens)(H:aV)(b b':SB):Prop:=b=b'∨∃sz v v',b= .box sz v∧b'= .box sz v'∧CV ℓ H H v v'
def RG(ℓ:Lens)(H:aV)(l l':List SB):Prop:=∃b b',l=[b]∧l'=[b']∧RB ℓ H b b'
theorem RB.len{b b':SB}(h:RB ℓ H b b'):b.len=b'.len:=by
 rcases h with rfl|⟨sz,v,v',rfl,rfl,_⟩<;>rfl
theorem F2.ajv{α β:Type}{R:α→β→Prop}{l:List α}{m:List β}(k:F2 R l m){i:Nat}{b:β}(h:m[i]?=some b):∃a,l[i]?=some a∧R a b:=by
 have hi:i<l.length:=by rw[k.length];exact(akX.1 h).1
 exact⟨l[i],alh hi,k.get i _ _ (alh hi) h⟩
theorem F2.vT{α β:Type}{R:α→β→Prop}{l:List α}{m:List β}(k:F2 R l m){i:Nat}{a:α}(h:l[i]?=some a):∃b,m[i]?=some b∧R a b:=by
 have hi:i<m.length:=by rw[←k.length];exact(akX.1 h).1
 exact⟨m[i],alh hi,k.get i _ _ h (alh hi)⟩
theorem PV{H':aV}(h:F2 (RG ℓ H0) H H')(ha:gq ℓ H'):gq ℓ H:=by
 intro g b hg;simp only[bO]at hg
 cases hl:H[g.1]? with
 |none=>simp[hl]at hg
 |some l=>
  rw[hl]at hg;obtain⟨l',h1,b1,b2,rfl,rfl,h2⟩:=h.vT hl
  cases hc:g.2 with
  |succ c=>rw[hc]at hg;simp at hg
  |zero=>
   rw[hc]at hg;simp at hg;subst hg;rw[ha g b2 (by simp[bO,h1,hc]),h2.len]
theorem Sk{H':aV}(h:F2 (RG ℓ H) H H'):HW (dH ℓ H) (dH ℓ H'):=by
 refine HW.pw (fun g k' hg=> ?_) (fun i=> ?_)
 ·rw[eG]at hg;obtain⟨b',h1,h2⟩:=ame.1 hg;simp only[bO]at h1
  cases hl:H'[g.1]? with
  |none=>simp[hl]at h1
  |some l'=>
   rw[hl]at h1;obtain⟨l,h3,b1,b2,rfl,rfl,h4⟩:=h.ajv hl
   cases hc:g.2 with
   |succ c=>rw[hc]at h1;simp at h1
   |zero=>
    rw[hc]at h1;simp at h1;subst h1;have hb:bO H g=some b1:=by simp[bO,h3,hc]
    rcases h4 with rfl|⟨sz,v,v',rfl,rfl,hv⟩
    ·exact⟨k',by rw[eG,hb];exact h2,rfl,rfl,alj _,.inl rfl⟩
    ·simp only[dB,alg]at h2;subst h2;refine⟨⟨sz,[dA ℓ v],0,true⟩,by rw[eG,hb];rfl,rfl,rfl,alj _,.inr ⟨rfl,rfl,fun i x y h5 h6=> ?_⟩⟩
     cases i with
     |succ i=>simp at h5
     |zero=>simp at h5 h6;subst h5;subst h6;exact hv.a
 ·simp only[dH,al8,ale]
  cases hl:H[i]? with
  |none=>
   have:H'[i]?=none:=by rw[amj,←h.length];exact amj.1 hl
   rw[this]
  |some l=>
   obtain⟨l',h1,b1,b2,rfl,rfl,_⟩:=h.vT hl;rw[h1];rfl
theorem Mj:∀(bk:ja) (H:aV) (x:bk.den),bk.pa H=some x→F2 (RG ℓ H0) H (bk.un x):=by
 intro bk
 induction bk with
 |nil=>intro H x h;cases H with
  |nil=>exact .nil
  |cons _ _=>cases h
 |box sz s r ih=>
  intro H x h
  cases H with
  |nil=>cases h
  |cons g H'=>
  cases g with
  |nil=>cases h
  |cons b bs=>
  cases bs with
  |cons _ _=>cases b<;>cases h
  |nil=>
  cases b<;>first|(cases h;done)|skip
  rename_i sz' v
  replace h:(if sz=sz' then(match s.pa [v],r.pa H' with
   |some a,some b=>some (a,b)
   |_,_=>none)else none)=(some x:Option (s.den×r.den)):=h
  split at h
  ·rename_i e;subst e;split at h
   ·rename_i a b h1 h2;cases h;have f:=RA (ℓ:=ℓ) (H:=H0) s _ _ h1;refine .cons ⟨_,_,rfl,rfl,.inr ⟨sz,v,_,rfl,rfl,?_⟩⟩ (ih _ _ h2);simp only;generalize s.un a=us at f
    cases f with
    |cons h t=>exact h
   ·cases h
  ·cases h
 |arr t z r ih=>
  intro H x h
  cases H with
  |nil=>cases h
  |cons g H'=>
  cases g with
  |nil=>cases h
  |cons b bs=>
  cases bs with
  |cons _ _=>cases b<;>cases h
  |nil=>
  cases b<;>first|(cases h;done)|skip
  rename_i t' l f
  replace h:(if e:t'=t then(if ai0 z f=true then(match r.pa H' with
   |some b=>some (e ▸ l,b)
   |none=>none)else none)else none)=(some x:Option (List t.den×r.den)):=h
  split at h
  ·rename_i e;subst e;split at h
   ·rename_i hz;split at h
    ·rename_i b h2;cases h;refine .cons ⟨_,_,rfl,rfl,.inl ?_⟩ (ih _ _ h2)
     congr 1
     cases z<;>cases f<;>first|rfl|cases hz
    ·cases h
   ·cases h
  ·cases h
 |mp t r ih=>
  intro H x h
  cases H with
  |nil=>cases h
  |cons g H'=>
  cases g with
  |nil=>cases h
  |cons b bs=>
  cases bs with
  |cons _ _=>cases b<;>cases h
  |nil=>
  cases b<;>first|(cases h;done)|skip
  rename_i t' l
  replace h:(if e:t'=t then(match r.pa H' with
   |some b=>some (e ▸ l,b)
   |none=>none)else none)=(some x:Option (List (Int×t.den)×r.den)):=h
  split at h
  ·rename_i e;subst e;split at h
   ·rename_i b h2;cases h;exact .cons ⟨_,_,rfl,rfl,.inl rfl⟩ (ih _ _ h2)
   ·cases h
  ·cases h
 |dead n r ih=>
  intro H x h
  cases H with
  |nil=>cases h
  |cons g H'=>
  cases g with
  |nil=>cases h
  |cons b bs=>
  cases bs with
  |cons _ _=>cases b<;>cases h
  |nil=>
  cases b<;>first|(cases h;done)|skip
  rename_i n'
  replace h:(if n=n' then r.pa H' else none)=(some x:Option r.den):=h
  split at h
  ·rename_i e;subst e;exact .cons ⟨_,_,rfl,rfl,.inl rfl⟩ (ih _ _ h)
  ·cases h
theorem Vo(v:SV):dV ℓ (sN v)=dA ℓ v:=by cases v<;>rfl
theorem VW.sN{A B:aV}(hw:HW (dH ℓ A) (dH ℓ B))(v:SV):VW (dH ℓ A) (dH ℓ B) (dV ℓ v) (dA ℓ v):=by
 cases v with
 |tup vs=>exact VW.undef
 |_=>exact hw.vw _
theorem Mr:∀(slots:List Nat) (ws:List SV) (t:Nat),jm (uF slots ws) t= .undef∨∃(i:Nat) (w:SV),slots[i]?=some t∧ws[i]?=some w∧jm (uF slots ws) t=w:=by
 intro slots
 induction slots with
 |nil=>intro ws t;exact .inl rfl
 |cons s r ih=>
  intro ws t
  cases ws with
  |nil=>exact .inl rfl
  |cons w ws=>
   simp only[uF,jm];by_cases e:s=t
   ·subst e;rw[if_pos rfl];exact .inr ⟨0,w,rfl,rfl,rfl⟩
   ·rw[if_neg e];rcases ih ws t with h|⟨i,w',h1,h2,h3⟩
    ·exact .inl h
    ·exact .inr ⟨i+1,w',by simpa using h1,by simpa using h2,h3⟩
theorem aio(s:Sh):∀(x:s.den),∀w∈s.un x,dV ℓ w=dA ℓ w:=by
 induction s with
 |nil=>intro x w h;cases h
 |st y r ih=>
  intro x w h;rcases alN.1 h with rfl|h
  ·cases y<;>rfl
  ·exact ih _ _ h
 |dat t r ih=>
  intro x w h;rcases alN.1 h with rfl|h
  ·cases t<;>rfl
  ·exact ih _ _ h
 |part t g r ih=>
  intro x w h;rcases alN.1 h with rfl|h
  ·rfl
  ·exact ih _ _ h
 |eptr g sz off r ih=>
  intro x w h;rcases alN.1 h with rfl|h
  ·rfl
  ·exact ih _ _ h
 |agg i r ihi ih=>
  intro x w h;rcases alN.1 h with rfl|h
  ·rfl
  ·exact ih _ _ h
theorem zJ{nt m:Nat}{σ:Sg}{s:tH}{v:σ.den}(h:(fit m σ s).mean=some v){ℓ2:Lens}(ha:gq ℓ2 (σ.un v).hp):∃ℓ,gq ℓ s.hp∧Weak nt m (dS ℓ s) (dS ℓ2 (σ.un v)):=by
 unfold fit at h;obtain⟨⟨vs',K⟩,h1,h⟩:=Tr.aC h;obtain⟨s1,h2,h⟩:=Tr.aC h;obtain⟨H2,h3,h⟩:=Tr.aC h;obtain⟨s1b,h4,h⟩:=Tr.aC h;obtain⟨H3,h3b,h⟩:=Tr.aC h;obtain⟨s2,h4b,h⟩:=Tr.aC h;have h2:=Tr.bX h2;have h4:=Tr.bX h4;have h4b:=Tr.bX h4b;split at h
 ·rename_i a b h5 h6;have:=Tr.ay h;subst this;have hb:=Mj (ℓ:=ℓ2) (H0:=s2.hp) _ _ _ h6;have ha2:gq ℓ2 s2.hp:=PV hb ha;have e4b:=yJ h4b (gU H3) ha2;obtain⟨a1b,hw3b⟩:=F6 (ℓ:=gM H3) _ _ _ _ h3b (gU H3);have e4:=yJ h4 (gU H2) a1b;obtain⟨a1,hw3⟩:=F6 (ℓ:=gM H2) _ _ _ _ h3 (gU H2);have e2:=yJ h2 (gU K) a1;have hc:=rq (ℓ:=gM K) _ _ _ _ _ h1 (gU K);refine⟨gM K,hc.agr,?_⟩
  have w1:Weak nt m (dS (gM K) s) (dS (gM K) {fr:=uF σ.slots (vs'.map sN),hp:=K}):=by
   refine Weak.of hc.hw (fun t=> ?_);simp only[dS,wJ];rcases Mr σ.slots (vs'.map sN) t with e|⟨i,w,i1,i2,i3⟩
   ·rw[e];exact VW.undef
   ·rw[i3];rw[ale]at i2;obtain⟨w0,i4,rfl⟩:=alf.1 i2;rw[Vo];have i5:(σ.slots.map fun t=>sN (jm s.fr t))[i]?=some (sN (jm s.fr t)):=by rw[ale,i1];rfl
    have hv:=(hc.vals.get i _ _ i5 i4).a.vw;refine VW.trans (B:=dH (gM K) s.hp) (HW.refl _) (VW.sN (HW.refl _) (jm s.fr t)) ?_;have:dA (gM K) (sN (jm s.fr t))=dA (gM K) (jm s.fr t):=by cases jm s.fr t<;>rfl
    rw[←this];exact hv
  have w2:Weak nt m (dS (gM K) {fr:=uF σ.slots (vs'.map sN),hp:=K}) (dS (gM H2) s1):=by
   rw[←e2];exact Weak.tidy _
  have w3:Weak nt m (dS (gM H2) s1) (dS (gM H2) {fr:=s1.fr,hp:=H2}):=Weak.of hw3 fun t=>hw3.vw _
  have w4a:Weak nt m (dS (gM H2) {fr:=s1.fr,hp:=H2}) (dS (gM H3) s1b):=by
   rw[←e4];exact Weak.tidy _
  have w4b:Weak nt m (dS (gM H3) s1b) (dS (gM H3) {fr:=s1b.fr,hp:=H3}):=Weak.of hw3b fun t=>hw3b.vw _
  have w4:Weak nt m (dS (gM H3) {fr:=s1b.fr,hp:=H3}) (dS ℓ2 s2):=by
   rw[←e4b];exact Weak.tidy _
  have w5:Weak nt m (dS ℓ2 s2) (dS ℓ2 (σ.un (a,b))):=by
   have hwb:=Sk (Mj (ℓ:=ℓ2) (H0:=s2.hp) _ _ _ h6);refine Weak.of hwb (fun t=> ?_);simp only[dS,wJ,Sg.un];rcases Mr σ.slots (σ.sh.un a) t with e|⟨i,w,i1,i2,i3⟩
   ·rw[e];exact VW.undef
   ·rw[i3];have i5:(σ.slots.map (jm s2.fr))[i]?=some (jm s2.fr t):=by rw[ale,i1];rfl
    have hv:=(RA (ℓ:=ℓ2) (H:=s2.hp) _ _ _ h5).get i _ _ i5 i2;rw[aio _ _ w (alb i2)];exact VW.trans (HW.refl _) (VW.sN (HW.refl _) _) (hv.a.vw.trans (HW.refl _) (hwb.vw _))
  exact(((((w1.trans w2).trans w3).trans w4a).trans w4b).trans w4).trans w5
 ·exact(Tr.ax h).elim
end
def GQ:Value→SV
 | .bool b=>.bool b
 | .int k n=>.int k n
 | .string s=>.str s
 | .pointer none=>.nilp
 | .nilFunc=>.nilf
 | .slice none 0 0=>.row .unit [] true
 |_=>.undef
def svC:Value→SV
 | .agg cs=>if(cs.toList.map GQ).all ZW then .agg (cs.toList.map GQ)else .undef
 |v=>GQ v
def yV(fr:yN):Operand→SV
 | .tmp t=>jm fr t
 | .const v=>svC v
 | .global _=>.undef
 | .func f=>.clo f []
structure fo where
 val:SV
 rd:List Nm:=[]
 wr:List (Nm×SB):=[]
 new:List SB:=[]
def vB(v:SV):fo:={val:=v}
def qc(P:Program):Nat→TypeId→Option Ty
 |0,_=>none
 |d+1,t=>
  match P.underlying t with
  |some (.int k)=>some (.int k)
  |some .bool=>some .bool
  |some .string=>some .str
  |some (.slice e)=>(qc P d e).map .row
  |some (.struct fs)=>fs.toList.foldr (fun f r=>match qc P d f.type,r with
   |some a,some b=>some (.cons a b)
   |_,_=>none) (some .unit)
  |some (.array n e)=>match qc P d e with
   |some a=>some ((List.replicate n a).foldr .cons .unit)
   |none=>none
  |_=>none
def Cy:SV→Bool
 | .agg _| .tup _=>false
 |_=>true
def MJ:SV→Bool
 | .agg _| .tup _| .clo ..=>false
 |_=>true
def oW:SV→Bool
 | .tup _=>false
 |_=>true
def Ay(agg:Bool)(cs:List SV):Option SV:=
 match agg with
 |true=>some (.agg cs)
 |false=>match cs with
  | [c]=>if Cy c=true then some c else none
  |_=>none
def zL(size:Nat)(agg:Bool)(x:SV)(off:Nat):Option SV:=
 if off+size≤x.cells.length then
  (if off=0∧size=x.cells.length∧x.isAgg=agg then(if oW x=true then some x else none)else Ay agg ((x.cells.drop off).take size))
 else none
def zk(P:Program)(t:TypeId)(p:SV)(H:aV):Tr fo:=
 match bf P t,BV P t with
 |some size,some agg=>
  match p with
  | .ptr g sz i off=>
   match bO H g with
   |some (.box sz' v)=>.when (decide (sz'=sz∧i=0∧0<sz)) ((Tr.of (zL size agg v off)).map fun u=>{val:=u,rd:=[g]})
   |some (.arr t' l _)=>.when (decide (t'.size=sz∧0<sz)) (.ask l[i]? fun x=>(Tr.of (zL size agg (DU t' x) off)).map fun u=>{val:=u,rd:=[g]})
   |_=>.fail
  | .lp t' _ _ x _ off=>(Tr.of (zL size agg (DU t' x) off)).map vB
  | .fp g=>.when (decide (size=1∧agg=false)) (.ret (vB (.clo g [])))
  |_=>.fail
 |_,_=>.fail
def pU(cs:List SV)(off:Nat)(new:List SV):List SV:=cs.take off++new++cs.drop (off+new.length)
def yT:SV→Bool
 | .row _ _ tight=> !tight
 | .agg _=>false
 |_=>true
def Cw:SV→Bool
 | .agg cs=>cs.all yT
 |v=>yT v
def V7(z:Fz)(len i:Nat)(t:Tr fo):Tr fo:=
 match z with
 | .zero=>t
 |z=>.need (decide (z.n len≤i)) t
def Al (P:Program) (t:TypeId) (p v:SV) (H:aV):Tr fo:=
 match bf P t with
 |some size=>
  match p with
  | .ptr g sz i off=>
   match bO H g with
   |some (.box sz' x)=>
    .when (decide (sz'=sz∧i=0∧v.cells.length=size∧off+size≤sz∧PD v=true∧0<sz)) (
     if off=0∧size=sz then .ret {val:=.tup [],rd:=[g],wr:=[(g,.box sz' v)]}
     else if x.isAgg=true then .ret {val:=.tup [],rd:=[g],wr:=[(g,.box sz' (.agg (pU x.cells off v.cells)))]}
     else .fail)
   | some (.arr t' l z)=>
    (Gc H v).bind fun ul=>
     .when (decide (t'.size=sz∧ul.1.cells.length=size∧off+size≤sz∧¬ g∈ul.2∧PD ul.1=true∧Cw ul.1=true∧0<sz)) (
      V7 z l.length i (
       if off=0∧size=sz then
        .need (decide (i<l.length)) ((Tr.of (Oy t' ul.1)).bind fun y=>
         .ret {val:=.tup [],rd:=g::ul.2,wr:=jJ H ul.2++ [(g,.arr t' (l.set i y) z)]})
       else
        .ask l[i]? fun x=>.when t'.agg ((Tr.of (Oy t' (.agg (pU (Jg t' x) off ul.1.cells)))).bind fun y=>
         .ret {val:=.tup [],rd:=g::ul.2,wr:=jJ H ul.2++ [(g,.arr t' (l.set i y) z)]})))
   |_=>.fail
  |_=>.fail
 |none=>.fail
def rW(P:Program)(t:TypeId)(p:SV)(f:Nat):Option SV:=
 match pV P t f with
 |some (o,ft)=>
  if bf P ft=none∨bf P ft=some 0 then none else
  match p with
  | .ptr g sz i off=>if 0<sz then some (.ptr g sz i (off+o))else none
  | .lp t l i x h off=>some (.lp t l i x h (off+o))
  |_=>none
 |none=>none
def nE(P:Program)(t:TypeId)(cs:List SV)(off:Nat):Option SV:=
 match bf P t,BV P t with
 |some size,some agg=>if off+size≤cs.length then Ay agg ((cs.drop off).take size)else none
 |_,_=>none
def EO(P:Program)(t:TypeId)(x:SV)(f:Nat):Option SV:=
 match pV P t f,x with
 |some (o,ft),.agg cs=>nE P ft cs o
 |_,_=>none
def rC(P:Program)(t:TypeId)(x i:SV)(H:aV):Tr SV:=
 match P.underlying t,i with
 |some (.slice e),.int _ n=>
  match x with
  | .own t' g=>match bO H g with
   |some b=>.when (decide (bf P e=some t'.size∧0<t'.size)) (.need (decide (0≤n∧n<b.len)) (.ret (.ptr g t'.size n.toNat 0)))
   |none=>.fail
  | .part t' g off len=>.when (decide (bf P e=some t'.size∧0<t'.size)) (.need (decide (0≤n∧n<len)) (.ret (.ptr g t'.size (off+n.toNat) 0)))
  | .row t' l _=>.when (decide (bf P e=some t'.size)) (.look l n fun x h=>.ret (.lp t' l n.toNat x h 0))
  |_=>.fail
 |some (.array len e),.int _ n=>
  match x with
  | .ptr g sz j off=>match bf P e with
   |some es=>.when (decide (0<sz)) (.need (decide (0≤n∧n<len)) (.ret (.ptr g sz j (off+n.toNat*es))))
   |none=>.fail
  |_=>.fail
 |_,_=>.fail
def yY(P:Program)(t:TypeId)(x i:SV):Tr SV:=
 match P.underlying t,x,i with
 |some (.array len e),.agg cs,.int _ n=>
  match bf P e with
  |some es=>.need (decide (0≤n∧n<len)) (Tr.of (nE P e cs (n.toNat*es)))
  |none=>.fail
 |some .string,.str s,.int _ n=>.need (decide (0≤n∧n<s.size)) (.ret (.int .u8 ((s[n.toNat]?.getD 0).toNat:Nat)))
 |_,_,_=>.fail
def aaV(P:Program)(e:TypeId)(ty:Ty)(cs:List SV)(es:Nat):Nat→Nat→Option (List ty.den)
 |0,_=>some []
 |n+1,i=>match nE P e cs (i*es),aaV P e ty cs es n (i+1)with
  |some v,some r=>if Cw v=true then(Oy ty v).map fun x=>x::r else none
  |_,_=>none
def BB(P:Program)(t:TypeId)(x i:SV):Tr SV:=
 match P.underlying t,x,i with
 |some (.array len e),.agg cs,.int _ n=>
  match bf P e,qc P 12 e with
  |some es,some ty=>(Tr.of (aaV P e ty cs es len 0)).bind fun l=>.look l n fun x _=>.ret (DU ty x)
  |_,_=>.fail
 |_,_,_=>yY P t x i
def BL(P:Program)(t:TypeId)(x i:SV):Operand→Tr SV
 | .const _=>yY P t x i
 |_=>BB P t x i
def Rc(l:List (Int×FuncId×List FuncId))(n:Int)(k:SV→Bool→Tr SV):Tr SV:=
 match l with
 | []=>k .nilf false
 |(m,f,gs)::r=>.br (n==m) (k (.clo f (gs.map .fp)) true) (Rc r n k)
def BO(P:Program)(t:TypeId)(m k:SV)(ok:Bool):Tr SV:=
 match P.underlying t,m,k with
 |some (.map kt et),.fm l,.int .i64 n=>
  match P.underlying kt,oo P et with
  |some (.int .i64),some .nilf=>Rc l n fun v b=>.ret (if ok then .tup [v,.bool b]else v)
  |_,_=>.fail
 |_,_,_=>.fail
def YN:Ty→Bool
 | .int _| .bool| .str=>true
 |_=>false
def sO{α:Type}(n:Int):List (Int×α)→Option α
 | []=>none
 |p::r=>if n=p.1 then some p.2 else sO n r
def QN{α:Type}(n:Int)(x:α):List (Int×α)→List (Int×α)
 | []=> [(n,x)]
 |p::r=>if n=p.1 then(p.1,x)::r else p::QN n x r
def ady(op:BinOp)(k:IntKind)(a b:Int):Tr SV:=
 match op with
 | .add=>.ret (.int k (k.wrap (a+b)))
 | .sub=>.ret (.int k (k.wrap (a-b)))
 | .mul=>.ret (.int k (k.wrap (a*b)))
 | .quo=>.need (decide (b≠0)) (.ret (.int k (k.wrap (a.tdiv b))))
 | .rem=>.need (decide (b≠0)) (.ret (.int k (a.tmod b)))
 | .eql=>.ret (.bool (a==b))
 | .neq=>.ret (.bool (a !=b))
 | .lss=>.ret (.bool (decide (a<b)))
 | .leq=>.ret (.bool (decide (a≤b)))
 | .gtr=>.ret (.bool (decide (a>b)))
 | .geq=>.ret (.bool (decide (a≥b)))
 | .and=>.ret (.int k (Qy .and k a b))
 | .or=>.ret (.int k (Qy .or k a b))
 | .xor=>.ret (.int k (Qy .xor k a b))
 |_=>.fail
def Qw(op:BinOp)(k:IntKind)(a b:Int):Tr SV:=
 match op with
 | .shl=>.need (decide (0≤b)) (.ret (.int k (adD k a b)))
 | .shr=>.need (decide (0≤b)) (.ret (.int k (AZ k a b)))
 |_=>.fail
def Y7:BinOp→Bool
 | .shl| .shr=>true
 |_=>false
def adW(op:BinOp)(a b:ByteArray):Tr SV:=
 match op with
 | .add=>.need (decide (a.size+b.size≤4294967296)) (.ret (.str (a++b)))
 | .eql=>.ret (.bool (a.toList==b.toList))
 | .neq=>.ret (.bool (!(a.toList==b.toList)))
 | .lss=>.ret (.bool (Op.bytesLess a.toList b.toList))
 | .leq=>.ret (.bool (Op.bytesLess a.toList b.toList||a.toList==b.toList))
 | .gtr=>.ret (.bool (!(Op.bytesLess a.toList b.toList||a.toList==b.toList)))
 | .geq=>.ret (.bool (!(Op.bytesLess a.toList b.toList)))
 |_=>.fail
def wG(P:Program)(eq:TypeId→SV→SV→Option Bool)(xs ys:List SV):List Field→Option Bool
 | []=>some true
 |f::r=>
  if f.name = "_" then none else
  match nE P f.type xs f.offset,nE P f.type ys f.offset with
  |some a,some b=>match eq f.type a b,wG P eq xs ys r with
   |some c,some d=>some (c&&d)
   |_,_=>none
  |_,_=>none
def zO(P:Program)(eq:TypeId→SV→SV→Option Bool)(e:TypeId)(size:Nat)(xs ys:List SV):Nat→Nat→Option Bool
 |0,_=>some true
 |n+1,i=>
  match nE P e xs (i*size),nE P e ys (i*size)with
  |some a,some b=>match eq e a b,zO P eq e size xs ys n (i+1)with
   |some c,some d=>some (c&&d)
   |_,_=>none
  |_,_=>none
def Ud(P:Program):Nat→TypeId→SV→SV→Option Bool
 |0,_,_,_=>none
 |d+1,t,x,y=>
  match P.underlying t,x,y with
  |some .bool,.bool a,.bool b=>some (a==b)
  |some (.int _),.int k a,.int k' b=>if k=k' then some (a==b)else none
  |some .string,.str a,.str b=>some (a==b)
  |some (.struct fs),.agg xs,.agg ys=>if P.stoodInHeld t then none else wG P (Ud P d) xs ys fs.toList
  |some (.array n e),.agg xs,.agg ys=>
   match bf P e with
   |some size=>zO P (Ud P d) e size xs ys n 0
   |none=>none
  |_,_,_=>none
def Ci(P:Program)(t:TypeId)(x y:SV):Option Bool:=
 match x,y with
 | .bool a,.bool b=>Ud P 8 t (.bool a) (.bool b)
 | .agg xs,.agg ys=>if P.eqGuardType P.depth t then none else Ud P 8 t (.agg xs) (.agg ys)
 |_,_=>none
def OH(P:Program)(op:BinOp)(t:TypeId)(x y:SV):Tr SV:=
 match x,y with
 | .int k a,.int k' b=>match Y7 op with
  |true=>Qw op k a b
  |false=>.when (decide (k=k')) (ady op k a b)
 | .str a,.str b=>adW op a b
 |x,y=>match op with
  | .eql=>(Tr.of (Ci P t x y)).map .bool
  | .neq=>(Tr.of (Ci P t x y)).map fun b=>.bool (!b)
  |_=>.fail
def Rf(P:Program)(op:BinOp)(t:TypeId)(l:Nat)(oy:Operand):Tr SV:=
 match op,P.underlying t,oy with
 | .eql,some (.slice _),.const (.slice none 0 0)=>.need (decide (0<l)) (.ret (.bool false))
 |_,_,_=>.fail
def Kl(P:Program)(op:BinOp)(t:TypeId)(x y:SV)(oy:Operand):Tr SV:=
 match x with
 | .row _ l _=>Rf P op t l.length oy
 |x=>OH P op t x y
def Vx(op:UnOp)(x:SV):Option SV:=
 match op,x with
 | .neg,.int k n=>some (.int k (k.wrap (0-n)))
 | .not,.bool b=>some (.bool !b)
 |_,_=>none
def yF(P:Program)(src dst:TypeId)(x:SV):Option SV:=
 match P.underlying src,P.underlying dst,x with
 |some (.int _),some (.int k),.int _ n=>some (.int k (k.wrap n))
 |some .string,some .string,.str s=>some (.str s)
 |_,_,_=>none
def iR(o:Option SV)(dflt:Nat):Tr Nat:=
 match o with
 |none=>.ret dflt
 |some (.int _ n)=>.need (decide (0≤n)) (.ret n.toNat)
 |some _=>.fail
def Ah(P:Program)(t:TypeId)(x:SV)(lo hi mx:Option SV)(H:aV):Tr fo:=
 match P.underlying t,x with
 |some .string,.str s=>
  match mx with
  |none=>(iR lo 0).bind fun l=>(iR hi s.size).bind fun h=>.need (decide (l≤h∧h≤s.size)) (.ret {val:=.str (s.extract l h)})
  |some _=>.fail
 |some (.slice e),.row t' xs tight=>
  .when (decide (bf P e=some t'.size)) (
   match mx with
   |none=>(iR lo 0).bind fun l=>(iR hi xs.length).bind fun h=>.need (decide (l≤h∧h≤xs.length)) (.ret {val:=.row t' ((xs.drop l).take (h-l)) (tight&&hi.isNone)})
   |some m=>(iR lo 0).bind fun l=>(iR hi xs.length).bind fun h=>(iR (some m) 0).bind fun m=>
    .when hi.isSome (.need (decide (l≤h∧h=m∧m≤xs.length)) (.ret {val:=.row t' ((xs.drop l).take (h-l)) true})))
 | some (.slice e),.own t' g=>
  match bO H g with
  | some (.arr t2 l2 _)=>
   if h2:t2=t' then
   .when (decide (bf P e=some t'.size)) (
    match mx with
    |none=>match lo,hi with
     |none,none=>.ret {val:=.own t' g}
     |lo,hi=>(iR lo 0).bind fun l=>(iR hi l2.length).bind fun h=>.need (decide (l≤h∧h≤l2.length)) (.ret {val:=.part t' g l (h-l)})
    |some m=>(iR lo 0).bind fun l=>(iR hi l2.length).bind fun h=>(iR (some m) 0).bind fun m=>
     .when (hi.isSome&&decide (0<t'.size)) (.need (decide (l≤h∧h=m∧m≤l2.length))
      (.ret {val:=.row t' (((h2 ▸ l2:List t'.den).drop l).take (h-l)) true,rd:=[g],wr:=jJ H [g]})))
   else .fail
  |_=>.fail
 |some (.slice e),.part t' g off len=>
  .when (decide (bf P e=some t'.size)) (
   match mx with
   |none=>(iR lo 0).bind fun l=>(iR hi len).bind fun h=>.need (decide (l≤h∧h≤len)) (.ret {val:=.part t' g (off+l) (h-l)})
   |some _=>.fail)
 |_,_=>.fail
def FZ(place:Nat→Option (Nat×Nat))(cells:List SV):List (Nat×SV)→Option (List SV)
 | []=>some cells
 |(i,v)::rest=>
  match place i with
  |none=>none
  |some (off,size)=>if v.cells.length=size∧off+size≤cells.length∧PD v=true then FZ place (pU cells off v.cells) rest else none
def H6(P:Program)(t:TypeId):Option SV:=
 match P.info? t with
 |some i=>match i.zero with
  |some z=>some (svC z)
  |none=>none
 |none=>none
def FC(P:Program)(t:TypeId)(parts:List (Nat×SV)):Option SV:=
 match H6 P t,P.underlying t with
 |some (.agg z),some (.struct fs)=>
  if !(fs.toList.all fun f=>(bf P f.type).isSome)then none else
  (FZ (fun i=>match fs[i]? with
   |some f=>(bf P f.type).map fun s=>(f.offset,s)
   |none=>none) z parts).map .agg
 |some (.agg z),some (.array _ e)=>
  match bf P e with
  |some s=>(FZ (fun i=>some (i*s,s)) z parts).map .agg
  |none=>none
 |_,_=>none
def Ms(P:Program)(e:TypeId)(t:Ty):Option t.den:=(H6 P e).bind (Oy t)
def BI(H:aV)(size:Nat)(t:Ty)(es:List t.den)(l:List Nm):List (Nat×SV)→Tr (List t.den×List Nm)
 | []=>.ret (es,l)
 |(i,v)::rest=>(Gc H v).bind fun p=>.when (decide (p.1.cells.length=size∧p.1.isAgg=t.agg∧PD p.1=true∧Cw p.1=true)) (
   (Tr.of (Oy t p.1)).bind fun y=>.need (decide (i<es.length)) (BI H size t (es.set i y) (l++p.2) rest))
def l6(P:Program)(t:TypeId)(len:Nat)(parts:List (Nat×SV))(H:aV)(slot:Nat):Tr fo:=
 match kL P t with
 |some e=>
  match bf P e,BV P e,qc P 12 e with
  |some size,some agg,some ty=>
   .when (decide (len*size≤65536∧0<size∧ty.size=size∧ty.agg=agg)) (
    (Tr.of (Ms P e ty)).bind fun z=>
    (BI H size ty (List.replicate len z) [] parts).bind fun p=>.ret {val:=.own ty (slot,0),rd:=p.2,wr:=jJ H p.2,new:=[.arr ty p.1 .zero]})
  |_,_,_=>.fail
 |none=>.fail
def nC(P:Program)(t:TypeId)(l c:SV)(slot:Nat):Tr fo:=
 match kL P t,l,c with
 |some e,.int _ n,.int _ m=>
  match bf P e,vO P e,qc P 12 e with
  |some size,some bytes,some ty=>
   .when (decide (bytes≤32768∧0<size∧ty.size=size)) ((Tr.of (Ms P e ty)).bind fun z=>.need (decide (0≤n∧n≤m∧m≤4294967296))
    (.ret {val:=.own ty (slot,0),new:=[.arr ty (List.replicate n.toNat z) .zero]}))
  |_,_,_=>.fail
 |_,_,_=>.fail
def JE(H:aV)(ty:Ty):SV→Tr (List ty.den×List Nm)
 | .row t l _=>(Tr.of (zW (t:=t) (t':=ty) l)).map fun l=>(l,[])
 | .own t g=>match bO H g with
  |some (.arr t' l _)=>.when (decide (t'=t∧0<t'.size)) ((Tr.of (zW (t:=t') (t':=ty) l)).map fun l=>(l,[g]))
  |_=>.fail
 | .part t g off len=>match bO H g with
  |some (.arr t' l _)=>.when (decide (t'=t∧0<t'.size)) (.need (decide (off+len≤l.length)) ((Tr.of (zW (t:=t') (t':=ty) l)).map fun l=>((l.drop off).take len,[g])))
  |_=>.fail
 |_=>.fail
def Fz.grow(z:Fz)(n:Nat):Fz:=
 match z with
 | .zero=>.zero
 | .all=>.low n
 | .low k=>.low (k+n)
def BR(P:Program)(t:TypeId)(s x:SV)(H:aV)(slot:Nat):Tr fo:=
 match kL P t with
 |some e=>
  match bf P e,vO P e,oo P e,qc P 12 e with
  |some size,some bytes,some z,some ty=>
   .when (decide (0<size∧bytes≤32768∧z.cells.length=size∧okV z=true∧ty.size=size)) (
    (JE H ty x).bind fun q=>
    match s with
    | .row t' l true=>(Tr.of (zW (t:=t') (t':=ty) l)).bind fun l=>.br l.isEmpty
      (.need (decide (l.length+q.1.length≤4294967296)) (.ret {val:=.own ty (slot,0),rd:=q.2,new:=[.arr ty (l++q.1) .zero]}))
      (.br q.1.isEmpty (.ret {val:=.row ty l true,rd:=q.2})
       (.need (decide (l.length+q.1.length≤4294967296)) (.ret {val:=.own ty (slot,0),rd:=q.2,new:=[.arr ty (l++q.1) .zero]})))
    | .own t' g=>match bO H g with
     |some (.arr t2 l z)=>if h:t2=ty then .when (decide (t'=ty)) (.need (decide (l.length+q.1.length≤4294967296))
       (.ret {val:=.own ty (slot,0),rd:=g::q.2,wr:=[(g,.dead l.length)],new:=[.arr ty ((h ▸ l:List ty.den)++q.1) (z.grow q.1.length)]}))else .fail
     |_=>.fail
    | .part t' g off len=>match bO H g with
     |some (.arr t2 l z)=>if h:t2=ty then .when (decide (t'=ty)) (match z with
      | .zero=>.need (decide (off=0∧len≤l.length∧len+q.1.length≤4294967296))
       (.ret {val:=.own ty (slot,0),rd:=g::q.2,wr:=[(g,.dead l.length)],new:=[.arr ty ((h ▸ l:List ty.den).take len++q.1) .zero]})
      |z=>.need (decide (off=0∧len=l.length∧l.length+q.1.length≤4294967296))
       (.ret {val:=.own ty (slot,0),rd:=g::q.2,wr:=[(g,.dead l.length)],new:=[.arr ty ((h ▸ l:List ty.den)++q.1) (z.grow q.1.length)]}))else .fail
     |_=>.fail
    |_=>.fail)
  |_,_,_,_=>.fail
 |none=>.fail
def cK{α:Type}(l:List α)(off:Nat)(new:List α):List α:=l.take off++new++l.drop (off+new.length)
def KX(P:Program)(t:TypeId)(d x:SV)(H:aV):Tr fo:=
 match kL P t with
 |some e=>
  match bf P e,qc P 12 e with
  |some size,some ty=>.when (decide (0<size∧ty.size=size)) ((JE H ty x).bind fun q=>
    match d with
    | .own t' g=>match bO H g with
     |some (.arr t2 l .zero)=>if h:t2=ty then .when (decide (t'=ty)) (.ret {val:=.int .i64 (min q.1.length l.length:Nat),rd:=g::q.2,wr:=[(g,.arr ty (cK (h ▸ l:List ty.den) 0 (q.1.take l.length)) .zero)]})else .fail
     |_=>.fail
    | .part t' g off len=>match bO H g with
     |some (.arr t2 l .zero)=>if h:t2=ty then .when (decide (t'=ty)) (.need (decide (off+len≤l.length)) (.ret {val:=.int .i64 (min q.1.length len:Nat),rd:=g::q.2,wr:=[(g,.arr ty (cK (h ▸ l:List ty.den) off (q.1.take len)) .zero)]}))else .fail
     |_=>.fail
    |_=>.fail)
  |_,_=>.fail
 |none=>.fail
def Fv(P:Program)(t:TypeId)(d:SV)(H:aV):Tr fo:=
 match kL P t with
 |some e=>
  match bf P e,qc P 12 e with
  |some size,some ty=>.when (decide (0<size∧ty.size=size)) ((Tr.of (Ms P e ty)).bind fun z=>
    match d with
    | .own t' g=>match bO H g with
     |some (.arr t2 l .zero)=>if h:t2=ty then .when (decide (t'=ty)) (.ret {val:=.tup [],rd:=[g],wr:=[(g,.arr ty (cK (h ▸ l:List ty.den) 0 (List.replicate l.length z)) .zero)]})else .fail
     |_=>.fail
    | .part t' g off len=>match bO H g with
     |some (.arr t2 l .zero)=>if h:t2=ty then .when (decide (t'=ty)) (.need (decide (off+len≤l.length)) (.ret {val:=.tup [],rd:=[g],wr:=[(g,.arr ty (cK (h ▸ l:List ty.den) off (List.replicate len z)) .zero)]}))else .fail
     |_=>.fail
    |_=>.fail)
  |_,_=>.fail
 |none=>.fail
def Qj(P:Program)(t:TypeId)(x:SV)(H:aV):Option SV:=
 match P.underlying t with
 |some (.array n _)=>some (.int .i64 n)
 |some (.slice _)=>match x with
  | .row _ xs _=>some (.int .i64 xs.length)
  | .own _ g=>match bO H g with
   |some b=>some (.int .i64 b.len)
   |none=>none
  | .part _ _ _ len=>some (.int .i64 len)
  |_=>none
 |some .string=>match x with
  | .str s=>some (.int .i64 s.size)
  |_=>none
 |_=>none
def minS:SV→List SV→Option SV
 |x,[]=>if Cy x=true then some x else none
 | .int k a,.int k' b::r=>if k=k' then minS (.int k (if b<a then b else a)) r else none
 |_,_=>none
def maxS:SV→List SV→Option SV
 |x,[]=>if Cy x=true then some x else none
 | .int k a,.int k' b::r=>if k=k' then maxS (.int k (if b>a then b else a)) r else none
 |_,_=>none
abbrev SY:=SV×List SB×List SB
abbrev gL:=List SV→List SB→Tr SY
def vv(H:aV)(share:Bool)(f:Ren)(x:SV):Tr SV:=
 match x with
 | .own t g=>if share then(match f g with
   |some g'=>.ret (.own t g')
   |none=>.fail)
  else(jh H (.own t g)).map (·.1)
 | .part t g off len=>if share then(match f g with
   |some g'=>.ret (.part t g' off len)
   |none=>.fail)
  else(jh H (.part t g off len)).map (·.1)
 | .row t l _=>.ret (.row t l false)
 | .agg _=>.fail
 | .tup _=>.fail
 |x=>.ret (oJ f x)
def VP(H:aV)(share:Bool)(f:Ren):SV→Tr SV
 | .agg cs=>(Tr.mapM (vv H share f) cs).map .agg
 |v=>vv H share f v
def dh:SV→List Nm
 | .agg cs=>cs.flatMap fun c=>match c with
  | .own _ g=> [g]
  | .part _ g _ _=> [g]
  |_=> []
 | .own _ g=> [g]
 | .part _ g _ _=> [g]
 |_=> []
def Nc(v:SV):Bool:=Ko (dV (fun _=>0) v)
def SB.alive:SB→Bool
 | .dead _=>false
 |_=>true
def uy:List SB→List SB→Bool
 | .box ..::r,.box ..::r'=>uy r r'
 |b::r,b'::r'=>decide (b'.len=b.len)&&uy r r'
 | [],[]=>true
 |_,_=>false
def Kh(share:Bool)(call:gL)(args:List SV)(H:aV)(slot:Nat):Tr fo:=
 let lent:=if share then []else args.flatMap dh
 let R:=FU H (args.flatMap (if share then fun v=>xg v++dh v else xg))
 let f:Ren:=fun g=>(idxOf g R 0).map fun i=>(i,0)
 if lent.any (fun g=>R.contains g)|| !args.all oW then .fail else
 (Tr.mapM (VP H share f) args).bind fun args'=>
 match R.mapM (fun g=>(bO H g).bind fun b=>if b.alive=true then some (fD f b)else none)with
 |some sub=>
  (call args' sub).bind fun out=>
   .need (uy sub out.2.1) (.when (out.2.2.all SB.alive) (
    let b:=bU R slot
    .ret { val:=sK b out.1,rd:=R++lent,
           wr:=(R.zip out.2.1).map (fun p=>(p.1,fD b p.2))++(if Nc out.1&&out.2.2.isEmpty&&R.isEmpty then []else jJ H lent),
           new:=out.2.2.map (fD b)}))
 |none=>.fail
def vJ(fr:yN)(ps:Array (Nat×Operand)):List (Nat×SV):=ps.toList.map fun p=>(p.1,yV fr p.2)
def XM(c:Bool)(a b:SV):Tr SV:=
 match a,b with
 | .bool p,.bool q=>.ret (.bool (cond c p q))
 |a,b=>.br c (.ret a) (.ret b)
def EY(P:Program)(t:TypeId)(v:SV)(slot:Nat):Tr fo:=
 match bf P t with
 |some size=>.when (decide (v.cells.length=size∧PD v=true∧0<size)) (.ret {val:=.ptr (slot,0) size 0 0,new:=[.box size v]})
 |none=>.fail
def wR(P:Program)(fr:yN)(t:TypeId)(x:Operand)(slot:Nat):Tr fo:=
 match x with
 | .const (.slice none 0 0)=>
  match kL P t with
  |some e=>match bf P e,qc P 12 e with
   |some size,some ty=>.when (decide (ty.size=size)) (.ret {val:=.own ty (slot,0),new:=[.arr ty [] .zero]})
   |_,_=>.fail
  |none=>.fail
 |x=>.ret {val:=yV fr x}
def yE(P:Program)(t:TypeId)(m k:SV)(ok:Bool)(H:aV):Tr fo:=
 match Pn P t,m,k with
 |some et,.ptr g 0 0 0,.int .i64 n=>match bO H g,H6 P et with
  |some (.mp ty l),some z=>.when (YN ty) ((Tr.of (Oy ty z)).bind fun z=>
    .ret {val:=if ok then .tup [DU ty ((sO n l).getD z),.bool (sO n l).isSome]else DU ty ((sO n l).getD z),rd:=[g]})
  |_,_=>.fail
 |_,_,_=>.fail
def nA(P:Program)(t:TypeId)(m k v:SV)(H:aV):Tr fo:=
 match Pn P t,m,k with
 |some _,.ptr g 0 0 0,.int .i64 n=>match bO H g with
  |some (.mp ty l)=>.when (YN ty) ((Tr.of (Oy ty v)).bind fun x=>.ret {val:=.tup [],rd:=[g],wr:=[(g,.mp ty (QN n x l))]})
  |_=>.fail
 |_,_,_=>.fail
def yL(P:Program)(t:TypeId)(slot:Nat):Tr fo:=
 match(Pn P t).bind (qc P 12)with
 |some ty=>.ret {val:=.ptr (slot,0) 0 0 0,new:=[.mp ty []]}
 |none=>.fail
def jU(P:Program)(N:FuncId→Note)(call:FuncId→gL)(o:Oper)(fr:yN)(H:aV)(slot:Nat):Tr fo:=
 let ev:=yV fr
 match o.op with
 | .move x=>.ret {val:=ev x}
 | .assign x=>wR P fr o.type x slot
 | .pick c a b=>match ev c with
  | .bool p=>(XM p (ev a) (ev b)).map vB
  |_=>.fail
 | .alloc t=>match H6 P t with
  |some z=>EY P t z slot
  |none=>.fail
 | .box t x=>EY P t (ev x) slot
 | .build t ps=>(Tr.of (FC P t (vJ fr ps))).map vB
 | .buildSlice t n ps=>l6 P t n (vJ fr ps) H slot
 | .load t a=>zk P t (ev a) H
 | .store t a x=>Al P t (ev a) (ev x) H
 | .nilCheck x=>match ev x with
  | .ptr g sz i off=>.when (decide (0<sz)) (.ret {val:=.ptr g sz i off})
  | .lp t l i x h off=>.ret {val:=.lp t l i x h off}
  |_=>.fail
 | .binOp op t x y _=>(Kl P op t (ev x) (ev y) y).map vB
 | .unOp op _ x=>(Tr.of (Vx op (ev x))).map vB
 | .convert a b x=>(Tr.of (yF P a b (ev x))).map vB
 | .makeFunc (.func f) first caps=>if first.isEmpty then .when (caps.toList.all fun c=>MJ (ev c)) (.ret {val:=.clo f (caps.toList.map ev)})else .fail
 | .makeSlice t l c=>nC P t (ev l) (ev c) slot
 | .slice t x lo hi mx=>Ah P t (ev x) (lo.map ev) (hi.map ev) (mx.map ev) H
 | .fieldAddr t x f=>(Tr.of (rW P t (ev x) f)).map vB
 | .field t x f=>(Tr.of (EO P t (ev x) f)).map vB
 | .indexAddr t x i=>(rC P t (ev x) (ev i) H).map vB
 | .index t x i=>(BL P t (ev x) (ev i) i).map vB
 | .lookup t m k ok=>match ev m with
  | .ptr g sz i off=>yE P t (.ptr g sz i off) (ev k) ok H
  |m=>(BO P t m (ev k) ok).map vB
 | .mapUpdate t m k v=>nA P t (ev m) (ev k) (ev v) H
 | .makeMap t none=>yL P t slot
 | .extract x i=>match ev x with
  | .tup vs=>match vs[i]? with
   |some v=>.when (oW v) (.ret {val:=v})
   |none=>.fail
  |_=>.fail
 | .call c=>match c.callee with
  | .value f=>match ev f with
   | .clo fn caps=>.when (caps.all MJ) (Kh (N fn).share (call fn) (c.args.toList.map ev++caps) H slot)
   |_=>.fail
  | .builtin .len=>match c.args.toList,c.argTypes.toList with
   | [x],[t]=>(Tr.of (Qj P t (ev x) H)).map vB
   |_,_=>.fail
  | .builtin .append=>match c.args.toList,c.argTypes.toList with
   | [s,x],[t,t']=>.when (decide (t=t')) (BR P t (ev s) (ev x) H slot)
   |_,_=>.fail
  | .builtin .copy=>match c.args.toList,c.argTypes.toList with
   | [d,x],[t,_]=>KX P t (ev d) (ev x) H
   |_,_=>.fail
  | .builtin .clear=>match c.args.toList,c.argTypes.toList with
   | [d],[t]=>Fv P t (ev d) H
   |_,_=>.fail
  | .builtin .min=>match c.args.toList.map ev with
   |x::r=>(Tr.of (minS x r)).map vB
   | []=>.fail
  | .builtin .max=>match c.args.toList.map ev with
   |x::r=>(Tr.of (maxS x r)).map vB
   | []=>.fail
  |_=>.fail
 |_=>.fail
def nO(H:aV)(slot:Nat)(mk:Bool)(new:List SB):Option aV:=
 match mk with
 |true=>match H[slot]? with
  |some []=>if new.all SB.alive=true then some (H.set slot new)else none
  |_=>none
 |false=>match new with
  | []=>some H
  |_=>none
def Bc(fr:yN):Option Nat→SV→yN
 |some d,v=>Zk d v fr
 |none,_=>fr
def KL(r:fo):iD:={val:=.undef,rd:=r.rd,wr:=r.wr.map fun p=>(p.1,none)}
structure Ol where
 P:Program
 N:FuncId→Note
 nt:Nat
 j6:List Nat
 pairs:Nat→List (Nat×Nat)
 keep:Nat
def xV(x:SV)(d:Nat):yN→yN
 | []=> []
 |(s,y)::r=>if s=d then(s,x)::r else(s,y)::xV x d r
def O1 (E:Ol) (call:Nat→FuncId→gL) (ops:Array Oper) (base i:Nat) (s:tH):Tr (tH×Option fo):=
 match ops[i]? with
 |none=>.ret (s,none)
 |some o=>
  .when (QY E.nt o.dst) (
   let skip (fr:yN):Tr (tH×Option fo):=.ret ({s with fr:=Bc fr o.dst (.tup [])},none)
   let doit (fr:yN):Tr (tH×Option fo):=(jU E.P E.N (call i) o fr s.hp (bP ops base i)).bind fun r=>
    match nO (iH s.hp r.wr) (bP ops base i) (makes o.op) r.new with
    |some H=>.ret ({fr:=Bc fr o.dst r.val,hp:=H},some r)
    |none=>.fail
   match o.guard with
   |none=>doit s.fr
   |some (j,want)=>
    match(ops[j]?).bind (·.dst)with
    |some d=>match jm s.fr d with
     | .bool b=>match want with
      |true=>.br b (doit (xV (.bool true) d s.fr)) (skip (xV (.bool false) d s.fr))
      |false=>.br b (skip (xV (.bool true) d s.fr)) (doit (xV (.bool false) d s.fr))
     | .tup []=>skip s.fr
     |_=>.fail
    |none=>.fail)
def Q8(E:Ol)(call:Nat→FuncId→gL)(ops:Array Oper)(base:Nat):List Nat→tH→Tr (tH×List (Option fo))
 | [],s=>.ret (s,[])
 |i::r,s=>(O1 E call ops base i s).bind fun p=>(Q8 E call ops base r p.1).bind fun q=>.ret (q.1,p.2::q.2)
def Qq(j6:List Nat)(fr:yN):yN:=fr.filter fun p=>j6.contains p.1
def oM(E:Ol)(call:Nat→FuncId→gL)(id:Nat)(ops:Array Oper)(draw:Bool)(s:tH):Tr tH:=
 (Q8 E call ops s.hp.length (List.range ops.size) {s with hp:=s.hp++List.replicate (oq ops) []}).bind fun p=>
  if draw&& !((E.pairs id).all fun q=>rE ops s.hp.length q.1 q.2 ((p.2.getD q.1 none).map KL) ((p.2.getD q.2 none).map KL))then .fail
  else .ret {p.1 with fr:=Qq E.j6 p.1.fr}
def rQ:Code→Nat
 | .region id _ _=>id
 | .seq a _=>rQ a
 | .cond _ a _=>rQ a
 | .block _ b=>rQ b
 | .loop b=>rQ b
 | .scope b=>rQ b
 |_=>0
def Yu:Ex→Ex→Bool
 | .normal,.normal=>true
 | .exit a,.exit b=>a==b
 | .ret,.ret=>true
 |_,_=>false
inductive lX where
 |one (e:Ex) (σ:Sg)
 |more (e:Ex) (σ:Sg) (r:lX)
def lX.den:lX→Type
 | .one _ σ=>σ.den
 | .more _ σ r=>σ.den⊕r.den
def dN(ℓ:Lens)(b:SB):cB:=match dB ℓ b with
 |some k=>k
 |none=>⟨0,[],0,false⟩
def dW(ℓ:Lens)(wr:List (Nm×SB)):List (Nm×Option cB):=wr.map fun p=>(p.1,dB ℓ p.2)
def dR(ℓ:Lens)(r:fo):iD:={val:=dV ℓ r.val,rd:=r.rd,wr:=dW ℓ r.wr,new:=r.new.map (dN ℓ)}
def xK(ℓ:Lens)(slot:Nat)(new:List SB):Prop:=∀(k:Nat) (b:SB),new[k]?=some b→ℓ (slot,k)=b.len
theorem O4(ℓ:Lens)(v:Value):d1 ℓ (GQ v)=U7 v∧dC ℓ (GQ v)=U7 v∧dA ℓ (GQ v)=U7 v∧dV ℓ (GQ v)=U7 v:=by
 cases v with
 |pointer p=>cases p<;>exact⟨rfl,rfl,rfl,rfl⟩
 |slice a n c=>
  cases a with
  |some _=>exact⟨rfl,rfl,rfl,rfl⟩
  |none=>
   cases n with
   |succ n=>exact⟨rfl,rfl,rfl,rfl⟩
   |zero=>cases c<;>exact⟨rfl,rfl,rfl,rfl⟩
 |_=>exact⟨rfl,rfl,rfl,rfl⟩
theorem Sn(v:Value):ZW (GQ v)=U6 (U7 v):=by
 cases v with
 |pointer p=>cases p<;>rfl
 |slice a n c=>
  cases a with
  |some _=>rfl
  |none=>
   cases n with
   |succ n=>rfl
   |zero=>cases c<;>rfl
 |_=>rfl
theorem Iz(ℓ:Lens)(v:Value):dA ℓ (svC v)=cv v∧dV ℓ (svC v)=cv v:=by
 cases v with
 |agg cs=>
  have e:(cs.toList.map GQ).all ZW=(cs.toList.map U7).all U6:=by
   simp only[List.all_map]
   congr 1
   funext v
   exact Sn v
  simp only[svC,cv,e];split
  ·have:List.map (dC ℓ) (cs.toList.map GQ)=cs.toList.map U7:=by
    simp only[amn];exact alO fun v _=>(O4 ℓ v).2.1
   exact⟨by simp only[dA,this],by simp only[dV,dA,this]⟩
  ·exact⟨rfl,rfl⟩
 |_=>first|exact⟨(O4 ℓ _).2.2.1,(O4 ℓ _).2.2.2⟩|exact⟨rfl,rfl⟩
theorem fC(ℓ:Lens)(k:IntKind)(n:Int):dV ℓ (.int k n)= .int k n:=rfl
theorem pQ(ℓ:Lens)(b:Bool):dV ℓ (.bool b)= .bool b:=rfl
theorem yO(ℓ:Lens)(s:ByteArray):dV ℓ (.str s)= .str s:=rfl
theorem qf(ℓ:Lens)(t:Ty)(l:List t.den)(b:Bool):dV ℓ (.row t l b)=bR t l b:=rfl
theorem lg(ℓ:Lens)(t:Ty)(g:Nm):dV ℓ (.own t g)= .own g t.size 0 (ℓ g):=rfl
theorem nu(ℓ:Lens)(t:Ty)(g:Nm)(off len:Nat):dV ℓ (.part t g off len)= .own g t.size off len:=rfl
theorem qh(ℓ:Lens)(g:Nm)(sz i off:Nat):dV ℓ (.ptr g sz i off)= .ptr g sz i off:=rfl
theorem afu(ℓ:Lens)(t:Ty)(l:List t.den)(i:Nat)(x:t.den)(h:l[i]?=some x)(off:Nat):dV ℓ (.lp t l i x h off)= .lp t.size (l.map (enc t)) i off:=rfl
theorem OD(ℓ:Lens)(f:FuncId)(cs:List SV):dV ℓ (.clo f cs)= .clo f (cs.map (d1 ℓ)):=rfl
theorem vk(ℓ:Lens)(cs:List SV):dV ℓ (.agg cs)= .agg (cs.map (dC ℓ)):=rfl
theorem pY(ℓ:Lens)(vs:List SV):dV ℓ (.tup vs)= .tup (vs.map (dA ℓ)):=rfl
theorem eD(ℓ:Lens)(fr:yN)(x:Operand):dV ℓ (yV fr x)=sP (dF ℓ fr) x:=by
 cases x with
 |tmp t=>exact(wJ ℓ fr t).symm
 |const v=>exact(Iz ℓ v).2
 |global g=>rfl
 |func f=>rfl
theorem Kw{v:SV}(h:Cy v=true)(ℓ:Lens):dV ℓ v=dC ℓ v∧dA ℓ v=dC ℓ v:=by cases v<;>first|exact⟨rfl,rfl⟩|cases h
theorem jr{v:SV}(h:oW v=true)(ℓ:Lens):dV ℓ v=dA ℓ v:=by cases v<;>first|rfl|cases h
theorem xE{agg:Bool}{cs:List SV}{u:SV}(h:Ay agg cs=some u)(ℓ:Lens):pF agg (cs.map (dC ℓ))=some (dV ℓ u):=by
 cases agg with
 |true=>cases h;rfl
 |false=>
  cases cs with
  |nil=>cases h
  |cons c r=>
   cases r with
   |cons _ _=>cases h
   |nil=>
    simp only[Ay]at h;split at h
    ·rename_i h1;cases h;rw[(Kw h1 ℓ).1];rfl
    ·cases h
theorem sF{size off:Nat}{agg:Bool}{x u:SV}(h:zL size agg x off=some u)(ℓ:Lens):loadAt size agg (dA ℓ x) off=some (dV ℓ u):=by
 unfold zL at h;unfold loadAt;rw[gW,ald,o5];split at h
 ·rename_i h1;rw[if_pos h1];split at h
  ·rename_i h2;rw[if_pos h2];split at h
   ·rename_i h3;cases h;rw[jr h3]
   ·cases h
  ·rename_i h2;rw[if_neg h2,←List.map_drop,←List.map_take];exact xE h ℓ
 ·cases h
theorem iE{P:Program}{t:TypeId}{cs:List SV}{off:Nat}{u:SV}(h:nE P t cs off=some u)(ℓ:Lens):partOf P t (cs.map (dC ℓ)) off=some (dV ℓ u):=by
 unfold nE at h;unfold partOf;split at h
 ·rename_i size agg h1 h2;simp only[h1,h2,ald];split at h
  ·rename_i h3;rw[if_pos h3,←List.map_drop,←List.map_take];exact xE h ℓ
  ·cases h
 ·cases h
section
variable{P:Program}{H:aV}{ℓ:Lens}
theorem ze{t:TypeId}{p:SV}{r:fo}(h:(zk P t p H).mean=some r):mF P t (dV ℓ p) (dH ℓ H)=some (dR ℓ r)∧r.wr=[]:=by
 unfold zk at h;unfold mF;split at h
 ·rename_i size agg h1 h2;simp only[h1,h2]
  cases p with
  |ptr g sz i off=>
   simp only at h;simp only[qh,eG];split at h
   ·rename_i sz' v hg;obtain⟨h3,h4⟩:=Tr.aN h;obtain⟨rfl,rfl,h0⟩:=ali h3;obtain⟨u,h5,rfl⟩:=Tr.gV h4;have:=sF (Tr.bX h5) ℓ;simp[hg,dB,this,dR,dW,h0]
   ·rename_i t' l z hg;obtain⟨h3,h4⟩:=Tr.aN h;have h3:=ali h3;simp only[Tr.mean]at h4;obtain⟨x,h5,h6⟩:=ame.1 h4;obtain⟨u,h7,rfl⟩:=Tr.gV h6;have:=sF (Tr.bX h7) ℓ;rw[Eg]at this;simp[hg,dB,h3,h5,this,dR,dW]
   ·exact(Tr.ax h).elim
  |lp t' l i x hx off=>
   simp only at h;obtain⟨u,h7,rfl⟩:=Tr.gV h;have:=sF (Tr.bX h7) ℓ;rw[Eg]at this;simp[afu,hx,kZ,eF,this,dR,dW,vB]
  |fp g=>
   simp only at h;obtain⟨h3,h4⟩:=Tr.aN h;have h3:=ali h3;have:=Tr.ay h4;subst this;simp only[show dV ℓ (.fp g)= .fp g from rfl];rw[if_pos h3];exact⟨rfl,rfl⟩
  |_=>exact(Tr.ax h).elim
 ·exact(Tr.ax h).elim
theorem Tw:∀(t:Ty) (cs:List SV) (x:t.den) (r:List SV),J2 t cs=some (x,r)→(∀c∈cs,yT c=true)→∃pre,cs=pre++r∧pre.map (dC ℓ)=fT t x:=by
 intro t
 induction t with
 |int k=>
  intro cs x r h _
  cases cs with
  |nil=>cases h
  |cons c cs=>
   cases c<;>first|(cases h;done)|skip
   simp only[J2]at h;split at h
   ·rename_i e;subst e;cases h;exact⟨[_],rfl,rfl⟩
   ·cases h
 |bool=>
  intro cs x r h _
  cases cs with
  |nil=>cases h
  | cons c cs => cases c<;>first|(cases h;done)|skip
                 cases h;exact⟨[_],rfl,rfl⟩
 |str=>
  intro cs x r h _
  cases cs with
  |nil=>cases h
  | cons c cs => cases c<;>first|(cases h;done)|skip
                 cases h;exact⟨[_],rfl,rfl⟩
 |row t ih=>
  intro cs x r h hs
  cases cs with
  |nil=>cases h
  |cons c cs=>
   have hc:=hs c (by simp)
   cases c<;>first|cases h|skip
   rename_i t' l tg
   cases tg with
   |true=>cases hc
   |false=>
    simp only[J2]at h;split at h
    ·rename_i l' hl;cases h;exact⟨[_],rfl,by simp only[al3,alJ,dC,d1,yH hl false];rfl⟩
    ·cases h
 |unit=>intro cs x r h _;cases h;exact⟨[],rfl,rfl⟩
 |cons a b iha ihb=>
  intro cs x r h hs;simp only[J2]at h;split at h
  ·rename_i y r1 h1;split at h
   ·rename_i z r2 h2;cases h;obtain⟨p1,rfl,f1⟩:=iha _ _ _ h1 hs;obtain⟨p2,rfl,f2⟩:=ihb _ _ _ h2 (fun c hc=>hs c (by simp at hc ⊢;right;exact hc));exact⟨p1++p2,by simp,by rw[alB,f1,f2];rfl⟩
   ·cases h
  ·cases h
theorem wH{t:Ty}{v:SV}{x:t.den}(h:Oy t v=some x)(hs:Cw v=true):dA ℓ v=enc t x:=by
 unfold Oy at h;split at h
 ·rename_i hagg;split at h
  ·rename_i y hy;cases h
   have hsl:∀c∈v.cells,yT c=true:=by
    cases v with
    |agg cs=>simpa[Cw,SV.cells]using hs
    |_=>intro c hc;simp[SV.cells]at hc;subst hc;exact hs
   obtain⟨pre,h1,h2⟩:=Tw (ℓ:=ℓ) t _ _ _ hy hsl;rw[alE]at h1;subst h1;rw[←gW]at h2;unfold enc wrap;rw[←h2,←hagg,←o5 ℓ];generalize dA ℓ v=z;cases z<;>rfl
  ·cases h
 ·cases h
theorem BG(cs:List SV)(off:Nat)(new:List SV):(pU cs off new).map (dC ℓ)=splice (cs.map (dC ℓ)) off (new.map (dC ℓ)):=by
 simp[pU,splice,List.map_take,List.map_drop]
theorem bH.append{wr wr':List (Nm×SB)}(h:bH H wr)(k:bH H wr'):bH H (wr++wr'):=by
 intro p hp;rcases alx.1 hp with hp|hp
 ·exact h p hp
 ·exact k p hp
theorem bH.nil:bH H []:=fun p hp=>by simp at hp
theorem bH.one{g:Nm}{b b0:SB}(h:bO H g=some b0)(hl:b.len=b0.len):bH H [(g,b)]:=by
 intro p hp x hx;simp at hp;subst hp;rw[h]at hx;cases hx;exact hl
theorem vM{t:Ty}(l:List t.den)(i:Nat)(y:t.den):(l.map (enc t)).set i (enc t y)=(l.set i y).map (enc t):=by rw[List.map_set]
theorem LK{z:Fz}{len i:Nat}{t:Tr fo}{r:fo}(h:(V7 z len i t).mean=some r):z.n len≤i∧t.mean=some r:=by
 cases z with
 |zero=>exact⟨alD _,h⟩
 |all=>obtain⟨h1,h2⟩:=Tr.aX h;exact⟨ali h1,h2⟩
 |low k=>obtain⟨h1,h2⟩:=Tr.aX h;exact⟨ali h1,h2⟩
theorem tZ{v:SV}(h:PD v=true):oW v=true:=by cases v<;>first|rfl|cases h
theorem Gx(ha:gq ℓ H){t:TypeId}{p v:SV}{r:fo}(h:(Al P t p v H).mean=some r):l5 P t (dV ℓ p) (dV ℓ v) (dH ℓ H)=some (dR ℓ r)∧bH H r.wr∧r.new=[]:=by
 unfold Al at h;unfold l5;split at h
 ·rename_i size h1;simp only[h1]
  cases p with
  |ptr g sz i off=>
   simp only at h;simp only[qh,eG];split at h
   ·rename_i sz' x hg;obtain⟨h2,h3⟩:=Tr.aN h;obtain⟨rfl,rfl,h4,h5,h6,h0⟩:=ali h2;have hv:dV ℓ v=dA ℓ v:=jr (tZ h6) ℓ;have hc:(dA ℓ v).cells.length=size∧off+size≤sz'∧okV (dA ℓ v)=true:=⟨by rw[gW,ald];exact h4,h5,by rw[FE];exact h6⟩
    simp only[hg,alR,dB,true_and,alj,h0,if_true,List.getElem?_cons_zero,show dV ℓ v=dA ℓ v from hv];rw[if_pos hc];split at h3
    ·rename_i he;have:=Tr.ay h3;subst this;refine⟨?_,bH.one hg rfl,rfl⟩;unfold jy;rw[if_pos he];rfl
    ·rename_i he;split at h3
     ·rename_i hx;have:=Tr.ay h3;subst this;refine⟨?_,bH.one hg rfl,rfl⟩;unfold jy;rw[if_neg he,o5,if_pos hx];simp only[gW,←BG];rfl
     ·exact(Tr.ax h3).elim
   ·rename_i t' l z hg;obtain⟨⟨u,m⟩,h2,h3⟩:=Tr.aC h;obtain⟨h4,h5⟩:=Tr.aN h3;obtain⟨rfl,c1,c2,c3,c4,c5,h0⟩:=ali h4;obtain⟨c6,h6⟩:=LK h5;obtain⟨e1,e2⟩:=uG ha h2
    have hv:dV ℓ v=dA ℓ v:=by
     cases v<;>first|rfl|exact(Tr.ax h2).elim
    have hcc:(dA ℓ u).cells.length=size∧off+size≤t'.size∧¬ g∈m∧okV (dA ℓ u)=true:=⟨by rw[gW,ald];exact c1,c2,c3,by rw[FE];exact c4⟩
    have hwr:∀y:t'.den,bH H (jJ H m++ [(g,.arr t' (l.set i y) z)]):=fun y=>(oH m).append (bH.one hg (by simp[SB.len]))
    have hdw:∀y:t'.den,dW ℓ (jJ H m++ [(g,.arr t' (l.set i y) z)])=stops (dH ℓ H) m++ [(g,some ⟨t'.size,(l.set i y).map (enc t'),z.n l.length,false⟩)]:=fun y=>by
     rw[←lI e2];simp only[dW,alB,al3,alJ,dB,alU]
    simp only[hg,alR,dB,true_and,show dV ℓ v=dA ℓ v from hv,e1,alo,if_false];rw[if_pos ⟨c6,h0⟩];split at h6
    ·rename_i he;obtain⟨c7,h7⟩:=Tr.aX h6;obtain⟨y,h8,h9⟩:=Tr.aC h7;have:=Tr.ay h9;subst this;have hi:=ali c7;have hy:=wH (ℓ:=ℓ) (Tr.bX h8) c5;refine⟨?_,hwr y,rfl⟩;simp only[ale,alh hi,al4];rw[if_pos hcc];unfold jy;rw[if_pos he];simp only[dR,hdw,hy,vM,pY,alJ]
    ·rename_i he;simp only[Tr.mean]at h6;obtain⟨x,h7,h8⟩:=ame.1 h6;obtain⟨h9,h10⟩:=Tr.aN h8;obtain⟨y,h11,h12⟩:=Tr.aC h10;have:=Tr.ay h12;subst this
     have hx:dA ℓ (SV.agg (pU (Jg t' x) off u.cells))= .agg (splice (enc t' x).cells off (dA ℓ u).cells):=by
      rw[kZ,gW,←(Hw t' x ℓ).2,←BG];rfl
     have hsl:Cw (SV.agg (pU (Jg t' x) off u.cells))=true:=by
      simp only[Cw,alF];intro c hc
      have h1:∀c∈Jg t' x,yT c=true:=by
       have:∀(t:Ty) (x:t.den),∀c∈Jg t x,yT c=true:=by
        intro t
        induction t with
        |cons a b iha ihb=>intro x c hc;simp only[Jg,alx]at hc;exact hc.elim (iha _ c) (ihb _ c)
        |unit=>intro x c hc;cases hc
        |_=>intro x c hc;simp[Jg]at hc;subst hc;rfl
       exact this t' x
      have h2:∀c∈u.cells,yT c=true:=by
       cases u with
       |agg cs=>simpa[Cw,SV.cells]using c5
       |_=>intro c hc;simp[SV.cells]at hc;subst hc;exact c5
      simp only[pU,alx]at hc;rcases hc with(hc|hc)|hc
      ·exact h1 c (List.mem_of_mem_take hc)
      ·exact h2 c hc
      ·exact h1 c (List.mem_of_mem_drop hc)
     have hy:=wH (ℓ:=ℓ) (Tr.bX h11) hsl;refine⟨?_,hwr y,rfl⟩;simp only[ale,h7,al4];rw[if_pos hcc];unfold jy;rw[if_neg he,TH,if_pos h9,←hx,hy];simp only[dR,hdw,vM,pY,alJ]
   ·exact(Tr.ax h).elim
  |_=>exact(Tr.ax h).elim
 ·exact(Tr.ax h).elim
end
section
variable{P:Program}{H:aV}{ℓ:Lens}
theorem EQ{A B:Type}{l:List A}{n:Int}{k:(x:A)→l[n.toNat]?=some x→Option B}{b:B}(h:rowAt l n k=some b):0≤n∧n<l.length∧∃x,∃hx:l[n.toNat]?=some x,k x hx=some b:=by
 unfold rowAt at h
 cases hn:decide (0≤n)with
 |false=>rw[hn]at h;cases h
 |true=>
  rw[hn]at h;have h0:=ali hn;obtain⟨x,hx,hk⟩:=Option.pbind_eq_some_iff.1 (show Option.pbind l[n.toNat]? k=some b from h);have:=(akX.1 hx).1;exact⟨h0,by omega,x,hx,hk⟩
theorem zQ{t:TypeId}{p u:SV}{f:Nat}(h:rW P t p f=some u):lQ P t (dV ℓ p) f=some (dV ℓ u):=by
 unfold rW at h;unfold lQ;split at h
 ·rename_i o ft hf;simp only[hf];split at h
  ·cases h
  ·rename_i hs;rw[if_neg hs]
   cases p with
   |ptr g sz i off=>
    by_cases h0:0<sz
    ·simp only[if_pos h0]at h;cases h;simp only[qh,if_pos h0]
    ·simp only[if_neg h0]at h;cases h
   |lp t l i x hx off=>cases h;rfl
   |_=>cases h
 ·cases h
theorem GK{t:TypeId}{p u:SV}{f:Nat}(h:EO P t p f=some u):zA P t (dV ℓ p) f=some (dV ℓ u):=by
 unfold EO at h;split at h
 ·rename_i o ft cs hf;simp only[vk,zA,hf];exact iE h ℓ
 ·cases h
theorem Rj{sz:Nat}{xs:List AV}(h:0<xs.length):Bd sz xs=sz:=by
 cases xs with
 |nil=>simp at h
 |cons _ _=>rfl
theorem Ap(ha:gq ℓ H){t:TypeId}{x i u:SV}(h:(rC P t x i H).mean=some u):jQ P t (dV ℓ x) (dV ℓ i)=some (dV ℓ u):=by
 unfold rC at h;split at h
 ·rename_i e k n hu;unfold jQ;simp only[fC,hu]
  cases x with
  |own t' g=>
   simp only at h;split at h
   ·rename_i b hb;obtain⟨h1,h2⟩:=Tr.aN h;obtain⟨h3,h4⟩:=Tr.aX h2;have:=Tr.ay h4;subst this;obtain⟨h5,h6⟩:=ali h3;obtain⟨h1,h7⟩:=ali h1;simp only[lg,ha g b hb];rw[if_pos ⟨h1,h5,h6,h7⟩];simp only[qh,alQ]
   ·exact(Tr.ax h).elim
  |part t' g off len=>
   obtain⟨h1,h2⟩:=Tr.aN h;obtain⟨h3,h4⟩:=Tr.aX h2;have:=Tr.ay h4;subst this;obtain⟨h5,h6⟩:=ali h3;obtain⟨h1,h7⟩:=ali h1;simp only[nu];rw[if_pos ⟨h1,h5,h6,h7⟩];rfl
  |row t' l tg=>
   obtain⟨h1,h2⟩:=Tr.aN h;simp only[Tr.mean]at h2;obtain⟨h3,h4,y,hy,h5⟩:=EQ h2;have h5:=Option.some.inj h5;subst h5;have hl:Bd t'.size (l.map (enc t'))=t'.size:=Rj (by simp;omega);simp only[qf,bR,hl];rw[if_pos ⟨h3,by simpa using h4,ali h1⟩];rfl
  |_=>exact(Tr.ax h).elim
 ·rename_i len e k n hu;unfold jQ;simp only[fC,hu]
  cases x with
  |ptr g sz j off=>
   simp only at h;simp only[qh];split at h
   ·rename_i es he;obtain⟨h0,h⟩:=Tr.aN h;obtain⟨h3,h4⟩:=Tr.aX h;have:=Tr.ay h4;subst this;simp only[he];rw[if_pos ⟨(ali h3).1,(ali h3).2,ali h0⟩];rfl
   ·exact(Tr.ax h).elim
  |_=>exact(Tr.ax h).elim
 ·exact(Tr.ax h).elim
theorem OY{n:Int}{k:SV→Bool→Tr SV}{u:SV}:∀(l:List (Int×FuncId×List FuncId)),(Rc l n k).mean=some u→∃v b,(k v b).mean=some u∧dV ℓ v=(vY l n).1∧oW v=true∧b=(vY l n).2:=by
 intro l
 induction l with
 |nil=>intro h;exact⟨_,_,h,rfl,rfl,rfl⟩
 |cons p r ih=>
  intro h;obtain⟨m,f,gs⟩:=p;simp only[Rc,Tr.mean]at h;by_cases hn:n=m
  ·rw[show(n==m)=true by simpa using hn,cond_true]at h;refine⟨_,_,h,?_,rfl,?_⟩
   ·simp only[OD,vY,if_pos hn,amn];rfl
   ·simp only[vY,if_pos hn]
  ·rw[show(n==m)=false by simpa using hn,ami]at h;simp only[vY,if_neg hn];exact ih h
theorem Gr{t:TypeId}{m k u:SV}{ok:Bool}(h:(BO P t m k ok).mean=some u):oQ P t (dV ℓ m) (dV ℓ k) ok=some (dV ℓ u):=by
 unfold BO at h;split at h
 ·rename_i kt et l n hu;split at h
  ·rename_i hkt hz;obtain⟨v,b,h1,h2,h3,h4⟩:=OY (ℓ:=ℓ) l h;have:=Tr.ay h1;subst this;simp only[show dV ℓ (.fm l)= .fm l from rfl,fC,oQ,hu,hkt,hz];cases ok
   ·simp only[alo,if_false,h2]
   ·simp only[if_true,pY,al3,alJ,←h2,←h4,jr h3];rfl
  ·exact(Tr.ax h).elim
 ·exact(Tr.ax h).elim
theorem xM{t:TypeId}{x i u:SV}(h:(yY P t x i).mean=some u):nk P t (dV ℓ x) (dV ℓ i)=some (dV ℓ u):=by
 unfold yY at h;split at h
 ·rename_i len e cs k n hu;simp only[nk,vk,fC,hu];split at h
  ·rename_i es he;obtain⟨h3,h4⟩:=Tr.aX h;simp only[he];rw[if_pos (ali h3)];exact iE (Tr.bX h4) ℓ
  ·exact(Tr.ax h).elim
 ·rename_i s k n hu;obtain⟨h3,h4⟩:=Tr.aX h;have:=Tr.ay h4;subst this;obtain⟨h5,h6⟩:=ali h3;have hlt:n.toNat<s.size:=by omega
  simp only[nk,yO,fC,hu,h5,if_true];have:s[n.toNat]?=some s[n.toNat]:=by simp[hlt]
  simp[this]
 ·exact(Tr.ax h).elim
theorem Sz{e:TypeId}{ty:Ty}{cs:List SV}{es:Nat}:∀(n i:Nat) (l:List ty.den),aaV P e ty cs es n i=some l→∀(k:Nat) (x:ty.den),l[k]?=some x→k<n∧partOf P e (cs.map (dC ℓ)) ((i+k)*es)=some (dV ℓ (DU ty x)):=by
 intro n
 induction n with
 |zero=>intro i l h k x hx;cases h;simp at hx
 |succ n ih=>
  intro i l h k x hx;simp only[aaV]at h;split at h
  ·rename_i v r h1 h2;split at h
   ·rename_i hs;obtain⟨y,h3,rfl⟩:=alf.1 h
    cases k with
    |zero=>
     simp only[List.getElem?_cons_zero,alg]at hx;subst hx;refine⟨Nat.succ_pos n,?_⟩;rw[amB,iE h1 ℓ]
     have hv:dV ℓ v=dA ℓ v:=by
      cases v<;>first|rfl|(exfalso;cases ty<;>simp[Oy,J2,SV.cells,SV.isAgg,Ty.agg]at h3)
     have hu:dV ℓ (DU ty y)=dA ℓ (DU ty y):=by cases ty<;>rfl
     rw[hv,wH h3 hs,hu,Eg]
    |succ k=>
     simp only[List.getElem?_cons_succ]at hx;obtain⟨a1,a2⟩:=ih _ _ h2 k x hx;exact⟨Nat.succ_lt_succ a1,by rw[show i+(k+1)=i+1+k by omega];exact a2⟩
   ·cases h
  ·cases h
theorem EU{t:TypeId}{x i u:SV}(h:(BB P t x i).mean=some u):nk P t (dV ℓ x) (dV ℓ i)=some (dV ℓ u):=by
 unfold BB at h;split at h
 ·rename_i len e cs k n hu;split at h
  ·rename_i es ty he hty;obtain⟨l,h1,h2⟩:=Tr.aC h;have h1:=Tr.bX h1;simp only[Tr.mean]at h2;obtain⟨h3,h4,y,hy,h5⟩:=EQ h2;have h5:=Option.some.inj h5;subst h5;obtain⟨a1,a2⟩:=Sz (ℓ:=ℓ) _ _ _ h1 _ _ hy;simp only[nk,vk,fC,hu,he];rw[if_pos ⟨h3,by omega⟩];rw[alQ]at a2;exact a2
  ·exact(Tr.ax h).elim
 ·exact xM h
theorem Gj{t:TypeId}{x i u:SV}{oi:Operand}(h:(BL P t x i oi).mean=some u):nk P t (dV ℓ x) (dV ℓ i)=some (dV ℓ u):=by
 unfold BL at h;split at h
 ·exact xM h
 ·exact EU h
theorem SG{op:BinOp}{k:IntKind}{a b:Int}{u:SV}(h:(ady op k a b).mean=some u):kS op (.int k a) (.int k b)=some (dV ℓ u):=by
 unfold ady at h
 split at h<;>first
  |(have:=Tr.ay h;subst this;simp[kS,fC,pQ];done)
  |(obtain⟨h1,h2⟩:=Tr.aX h;have:=Tr.ay h2;subst this;have h1:=ali h1;simp[kS,fC,h1];done)
  |exact(Tr.ax h).elim
theorem Lj{op:BinOp}{k k':IntKind}{a b:Int}{u:SV}(h:(Qw op k a b).mean=some u):kS op (.int k a) (.int k' b)=some (dV ℓ u):=by
 unfold Qw at h
 split at h<;>first
  |(obtain⟨h1,h2⟩:=Tr.aX h;have:=Tr.ay h2;subst this;have h1:=ali h1;simp[kS,fC,h1];done)
  |exact(Tr.ax h).elim
theorem S9{op:BinOp}{a b:ByteArray}{u:SV}(h:(adW op a b).mean=some u):kS op (.str a) (.str b)=some (dV ℓ u):=by
 unfold adW at h
 split at h<;>first
  |(have:=Tr.ay h;subst this;simp[kS,yO,pQ];done)
  |(obtain⟨h1,h2⟩:=Tr.aX h;have:=Tr.ay h2;subst this;have h1:=ali h1;simp[kS,yO,h1];done)
  |exact(Tr.ax h).elim
theorem EH{eq:TypeId→SV→SV→Option Bool}{eq':TypeId→AV→AV→Option Bool}(he:∀t x y b,eq t x y=some b→eq' t (dV ℓ x) (dV ℓ y)=some b)(xs ys:List SV):
  ∀(fs:List Field) (b:Bool),wG P eq xs ys fs=some b→eqFields P eq' (xs.map (dC ℓ)) (ys.map (dC ℓ)) fs=some b:=by
 intro fs
 induction fs with
 |nil=>intro b h;exact h
 |cons f r ih=>
  intro b h;simp only[wG]at h;simp only[eqFields];split at h
  ·cases h
  ·rename_i hn;rw[if_neg hn];split at h
   ·rename_i x y h1 h2;simp only[iE h1 ℓ,iE h2 ℓ];split at h
    ·rename_i c d h3 h4;simp only[he _ _ _ _ h3,ih _ h4];exact h
    ·cases h
   ·cases h
theorem Gw{eq:TypeId→SV→SV→Option Bool}{eq':TypeId→AV→AV→Option Bool}(he:∀t x y b,eq t x y=some b→eq' t (dV ℓ x) (dV ℓ y)=some b)(e:TypeId)(size:Nat)(xs ys:List SV):
  ∀(n i:Nat) (b:Bool),zO P eq e size xs ys n i=some b→pG P eq' e size (xs.map (dC ℓ)) (ys.map (dC ℓ)) n i=some b:=by
 intro n
 induction n with
 |zero=>intro i b h;exact h
 |succ n ih=>
  intro i b h;simp only[zO]at h;simp only[pG];split at h
  ·rename_i x y h1 h2;simp only[iE h1 ℓ,iE h2 ℓ];split at h
   ·rename_i c d h3 h4;simp only[he _ _ _ _ h3,ih _ _ h4];exact h
   ·cases h
  ·cases h
theorem IA:∀(d:Nat) (t:TypeId) (x y:SV) (b:Bool),Ud P d t x y=some b→K6 P d t (dV ℓ x) (dV ℓ y)=some b:=by
 intro d
 induction d with
 |zero=>intro t x y b h;cases h
 |succ d ih=>
  intro t x y b h;unfold Ud at h;split at h
  ·rename_i hu;simp only[K6,pQ,hu];exact h
  ·rename_i hu;simp only[K6,fC,hu];exact h
  ·rename_i hu;simp only[K6,yO,hu];exact h
  ·rename_i fs xs ys hu;simp only[K6,vk,hu];split at h
   ·cases h
   ·rename_i hs;rw[if_neg hs];exact EH ih xs ys _ _ h
  ·rename_i n e xs ys hu;simp only[K6,vk,hu];split at h
   ·rename_i size he;simp only[he];exact Gw ih e size xs ys n 0 b h
   ·cases h
  ·cases h
theorem Dc{t:TypeId}{x y:SV}{b:Bool}(h:Ci P t x y=some b):Di P t (dV ℓ x) (dV ℓ y)=some b:=by
 unfold Ci at h;split at h
 ·simp only[Di,pQ];exact IA (ℓ:=ℓ) 8 t _ _ b h
 ·simp only[Di,vk];split at h
  ·cases h
  ·rename_i hg;rw[if_neg hg];exact IA (ℓ:=ℓ) 8 t _ _ b h
 ·cases h
theorem LF{op:BinOp}{t:TypeId}{x y u:SV}(h:(OH P op t x y).mean=some u):ou P op t (dV ℓ x) (dV ℓ y)=some (dV ℓ u):=by
 unfold OH at h;split at h
 ·rename_i k a k' b;split at h
  ·have:=Lj (ℓ:=ℓ) (k':=k') h;simp only[ou,fC,this]
  ·obtain⟨h1,h2⟩:=Tr.aN h;have h1:=ali h1;subst h1;have:=SG (ℓ:=ℓ) h2;simp only[ou,fC,this]
 ·rename_i a b;have:=S9 (ℓ:=ℓ) h;simp only[ou,yO,this]
 ·rename_i hn1 hn2
  have hx:∀z b,Ci P t x y=some b→kS z (dV ℓ x) (dV ℓ y)=none:=by
   intro z b hb;unfold Ci at hb;split at hb
   ·rfl
   ·rfl
   ·cases hb
  split at h
  ·obtain⟨b,h1,rfl⟩:=Tr.gV h;have h1:=Tr.bX h1;simp only[ou,hx _ b h1,Dc (ℓ:=ℓ) h1,al4,pQ]
  ·obtain⟨b,h1,rfl⟩:=Tr.gV h;have h1:=Tr.bX h1;simp only[ou,hx _ b h1,Dc (ℓ:=ℓ) h1,al4,pQ]
  ·exact(Tr.ax h).elim
theorem Kj{op:BinOp}{t:TypeId}{x y u:SV}{oy:Operand}(h:(Kl P op t x y oy).mean=some u):Cm P op t (dV ℓ x) (dV ℓ y) oy=some (dV ℓ u):=by
 unfold Kl at h;split at h
 ·rename_i ty l tight;unfold Rf at h;split at h
  ·rename_i e ht;obtain⟨h1,h2⟩:=Tr.aX h;have:=Tr.ay h2;subst this;have h1:=ali h1
   cases l with
   |nil=>simp at h1
   |cons a r=>
    have e1:ou P .eql t (dV ℓ (.row ty (a::r) tight)) (dV ℓ y)=none:=by
     simp only[ou,dV,dA,dC,d1,bR,kS,Di,Option.map_none]
    simp only[Cm,e1];simp only[J8,ht,dV,dA,dC,d1,bR,al3]
  ·exact(Tr.ax h).elim
 ·simp only[Cm,LF (ℓ:=ℓ) h]
theorem Qz{op:UnOp}{x u:SV}(h:Vx op x=some u):aal op (dV ℓ x)=some (dV ℓ u):=by
 unfold Vx at h;split at h
 ·cases h;rfl
 ·cases h;rfl
 ·cases h
theorem DF{a b:TypeId}{x u:SV}(h:yF P a b x=some u):nV P a b (dV ℓ x)=some (dV ℓ u):=by
 unfold yF at h;split at h
 ·rename_i h1 h2;cases h;simp only[nV,fC,h1,h2]
 ·rename_i h1 h2;cases h;simp only[nV,yO,h1,h2]
 ·cases h
theorem dm{o:Option SV}{d r:Nat}(h:(iR o d).mean=some r):bound (o.map (dV ℓ)) d=some r:=by
 unfold iR at h;split at h
 ·have:=Tr.ay h;subst this;rfl
 ·obtain⟨h1,h2⟩:=Tr.aX h;have:=Tr.ay h2;subst this;simp only[al4,fC,bound];rw[if_pos (ali h1)]
 ·exact(Tr.ax h).elim
theorem GX(ha:gq ℓ H){t:TypeId}{x:SV}{lo hi mx:Option SV}{r:fo}(h:(Ah P t x lo hi mx H).mean=some r):
  gH P t (dV ℓ x) (lo.map (dV ℓ)) (hi.map (dV ℓ)) (mx.map (dV ℓ)) (dH ℓ H)=some (dR ℓ r)∧bH H r.wr∧r.new=[]:=by
 unfold Ah at h;split at h
 ·rename_i s hu;simp only[gH,yO,hu]
  cases mx with
  |some _=>exact(Tr.ax h).elim
  |none=>
   obtain⟨l,h1,h⟩:=Tr.aC h;obtain⟨hh,h2,h⟩:=Tr.aC h;obtain⟨h3,h⟩:=Tr.aX h;have:=Tr.ay h;subst this;refine⟨?_,bH.nil,rfl⟩;simp only[Option.map_none,dm (ℓ:=ℓ) h1,dm (ℓ:=ℓ) h2];rw[if_pos (ali h3)];rfl
 ·rename_i e t' xs tight hu;obtain⟨h0,h⟩:=Tr.aN h;have h0:=ali h0
  have hsz:((bf P e).isSome&&(decide (bf P e=some (Bd t'.size (xs.map (enc t'))))||(xs.map (enc t')).isEmpty))=true:=by
   rw[h0]
   cases xs with
   |nil=>simp
   |cons y ys=>simp[Bd]
  have hlz:∀l k,Bd (Bd t'.size (xs.map (enc t'))) (((xs.map (enc t')).drop l).take k)=Bd t'.size (((xs.drop l).take k).map (enc t')):=by
   intro l k;rw[←List.map_drop,←List.map_take]
   cases xs with
   |nil=>simp[Bd]
   |cons y ys=>rfl
  simp only[gH,qf,bR,hu];rw[if_pos hsz];simp only[ald]
  cases mx with
  |none=>
   obtain⟨l,h1,h⟩:=Tr.aC h;obtain⟨hh,h2,h⟩:=Tr.aC h;obtain⟨h3,h⟩:=Tr.aX h;have:=Tr.ay h;subst this;refine⟨?_,bH.nil,rfl⟩;simp only[Option.map_none,dm (ℓ:=ℓ) h1,dm (ℓ:=ℓ) h2];rw[if_pos (ali h3),hlz];simp only[dR,qf,bR,List.map_drop,List.map_take,dW,alJ,Option.isNone_map]
  |some m=>
   obtain⟨l,h1,h⟩:=Tr.aC h;obtain⟨hh,h2,h⟩:=Tr.aC h;obtain⟨mm,h4,h⟩:=Tr.aC h;obtain⟨h5,h⟩:=Tr.aN h;obtain⟨h3,h⟩:=Tr.aX h;have:=Tr.ay h;subst this;obtain⟨c1,rfl,c3⟩:=ali h3;refine⟨?_,bH.nil,rfl⟩;have h4':=dm (ℓ:=ℓ) h4;simp only[al4]at h4';simp only[al4,dm (ℓ:=ℓ) h1,dm (ℓ:=ℓ) h2,h4'];rw[if_pos ⟨c1,alj _,c3,by simpa using h5⟩,hlz];simp only[dR,qf,bR,List.map_drop,List.map_take,dW,alJ,amg]
 ·rename_i e t' g hu;split at h
  ·rename_i t2 l2 z hg;split at h
   ·rename_i ht;subst ht;obtain⟨h0,h⟩:=Tr.aN h;have h0:=ali h0;have hlen:ℓ g=l2.length:=ha g _ hg;simp only[gH,lg,hu];rw[if_pos h0];simp only[hlen]
    cases mx with
    |none=>
     have gen:∀(lo hi:Option SV),((iR lo 0).bind fun l=>(iR hi l2.length).bind fun h=>Tr.need (decide (l≤h∧h≤l2.length)) (.ret {val:=SV.part t2 g l (h-l)})).mean=some r→
       (match(none:Option AV),bound (lo.map (dV ℓ)) 0,bound (hi.map (dV ℓ)) l2.length with
       |none,some l,some h=>if l≤h∧h≤l2.length then some {val:=AV.own g t2.size (0+l) (h-l)} else none
       |some m,some l,some h=>match bound (some m) 0,get (dH ℓ H) g with
        |some m,some b=>if l≤h∧h≤m∧m≤l2.length∧0+l2.length≤b.elems.length∧b.box=false∧b.sz=t2.size∧(hi.map (dV ℓ)).isSome=true∧0<t2.size then
          some {val:=.eO (Bd t2.size ((b.elems.drop (0+l)).take (h-l))) ((b.elems.drop (0+l)).take (h-l)) (h==m),rd:=[g],wr:=stops (dH ℓ H) [g]} else none
        |_,_=>none
       |_,_,_=>none)=some (dR ℓ r)∧bH H r.wr∧r.new=[]:=by
      intro lo hi h;obtain⟨l,h1,h⟩:=Tr.aC h;obtain⟨hh,h2,h⟩:=Tr.aC h;obtain⟨h3,h⟩:=Tr.aX h;have:=Tr.ay h;subst this;refine⟨?_,bH.nil,rfl⟩;simp only[dm (ℓ:=ℓ) h1,dm (ℓ:=ℓ) h2];rw[if_pos (ali h3)];simp only[dR,nu,dW,alJ,alQ]
     simp only at h;split at h
     ·have:=Tr.ay h;subst this;refine⟨?_,bH.nil,rfl⟩;simp[bound,dR,lg,hlen,dW]
     ·exact gen lo hi h
    |some m=>
     obtain⟨l,h1,h⟩:=Tr.aC h;obtain⟨hh,h2,h⟩:=Tr.aC h;obtain⟨mm,h4,h⟩:=Tr.aC h;obtain⟨h5,h⟩:=Tr.aN h;obtain⟨h3,h⟩:=Tr.aX h;have:=Tr.ay h;subst this;obtain⟨c1,rfl,c3⟩:=ali h3;have hs:∀g'∈ [g],mR H g':=fun g' hg'=>by simp at hg';subst hg';exact⟨_,_,_,hg⟩
     refine⟨?_,oH _,rfl⟩;have h4':=dm (ℓ:=ℓ) h4;simp only[al4]at h4';simp only[al4,dm (ℓ:=ℓ) h1,dm (ℓ:=ℓ) h2,h4',eG,hg,alR,dB];simp only[alu,alM]at h5;rw[if_pos (by simp[c1,c3,h5])];simp only[dR,qf,bR,List.map_drop,List.map_take,dW,lI hs,alJ,alQ,amg]
   ·exact(Tr.ax h).elim
  ·exact(Tr.ax h).elim
 ·rename_i e t' g off len hu;obtain⟨h0,h⟩:=Tr.aN h;have h0:=ali h0;simp only[gH,nu,hu];rw[if_pos h0]
  cases mx with
  |some _=>exact(Tr.ax h).elim
  |none=>
   obtain⟨l,h1,h⟩:=Tr.aC h;obtain⟨hh,h2,h⟩:=Tr.aC h;obtain⟨h3,h⟩:=Tr.aX h;have:=Tr.ay h;subst this;refine⟨?_,bH.nil,rfl⟩;simp only[Option.map_none,dm (ℓ:=ℓ) h1,dm (ℓ:=ℓ) h2];rw[if_pos (ali h3)];rfl
 ·exact(Tr.ax h).elim
end
section
variable{P:Program}{H:aV}{ℓ:Lens}
theorem Dl{place:Nat→Option (Nat×Nat)}:∀(ps:List (Nat×SV)) (cells r:List SV),FZ place cells ps=some r→CK place (cells.map (dC ℓ)) (ps.map fun p=>(p.1,dV ℓ p.2))=some (r.map (dC ℓ)):=by
 intro ps
 induction ps with
 |nil=>intro cells r h;cases h;rfl
 |cons p ps ih=>
  intro cells r h;obtain⟨i,v⟩:=p;simp only[FZ]at h;simp only[al3,CK];split at h
  ·cases h
  ·rename_i off size hp;simp only[hp];split at h
   ·rename_i hc;obtain⟨h1,h2,h3⟩:=hc;rw[jr (tZ h3)];rw[if_pos ⟨by rw[gW,ald];exact h1,by simpa using h2,by rw[FE];exact h3⟩];have:=ih _ _ h;rw[BG,←gW]at this;exact this
   ·cases h
theorem oV{t:TypeId}{v:SV}(h:H6 P t=some v):∃z,oo P t=some (cv z)∧v=svC z:=by
 unfold H6 at h;unfold oo;split at h
 ·rename_i i hi;split at h
  ·rename_i z hz;cases h;exact⟨z,by simp only[hi,hz],rfl⟩
  ·cases h
 ·cases h
theorem E5(fr:yN)(ps:Array (Nat×Operand)):(vJ fr ps).map (fun p=>(p.1,dV ℓ p.2))=partsOf (dF ℓ fr) ps:=by
 simp only[vJ,partsOf,amn];refine alO fun p _=> ?_
 simp only[Function.comp,eD]
theorem GU{t:TypeId}{ps:List (Nat×SV)}{u:SV}(h:FC P t ps=some u):wX P t (ps.map fun p=>(p.1,dV ℓ p.2))=some (dV ℓ u):=by
 unfold FC at h;split at h
 ·rename_i z fs hz hu;obtain⟨zv,h1,h2⟩:=oV hz;have hcv:cv zv= .agg (z.map (dC ℓ)):=by rw[←(Iz ℓ zv).1,←h2];rfl
  simp only[wX,h1,hcv,hu];split at h
  ·cases h
  ·rename_i hs;rw[if_neg hs];obtain⟨r,h3,rfl⟩:=alf.1 h;exact congrArg (Option.map AV.agg) (Dl (ℓ:=ℓ) _ _ _ h3)
 ·rename_i z n e hz hu;obtain⟨zv,h1,h2⟩:=oV hz;have hcv:cv zv= .agg (z.map (dC ℓ)):=by rw[←(Iz ℓ zv).1,←h2];rfl
  simp only[wX,h1,hcv,hu];split at h
  ·rename_i s hs;simp only[hs];obtain⟨r,h3,rfl⟩:=alf.1 h;exact congrArg (Option.map AV.agg) (Dl (ℓ:=ℓ) _ _ _ h3)
  ·cases h
 ·cases h
theorem ac5:∀(t:Ty) (cs:List SV) (x:t.den) (r:List SV),J2 t cs=some (x,r)→∃pre,cs=pre++r∧pre.map (fun c=>nt1 (dC ℓ c))=fT t x:=by
 intro t
 induction t with
 |int k=>
  intro cs x r h
  cases cs with
  |nil=>cases h
  |cons c cs=>
   cases c<;>first|(cases h;done)|skip
   simp only[J2]at h;split at h
   ·rename_i e;subst e;cases h;exact⟨[_],rfl,rfl⟩
   ·cases h
 |bool=>
  intro cs x r h
  cases cs with
  |nil=>cases h
  | cons c cs => cases c<;>first|(cases h;done)|skip
                 cases h;exact⟨[_],rfl,rfl⟩
 |str=>
  intro cs x r h
  cases cs with
  |nil=>cases h
  | cons c cs => cases c<;>first|(cases h;done)|skip
                 cases h;exact⟨[_],rfl,rfl⟩
 |row t ih=>
  intro cs x r h
  cases cs with
  |nil=>cases h
  |cons c cs=>
   cases c<;>first|cases h|skip
   rename_i t' l tg;simp only[J2]at h;split at h
   ·rename_i l' hl;cases h;refine⟨[_],rfl,?_⟩;have:=yH hl false;simp only[al3,alJ,dC,d1]
    show [nt1 (bR t' l tg)]=_
    rw[show nt1 (bR t' l tg)=bR t' l false from rfl,this];rfl
   ·cases h
 |unit=>intro cs x r h;cases h;exact⟨[],rfl,rfl⟩
 |cons a b iha ihb=>
  intro cs x r h;simp only[J2]at h;split at h
  ·rename_i y r1 h1;split at h
   ·rename_i z r2 h2;cases h;obtain⟨p1,rfl,f1⟩:=iha _ _ _ h1;obtain⟨p2,rfl,f2⟩:=ihb _ _ _ h2;exact⟨p1++p2,by simp,by rw[alB,f1,f2];rfl⟩
   ·cases h
  ·cases h
theorem yM{e:TypeId}{t:Ty}{x:t.den}(h:Ms P e t=some x):tQ P e=some (enc t x):=by
 unfold Ms at h;obtain⟨v,h1,h2⟩:=ame.1 h;obtain⟨zv,h3,rfl⟩:=oV h1;unfold tQ;rw[h3,al4,←(Iz (fun _=>0) zv).1]
 congr 1
 generalize svC zv=v at h2;unfold Oy at h2;split at h2
 ·rename_i hagg;split at h2
  ·rename_i y hy;cases h2;obtain⟨pre,e1,e2⟩:=ac5 (ℓ:=fun _=>0) t _ _ _ hy;rw[alE]at e1;subst e1;unfold enc wrap;rw[←e2,←hagg]
   cases v<;>first|rfl|(simp[SV.isAgg,SV.cells,dA,ntV];done)
  ·cases h2
 ·cases h2
theorem LM(ha:gq ℓ H){size:Nat}{t:Ty}:∀(ps:List (Nat×SV)) (es:List t.den) (l:List Nm) (r:List t.den×List Nm),(BI H size t es l ps).mean=some r→(∀g∈l,mR H g)→
  pW (dH ℓ H) size t.agg (es.map (enc t)) l (ps.map fun p=>(p.1,dV ℓ p.2))=some (r.1.map (enc t),r.2)∧(∀g∈r.2,mR H g):=by
 intro ps
 induction ps with
 |nil=>intro es l r h hl;have:=Tr.ay h;subst this;exact⟨rfl,hl⟩
 |cons p ps ih=>
  intro es l r h hl;obtain⟨i,v⟩:=p;simp only[BI]at h;obtain⟨⟨u,m⟩,h1,h2⟩:=Tr.aC h;obtain⟨h3,h4⟩:=Tr.aN h2;obtain⟨c1,c2,c3,c4⟩:=ali h3;obtain⟨y,h5,h6⟩:=Tr.aC h4;obtain⟨h7,h8⟩:=Tr.aX h6;obtain⟨e1,e2⟩:=uG ha h1;have hv:dV ℓ v=dA ℓ v:=by cases v<;>first|rfl|exact(Tr.ax h1).elim
  have hy:=wH (ℓ:=ℓ) (Tr.bX h5) c4;simp only[al3,pW,hv,e1];rw[if_pos ⟨by rw[gW,ald];exact c1,by rw[o5];exact c2,by simpa using ali h7,by rw[FE];exact c3⟩,hy,vM];exact ih _ _ _ h8 (fun g hg=>(alx.1 hg).elim (hl g) (e2 g))
theorem xK.one{slot:Nat}{b:SB}{new:List SB}(h:xK ℓ slot (b::new)):ℓ (slot,0)=b.len:=h 0 b rfl
theorem yG(ha:gq ℓ H){t:TypeId}{n:Nat}{ps:List (Nat×SV)}{slot:Nat}{r:fo}(h:(l6 P t n ps H slot).mean=some r)(hn:xK ℓ slot r.new):
  gG P t n (ps.map fun p=>(p.1,dV ℓ p.2)) (dH ℓ H) slot=some (dR ℓ r)∧bH H r.wr:=by
 unfold l6 at h;unfold gG;split at h
 ·rename_i e he;simp only[he];split at h
  ·rename_i size agg ty h1 h2 h3;obtain⟨h4,hA⟩:=Tr.aN h;obtain⟨c1,c2,c3,c4⟩:=ali h4;clear h h4;subst c3;subst c4;obtain⟨z,h5,h⟩:=Tr.aC hA;obtain⟨⟨es,l⟩,h6,h⟩:=Tr.aC h;have:=Tr.ay h;subst this;obtain⟨e1,e2⟩:=LM ha _ _ _ _ h6 (fun g hg=>by simp at hg);rw[List.map_replicate]at e1;simp only[h1,h2,yM (Tr.bX h5)];rw[if_pos ⟨c1,c2,by rw[kZ,eF],KD ty z⟩];simp only[e1];refine⟨?_,oH _⟩;have hl:=hn.one
   have hlen:∀(ps:List (Nat×SV)) (es:List ty.den) (l:List Nm) (r:List ty.den×List Nm),(BI H ty.size ty es l ps).mean=some r→r.1.length=es.length:=by
    intro ps
    induction ps with
    |nil=>intro es l r h;have:=Tr.ay h;subst this;rfl
    |cons p ps ih=>
     intro es l r h;obtain⟨i,v⟩:=p;simp only[BI]at h;obtain⟨_,_,h⟩:=Tr.aC h;obtain⟨_,h⟩:=Tr.aN h;obtain⟨_,_,h⟩:=Tr.aC h;obtain⟨_,h⟩:=Tr.aX h;rw[ih _ _ _ h,alU]
   have hl2:=hlen _ _ _ _ h6;simp only[List.length_replicate]at hl2;simp only[SB.len]at hl;have hw:dW ℓ (jJ H l)=stops (dH ℓ H) l:=lI e2;simp only[dR,lg,hl,hl2,hw,al3,alJ,dN,dB,Fz.n]
  ·exact(Tr.ax h).elim
 ·exact(Tr.ax h).elim
theorem Ad{t:TypeId}{l c:SV}{slot:Nat}{r:fo}(h:(nC P t l c slot).mean=some r)(hn:xK ℓ slot r.new):
  lG P t (dV ℓ l) (dV ℓ c) slot=some (dR ℓ r)∧bH H r.wr:=by
 unfold nC at h;split at h
 ·rename_i e k n k' m he;split at h
  ·rename_i size bytes ty h1 h2 h3;obtain⟨h4,hA⟩:=Tr.aN h;obtain⟨c1,c2,c3⟩:=ali h4;clear h h4;subst c3;obtain⟨z,h5,h⟩:=Tr.aC hA;obtain⟨h6,h⟩:=Tr.aX h;have:=Tr.ay h;subst this;obtain⟨d1,d2,d3⟩:=ali h6;have hl:=hn.one;simp only[SB.len,List.length_replicate]at hl;simp only[lG,he,fC,h1,h2,yM (Tr.bX h5)];rw[if_pos ⟨d1,d2,d3,c1,c2,by rw[kZ,eF],KD ty z⟩];refine⟨?_,bH.nil⟩;simp only[dR,lg,hl,dW,alJ,al3,dN,dB,Fz.n,List.map_replicate]
  ·exact(Tr.ax h).elim
 ·exact(Tr.ax h).elim
theorem wz{t t':Ty}{l:List t.den}{l':List t'.den}(h:zW l=some l'):l.map (enc t)=l'.map (enc t')∧(t'=t∨l'=[]):=by
 unfold zW at h;split at h
 ·rename_i e;subst e;cases h;exact⟨rfl,.inl rfl⟩
 ·split at h
  ·cases h;exact⟨rfl,.inr rfl⟩
  ·cases h
theorem Dm(ha:gq ℓ H){ty:Ty}{x:SV}{q:List ty.den×List Nm}(h:(JE H ty x).mean=some q):∃sz,jP (dH ℓ H) (dV ℓ x)=some (sz,q.1.map (enc ty),q.2)∧(sz=ty.size∨q.1.map (enc ty)=[]):=by
 unfold JE at h;split at h
 ·rename_i t l tg;obtain⟨l',h1,rfl⟩:=Tr.gV h;obtain⟨e1,e2⟩:=wz (Tr.bX h1);simp only[qf,bR,jP,e1];refine⟨_,rfl,?_⟩
  cases l' with
  |nil=>exact .inr rfl
  |cons y ys=>
   rcases e2 with rfl|e2
   ·exact .inl rfl
   ·cases e2
 ·rename_i t g;split at h
  ·rename_i t' l z hg;obtain⟨h0,hA⟩:=Tr.aN h;obtain⟨h0,hps⟩:=ali h0;subst h0;obtain⟨l',h1,rfl⟩:=Tr.gV hA;obtain⟨e1,e2⟩:=wz (Tr.bX h1);have hl:ℓ g=l.length:=ha g _ hg;simp only[lg,jP,eG,hg,alR,dB,hl];refine⟨t'.size,?_,?_⟩
   ·rw[if_pos (by simp[hps])];simp only[al9];rw[alP (by simp),e1]
   ·rcases e2 with rfl|e2
    ·exact .inl rfl
    ·exact .inr (by rw[e2];rfl)
  ·exact(Tr.ax h).elim
 ·rename_i t g off len;split at h
  ·rename_i t' l z hg;obtain⟨h0,hA⟩:=Tr.aN h;obtain⟨h0,hps⟩:=ali h0;subst h0;obtain⟨h2,hB⟩:=Tr.aX hA;obtain⟨l',h1,rfl⟩:=Tr.gV hB;obtain⟨e1,e2⟩:=wz (Tr.bX h1);simp only[nu,jP,eG,hg,alR,dB];refine⟨t'.size,?_,?_⟩
   ·rw[if_pos (by simpa[hps]using ali h2)];simp only[e1,List.map_drop,List.map_take]
   ·rcases e2 with rfl|e2
    ·exact .inl rfl
    ·exact .inr (by rw[e2];simp)
  ·exact(Tr.ax h).elim
 ·exact(Tr.ax h).elim
theorem Rx(z:Fz)(a b:Nat):(z.grow b).n (a+b)=z.n a:=by
 cases z<;>simp only[Fz.grow,Fz.n]<;>omega
theorem abO(z:Fz)(a:Nat):z.n a≤a:=by
 cases z<;>simp only[Fz.n]<;>omega
theorem EZ(ha:gq ℓ H){t:TypeId}{s x:SV}{slot:Nat}{r:fo}(h:(BR P t s x H slot).mean=some r)(hn:xK ℓ slot r.new):
  lF P t (dV ℓ s) (dV ℓ x) (dH ℓ H) slot=some (dR ℓ r)∧bH H r.wr:=by
 unfold BR at h;unfold lF;split at h
 ·rename_i e he;simp only[he];split at h
  ·rename_i size bytes z ty h1 h2 h3 h4;obtain⟨h5,hA⟩:=Tr.aN h;obtain⟨c1,c2,c3,c4,c5⟩:=ali h5;clear h h5;subst c5;obtain⟨⟨ys,m⟩,h6,h⟩:=Tr.aC hA;obtain⟨sz,e1,e2⟩:=Dm ha h6;simp only[h1,h2,h3,e1];rw[if_pos ⟨c1,c2,c3,c4,e2⟩];simp only at h
   have grown:∀(g:Nm) (l:List ty.den) (len:Nat) (z zz:Fz),bO H g=some (.arr ty l z)→len≤l.length→z.n l.length≤len→zz.n (len+ys.length)=z.n l.length→len+ys.length≤4294967296→
     r={val:=.own ty (slot,0),rd:=g::m,wr:=[(g,.dead l.length)],new:=[.arr ty (l.take len++ys) zz]}→
     (if True∧True∧True∧len≤(l.map (enc ty)).length∧True∧z.n l.length≤len∧len+(ys.map (enc ty)).length≤4294967296 then
      some ({val:=.own (slot,0) ty.size 0 (len+(ys.map (enc ty)).length),rd:=g::m,wr:=[(g,none)],new:=[⟨ty.size,(l.map (enc ty)).take len++ys.map (enc ty),z.n l.length,false⟩]}:iD)else none)=some (dR ℓ r)∧bH H r.wr:=by
    intro g l len z zz hg hlen hz hzz hle hr;subst hr;have hl:=hn.one;have htl:(l.take len).length=len:=by simp;omega
    simp only[SB.len,alz,htl]at hl;rw[if_pos ⟨trivial,trivial,trivial,by simpa using hlen,trivial,hz,by simpa using hle⟩];refine⟨?_,bH.one hg rfl⟩;simp only[dR,lg,hl,dW,al3,alJ,dB,dN,alB,alz,htl,hzz,ald,List.map_take]
   split at h
   ·rename_i t' l;obtain⟨l',h7,h⟩:=Tr.aC h;obtain⟨f1,f2⟩:=wz (Tr.bX h7)
    have key:((l'=[]∨ys≠ [])∧(Tr.need (decide (l'.length+ys.length≤4294967296)) (.ret ({val:=.own ty (slot,0),rd:=m,new:=[.arr ty (l'++ys) .zero]}:fo))).mean=some r)∨(l'≠ []∧ys=[]∧({val:=.row ty l' true,rd:=m}:fo)=r):=by
     have h:cond l'.isEmpty _ _=some r:=h;cases hle:l'.isEmpty
     ·rw[hle]at h;have h:cond ys.isEmpty _ _=some r:=h;cases hye:ys.isEmpty
      ·rw[hye]at h;exact .inl ⟨.inr (fun e=>by subst e;cases hye),h⟩
      ·rw[hye]at h;exact .inr ⟨(fun e=>by subst e;cases hle),List.isEmpty_iff.1 hye,Tr.ay h⟩
     ·rw[hle]at h;exact .inl ⟨.inl (List.isEmpty_iff.1 hle),h⟩
    clear h;rcases key with⟨hc,h⟩|⟨hln,hy,hr⟩
    ·obtain⟨h8,h⟩:=Tr.aX h;have:=Tr.ay h;subst this;have h8:=ali h8;have hl:=hn.one;simp only[SB.len,alz]at hl;simp only[qf,bR,f1]
     rw[if_neg (by
      rintro⟨a,b⟩;rcases hc with hc|hc
      ·exact b (by rw[hc];rfl)
      ·exact hc (List.map_eq_nil_iff.1 a)),if_pos]
     ·refine⟨?_,bH.nil⟩;simp only[dR,lg,hl,dW,al3,alJ,dB,dN,alB,Fz.n,ald]
     ·refine⟨trivial,?_,?_,?_⟩
      ·cases l' with
       |nil=>exact .inr rfl
       |cons y ys=>
        rcases f2 with rfl|f2
        ·exact .inl rfl
        ·cases f2
      ·rcases hc with hc|hc
       ·exact .inl (by rw[hc];rfl)
       ·exact .inr (by simpa using List.length_pos_iff.2 hc)
      ·simpa using h8
    ·subst hy hr;simp only[qf,bR,f1]
     cases l' with
     |nil=>exact absurd rfl hln
     |cons y ys=>
      rw[if_pos ⟨rfl,fun e=>by cases e⟩,if_pos (by
       rcases f2 with rfl|f2
       ·rfl
       ·cases f2)]
      exact⟨by simp only[dR,qf,bR,dW,alJ];rfl,bH.nil⟩
   ·rename_i t' g;split at h
    ·rename_i t2 l z hg;split at h
     ·rename_i ht;subst ht;obtain⟨h7,h⟩:=Tr.aN h;have h7:=ali h7;subst h7;obtain⟨h8,h⟩:=Tr.aX h;have:=Tr.ay h;have hlen:ℓ g=l.length:=ha g _ hg;simp only[lg,eG,hg,alR,dB,hlen];exact grown g l l.length z (z.grow ys.length) hg (alj _) (abO z _) (Rx z _ _) (ali h8) (by rw[amd];exact this.symm)
     ·exact(Tr.ax h).elim
    ·exact(Tr.ax h).elim
   ·rename_i t' g off len;split at h
    ·rename_i t2 l z hg;split at h
     ·rename_i ht;subst ht;obtain⟨h7,h⟩:=Tr.aN h;have h7:=ali h7;subst h7;split at h
      ·obtain⟨h8,h⟩:=Tr.aX h;have:=Tr.ay h;obtain⟨rfl,h8,h9⟩:=ali h8;simp only[nu,eG,hg,alR,dB];exact grown g l len .zero .zero hg h8 (alD _) rfl h9 this.symm
      ·obtain⟨h8,h⟩:=Tr.aX h;have:=Tr.ay h;obtain⟨rfl,rfl,h9⟩:=ali h8;simp only[nu,eG,hg,alR,dB];exact grown g l l.length z (z.grow ys.length) hg (alj _) (abO z _) (Rx z _ _) h9 (by rw[amd];exact this.symm)
     ·exact(Tr.ax h).elim
    ·exact(Tr.ax h).elim
   ·exact(Tr.ax h).elim
  ·exact(Tr.ax h).elim
 ·exact(Tr.ax h).elim
theorem LH{α β:Type}(f:α→β)(l:List α)(off:Nat)(new:List α):(cK l off new).map f=(l.map f).take off++new.map f++(l.map f).drop (off+(new.map f).length):=by
 simp[cK,alB,List.map_take,List.map_drop]
theorem Fb{α:Type}{l:List α}{off:Nat}{new:List α}(h:off+new.length≤l.length):(cK l off new).length=l.length:=by
 simp[cK];omega
theorem YP{g:Nm}{ty:Ty}{l:List ty.den}{off:Nat}{new:List ty.den}{v:SV}{rd:List Nm}(hg:bO H g=some (.arr ty l .zero))(hle:off+new.length≤l.length):
  dR ℓ ({val:=v,rd:=rd,wr:=[(g,.arr ty (cK l off new) .zero)]}:fo)=({val:=dV ℓ v,rd:=rd,wr:=[(g,some ⟨ty.size,splice (l.map (enc ty)) off (new.map (enc ty)),0,false⟩)]}:iD)∧bH H [(g,.arr ty (cK l off new) .zero)]:=by
 refine⟨?_,bH.one hg (Fb hle)⟩;simp only[dR,dW,al3,alJ,dB,LH,Fz.n,splice]
theorem JF(ha:gq ℓ H){t:TypeId}{d x:SV}{r:fo}(h:(KX P t d x H).mean=some r):uN P t (dV ℓ d) (dV ℓ x) (dH ℓ H)=some (dR ℓ r)∧bH H r.wr:=by
 unfold KX at h;unfold uN;split at h
 ·rename_i e he;simp only[he];split at h
  ·rename_i size ty h1 h2;obtain⟨h3,hA⟩:=Tr.aN h;obtain⟨c1,c2⟩:=ali h3;clear h h3;subst c2;obtain⟨⟨ys,m⟩,h4,h⟩:=Tr.aC hA;obtain⟨sz,e1,e2⟩:=Dm ha h4;simp only[h1,e1];simp only at h;split at h
   ·rename_i t' g;split at h
    ·rename_i t2 l hg;split at h
     ·rename_i ht;subst ht;obtain⟨h5,h⟩:=Tr.aN h;have h5:=ali h5;subst h5;have:=Tr.ay h;subst this;have hlen:ℓ g=l.length:=ha g _ hg;have hle:0+(ys.take l.length).length≤l.length:=by simp;omega
      obtain⟨m1,m2⟩:=YP (ℓ:=ℓ) (v:=.int .i64 (min ys.length l.length:Nat)) (rd:=g::m) hg hle;simp only[lg,eG,hg,alR,dB,hlen];rw[if_pos ⟨trivial,trivial,c1,by simp,trivial,alj _,e2⟩,m1];exact⟨by simp only[List.map_take,ald,fC,Fz.n],m2⟩
     ·exact(Tr.ax h).elim
    ·exact(Tr.ax h).elim
   ·rename_i t' g off len;split at h
    ·rename_i t2 l hg;split at h
     ·rename_i ht;subst ht;obtain⟨h5,h⟩:=Tr.aN h;have h5:=ali h5;subst h5;obtain⟨h6,h⟩:=Tr.aX h;have h6:=ali h6;have:=Tr.ay h;subst this;have hle:off+(ys.take len).length≤l.length:=by simp;omega
      obtain⟨m1,m2⟩:=YP (ℓ:=ℓ) (v:=.int .i64 (min ys.length len:Nat)) (rd:=g::m) hg hle;simp only[nu,eG,hg,alR,dB];rw[if_pos ⟨trivial,trivial,c1,by simpa using h6,trivial,alD _,e2⟩,m1];exact⟨by simp only[List.map_take,ald,fC,Fz.n],m2⟩
     ·exact(Tr.ax h).elim
    ·exact(Tr.ax h).elim
   ·exact(Tr.ax h).elim
  ·exact(Tr.ax h).elim
 ·exact(Tr.ax h).elim
theorem GD(ha:gq ℓ H){t:TypeId}{d:SV}{r:fo}(h:(Fv P t d H).mean=some r):p8 P t (dV ℓ d) (dH ℓ H)=some (dR ℓ r)∧bH H r.wr:=by
 unfold Fv at h;unfold p8;split at h
 ·rename_i e he;simp only[he];split at h
  ·rename_i size ty h1 h2;obtain⟨h3,hA⟩:=Tr.aN h;obtain⟨c1,c2⟩:=ali h3;clear h h3;subst c2;obtain⟨z,h4,h⟩:=Tr.aC hA;have z1:=yM (Tr.bX h4);have z2:(enc ty z).cells.length=ty.size:=by rw[kZ,eF]
   have z3:okV (enc ty z)=true:=KD ty z;simp only[h1,z1];split at h
   ·rename_i t' g;split at h
    ·rename_i t2 l hg;split at h
     ·rename_i ht;subst ht;obtain⟨h5,h⟩:=Tr.aN h;have h5:=ali h5;subst h5;have:=Tr.ay h;subst this;have hlen:ℓ g=l.length:=ha g _ hg;have hle:0+(List.replicate l.length z).length≤l.length:=by simp
      obtain⟨m1,m2⟩:=YP (ℓ:=ℓ) (v:=.tup []) (rd:=[g]) hg hle;simp only[lg,eG,hg,alR,dB,hlen];rw[if_pos ⟨trivial,trivial,c1,by simp,trivial,alj _,z2,z3⟩,m1];exact⟨by simp only[List.map_replicate,ald,pY,alJ,Fz.n],m2⟩
     ·exact(Tr.ax h).elim
    ·exact(Tr.ax h).elim
   ·rename_i t' g off len;split at h
    ·rename_i t2 l hg;split at h
     ·rename_i ht;subst ht;obtain⟨h5,h⟩:=Tr.aN h;have h5:=ali h5;subst h5;obtain⟨h6,h⟩:=Tr.aX h;have h6:=ali h6;have:=Tr.ay h;subst this;have hle:off+(List.replicate len z).length≤l.length:=by simp;omega
      obtain⟨m1,m2⟩:=YP (ℓ:=ℓ) (v:=.tup []) (rd:=[g]) hg hle;simp only[nu,eG,hg,alR,dB];rw[if_pos ⟨trivial,trivial,c1,by simpa using h6,trivial,alD _,z2,z3⟩,m1];exact⟨by simp only[List.map_replicate,ald,pY,alJ,Fz.n],m2⟩
     ·exact(Tr.ax h).elim
    ·exact(Tr.ax h).elim
   ·exact(Tr.ax h).elim
  ·exact(Tr.ax h).elim
 ·exact(Tr.ax h).elim
theorem N9(ha:gq ℓ H){t:TypeId}{x u:SV}(h:Qj P t x H=some u):Ma P t (dV ℓ x)=some (dV ℓ u):=by
 unfold Qj at h;unfold Ma;split at h
 ·rename_i hu;cases h;simp only[hu];rfl
 ·rename_i hu;simp only[hu]
  cases x with
  |row t l b=>cases h;simp[qf,bR,fC]
  |own t g=>
   simp only at h;split at h
   ·rename_i b hb;cases h;simp only[lg,fC,ha g b hb]
   ·cases h
  |part t g off len=>cases h;simp only[nu,fC]
  |_=>cases h
 ·rename_i hu;simp only[hu]
  cases x with
  |str s=>cases h;rfl
  |_=>cases h
 ·cases h
theorem SL:∀(r:List SV) (x u:SV),minS x r=some u→Pw (dV ℓ x) (r.map (dV ℓ))=some (dV ℓ u):=by
 intro r
 induction r with
 |nil=>
  intro x u h;unfold minS at h;split at h
  ·cases h;rfl
  ·cases h
 |cons y r ih=>
  intro x u h;unfold minS at h;split at h
  ·rename_i e;cases e
  ·rename_i e;cases e;split at h
   ·rename_i e;subst e;simp only[al3,fC,Pw,if_true];exact ih _ _ h
   ·cases h
  ·cases h
theorem Sq:∀(r:List SV) (x u:SV),maxS x r=some u→Pq (dV ℓ x) (r.map (dV ℓ))=some (dV ℓ u):=by
 intro r
 induction r with
 |nil=>
  intro x u h;unfold maxS at h;split at h
  ·cases h;rfl
  ·cases h
 |cons y r ih=>
  intro x u h;unfold maxS at h;split at h
  ·rename_i e;cases e
  ·rename_i e;cases e;split at h
   ·rename_i e;subst e;simp only[al3,fC,Pq,if_true];exact ih _ _ h
   ·cases h
  ·cases h
end
def xY(ℓ:Lens)(sub:List SB):Prop:=∀(j:Nat) (b:SB),sub[j]?=some b→ℓ (j,0)=b.len
def dO(ℓ:Lens)(out:SY):Out:=(dV ℓ out.1,out.2.1.map (dB ℓ),out.2.2.map (dN ℓ))
def eZ(P:Program)(f:FuncId)(c:gL):Prop:=∀(args:List SV) (sub:List SB) (out:SY),(c args sub).mean=some out→
 ∀ℓ0 ℓ':Lens,xY ℓ0 sub→xY ℓ' (out.2.1++out.2.2)→mX P f∧Contract P f (args.map (dV ℓ0)) (sub.map (dN ℓ0)) (dO ℓ' out)
open Classical in
noncomputable def only(f:FuncId)(args:List AV)(sub:List cB)(out:Out):CL:=fun f' args' sub'=>if f'=f∧args'=args∧sub'=sub then some out else none
theorem Sv(f:FuncId)(args:List AV)(sub:List cB)(out:Out):only f args sub out f args sub=some out:=by simp[only]
theorem PY{P:Program}{f:FuncId}{args:List AV}{sub:List cB}{out:Out}(h:mX P f∧Contract P f args sub out):Sound P (only f args sub out):=by
 intro f' args' sub' out' h';unfold only at h';split at h'
 ·rename_i e;obtain⟨rfl,rfl,rfl⟩:=e;cases h';exact h
 ·cases h'
theorem rA{P:Program}:Sound P (fun _ _ _=>none):=fun _ _ _ _ h=>by cases h
section
variable{P:Program}{H:aV}{ℓ ℓ0 ℓ':Lens}
theorem qo{b:SB}(h:b.alive=true):dB ℓ b=some (dN ℓ b):=by cases b<;>first|rfl|cases h
theorem Qm{v u:SV}{l:List Nm}(h:(jh H v).mean=some (u,l)):(∀ℓ ℓ':Lens,dC ℓ u=dC ℓ' u)∧Cy u=true:=by
 cases v with
 |own t g=>
  simp only[jh]at h;split at h
  ·split at h
   ·split at h
    ·have:=Tr.ay h;cases this;exact⟨fun _ _=>rfl,rfl⟩
    ·exact(Tr.ax h).elim
   ·exact(Tr.ax h).elim
  ·exact(Tr.ax h).elim
 |part t g off len=>
  simp only[jh]at h;split at h
  ·split at h
   ·split at h
    ·obtain⟨_,h⟩:=Tr.aX h;have:=Tr.ay h;cases this;exact⟨fun _ _=>rfl,rfl⟩
    ·exact(Tr.ax h).elim
   ·exact(Tr.ax h).elim
  ·exact(Tr.ax h).elim
 |row t l' tg=>have:=Tr.ay h;cases this;exact⟨fun _ _=>rfl,rfl⟩
 |undef|int k n|bool b|str s|nilp|nilf=>have:=Tr.ay h;cases this;exact⟨fun _ _=>rfl,rfl⟩
 |_=>exact(Tr.ax h).elim
theorem uq(ha:gq ℓ H){share:Bool}{f:Ren}(hg:Goes f ℓ ℓ0){v u:SV}(h:(vv H share f v).mean=some u):
  qU (dH ℓ H) share f (dC ℓ v)=some (dC ℓ0 u)∧Cy v=true∧Cy u=true∧(share=false→∀g∈dh v,mR H g):=by
 have own:∀(w:SV),(match share with|true=>False|false=>True)→w.isAgg=false→dC ℓ w=d1 ℓ w→((jh H w).map (·.1)).mean=some u→
   (eB (dH ℓ H) (dC ℓ w)).map (·.1)=some (dC ℓ0 u)∧Cy u=true∧∃l,(jh H w).mean=some (u,l):=by
  intro w _ _ hd hm;obtain⟨⟨u',l⟩,h1,rfl⟩:=Tr.gV hm;obtain⟨e1,_,_,_,_,e2⟩:=lS ha h1;obtain⟨e3,e4⟩:=Qm h1;refine⟨?_,e4,l,h1⟩;rw[hd,e1,al4];simp only;rw[←e2,e3 ℓ ℓ0]
 cases v with
 |own t g=>
  cases share with
  |true=>
   simp only[vv,if_true]at h;split at h
   ·rename_i g' hgg;have:=Tr.ay h;subst this;exact⟨by simp only[dC,d1,qU,if_true,hgg,hg g g' hgg],rfl,rfl,fun e=>by cases e⟩
   ·exact(Tr.ax h).elim
  |false=>
   simp only[vv,alo,if_false]at h;obtain⟨e1,e2,l,e3⟩:=own _ trivial rfl rfl h;refine⟨e1,rfl,e2,fun _ g' hg'=> ?_⟩;simp[dh]at hg';subst hg';simp only[jh]at e3;split at e3
   ·rename_i hq;exact⟨_,_,_,hq⟩
   ·exact(Tr.ax e3).elim
 |part t g off len=>
  cases share with
  |true=>
   simp only[vv,if_true]at h;split at h
   ·rename_i g' hgg;have:=Tr.ay h;subst this;exact⟨by simp only[dC,d1,qU,if_true,hgg],rfl,rfl,fun e=>by cases e⟩
   ·exact(Tr.ax h).elim
  |false=>
   simp only[vv,alo,if_false]at h;obtain⟨e1,e2,l,e3⟩:=own _ trivial rfl rfl h;refine⟨e1,rfl,e2,fun _ g' hg'=> ?_⟩;simp[dh]at hg';subst hg';simp only[jh]at e3;split at e3
   ·rename_i hq;exact⟨_,_,_,hq⟩
   ·exact(Tr.ax e3).elim
 |row t l tg=>
  have:=Tr.ay h;subst this;refine⟨?_,rfl,rfl,fun _ g' hg'=>by simp[dh]at hg'⟩;simp only[dC,d1,bR,qU,Nr]
 |agg cs=>exact(Tr.ax h).elim
 |tup vs=>exact(Tr.ax h).elim
 |ptr g sz i off=>
  have:=Tr.ay h;subst this;refine⟨?_,rfl,?_,fun _ g' hg'=>by simp[dh]at hg'⟩
  ·rw[←ve hg];rfl
  ·simp only[oJ,mM];cases f g<;>rfl
 |clo fn cs=>
  have:=Tr.ay h;subst this;exact⟨by rw[←ve hg];rfl,rfl,rfl,fun _ g' hg'=>by simp[dh]at hg'⟩
 |_=>
  have:=Tr.ay h;subst this;exact⟨by rw[←ve hg];rfl,rfl,rfl,fun _ g' hg'=>by simp[dh]at hg'⟩
theorem zq{α β:Type}{l:List α}{f g:α→List β}(h:∀a∈l,f a=g a):l.flatMap f=l.flatMap g:=by
 induction l with
 |nil=>rfl
 |cons a r ih=>rw[ams,ams,h a (by simp),ih (fun x hx=>h x (by simp[hx]))]
theorem AU{α β:Type}{f:α→Option β}:∀{l:List α} {m:List β},m.length=l.length→(∀(i:Nat) (a:α),l[i]?=some a→∃b,m[i]?=some b∧f a=some b)→l.mapM f=some m:=by
 intro l
 induction l with
 |nil=>
  intro m hl _
  cases m with
  |nil=>rfl
  |cons _ _=>cases hl
 |cons a r ih=>
  intro m hl h
  cases m with
  |nil=>cases hl
  |cons b m=>
   obtain⟨b',h1,h2⟩:=h 0 a rfl;cases h1;rw[List.mapM_cons,h2,ih (by simpa using hl) (fun i x hx=>h (i+1) x (by simpa using hx))];rfl
theorem CJ(ha:gq ℓ H){share:Bool}{f:Ren}(hg:Goes f ℓ ℓ0){v u:SV}(hv:oW v=true)(h:(VP H share f v).mean=some u):
  qL (dH ℓ H) share f (dV ℓ v)=some (dV ℓ0 u)∧(share=false→∀g∈dh v,mR H g):=by
 have one:(vv H share f v).mean=some u→v.isAgg=false→qL (dH ℓ H) share f (dV ℓ v)=some (dV ℓ0 u)∧(share=false→∀g∈dh v,mR H g):=by
  intro h hagg;obtain⟨e1,e2,e3,e4⟩:=uq ha hg h;rw[(Kw e2 ℓ).1,(Kw e3 ℓ0).1];refine⟨?_,e4⟩;rw[←e1]
  cases v<;>first|rfl|cases hagg
 cases v with
 |agg cs=>
  obtain⟨us,h1,rfl⟩:=Tr.gV h;obtain⟨e1,e2⟩:=Tr.BZ h1;refine⟨?_,fun hs g hgm=> ?_⟩
  ·simp only[vk,qL];rw[AU (m:=us.map (dC ℓ0)) (by simp[e1]) (fun i a hi=> ?_)]
   ·rfl
   ·rw[ale]at hi;obtain⟨c,h2,rfl⟩:=alf.1 hi;obtain⟨b,h3,h4⟩:=e2 i c h2;exact⟨dC ℓ0 b,by rw[ale,h3];rfl,(uq ha hg h4).1⟩
  ·simp only[dh,amC]at hgm;obtain⟨c,hc,hgc⟩:=hgm;obtain⟨i,hi⟩:=List.getElem?_of_mem hc;obtain⟨b,h3,h4⟩:=e2 i c hi;refine(uq ha hg h4).2.2.2 hs g ?_
   cases c<;>first|exact hgc|(simp at hgc;done)
 |tup vs=>cases hv
 |_=>exact one h rfl
theorem Dt{v:SV}(hv:oW v=true):bC (dV ℓ v)=dh v:=by
 cases v with
 |agg cs=>
  simp only[vk,bC,dh,List.flatMap_map]
  congr 1
  funext c
  cases c<;>rfl
 |tup vs=>cases hv
 |_=>rfl
theorem acA(v:SV):Ko (dV ℓ v)=Nc v:=by
 have h1:∀c,mU (d1 ℓ c)=mU (d1 (fun _=>0) c):=fun c=>by cases c<;>rfl
 have hC:∀c,mU (dC ℓ c)=mU (dC (fun _=>0) c):=fun c=>by cases c<;>rfl
 have hA:∀c,ES (dA ℓ c)=ES (dA (fun _=>0) c):=fun c=>by
  cases c with
  |agg cs=>simp only[dA,ES,List.all_map];congr 1;funext c;exact hC c
  |_=>rfl
 unfold Nc
 cases v with
 |tup vs=>simp only[dV,Ko,List.all_map];congr 1;funext c;exact hA c
 |agg cs=>exact hA (.agg cs)
 |_=>rfl
theorem M5:∀(a b:List SB),uy a b=true→b.length=a.length∧∀(i:Nat) (x y:SB),a[i]?=some x→b[i]?=some y→y.len=x.len:=by
 intro a
 induction a with
 |nil=>
  intro b h
  cases b with
  |nil=>exact⟨rfl,fun i x y h=>by simp at h⟩
  |cons _ _=>simp[uy]at h
 |cons x r ih=>
  intro b h
  cases b with
  |nil=>cases x<;>simp[uy]at h
  |cons y r'=>
   have key:y.len=x.len∧uy r r'=true:=by
    unfold uy at h;split at h
    ·rename_i e1 e2;cases e1;cases e2;exact⟨rfl,h⟩
    ·rename_i e1 e2;cases e1;cases e2;simpa using h
    ·rename_i e1 e2;cases e1
    ·cases h
   obtain⟨h1,h2⟩:=ih r' key.2;refine⟨by simp[h1],fun i u w e1 e2=> ?_⟩
   cases i with
   |zero=>simp at e1 e2;subst e1;subst e2;exact key.1
   |succ i=>exact h2 i u w (by simpa using e1) (by simpa using e2)
theorem uY(f:Ren)(b:SB):(fD f b).alive=b.alive:=by cases b<;>rfl
theorem KO(ha:gq ℓ H){f:FuncId}{share:Bool}{call:gL}(hc:eZ P f call){args:List SV}{slot:Nat}{r:fo}(h:(Kh share call args H slot).mean=some r)(hn:xK ℓ slot r.new):
  ∃c:CL,Sound P c∧mq share (c f) (args.map (dV ℓ)) (dH ℓ H) slot=some (dR ℓ r)∧bH H r.wr:=by
 unfold Kh at h;simp only at h;generalize hlent:(if share=true then []else args.flatMap dh)=lent at h;generalize hR:FU H (args.flatMap (if share=true then fun v=>xg v++dh v else xg))=R at h;split at h
 ·exact(Tr.ax h).elim
 ·rename_i hcond;simp only[amF,not_or,Bool.not_eq_true,Bool.not_eq_false',Bool.not_eq_eq_eq_not,al2,aly]at hcond;obtain⟨hdis,hnt⟩:=hcond;have hnt:∀v∈args,oW v=true:=by simpa using hnt
  obtain⟨args',h1,h⟩:=Tr.aC h;split at h
  ·rename_i sub hsub;obtain⟨out,h2,h⟩:=Tr.aC h;obtain⟨h3,h⟩:=Tr.aX h;obtain⟨h4,h⟩:=Tr.aN h;have:=Tr.ay h;subst this;obtain⟨L1,L2⟩:=M5 _ _ h3;have hal:∀b∈out.2.2,b.alive=true:=by simpa using h4
   obtain⟨S1,S2⟩:=mapM_some _ _ _ hsub
   let f0:Ren:=fun g=>(idxOf g R 0).map fun i=>(i,0)
   let l0:Lens:=fun g=>match R[g.1]? with
    |some g'=>ℓ g'
    |none=>0
   let b:=bU R slot
   let l1:Lens:=fun g=>match b g with
    |some g'=>ℓ g'
    |none=>0
   have hg0:Goes f0 ℓ l0:=by
    intro g g' e;obtain⟨i,hi,rfl⟩:=alf.1 e;obtain⟨_,hR⟩:=iI g R 0 i hi;simp only[Nat.sub_zero]at hR
    show(match R[i]? with|some g'=>ℓ g'|none=>0)=ℓ g
    rw[hR]
   have hg1:Goes b l1 ℓ:=by
    intro g g' e
    show ℓ g'=(match b g with|some g'=>ℓ g'|none=>0)
    rw[e]
   have hsub0:xY l0 sub:=by
    intro j x hj;have hjR:j<R.length:=by rw[←S1];exact(akX.1 hj).1
    obtain⟨y,e1,e2⟩:=S2 j R[j] (alh hjR);rw[hj]at e1;cases e1;obtain⟨b0,e3,e4⟩:=ame.1 e2;split at e4
    ·cases e4
     show(match R[j]? with|some g'=>ℓ g'|none=>0)=_
     rw[alh hjR,iO];exact ha _ _ e3
    ·cases e4
   have hlenR:out.2.1.length=R.length:=by rw[L1,S1]
   have hout:xY l1 (out.2.1++out.2.2):=by
    intro j x hj;rcases am8 j R.length with hlt|hge
    ·rw[alp (by omega)]at hj;have hb:b (j,0)=some R[j]:=by simp[b,bU,hlt]
     show(match b (j,0)with|some g'=>ℓ g'|none=>0)=_
     rw[hb];have hjs:j<sub.length:=by omega
     obtain⟨y,e1,e2⟩:=S2 j R[j] (alh hlt);obtain⟨b0,e3,e4⟩:=ame.1 e2;split at e4
     ·cases e4;rw[L2 j _ x e1 hj,iO];exact ha _ _ e3
     ·cases e4
    ·rw[alm (by omega),hlenR]at hj;have hb:b (j,0)=some (slot,j-R.length):=by simp[b,bU,Nat.not_lt.2 hge]
     show(match b (j,0)with|some g'=>ℓ g'|none=>0)=_
     rw[hb];simp only;rw[hn (j-R.length) (fD b x) (by simp only[ale,hj];rfl),iO]
   have hcall:=hc args' sub out h2 l0 l1 hsub0 hout;refine⟨only f (args'.map (dV l0)) (sub.map (dN l0)) (dO l1 out),PY hcall,?_,?_⟩
   ·
    unfold mq;simp only
    have elent:(if share=true then []else(args.map (dV ℓ)).flatMap bC)=lent:=by
     rw[←hlent];split
     ·rfl
     ·rw[List.flatMap_map];exact zq fun v hv=>Dt (hnt v hv)
    have eR:reach (dH ℓ H) ((args.map (dV ℓ)).flatMap (if share=true then fun v=>fu v++bC v else fu))=R:=by
     rw[←hR,Ri,List.flatMap_map]
     congr 1
     refine zq fun v hv=> ?_
     have hs:fu (dV ℓ v)=xg v:=by rw[jr (hnt v hv)];exact Xv ℓ v
     split
     ·simp only[hs,Dt (hnt v hv)]
     ·exact hs
    rw[elent,eR];obtain⟨M1,M2⟩:=Tr.BZ h1
    have eargs:(args.map (dV ℓ)).mapM (qL (dH ℓ H) share f0)=some (args'.map (dV l0)):=by
     refine AU (by simp[M1]) (fun i a hi=> ?_);rw[ale]at hi;obtain⟨v,e1,rfl⟩:=alf.1 hi;obtain⟨u,e2,e3⟩:=M2 i v e1;exact⟨dV l0 u,by rw[ale,e2];rfl,(CJ ha hg0 (hnt v (alb e1)) e3).1⟩
    have esub:R.mapM (fun g=>(get (dH ℓ H) g).map (bZ f0))=some (sub.map (dN l0)):=by
     refine AU (by simp[S1]) (fun i g hi=> ?_);obtain⟨y,e1,e2⟩:=S2 i g hi;obtain⟨b0,e3,e4⟩:=ame.1 e2;split at e4
     ·rename_i hb0;cases e4;refine⟨dN l0 (fD f0 b0),by rw[ale,e1];rfl,?_⟩;rw[eG,e3,alR,vR hg0];exact qo (by rw[uY];exact hb0)
     ·cases e4
    rw[if_neg (by simpa using hdis)]
    show(match(args.map (dV ℓ)).mapM (qL (dH ℓ H) share f0),R.mapM (fun g=>(get (dH ℓ H) g).map (bZ f0))with
     |some args',some sub=>_
     |_,_=>none)=_
    rw[eargs,esub];simp only[Sv,dO];rw[if_pos (by simpa using hlenR)]
    have harr:∀g∈lent,mR H g:=by
     intro g hg;rw[←hlent]at hg;split at hg
     ·cases hg
     ·rename_i hs;obtain⟨v,hv,hgv⟩:=amC.1 hg;obtain⟨i,hi⟩:=List.getElem?_of_mem hv;obtain⟨u,e2,e3⟩:=M2 i v hi;exact(CJ ha hg0 (hnt v hv) e3).2 (by simpa using hs) g hgv
    have ewr:((R.zip (out.2.1.map (dB l1))).map fun p=>(p.1,p.2.map (bZ (bU R slot))))=dW ℓ ((R.zip out.2.1).map fun p=>(p.1,fD (bU R slot) p.2)):=by
     simp only[dW,amn,List.zip_map_right];refine alO fun p _=> ?_
     simp only[Function.comp,Prod.map,id];exact congrArg (Prod.mk p.1) (vR hg1 p.2)
    have enew:(out.2.2.map (dN l1)).map (bZ (bU R slot))=(out.2.2.map (fD (bU R slot))).map (dN ℓ):=by
     simp only[amn];refine alO fun x hx=> ?_
     have e:=vR hg1 x;rw[qo (hal x hx),al4,qo (by rw[uY];exact hal x hx)]at e;exact Option.some.inj e
    have eval:BJ (bU R slot) (dV l1 out.1)=dV ℓ (sK (bU R slot) out.1):=K4 hg1 out.1
    have ewr2:(if(Nc out.1&&out.2.2.isEmpty&&R.isEmpty)=true then []else stops (dH ℓ H) lent)=dW ℓ (if(Nc out.1&&out.2.2.isEmpty&&R.isEmpty)=true then []else jJ H lent):=by
     split
     ·rfl
     ·exact(lI harr).symm
    simp only[dR,eval,ewr,enew,acA,List.isEmpty_map,ewr2];simp only[dW,alB]
   ·
    refine bH.append ?_ ?_
    ·intro p hp x hx;simp only[amb]at hp;obtain⟨⟨g,y⟩,hz,rfl⟩:=hp;obtain⟨i,hi⟩:=List.getElem?_of_mem hz;rw[List.getElem?_zip_eq_some]at hi;obtain⟨i1,i2⟩:=hi;obtain⟨z,e1,e2⟩:=S2 i g i1;obtain⟨b0,e3,e4⟩:=ame.1 e2;split at e4
     ·cases e4;simp only at hx;rw[e3]at hx;cases hx;simp only[iO];rw[L2 i _ y e1 i2,iO]
     ·cases e4
    ·split
     ·exact bH.nil
     ·exact oH _
  ·exact(Tr.ax h).elim
theorem PN{c:Bool}{a b u:SV}(h:(XM c a b).mean=some u):wB c (dV ℓ a) (dV ℓ b)=dV ℓ u:=by
 unfold XM at h;split at h
 ·have:=Tr.ay h;subst this;simp only[pQ,wB];cases c<;>rfl
 ·rename_i hn
  have key:wB c (dV ℓ a) (dV ℓ b)=if c then dV ℓ a else dV ℓ b:=by
   unfold wB;split
   ·rename_i p q e1 e2
    cases a<;>first|(cases e1;done)|skip
    cases b<;>first|(cases e2;done)|skip
    exact absurd rfl (hn _ _ rfl)
   ·rfl
  rw[key]
  cases c with
  |true=>have:=Tr.ay (show(Tr.ret a).mean=some u from h);subst this;rfl
  |false=>have:=Tr.ay (show(Tr.ret b).mean=some u from h);subst this;rfl
theorem MR{ty:Ty}(h:YN ty=true)(x:ty.den):okS (enc ty x)=true∧dV ℓ (DU ty x)=enc ty x∧dA ℓ (DU ty x)=enc ty x:=by
 cases ty<;>first|exact⟨rfl,rfl,rfl⟩|cases h
theorem Rt{ty:Ty}(h:YN ty=true){v:SV}{x:ty.den}(hx:Oy ty v=some x):dV ℓ v=enc ty x∧dA ℓ v=enc ty x:=by
 unfold Oy at hx;split at hx
 ·split at hx
  ·rename_i y hy;cases hx
   cases ty with
   |int k=>cases v<;>simp[SV.cells,J2]at hy<;>first|(obtain⟨rfl,hy⟩:=hy;cases hy;exact⟨rfl,rfl⟩)|(rename_i ha;simp[SV.isAgg,Ty.agg]at ha)
   |bool=>cases v<;>simp[SV.cells,J2]at hy<;>first|(cases hy;exact⟨rfl,rfl⟩)|(rename_i ha;simp[SV.isAgg,Ty.agg]at ha)
   |str=>cases v<;>simp[SV.cells,J2]at hy<;>first|(cases hy;exact⟨rfl,rfl⟩)|(rename_i ha;simp[SV.isAgg,Ty.agg]at ha)
   |_=>cases h
  ·cases hx
 ·cases hx
theorem FD{ty:Ty}(n:Int):∀l:List (Int×ty.den),mG n (l.map fun p=>AV.agg [.int .i64 p.1,enc ty p.2])=(sO n l).map (enc ty)
 | []=>rfl
 |p::r=>by
  simp only[al3,mG,sO];split
  ·rfl
  ·exact FD n r
theorem IV{ty:Ty}(n:Int)(x:ty.den):∀l:List (Int×ty.den),pq n (enc ty x) (l.map fun p=>AV.agg [.int .i64 p.1,enc ty p.2])=(QN n x l).map fun p=>AV.agg [.int .i64 p.1,enc ty p.2]
 | []=>rfl
 |p::r=>by
  simp only[al3,pq,QN];split
  ·rfl
  ·simp only[al3,IV n x r]
theorem QH{g:Nm}{ty:Ty}{l:List (Int×ty.den)}(hg:bO H g=some (.mp ty l)):zu (dH ℓ H) (.ptr g 0 0 0)=some (g,⟨0,l.map fun p=>AV.agg [.int .i64 p.1,enc ty p.2],0,false⟩):=by
 simp only[zu,eG,hg,alR,dB,true_and,if_true]
theorem D8{t:TypeId}{m k:SV}{ok:Bool}{r:fo}(h:(yE P t m k ok H).mean=some r):jN P t (dV ℓ m) (dV ℓ k) ok (dH ℓ H)=some (dR ℓ r)∧bH H r.wr:=by
 unfold yE at h;split at h
 ·rename_i et g n ht;split at h
  ·rename_i ty l z hg hz;obtain⟨h1,h⟩:=Tr.aN h;obtain⟨x,h2,h⟩:=Tr.aC h;have:=Tr.ay h;subst this;refine⟨?_,bH.nil⟩;obtain⟨zv,h3,rfl⟩:=oV hz;have h4:cv zv=enc ty x:=by rw[←(Iz ℓ zv).2];exact(Rt h1 (Tr.bX h2)).1
   have h5:=fun y=>MR (ℓ:=ℓ) h1 y
   have h6:(Option.map (enc ty) (sO n l)).getD (enc ty x)=enc ty ((sO n l).getD x):=by cases sO n l<;>rfl
   have h7:(Option.map (enc ty) (sO n l)).isSome=(sO n l).isSome:=by cases sO n l<;>rfl
   simp only[jN,ht,qh,fC,QH hg,h3,h4,FD,h6,h7];rw[if_pos (h5 x).1]
   cases ok with
   |true=>simp only[if_true,dR,pY,al3,alJ,(h5 _).2.2,dW];rfl
   |false=>simp only[alo,if_false,dR,(h5 _).2.1,dW,alJ]
  ·exact(Tr.ax h).elim
 ·exact(Tr.ax h).elim
theorem zx{t:TypeId}{m k v:SV}{r:fo}(h:(nA P t m k v H).mean=some r):iw P t (dV ℓ m) (dV ℓ k) (dV ℓ v) (dH ℓ H)=some (dR ℓ r)∧bH H r.wr:=by
 unfold nA at h;split at h
 ·rename_i et g n ht;split at h
  ·rename_i ty l hg;obtain⟨h1,h⟩:=Tr.aN h;obtain⟨x,h2,h⟩:=Tr.aC h;have:=Tr.ay h;subst this;refine⟨?_,bH.one hg rfl⟩;simp only[iw,ht,qh,fC,QH hg,(Rt (ℓ:=ℓ) h1 (Tr.bX h2)).1,IV];rw[if_pos (MR (ℓ:=ℓ) h1 x).1];rfl
  ·exact(Tr.ax h).elim
 ·exact(Tr.ax h).elim
theorem Dh{t:TypeId}{v:SV}{slot:Nat}{r:fo}(h:(EY P t v slot).mean=some r):Ir P t (dV ℓ v) slot=some (dR ℓ r)∧bH H r.wr:=by
 unfold EY at h;unfold Ir;split at h
 ·rename_i size hs;obtain⟨h1,h⟩:=Tr.aN h;obtain⟨c1,c2,c3⟩:=ali h1;have:=Tr.ay h;subst this;simp only[hs,jr (tZ c2)];rw[if_pos ⟨by rw[gW,ald];exact c1,by rw[FE];exact c2,c3⟩];exact⟨rfl,bH.nil⟩
 ·exact(Tr.ax h).elim
theorem Gp{fr:yN}{t:TypeId}{x:Operand}{slot:Nat}{r:fo}(h:(wR P fr t x slot).mean=some r)(hn:xK ℓ slot r.new):lN P (dF ℓ fr) t x slot=some (dR ℓ r)∧bH H r.wr:=by
 unfold wR at h;split at h
 ·unfold lN;split at h
  ·rename_i e he;split at h
   ·rename_i size ty h1 h2;obtain⟨h3,h⟩:=Tr.aN h;have h3:=ali h3;have:=Tr.ay h;subst this;have hl:=hn.one;simp only[SB.len,List.length_nil]at hl;simp only[he,h1];refine⟨?_,bH.nil⟩;simp only[dR,lg,hl,h3,dW,alJ,al3,dN,dB,Fz.n]
   ·exact(Tr.ax h).elim
  ·exact(Tr.ax h).elim
 ·rename_i hx;have:=Tr.ay h;subst this;refine⟨?_,bH.nil⟩
  have e:lN P (dF ℓ fr) t x slot=some {val:=sP (dF ℓ fr) x}:=by
   unfold lN;split
   ·exact absurd rfl hx
   ·rfl
  rw[e];simp only[dR,eD,dW,alJ]
theorem RQ{v:SV}(h:MJ v=true)(ℓ:Lens):dV ℓ v=d1 ℓ v:=by cases v<;>first|rfl|cases h
theorem Ac{N:FuncId→Note}{call:FuncId→gL}(hc:∀f,eZ P f (call f)){o:Oper}{fr:yN}{slot:Nat}{r:fo}(ha:gq ℓ H)(h:(jU P N call o fr H slot).mean=some r)(hn:xK ℓ slot r.new):
  ∃c:CL,Sound P c∧aQ P N c o (dF ℓ fr) (dH ℓ H) slot=some (dR ℓ r)∧bH H r.wr:=by
 obtain⟨dst,op,type,pos,after,guard⟩:=o
 have plain:(∀c:CL,aQ P N c ⟨dst,op,type,pos,after,guard⟩ (dF ℓ fr) (dH ℓ H) slot=some (dR ℓ r))∧bH H r.wr→∃c:CL,Sound P c∧aQ P N c ⟨dst,op,type,pos,after,guard⟩ (dF ℓ fr) (dH ℓ H) slot=some (dR ℓ r)∧bH H r.wr:=
  fun h=>⟨fun _ _ _=>none,rA,h.1 _,h.2⟩
 have val:∀{t:Tr SV},(t.map vB).mean=some r→∃u,t.mean=some u∧dR ℓ r={val:=dV ℓ u}∧bH H r.wr:=by
  intro t h;obtain⟨u,h1,rfl⟩:=Tr.gV h;exact⟨u,h1,rfl,bH.nil⟩
 cases op with
 |move x=>
  have:=Tr.ay h;subst this;exact plain ⟨fun c=>by simp only[aQ,dR,eD,dW,alJ],bH.nil⟩
 |assign x=>
  obtain⟨e1,e2⟩:=Gp (H:=H) (show(wR P fr type x slot).mean=some r from h) hn;exact plain ⟨fun c=>e1,e2⟩
 |pick c a b=>
  simp only[jU]at h;split at h
  ·rename_i p hp;obtain⟨u,h1,e1,e2⟩:=val h;refine plain ⟨fun c'=> ?_,e2⟩;have:=eD ℓ fr c;rw[hp]at this;simp only[aQ,←eD,e1];rw[show dV ℓ (yV fr c)= .bool p from by rw[hp];rfl];simp only[PN h1]
  ·exact(Tr.ax h).elim
 |alloc t=>
  simp only[jU]at h;split at h
  ·rename_i z hz;obtain⟨zv,h1,rfl⟩:=oV hz;obtain⟨e1,e2⟩:=Dh (ℓ:=ℓ) (H:=H) h;rw[(Iz ℓ zv).2]at e1;exact plain ⟨fun c=>by simp only[aQ,h1,e1],e2⟩
  ·exact(Tr.ax h).elim
 |box t x=>
  obtain⟨e1,e2⟩:=Dh (ℓ:=ℓ) (H:=H) (show(EY P t (yV fr x) slot).mean=some r from h);exact plain ⟨fun c=>by simp only[aQ,←eD,e1],e2⟩
 |build t ps=>
  obtain⟨u,h1,e1,e2⟩:=val h;have:=GU (ℓ:=ℓ) (Tr.bX h1);rw[E5]at this;exact plain ⟨fun c=>by simp only[aQ,one,this,e1,al4],e2⟩
 |buildSlice t n ps=>
  obtain⟨e1,e2⟩:=yG ha (show(l6 P t n (vJ fr ps) H slot).mean=some r from h) hn;rw[E5]at e1;exact plain ⟨fun c=>e1,e2⟩
 |load t a=>
  obtain⟨e1,e2⟩:=ze (ℓ:=ℓ) (show(zk P t (yV fr a) H).mean=some r from h);exact plain ⟨fun c=>by simp only[aQ,←eD,e1],by rw[e2];exact bH.nil⟩
 |store t a x=>
  obtain⟨e1,e2,_⟩:=Gx ha (show(Al P t (yV fr a) (yV fr x) H).mean=some r from h);exact plain ⟨fun c=>by simp only[aQ,←eD,e1],e2⟩
 |nilCheck x=>
  simp only[jU]at h;split at h
  ·rename_i hx;obtain⟨h0,h⟩:=Tr.aN h;have:=Tr.ay h;subst this;exact plain ⟨fun c=>by simp only[aQ,←eD,hx,qh];rw[if_pos (ali h0)];rfl,bH.nil⟩
  ·rename_i hx;have:=Tr.ay h;subst this;exact plain ⟨fun c=>by simp only[aQ,←eD,hx];rfl,bH.nil⟩
  ·exact(Tr.ax h).elim
 |binOp op t x y yt=>
  obtain⟨u,h1,e1,e2⟩:=val h;exact plain ⟨fun c=>by simp only[aQ,one,←eD,Kj (ℓ:=ℓ) h1,e1,al4],e2⟩
 |unOp op t x=>
  obtain⟨u,h1,e1,e2⟩:=val h;exact plain ⟨fun c=>by simp only[aQ,one,←eD,Qz (ℓ:=ℓ) (Tr.bX h1),e1,al4],e2⟩
 |convert a b x=>
  obtain⟨u,h1,e1,e2⟩:=val h;exact plain ⟨fun c=>by simp only[aQ,one,←eD,DF (ℓ:=ℓ) (Tr.bX h1),e1,al4],e2⟩
 |makeFunc fn first caps=>
  cases fn with
  |func f=>
   simp only[jU]at h;split at h
   ·rename_i hf;obtain⟨h1,h⟩:=Tr.aN h;have:=Tr.ay h;subst this;refine plain ⟨fun c=> ?_,bH.nil⟩;simp only[aQ];rw[if_pos hf];simp only[dR,OD,dW,alJ,amn]
    congr 3
    refine alO fun x hx=> ?_
    simp only[Function.comp,←eD];have:MJ (yV fr x)=true:=(alF.1 h1) x hx;exact RQ this ℓ
   ·exact(Tr.ax h).elim
  |_=>exact(Tr.ax h).elim
 |makeSlice t l c=>
  obtain⟨e1,e2⟩:=Ad (ℓ:=ℓ) (H:=H) (show(nC P t (yV fr l) (yV fr c) slot).mean=some r from h) hn;exact plain ⟨fun c=>by simp only[aQ,←eD,e1],e2⟩
 |slice t x lo hi mx=>
  obtain⟨e1,e2,_⟩:=GX ha (show(Ah P t (yV fr x) (lo.map (yV fr)) (hi.map (yV fr)) (mx.map (yV fr)) H).mean=some r from h);refine plain ⟨fun c=> ?_,e2⟩;simp only[aQ,←eD];have conv:∀o:Option Operand,Option.map (fun x=>dV ℓ (yV fr x)) o=(o.map (yV fr)).map (dV ℓ):=fun o=>by cases o<;>rfl
  have ev':sP (dF ℓ fr)=fun x=>dV ℓ (yV fr x):=funext fun x=>(eD ℓ fr x).symm
  rw[ev',conv,conv,conv];exact e1
 |fieldAddr t x f=>
  obtain⟨u,h1,e1,e2⟩:=val h;exact plain ⟨fun c=>by simp only[aQ,one,←eD,zQ (ℓ:=ℓ) (Tr.bX h1),e1,al4],e2⟩
 |field t x f=>
  obtain⟨u,h1,e1,e2⟩:=val h;exact plain ⟨fun c=>by simp only[aQ,one,←eD,GK (ℓ:=ℓ) (Tr.bX h1),e1,al4],e2⟩
 |indexAddr t x i=>
  obtain⟨u,h1,e1,e2⟩:=val h;exact plain ⟨fun c=>by simp only[aQ,one,←eD,Ap ha h1,e1,al4],e2⟩
 |index t x i=>
  obtain⟨u,h1,e1,e2⟩:=val h;exact plain ⟨fun c=>by simp only[aQ,one,←eD,Gj (ℓ:=ℓ) h1,e1,al4],e2⟩
 |lookup t m k ok=>
  simp only[jU]at h;split at h
  ·rename_i hm;obtain⟨e1,e2⟩:=D8 (ℓ:=ℓ) h
   have h0:∀(g:Nm) (a b c:Nat) (w:AV),oQ P t (.ptr g a b c) w ok=none:=fun g a b c w=>by
    unfold oQ;split
    ·exact AV.noConfusion ‹AV.ptr g a b c=AV.fm _›
    ·rfl
   rw[qh]at e1;exact plain ⟨fun c=>by simp only[aQ,←eD,hm,qh,h0];exact e1,e2⟩
  ·obtain⟨u,h1,e1,e2⟩:=val h;exact plain ⟨fun c=>by simp only[aQ,←eD,Gr (ℓ:=ℓ) h1];exact congrArg some e1.symm,e2⟩
 |mapUpdate t m k v=>
  obtain⟨e1,e2⟩:=zx (ℓ:=ℓ) (show(nA P t (yV fr m) (yV fr k) (yV fr v) H).mean=some r from h);exact plain ⟨fun c=>by simp only[aQ,←eD,e1],e2⟩
 |makeMap t rv=>
  cases rv with
  |none=>
   have h:(yL P t slot).mean=some r:=h;unfold yL at h;split at h
   ·have:=Tr.ay h;subst this;exact plain ⟨fun c=>rfl,bH.nil⟩
   ·exact(Tr.ax h).elim
  |some _=>exact(Tr.ax h).elim
 |extract x i=>
  simp only[jU]at h;split at h
  ·rename_i vs hx;split at h
   ·rename_i v hv;obtain⟨h1,h⟩:=Tr.aN h;have:=Tr.ay h;subst this;refine plain ⟨fun c=> ?_,bH.nil⟩;simp only[aQ,←eD,hx,pY,ale,hv,al4,dR,jr h1,dW,alJ]
   ·exact(Tr.ax h).elim
  ·exact(Tr.ax h).elim
 |call c=>
  simp only[jU]at h;split at h
  ·rename_i f hcal;split at h
   ·rename_i fn caps hf;obtain⟨h1,h⟩:=Tr.aN h;obtain⟨cl,s1,s2,s3⟩:=KO ha (hc fn) h hn;refine⟨cl,s1,?_,s3⟩;simp only[aQ,hcal,←eD,hf,OD];have ev':sP (dF ℓ fr)=fun x=>dV ℓ (yV fr x):=funext fun x=>(eD ℓ fr x).symm
    rw[ev',←s2,alB,amn]
    congr 2
    refine alO fun x hx=> ?_
    have:MJ x=true:=(alF.1 h1) x hx;exact(RQ this ℓ).symm
   ·exact(Tr.ax h).elim
  ·rename_i hcal;split at h
   ·rename_i x t hx ht;obtain⟨u,h1,e1,e2⟩:=val h;exact plain ⟨fun c'=>by simp only[aQ,hcal,hx,ht,one,←eD,N9 ha (Tr.bX h1),e1,al4],e2⟩
   ·exact(Tr.ax h).elim
  ·rename_i hcal;split at h
   ·rename_i s x t t' hx ht;obtain⟨h1,h⟩:=Tr.aN h;obtain⟨e1,e2⟩:=EZ ha h hn;exact plain ⟨fun c'=>by simp only[aQ,hcal,hx,ht];rw[if_pos (ali h1),←eD,←eD];exact e1,e2⟩
   ·exact(Tr.ax h).elim
  ·rename_i hcal;split at h
   ·rename_i d x t t' hx ht;obtain⟨e1,e2⟩:=JF ha h;exact plain ⟨fun c'=>by simp only[aQ,hcal,hx,ht];rw[←eD,←eD];exact e1,e2⟩
   ·exact(Tr.ax h).elim
  ·rename_i hcal;split at h
   ·rename_i d t hx ht;obtain⟨e1,e2⟩:=GD ha h;exact plain ⟨fun c'=>by simp only[aQ,hcal,hx,ht];rw[←eD];exact e1,e2⟩
   ·exact(Tr.ax h).elim
  ·rename_i hcal;split at h
   ·rename_i x rr hx;obtain⟨u,h1,e1,e2⟩:=val h;have:=SL (ℓ:=ℓ) _ _ _ (Tr.bX h1);refine plain ⟨fun c'=> ?_,e2⟩;have ev':sP (dF ℓ fr)=fun x=>dV ℓ (yV fr x):=funext fun x=>(eD ℓ fr x).symm
    simp only[aQ,hcal];rw[ev',show c.args.toList.map (fun x=>dV ℓ (yV fr x))=(c.args.toList.map (yV fr)).map (dV ℓ)from by rw[amn];rfl,hx];simp only[al3,one,this,e1,al4]
   ·exact(Tr.ax h).elim
  ·rename_i hcal;split at h
   ·rename_i x rr hx;obtain⟨u,h1,e1,e2⟩:=val h;have:=Sq (ℓ:=ℓ) _ _ _ (Tr.bX h1);refine plain ⟨fun c'=> ?_,e2⟩;have ev':sP (dF ℓ fr)=fun x=>dV ℓ (yV fr x):=funext fun x=>(eD ℓ fr x).symm
    simp only[aQ,hcal];rw[ev',show c.args.toList.map (fun x=>dV ℓ (yV fr x))=(c.args.toList.map (yV fr)).map (dV ℓ)from by rw[amn];rfl,hx];simp only[al3,one,this,e1,al4]
   ·exact(Tr.ax h).elim
  ·exact(Tr.ax h).elim
 |_=>exact(Tr.ax h).elim
end
end Go.Abs
