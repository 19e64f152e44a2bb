/- Lemmas for the statement of the last text of this claim. -/
import Derived.Test.YtchnmpafhfjimaaGreatDoorV6A
set_option linter.unusedSimpArgs false
set_option linter.unusedVariables false
namespace Go.Abs
open Go
def Agree(H H':Heap)(l:List Nm):Prop:=∀g,g∈l→get H' g=get H g
theorem Agree.sub{H H':Heap}{l m:List Nm}(h:Agree H H' l)(hs:∀g,g∈m→g∈l):Agree H H' m:=fun g hg=>h g (hs g hg)
section
variable{P:Program}{H H':Heap}
theorem AR{x u:AV}{l:List Nm}(h:dG H x=some (u,l))(ha:Agree H H' l):dG H' x=some (u,l):=by
 cases x with
 |own g sz off len=>
  have hl:l=[g]:=by
   simp only[dG]at h;split at h
   ·split at h
    ·simp only[aiv,aiC]at h;exact h.2.symm
    ·cases h
   ·cases h
  have e:=ha g (by simp[hl]);simp only[dG]at h ⊢;rw[e];exact h
 |_=>exact h
theorem Kn:∀(xs us:List AV) (l:List Nm),nS H xs=some (us,l)→Agree H H' l→nS H' xs=some (us,l):=by
 intro xs
 induction xs with
 |nil=>intro us l h _;exact h
 |cons x r ih=>
  intro us l h ha;simp only[nS]at h ⊢
  cases h1:dG H x with
  |none=>simp[h1]at h
  |some p=>
   obtain⟨y,m⟩:=p
   cases h2:nS H r with
   |none=>simp[h1,h2]at h
   |some q=>
    obtain⟨ys,k⟩:=q;simp only[h1,h2,aiv,aiC]at h;obtain⟨rfl,rfl⟩:=h;rw[AR h1 (ha.sub fun g hg=>by simp[hg]),ih ys k h2 (ha.sub fun g hg=>by simp[hg])]
theorem AQ{x u:AV}{l:List Nm}(h:ji H x=some (u,l))(ha:Agree H H' l):ji H' x=some (u,l):=by
 cases x with
 |agg cs=>
  simp only[ji]at h ⊢
  cases h1:nS H cs with
  |none=>simp[h1]at h
  |some p=>
   obtain⟨ys,m⟩:=p;simp only[h1,aiv,aiC]at h;obtain⟨rfl,rfl⟩:=h;rw[Kn cs ys m h1 ha]
 |tup vs=>exact h
 |own g sz off len=>exact AR (x:=.own g sz off len) h ha
 |_=>exact h
theorem nZ{l:List Nm}(ha:Agree H H' l):stops H' l=stops H l:=by
 unfold stops;refine aiW fun g hg=> ?_
 rw[ha g hg]
theorem Jc{t:TypeId}{p:AV}{r:gD}(h:kR P t p H=some r)(ha:Agree H H' (r.rd++r.wr.map (·.1))):kR P t p H'=some r:=by
 cases p with
 |ptr g sz i off=>
  have hg:g∈r.rd:=by
   simp only[kR]at h;split at h
   ·split at h
    ·split at h
     ·split at h
      ·obtain⟨v,_,rfl⟩:=aiu.1 h;simp
      ·cases h
     ·cases h
    ·cases h
   ·cases h
  have e:=ha g (by simp[hg]);simp only[kR]at h ⊢;rw[e];exact h
 |_=>exact h
theorem F9{t:TypeId}{p v:AV}{r:gD}(h:jY P t p v H=some r)(ha:Agree H H' (r.rd++r.wr.map (·.1))):jY P t p v H'=some r:=by
 cases p with
 |ptr g sz i off=>
  simp only[jY]at h;split at h
  ·rename_i size hs;split at h
   ·rename_i b hb;split at h
    ·rename_i h1;split at h
     ·rename_i x hx;split at h
      ·rename_i hbox;split at h
       ·rename_i h2;split at h
        ·rename_i x' hx';simp only[aiv]at h;subst h;have e:=ha g (by simp);simp only[jY,hs,e,hb,h1,hx,hbox,h2,hx',and_self,if_true]
        ·cases h
       ·cases h
      ·rename_i hbox;split at h
       ·rename_i u l hu;split at h
        ·rename_i h2;split at h
         ·rename_i x' hx';simp only[aiv]at h;subst h;have e:=ha g (by simp);have el:Agree H H' l:=ha.sub fun g hg=>by simp[hg]
          simp only[jY,hs,e,hb,h1,hx,hbox,AQ hu el,h2,hx',and_self,if_true,if_false,nZ el,ajK];simp
         ·cases h
        ·cases h
       ·cases h
     ·cases h
    ·cases h
   ·cases h
  ·cases h
 |_=>exact h
theorem Lh{size:Nat}{agg:Bool}:∀(xs:List (Nat×AV)) (es es':List AV) (l l':List Nm),nQ H size agg es l xs=some (es',l')→Agree H H' l'→nQ H' size agg es l xs=some (es',l'):=by
 intro xs
 induction xs with
 |nil=>intro es es' l l' h _;exact h
 |cons p r ih=>
  intro es es' l l' h ha;obtain⟨i,v⟩:=p;simp only[nQ]at h ⊢
  cases h1:ji H v with
  |none=>simp[h1]at h
  |some q=>
   obtain⟨u,m⟩:=q;simp only[h1]at h;split at h
   ·rename_i hc;have hsub:=(zG r _ es' (l++m) l' h).2;rw[AQ h1 (ha.sub fun g hg=>hsub g (by simp[hg]))];simp only[hc,and_self,if_true];exact ih _ es' (l++m) l' h ha
   ·cases h
theorem vJ{t:TypeId}{n:Nat}{ps:List (Nat×AV)}{slot:Nat}{r:gD}(h:fA P t n ps H slot=some r)(ha:Agree H H' (r.rd++r.wr.map (·.1))):fA P t n ps H' slot=some r:=by
 simp only[fA]at h ⊢;split at h
 ·split at h
  ·split at h
   ·rename_i hc;simp only[hc,and_self,if_true];split at h
    ·rename_i es l hl;simp only[aiv]at h;subst h;have el:Agree H H' l:=ha.sub fun g hg=>by simp[hg]
     rw[Lh _ _ _ _ _ hl el];simp only[nZ el]
    ·cases h
   ·cases h
  ·cases h
 ·cases h
theorem Fp{t:TypeId}{x:AV}{lo hi mx:Option AV}{r:gD}(h:fu P t x lo hi mx H=some r)(ha:Agree H H' (r.rd++r.wr.map (·.1))):fu P t x lo hi mx H'=some r:=by
 cases x with
 |own g sz off len=>
  cases hu:P.underlying t with
  |none=>simp[fu,hu]at h
  |some d=>
   cases d with
   |slice e=>
    simp only[fu,hu]at h ⊢;split at h
    ·rename_i hsz;rw[if_pos hsz]
     cases mx with
     |none=>
      cases hl:bound lo 0 with
      |none=>simp[hl]at h
      |some l=>
       cases hh:bound hi len with
       |none=>simp[hl,hh]at h
       |some k=>simp only[hl,hh]at h ⊢;exact h
     |some m=>
      cases hl:bound lo 0 with
      |none=>simp[hl]at h
      |some l=>
       cases hh:bound hi len with
       |none=>simp[hl,hh]at h
       |some k=>
        cases hm:bound (some m) 0 with
        |none=>simp[hl,hh,hm]at h
        |some m'=>
         cases hg:get H g with
         |none=>simp[hl,hh,hm,hg]at h
         |some b=>
          simp only[hl,hh,hm,hg]at h;split at h
          ·rename_i hc;simp only[aiv]at h;subst h;have e:=ha g (by simp);have el:Agree H H' [g]:=fun g' hg'=>by simp at hg';rw[hg',e]
           simp only[hl,hh,hm,e,hg,nZ el];rw[if_pos hc]
          ·cases h
    ·cases h
   |_=>simp[fu,hu]at h
 |_=>
  cases hu:P.underlying t with
  |none=>simp[fu,hu]at h
  |some d=>cases d<;>first|(simp[fu,hu]at h;done)|(simp only[fu,hu]at h ⊢;exact h)
theorem Bj{x:AV}{sz:Nat}{ys:List AV}{l:List Nm}(h:jd H x=some (sz,ys,l))(ha:Agree H H' l):jd H' x=some (sz,ys,l):=by
 cases x with
 |own g sz' off len=>
  have hl:l=[g]:=by
   simp only[jd]at h;split at h
   ·split at h
    ·simp only[aiv,aiC]at h;exact h.2.2.symm
    ·cases h
   ·cases h
  have e:=ha g (by simp[hl]);simp only[jd]at h ⊢;rw[e];exact h
 |_=>exact h
theorem CY{t:TypeId}{s x:AV}{slot:Nat}{r:gD}(h:kr P t s x H slot=some r)(ha:Agree H H' (r.rd++r.wr.map (·.1))):kr P t s x H' slot=some r:=by
 simp only[kr]at h ⊢;split at h
 ·split at h
  ·rename_i size bytes z sz' ys l h1 h2 h3 h4;split at h
   ·rename_i hc;have key:Agree H H' l→jd H' x=some (sz',ys,l):=Bj h4;split at h
    ·split at h
     ·rename_i hq;split at h
      ·rename_i hd;simp only[aiv]at h;subst h;rw[key (ha.sub fun g hg=>by simp[hg])];simp only[h1,h2,h3];rw[if_pos hc,if_pos hq];exact if_pos hd
      ·cases h
     ·rename_i hq;split at h
      ·rename_i hd;simp only[aiv]at h;subst h;rw[key (ha.sub fun g hg=>by simp[hg])];simp only[h1,h2,h3];rw[if_pos hc,if_neg hq];exact if_pos hd
      ·cases h
    ·rename_i g sz off len;split at h
     ·rename_i b hb;split at h
      ·rename_i hd;simp only[aiv]at h;subst h;rw[key (ha.sub fun g hg=>by simp[hg]),ha g (by simp)];simp only[h1,h2,h3,hb];rw[if_pos hc];exact if_pos hd
      ·cases h
     ·cases h
    ·cases h
   ·cases h
  ·cases h
 ·cases h
theorem Nz(r l:List Nm):∀g,g∈l→g∈iA l r:=fun g hg=>(MN r l g).2 (.inl hg)
theorem vV{l:List Nm}(ha:Agree H H' l):grow H' l=grow H l:=by
 unfold grow
 congr 1
 have:∀g,g∈l→Gd H' g=Gd H g:=fun g hg=>by unfold Gd;rw[ha g hg]
 clear ha
 induction l with
 |nil=>rfl
 |cons a r ih=>rw[ajz,ajz,this a (by simp),ih fun g hg=>this g (by simp[hg])]
theorem CU(l:List Nm):∀g,g∈l→g∈grow H l:=Nz _ l
theorem K3{l:List Nm}(ha:Agree H H' (reach H l)):reach H' l=reach H l:=by
 unfold reach at ha ⊢;have h1:Agree H H' (grow H (grow H (iA [] l))):=ha.sub (CU _);have h2:Agree H H' (grow H (iA [] l)):=h1.sub (CU _);have h3:Agree H H' (iA [] l):=h2.sub (CU _);rw[vV h3,vV h2,vV h1]
theorem mapM_congr{α β:Type}{f g:α→Option β}:∀(l:List α),(∀x,x∈l→f x=g x)→l.mapM f=l.mapM g:=by
 intro l
 induction l with
 |nil=>intro _;rfl
 |cons a r ih=>
  intro h;rw[List.mapM_cons,List.mapM_cons,h a (by simp),ih fun x hx=>h x (by simp[hx])]
theorem BG{share:Bool}{f:Ren}{x:AV}(ha:share=false→Agree H H' (aY x))(hx:x.isAgg=false):pz H' share f x=pz H share f x:=by
 cases x with
 |own g sz off len=>
  cases share with
  |true=>rfl
  |false=>
   have e:=ha rfl g (by simp[aY]);simp only[pz,dG,e]
 |_=>rfl
theorem Li{share:Bool}{f:Ren}{x:AV}(ha:share=false→Agree H H' (aY x)):pO H' share f x=pO H share f x:=by
 cases x with
 |agg cs=>
  simp only[pO]
  congr 1
  refine mapM_congr cs fun c hc=> ?_
  cases c with
  |own g sz off len=>exact BG (fun hs g' hg'=>ha hs g' (by simp only[aY,List.mem_flatMap];exact⟨_,hc,by simpa[aY]using hg'⟩)) rfl
  |_=>rfl
 |own g sz off len=>exact BG ha rfl
 |_=>rfl
theorem H9{share:Bool}{call:List AV→List bP→Option Out}{args:List AV}{slot:Nat}{r:gD}(h:kL share call args H slot=some r):
  r.rd=reach H (args.flatMap (if share then fun v=>eH v++aY v else eH))++(if share then []else args.flatMap aY):=by
 unfold kL at h;simp only at h;generalize (if share then []else args.flatMap aY)=lent at h ⊢;generalize reach H (args.flatMap (if share then fun v=>eH v++aY v else eH))=R at h ⊢;split at h
 ·cases h
 ·split at h
  ·split at h
   ·split at h
    ·simp only[aiv]at h;rw[←h]
    ·cases h
   ·cases h
  ·cases h
theorem GQ{share:Bool}{call:List AV→List bP→Option Out}{args:List AV}{slot:Nat}{r:gD}(h:kL share call args H slot=some r)
  (ha:Agree H H' (r.rd++r.wr.map (·.1))):kL share call args H' slot=some r:=by
 have hrd:=H9 h;have hR:Agree H H' (reach H (args.flatMap (if share then fun v=>eH v++aY v else eH))):=ha.sub fun g hg=>by rw[hrd];simp[hg]
 have hl:Agree H H' (if share then []else args.flatMap aY):=ha.sub fun g hg=>by rw[hrd];simp only[ai9];exact .inl (.inr hg)
 have e1:reach H' (args.flatMap (if share then fun v=>eH v++aY v else eH))=reach H (args.flatMap (if share then fun v=>eH v++aY v else eH)):=K3 hR;unfold kL at h ⊢;simp only at h ⊢;rw[e1,nZ hl]
 have e2:∀f,args.mapM (pO H' share f)=args.mapM (pO H share f):=fun f=>mapM_congr args fun x hx=>Li fun hs g hg=>hl g (by
  rw[hs];simp only[ai2,if_false,List.mem_flatMap];exact⟨x,hx,hg⟩)
 have e3:∀f:Ren,(reach H (args.flatMap (if share then fun v=>eH v++aY v else eH))).mapM (fun g=>(get H' g).map (bN f))=
   (reach H (args.flatMap (if share then fun v=>eH v++aY v else eH))).mapM (fun g=>(get H g).map (bN f)):=fun f=>mapM_congr _ fun g hg=>by rw[hR g hg]
 rw[e2,e3];exact h
theorem AL{m:AV}{g:Nm}{k:bP}(h:yg H m=some (g,k))(e:get H' g=get H g):yg H' m=some (g,k):=by
 unfold yg at h ⊢;split at h
 ·rename_i g';split at h
  ·rename_i b hb;split at h
   ·rename_i hc;cases h;simp only[e,hb,if_pos hc]
   ·cases h
  ·cases h
 ·cases h
theorem BR{t:TypeId}{m k:AV}{ok:Bool}{r:gD}(h:jc P t m k ok H=some r)(ha:Agree H H' (r.rd++r.wr.map (·.1))):jc P t m k ok H'=some r:=by
 unfold jc at h ⊢;split at h
 ·rename_i et g b n h1 h2;split at h
  ·rename_i z hz;split at h
   ·rename_i hc;cases h;have e:=ha g (by simp);simp only[h1,AL h2 e,hz,if_pos hc]
   ·cases h
  ·cases h
 ·cases h
theorem y7{t:TypeId}{m k v:AV}{r:gD}(h:gm P t m k v H=some r)(ha:Agree H H' (r.rd++r.wr.map (·.1))):gm P t m k v H'=some r:=by
 unfold gm at h ⊢;split at h
 ·rename_i et g b n h1 h2;split at h
  ·rename_i hc;cases h;have e:=ha g (by simp);simp only[h1,AL h2 e,if_pos hc]
  ·cases h
 ·cases h
theorem H8{t:TypeId}{d x:AV}{r:gD}(h:qR P t d x H=some r)(ha:Agree H H' (r.rd++r.wr.map (·.1))):qR P t d x H'=some r:=by
 unfold qR at h ⊢;split at h
 ·split at h
  ·rename_i size g sz off len sz' ys l h1 h2;split at h
   ·rename_i b hb;split at h
    ·rename_i hc;cases h;have e:=ha g (by simp);have e2:=Bj h2 (ha.sub fun g hg=>by simp[hg]);simp only[h1,e2,e,hb,if_pos hc]
    ·cases h
   ·cases h
  ·cases h
 ·cases h
theorem FM{t:TypeId}{d:AV}{r:gD}(h:nO P t d H=some r)(ha:Agree H H' (r.rd++r.wr.map (·.1))):nO P t d H'=some r:=by
 unfold nO at h ⊢;split at h
 ·split at h
  ·rename_i size z g sz off len h1 h2;split at h
   ·rename_i b hb;split at h
    ·rename_i hc;cases h;have e:=ha g (by simp);simp only[h1,h2,e,hb,if_pos hc]
    ·cases h
   ·cases h
  ·cases h
 ·cases h
theorem vk{fr fr':Fr}{ps:Array (Nat×Operand)}(h:∀p,p∈ps.toList→qD fr' p.2=qD fr p.2):partsOf fr' ps=partsOf fr ps:=by
 unfold partsOf;refine aiW fun p hp=> ?_
 rw[h p hp]
theorem DN{fr fr':Fr}{l:List Operand}(h:∀x,x∈l→qD fr' x=qD fr x):l.map (qD fr')=l.map (qD fr):=aiW h
theorem Hf {N:FuncId→Note} {call:CL} {o:Oper} {fr fr':Fr} {slot:Nat} (h:∀x,x∈o.op.operands→qD fr' x=qD fr x):aK P N call o fr' H slot=aK P N call o fr H slot:=by
 obtain⟨dst,op,type,pos,after,guard⟩:=o;cases op<;>simp only[Op.operands]at h<;>simp only[aK]
 case assign x=>
  have e:=h x (by simp);unfold kz;split
  ·rfl
  ·rw[e]
 case build t ps=>rw[vk fun p hp=>h p.2 (by rw[List.mem_toArray];exact ajj.2 ⟨p,hp,rfl⟩)]
 case buildSlice t n ps=>rw[vk fun p hp=>h p.2 (by rw[List.mem_toArray];exact ajj.2 ⟨p,hp,rfl⟩)]
 case makeMap t res=>cases res<;>rfl
 case makeFunc fn first caps=>
  cases fn with
  |func f=>
   simp only;split
   ·rw[DN (l:=caps.toList) fun x hx=>h x (by simp at hx;simp[hx])]
   ·rfl
  |_=>rfl
 case slice t x lo hi mx=>
  have e1:=h x (by simp);have e2:lo.map (qD fr')=lo.map (qD fr):=by cases lo<;>simp_all
  have e3:hi.map (qD fr')=hi.map (qD fr):=by cases hi<;>simp_all
  have e4:mx.map (qD fr')=mx.map (qD fr):=by cases mx<;>simp_all
  rw[e1,e2,e3,e4]
 case call c=>
  have ea:c.args.toList.map (qD fr')=c.args.toList.map (qD fr):=DN fun x hx=>h x (by simp at hx;simp[Call.operands,hx])
  cases hc:c.callee with
  |value f=>
   have e:=h f (by simp[Call.operands,hc]);simp only[e,ea]
  |invoke r m=>rfl
  |builtin b=>
   cases b with
   |len=>
    simp only;split
    ·rename_i x t hx ht
     rw [h x (by have:x∈c.args.toList:=by rw[hx];simp
                 simp at this;simp[Call.operands,this])]
    ·rfl
   |append=>
    simp only;split
    ·rename_i s x t t' hx ht;have m1:s∈c.args.toList:=by rw[hx];simp
     have m2:x∈c.args.toList:=by rw[hx];simp
     simp at m1 m2;rw[h s (by simp[Call.operands,m1]),h x (by simp[Call.operands,m2])]
    ·rfl
   |copy=>
    simp only;split
    ·rename_i s x t t' hx ht;have m1:s∈c.args.toList:=by rw[hx];simp
     have m2:x∈c.args.toList:=by rw[hx];simp
     simp at m1 m2;rw[h s (by simp[Call.operands,m1]),h x (by simp[Call.operands,m2])]
    ·rfl
   |clear=>
    simp only;split
    ·rename_i s t hx ht;have m1:s∈c.args.toList:=by rw[hx];simp
     simp at m1;rw[h s (by simp[Call.operands,m1])]
    ·rfl
   |min=>simp only[ea]
   |max=>simp only[ea]
   |_=>rfl
 all_goals first|rfl|(simp_all;done)|skip
theorem Bd{N:FuncId→Note}{call:CL}{o:Oper}{fr:Fr}{slot:Nat}{r:gD}(h:aK P N call o fr H slot=some r)(ha:Agree H H' (r.rd++r.wr.map (·.1))):aK P N call o fr H' slot=some r:=by
 obtain⟨dst,op,type,pos,after,guard⟩:=o;cases op<;>simp only[aK]at h ⊢
 case buildSlice t n ps=>exact vJ h ha
 case load t a=>exact Jc h ha
 case store t a x=>exact F9 h ha
 case slice t x lo hi mx=>exact Fp h ha
 case lookup t m k ok=>
  split at h
  ·exact h
  ·exact BR h ha
 case mapUpdate t m k v=>exact y7 h ha
 case makeMap t res=>
  cases res with
  |none=>exact h
  |some x=>cases h
 case call c=>
  cases hc:c.callee with
  |value f=>
   simp only[hc]at h ⊢
   cases hv:qD fr f with
   |clo fn caps=>simp only[hv]at h ⊢;exact GQ h ha
   |_=>simp[hv]at h
  |invoke r m=>simp only[hc]at h;cases h
  |builtin b=>
   cases b with
   |append=>
    simp only[hc]at h ⊢
    revert h
    generalize c.args.toList=ail;generalize c.argTypes.toList=ts;intro h
    match ail,ts,h with
    | [s,x],[t,t'],h=>
     simp only at h ⊢;split at h
     ·rename_i e;rw[if_pos e];exact CY h ha
     ·cases h
   |copy=>
    simp only[hc]at h ⊢
    revert h
    generalize c.args.toList=ail;generalize c.argTypes.toList=ts;intro h
    match ail,ts,h with
    | [s,x],[t,t'],h=>exact H8 h ha
   |clear=>
    simp only[hc]at h ⊢
    revert h
    generalize c.args.toList=ail;generalize c.argTypes.toList=ts;intro h
    match ail,ts,h with
    | [s],[t],h=>exact FM h ha
   |len=>simp only[hc]at h ⊢;exact h
   |min=>simp only[hc]at h ⊢;exact h
   |max=>simp only[hc]at h ⊢;exact h
   |_=>simp only[hc]at h;cases h
 case makeFunc fn first caps=>
  cases fn with
  |func f=>exact h
  |_=>simp only at h;cases h
 all_goals with_reducible exact h
theorem oz{op:Op}(hh:hot op=false):makes op=false:=by
 cases op
 case call c=>
  obtain⟨callee,args,argTypes⟩:=c
  cases callee with
  |builtin b=>cases b<;>first|(simp only[hot]at hh;exact hh)|rfl|(simp[hot]at hh;done)
  |_=>first|(simp only[hot]at hh;exact hh)|rfl|(simp[hot]at hh;done)
 case slice t x lo hi mx=>cases mx<;>first|rfl|(simp[hot]at hh;done)
 all_goals first|(simp only[hot]at hh;exact hh)|rfl|(simp[hot]at hh;done)
theorem fZ{N:FuncId→Note}{call:CL}{o:Oper}{fr:Fr}{slot:Nat}{r:gD}(h:aK P N call o fr H slot=some r)(hh:hot o.op=false):r.rd=[]∧r.wr=[]∧makes o.op=false:=by
 have hm:=oz hh
 suffices hx:r.rd=[]∧r.wr=[]from⟨hx.1,hx.2,hm⟩
 obtain⟨dst,op,type,pos,after,guard⟩:=o;cases op<;>simp only[aK]at h
 all_goals first|(cases h;done)|skip
 all_goals first|(simp[hot,makes]at hh;done)|skip
 case makeMap t res=>
  cases res with
  |none=>simp[hot,makes]at hh
  |some x=>cases h
 case assign x=>
  unfold kz at h;split at h
  ·simp[hot,makes]at hh
  ·cases h;exact⟨rfl,rfl⟩
 case slice t x lo hi mx=>
  cases mx with
  |some m=>simp[hot]at hh
  |none=>
   simp only[fu,Option.map_none]at h;split at h
   ·split at h
    ·split at h
     ·cases h;exact⟨rfl,rfl⟩
     ·cases h
    ·cases h
   ·split at h
    ·split at h
     ·split at h
      ·cases h;exact⟨rfl,rfl⟩
      ·cases h
     ·rename_i e _ _;cases e
     ·cases h
    ·cases h
   ·split at h
    ·split at h
     ·split at h
      ·cases h;exact⟨rfl,rfl⟩
      ·cases h
     ·rename_i e _ _;cases e
     ·cases h
    ·cases h
   ·cases h
 case call c=>
  cases hc:c.callee with
  |value f=>
   obtain⟨callee,args,argTypes⟩:=c;simp only at hc;subst hc;simp[hot,makes]at hh
  |invoke r m=>simp only[hc]at h;cases h
  |builtin b=>
   cases b with
   |append=>
    obtain⟨callee,args,argTypes⟩:=c;simp only at hc;subst hc;simp[hot,makes]at hh
   |copy=>
    obtain⟨callee,args,argTypes⟩:=c;simp only at hc;subst hc;simp[hot]at hh
   |clear=>
    obtain⟨callee,args,argTypes⟩:=c;simp only at hc;subst hc;simp[hot]at hh
   |len=>
    simp only[hc]at h;split at h
    ·obtain⟨v,_,rfl⟩:=aiu.1 h;exact⟨rfl,rfl⟩
    ·cases h
   |min=>
    simp only[hc]at h;split at h
    ·obtain⟨v,_,rfl⟩:=aiu.1 h;exact⟨rfl,rfl⟩
    ·cases h
   |max=>
    simp only[hc]at h;split at h
    ·obtain⟨v,_,rfl⟩:=aiu.1 h;exact⟨rfl,rfl⟩
    ·cases h
   |_=>simp only[hc]at h;cases h
 case makeFunc fn first caps=>
  cases fn with
  |func f=>
   simp only at h;split at h
   ·cases h;exact⟨rfl,rfl⟩
   ·cases h
  |_=>simp only at h;cases h
 all_goals first
  |(obtain⟨v,_,rfl⟩:=aiu.1 h;exact⟨rfl,rfl⟩)
  |(cases h;exact⟨rfl,rfl⟩)
  |(split at h<;>first|(cases h;done)|(cases h;exact⟨rfl,rfl⟩)|(split at h<;>first|(cases h;done)|(cases h;exact⟨rfl,rfl⟩)))
theorem Bo{N:FuncId→Note}{call:CL}{o:Oper}{fr:Fr}{slot:Nat}{r:gD}(h:aK P N call o fr H slot=some r)(hh:isLoad o.op=true):r.wr=[]∧makes o.op=false:=by
 obtain⟨dst,op,type,pos,after,guard⟩:=o
 cases op<;>simp only[isLoad]at hh<;>first|(cases hh;done)|skip
 case load t a=>
  refine⟨?_,rfl⟩;simp only[aK,kR]at h;split at h
  ·split at h
   ·split at h
    ·split at h
     ·split at h
      ·obtain⟨v,_,rfl⟩:=aiu.1 h;rfl
      ·cases h
     ·cases h
    ·cases h
   ·split at h
    ·split at h
     ·obtain⟨v,_,rfl⟩:=aiu.1 h;rfl
     ·cases h
    ·cases h
   ·split at h
    ·cases h;rfl
    ·cases h
   ·cases h
  ·cases h
end
theorem vG(g:Nm):∀(l:List (Nm×Option bP)) (H:Heap),g∉l.map (·.1)→get (aJ H l) g=get H g:=by
 intro l
 induction l with
 |nil=>intro H _;rfl
 |cons p r ih=>
  intro H h;obtain⟨g',b⟩:=p;simp only[aiE,aiV,not_or]at h
  show get (aJ (set H g' b) r) g=_
  rw[ih _ h.2,jM h.1]
theorem set_comm(H:Heap){g g':Nm}(h:g≠g')(b b':Option bP):set (set H g b) g' b'=set (set H g' b') g b:=by
 obtain⟨a,c⟩:=g;obtain⟨a',c'⟩:=g';unfold set;apply List.ext_getElem?;intro i;simp only[List.getElem?_modify];by_cases h1:a'=i
 ·by_cases h2:a=i
  ·subst h1 h2;have hc:c≠c':=fun e=>h (by rw[e])
   cases hl:H[a]? with
   |none=>simp
   |some l=>simp[List.set_comm _ _ hc]
  ·simp[h1,h2]
 ·by_cases h2:a=i<;>simp[h1,h2]
theorem NS(g:Nm)(b:Option bP):∀(l:List (Nm×Option bP)) (H:Heap),g∉l.map (·.1)→aJ (set H g b) l=set (aJ H l) g b:=by
 intro l
 induction l with
 |nil=>intro H _;rfl
 |cons p r ih=>
  intro H h;obtain⟨g',b'⟩:=p;simp only[aiE,aiV,not_or]at h
  show aJ (set (set H g b) g' b') r=set (aJ (set H g' b') r) g b
  rw[set_comm H h.1,ih _ h.2]
theorem nX:∀(l l':List (Nm×Option bP)) (H:Heap),(∀g,g∈l.map (·.1)→g∉l'.map (·.1))→aJ (aJ H l) l'=aJ (aJ H l') l:=by
 intro l
 induction l with
 |nil=>intro l' H _;rfl
 |cons p r ih=>
  intro l' H h;obtain⟨g,b⟩:=p
  show aJ (aJ (set H g b) r) l'=aJ (set (aJ H l') g b) r
  rw[ih l' _ fun g' hg'=>h g' (by simp only[aiE,aiV];exact .inr hg'),NS g b l' H (h g (by simp))]
theorem Qf(H:Heap){g:Nm}{slot:Nat}(h:g.1≠slot)(b:Option bP)(l:List (Option bP)):set (H.set slot l) g b=(set H g b).set slot l:=by
 obtain⟨a,c⟩:=g;simp only at h;unfold set;apply List.ext_getElem?;intro i;simp only[List.getElem?_modify,List.getElem?_set,List.length_modify];by_cases h1:slot=i
 ·have h2:¬ a=i:=fun e=>h (e.trans h1.symm)
  by_cases hl:slot<H.length
  ·simp[h1,h2,h1 ▸ hl]
  ·simp[h1,h2,h1 ▸ hl]
 ·by_cases h2:a=i<;>simp[h1,h2]
theorem l7{slot:Nat}(k:List (Option bP)):∀(l:List (Nm×Option bP)) (H:Heap),(∀g,g∈l.map (·.1)→g.1≠slot)→aJ (H.set slot k) l=(aJ H l).set slot k:=by
 intro l
 induction l with
 |nil=>intro H _;rfl
 |cons p r ih=>
  intro H h;obtain⟨g,b⟩:=p
  show aJ (set (H.set slot k) g b) r=(aJ (set H g b) r).set slot k
  rw[Qf H (h g (by simp)),ih _ fun g' hg'=>h g' (by simp only[aiE,aiV];exact .inr hg')]
def zw(x:Option gD)(slot:Nat)(mk:Bool)(H:Heap):Heap:=
 match x with
 |none=>H
 |some r=>if mk then(aJ H r.wr).set slot (r.new.map some)else aJ H r.wr
theorem yV{H H':Heap}{slot:Nat}{mk:Bool}{new:List bP}:dI H slot mk new=some H'↔H'=(if mk then H.set slot (new.map some)else H)∧(mk=true∨new=[]):=by
 unfold dI
 cases mk with
 |true=>simp[eq_comm]
 |false=>
  cases new with
  |nil=>simp[eq_comm]
  |cons a r=>simp
structure Clear(x y:Option gD)(sx sy:Nat)(mx my:Bool):Prop where
 rw:∀a b,x=some a→y=some b→∀g,g∈a.rd++a.wr.map (·.1)→g∉b.wr.map (·.1)
 slot:∀a,x=some a→my=true→∀g,g∈a.rd++a.wr.map (·.1)→g.1≠sy
theorem Lu{x y:Option gD}{sx sy:Nat}{mx my:Bool}(h:Clear x y sx sy mx my){a:gD}(hx:x=some a)(H:Heap):Agree H (zw y sy my H) (a.rd++a.wr.map (·.1)):=by
 intro g hg
 cases y with
 |none=>rfl
 |some b=>
  have h1:=h.rw a b hx rfl g hg;simp only[zw];split
  ·rename_i hm;rw[je,if_neg (fun e=>h.slot a hx hm g hg e.1),vG g _ _ h1]
  ·rw[vG g _ _ h1]
theorem Q6{x y:Option gD}{sx sy:Nat}{mx my:Bool}(h:Clear x y sx sy mx my)(h':Clear y x sy sx my mx)(hs:mx=true→my=true→sx≠sy)(H:Heap):
  zw x sx mx (zw y sy my H)=zw y sy my (zw x sx mx H):=by
 cases x with
 |none=>rfl
 |some a=>
  cases y with
  |none=>rfl
  |some b=>
   have h1:∀g,g∈b.wr.map (·.1)→g∉a.wr.map (·.1):=fun g hg=>h'.rw b a rfl rfl g (by simp only[ai9];exact .inr hg)
   simp only[zw]
   cases mx with
   |false=>
    cases my with
    |false=>simp only[ai2,if_false];exact nX _ _ _ h1
    |true=>
     simp only[ai2,if_false,if_true];rw[l7 _ _ _ fun g hg=>h.slot a rfl rfl g (by simp only[ai9];exact .inr hg),nX _ _ _ h1]
   |true=>
    cases my with
    |false=>
     simp only[ai2,if_false,if_true];rw[l7 _ _ _ fun g hg=>h'.slot b rfl rfl g (by simp only[ai9];exact .inr hg),nX _ _ _ h1]
    |true=>
     simp only[if_true]
     rw[l7 _ _ _ fun g hg=>h.slot a rfl rfl g (by simp only[ai9];exact .inr hg),l7 _ _ _ fun g hg=>h'.slot b rfl rfl g (by simp only[ai9];exact .inr hg),nX _ _ _ h1,
      List.set_comm _ _ (hs rfl rfl)]
structure Alike(s s':St):Prop where
 fr:∀t,look s'.fr t=look s.fr t
 hp:s'.hp=s.hp
theorem Alike.refl(s:St):Alike s s:=⟨fun _=>rfl,rfl⟩
theorem Alike.symm{a b:St}(h:Alike a b):Alike b a:=⟨fun t=>(h.fr t).symm,h.hp.symm⟩
theorem Alike.trans{a b c:St}(h:Alike a b)(k:Alike b c):Alike a c:=⟨fun t=>(k.fr t).trans (h.fr t),k.hp.trans h.hp⟩
theorem oN(fr:Fr)(dst:Option Nat)(v:AV)(t:Nat):look (putDst fr dst v) t=if dst=some t then v else look fr t:=by
 cases dst with
 |none=>simp[putDst]
 |some d=>simp[putDst,L6]
theorem U9{fr fr':Fr}{x:Operand}(h:∀t,x= .tmp t→look fr' t=look fr t):qD fr' x=qD fr x:=by
 cases x with
 |tmp t=>exact h t rfl
 |_=>rfl
section
variable{E:Env}{ops:Array Oper}{base:Nat}
def valOf:Option gD→AV
 |none=>.tup []
 |some r=>r.val
structure Did(E:Env)(ops:Array Oper)(o:Oper)(slot:Nat)(s:St)(x:Option gD)(s':St):Prop where
 dst:OM E.nt o.dst=true
 go:jO ops s.fr o=some x.isSome
 op:∀r,x=some r→aK E.P E.N (E.call slot) o s.fr s.hp slot=some r∧(makes o.op=true∨r.new=[])
 fr:s'.fr=putDst s.fr o.dst (valOf x)
 hp:s'.hp=zw x slot (makes o.op) s.hp
theorem lW{i:Nat}{o:Oper}(ho:ops[i]?=some o){s s':St}{x:Option gD}:iB E ops base i s=some (s',x)↔Did E ops o (bB ops base i) s x s':=by
 unfold iB;simp only[ho];constructor
 ·intro h;split at h
  ·rename_i hd;split at h
   ·cases h
   ·rename_i hg;simp only[aiv,aiC]at h;obtain⟨rfl,rfl⟩:=h;exact⟨hd,hg,fun r hr=>(by cases hr),rfl,rfl⟩
   ·rename_i hg;split at h
    ·rename_i r hr;split at h
     ·rename_i H hH;simp only[aiv,aiC]at h;obtain⟨rfl,rfl⟩:=h;obtain⟨h1,h2⟩:=yV.1 hH;exact⟨hd,hg,fun r' hr'=>by cases hr';exact⟨hr,h2⟩,rfl,h1⟩
     ·cases h
    ·cases h
  ·cases h
 ·rintro⟨h1,h2,h3,h4,h5⟩;rw[if_pos h1];obtain⟨fr',hp'⟩:=s';simp only at h4 h5
  cases x with
  |none=>
   simp only[Option.isSome_none]at h2;simp only[h2,h4,h5,valOf,zw]
  |some r=>
   simp only[Option.isSome_some]at h2;obtain⟨h6,h7⟩:=h3 r rfl;simp only[h2,h6];have:dI (aJ s.hp r.wr) (bB ops base i) (makes o.op) r.new=some hp':=yV.2 ⟨h5,h7⟩;rw[this];simp only[h4,valOf]
theorem tV{fr fr':Fr}{o:Oper}(h:∀t,t∈o.looksAt ops→look fr' t=look fr t):jO ops fr' o=jO ops fr o:=by
 unfold jO
 cases hg:o.guard with
 |none=>rfl
 |some gw=>
  obtain⟨j,want⟩:=gw;simp only
  cases hd:(ops[j]?).bind (·.dst)with
  |none=>rfl
  |some d=>
   simp only;rw[h d (by simp[Oper.looksAt,hg,hd])]
theorem rT{call:CL}{o:Oper}{fr fr':Fr}{H:Heap}{slot:Nat}(h:∀t,t∈o.looksAt ops→look fr' t=look fr t):aK E.P E.N call o fr' H slot=aK E.P E.N call o fr H slot:=
 Hf fun x hx=>U9 fun t ht=>h t (by
  subst ht;exact List.mem_append_left _ (List.mem_filterMap.2 ⟨.tmp t,by simpa using hx,rfl⟩))
theorem Did.alike{o:Oper}{slot:Nat}{s s' t:St}{x:Option gD}(h:Did E ops o slot s x s')(ha:Alike s t):∃t',Did E ops o slot t x t'∧Alike s' t':=by
 refine⟨⟨putDst t.fr o.dst (valOf x),zw x slot (makes o.op) t.hp⟩,⟨h.dst,?_,fun r hr=> ?_,rfl,rfl⟩,⟨fun u=> ?_,?_⟩⟩
 ·rw[tV fun u _=>ha.fr u];exact h.go
 ·rw[ha.hp,rT (ops:=ops) fun u _=>ha.fr u];exact h.op r hr
 ·rw[h.fr,oN,oN,ha.fr u]
 ·rw[h.hp,ha.hp]
theorem Did.swap{o p:Oper}{so sp:Nat}{s s1 s2:St}{x y:Option gD}(hp:Did E ops p sp s y s1)(ho:Did E ops o so s1 x s2)
  (h1:∀d,p.dst=some d→d∉o.looksAt ops) (h2:∀d,p.dst=some d→o.dst≠some d) (h3:∀d,o.dst=some d→d∉p.looksAt ops)
  (hc:Clear x y so sp (makes o.op) (makes p.op)) (hc':Clear y x sp so (makes p.op) (makes o.op)) (hs:makes o.op=true→makes p.op=true→so≠sp):
  ∃t1 t2,Did E ops o so s x t1∧Did E ops p sp t1 y t2∧Alike s2 t2:=by
 have e1:∀t,t∈o.looksAt ops→look s.fr t=look s1.fr t:=fun t ht=>by
  rw[hp.fr,oN,if_neg fun e=>h1 t e ht]
 refine⟨⟨putDst s.fr o.dst (valOf x),zw x so (makes o.op) s.hp⟩,⟨putDst (putDst s.fr o.dst (valOf x)) p.dst (valOf y),zw y sp (makes p.op) (zw x so (makes o.op) s.hp)⟩,
  ⟨ho.dst,?_,fun r hr=>⟨?_,(ho.op r hr).2⟩,rfl,rfl⟩,⟨hp.dst,?_,fun r hr=>⟨?_,(hp.op r hr).2⟩,rfl,rfl⟩,⟨fun t=> ?_,?_⟩⟩
 ·rw[tV e1];exact ho.go
 ·rw[rT e1];refine Bd (ho.op r hr).1 fun g hg=> ?_
  rw[hp.hp];exact(Lu hc hr s.hp g hg).symm
 ·rw[tV (fr:=s.fr) fun t ht=>by simp only[oN];rw[if_neg fun e=>h3 t e ht]];exact hp.go
 ·rw[rT (fr:=s.fr) fun t ht=>by simp only[oN];rw[if_neg fun e=>h3 t e ht]];exact Bd (hp.op r hr).1 (Lu hc' hr s.hp)
 ·rw[ho.fr,hp.fr];simp only[oN];by_cases e:p.dst=some t
  ·rw[if_pos e,if_neg (h2 t e),if_pos e]
  ·simp only[if_neg e]
 ·rw[ho.hp,hp.hp];exact(Q6 hc hc' hs s.hp).symm
theorem MC:∀(l:List Nat) (s s' t:St) (xs:List (Option gD)),(∀i,i∈l→i<ops.size)→eD E ops base l s=some (s',xs)→Alike s t→∃t',eD E ops base l t=some (t',xs)∧Alike s' t':=by
 intro l
 induction l with
 |nil=>
  intro s s' t xs _ h ha;simp only[eD,aiv,aiC]at h;obtain⟨rfl,rfl⟩:=h;exact⟨t,rfl,ha⟩
 |cons i r ih=>
  intro s s' t xs hl h ha;simp only[eD]at h ⊢
  have ho:ops[i]?=some ops[i]!:=by
   have:i<ops.size:=hl i (by simp);rw[ajb this];simp[this]
  cases h1:iB E ops base i s with
  |none=>simp[h1]at h
  |some p=>
   obtain⟨s1,x⟩:=p;simp only[h1]at h
   cases h2:eD E ops base r s1 with
   |none=>simp[h2]at h
   |some q=>
    obtain⟨s2,ys⟩:=q;simp only[h2,aiv,aiC]at h;obtain⟨rfl,rfl⟩:=h;obtain⟨t1,d1,a1⟩:=((lW ho).1 h1).alike ha;rw[(lW ho).2 d1];obtain⟨t2,e2,a2⟩:=ih s1 s2 t1 ys (fun j hj=>hl j (by simp[hj])) h2 a1;simp only[e2];exact⟨t2,rfl,a2⟩
theorem Ky:∀(l:List Nat) (s s':St) (xs:List (Option gD)),eD E ops base l s=some (s',xs)→xs.length=l.length:=by
 intro l
 induction l with
 |nil=>intro s s' xs h;simp only[eD,aiv,aiC]at h;rw[←h.2];rfl
 |cons i r ih=>
  intro s s' xs h;simp only[eD]at h
  cases h1:iB E ops base i s with
  |none=>simp[h1]at h
  |some p=>
   obtain⟨s1,x⟩:=p;simp only[h1]at h
   cases h2:eD E ops base r s1 with
   |none=>simp[h2]at h
   |some q=>
    obtain⟨s2,ys⟩:=q;simp only[h2,aiv,aiC]at h;rw[←h.2];simp[ih _ _ _ h2]
def Loose(ops:Array Oper)(base:Nat)(T:Nat→Option gD)(j i:Nat):Prop:=
 ∃p o,ops[j]?=some p∧ops[i]?=some o∧p.apart ops o=true∧(hot p.op=false∨hot o.op=false∨(isLoad p.op=true∧isLoad o.op=true)∨qd ops base j i (T j) (T i)=true)
theorem AX{mk:Bool}{slot:Nat}{x:Option gD}(h:noSlot mk slot x=true):∀a,x=some a→mk=true→∀g,g∈a.rd++a.wr.map (·.1)→g.1≠slot:=by
 intro a hx hm g hg;subst hx hm;simp only[noSlot,aiD,aiz,aiP]at h;simpa using h g hg
theorem BD{x y:Option gD}(h:Hr x y=true):∀a b,x=some a→y=some b→(∀g,g∈a.rd++a.wr.map (·.1)→g∉b.wr.map (·.1))∧(∀g,g∈b.rd++b.wr.map (·.1)→g∉a.wr.map (·.1)):=by
 intro a b hx hy;subst hx hy;simp only[Hr,ai7,aiP]at h;obtain⟨h1,h2⟩:=h
 have k1:∀g,g∈b.rd++b.wr.map (·.1)→g∉a.wr.map (·.1):=fun g hg hm=>by
  have:=h1 g hg;simp only[ajB,List.contains_eq_mem,ajs]at this;exact this hm
 refine⟨fun g hg hm=> ?_,k1⟩;rcases ai9.1 hg with hg|hg
 ·have:=h2 g hg;simp only[ajB,List.contains_eq_mem,ajs]at this;exact this hm
 ·exact k1 g (ai9.2 (.inr hm)) hg
theorem Loose.swap{T:Nat→Option gD}{i j:Nat}(hne:i≠j)(h:Loose ops base T j i){s s1 s2:St}(hj:iB E ops base j s=some (s1,T j))(hi:iB E ops base i s1=some (s2,T i)):
  ∃t1 t2,iB E ops base i s=some (t1,T i)∧iB E ops base j t1=some (t2,T j)∧Alike s2 t2:=by
 obtain⟨p,o,hp,ho,hap,hc⟩:=h;have dj:=(lW hp).1 hj;have di:=(lW ho).1 hi;obtain⟨a1,a2,a3⟩:=Oper.apart_spec hap
 have key:Clear (T i) (T j) (bB ops base i) (bB ops base j) (makes o.op) (makes p.op)∧Clear (T j) (T i) (bB ops base j) (bB ops base i) (makes p.op) (makes o.op):=by
  rcases hc with hc|hc|hc|hc
  ·refine⟨⟨fun a b ha hb g hg=> ?_,fun a ha hm=> ?_⟩,⟨fun a b ha hb g hg=> ?_,fun a ha hm g hg=> ?_⟩⟩
   ·obtain⟨c1,c2,c3⟩:=fZ (dj.op b hb).1 hc;simp[c2]
   ·cases hT:T j with
    |none=>
     have hmk:=oz hc;rw[hmk]at hm;cases hm
    |some b=>rw[(fZ (dj.op b hT).1 hc).2.2]at hm;cases hm
   ·obtain⟨c1,c2,c3⟩:=fZ (dj.op a ha).1 hc;simp[c1,c2]at hg
   ·obtain⟨c1,c2,c3⟩:=fZ (dj.op a ha).1 hc;simp[c1,c2]at hg
  ·refine⟨⟨fun a b ha hb g hg=> ?_,fun a ha hm g hg=> ?_⟩,⟨fun a b ha hb g hg=> ?_,fun a ha hm=> ?_⟩⟩
   ·obtain⟨c1,c2,c3⟩:=fZ (di.op a ha).1 hc;simp[c1,c2]at hg
   ·obtain⟨c1,c2,c3⟩:=fZ (di.op a ha).1 hc;simp[c1,c2]at hg
   ·obtain⟨c1,c2,c3⟩:=fZ (di.op b hb).1 hc;simp[c2]
   ·cases hT:T i with
    |none=>
     have hmk:=oz hc;rw[hmk]at hm;cases hm
    |some b=>rw[(fZ (di.op b hT).1 hc).2.2]at hm;cases hm
  ·have mk:∀q:Oper,isLoad q.op=true→makes q.op=false:=by
    intro q hq;obtain⟨dst,op,type,pos,after,guard⟩:=q
    cases op<;>first|rfl|(simp[isLoad]at hq;done)
   refine⟨⟨fun a b ha hb g hg=> ?_,fun a ha hm=> ?_⟩,⟨fun a b ha hb g hg=> ?_,fun a ha hm=> ?_⟩⟩
   ·obtain⟨c1,c2⟩:=Bo (dj.op b hb).1 hc.1;simp[c1]
   ·rw[mk p hc.1]at hm;cases hm
   ·obtain⟨c1,c2⟩:=Bo (di.op b hb).1 hc.2;simp[c1]
   ·rw[mk o hc.2]at hm;cases hm
  ·simp only[qd,ai7]at hc;obtain⟨⟨c1,c2⟩,c3⟩:=hc;rw[gB hp]at c2;rw[gB ho]at c3;exact⟨⟨fun a b ha hb=>(BD c1 b a hb ha).2,AX c2⟩,⟨fun a b ha hb=>(BD c1 a b ha hb).1,AX c3⟩⟩
 obtain⟨t1,t2,e1,e2,e3⟩:=dj.swap di a1 a2 a3 key.1 key.2 (fun m1 m2=>zN hne (by rw[gB ho];exact m1) (by rw[gB hp];exact m2));exact⟨t1,t2,(lW ho).2 e1,(lW hp).2 e2,e3⟩
theorem Ak{T:Nat→Option gD}{i:Nat}{r:List Nat}{s s':St}:eD E ops base (i::r) s=some (s',(i::r).map T)↔∃s1,iB E ops base i s=some (s1,T i)∧eD E ops base r s1=some (s',r.map T):=by
 simp only[eD];constructor
 ·intro h
  cases h1:iB E ops base i s with
  |none=>simp[h1]at h
  |some p=>
   obtain⟨s1,x⟩:=p;simp only[h1]at h
   cases h2:eD E ops base r s1 with
   |none=>simp[h2]at h
   |some q=>
    obtain⟨s2,ys⟩:=q;simp only[h2,aiv,aiC,aiE,List.cons.injEq]at h;obtain⟨rfl,rfl,rfl⟩:=h;exact⟨s1,rfl,h2⟩
 ·rintro⟨s1,h1,h2⟩;simp only[h1,h2,aiE]
theorem bubble{T:Nat→Option gD}{i:Nat}{L2:List Nat}:∀(L1:List Nat) (s s':St),(∀j,j∈L1++i::L2→j<ops.size)→(∀j,j∈L1→j≠i∧Loose ops base T j i)→eD E ops base (L1++i::L2) s=some (s',(L1++i::L2).map T)→
  ∃s1 s'',iB E ops base i s=some (s1,T i)∧eD E ops base (L1++L2) s1=some (s'',(L1++L2).map T)∧Alike s' s'':=by
 intro L1
 induction L1 with
 |nil=>
  intro s s' _ _ h;obtain⟨s1,h1,h2⟩:=Ak.1 h;exact⟨s1,s',h1,h2,Alike.refl _⟩
 |cons j r ih=>
  intro s s' hb hl h;obtain⟨sj,h1,h2⟩:=Ak.1 h;obtain⟨si,s'',h3,h4,h5⟩:=ih sj s' (fun k hk=>hb k (by simp only[aj7,aiV];exact .inr hk)) (fun k hk=>hl k (by simp[hk])) h2;obtain⟨t1,t2,e1,e2,e3⟩:=(hl j (by simp)).2.swap (Ne.symm (hl j (by simp)).1) h1 h3
  obtain⟨t3,e4,e5⟩:=MC (r++L2) si s'' t2 _ (fun k hk=>hb k (by
   simp only[aj7,aiV,ai9]at hk ⊢;rcases hk with hk|hk
   ·exact .inr (.inl hk)
   ·exact .inr (.inr (.inr hk)))) h4 e3
  exact⟨t1,t3,e1,Ak.2 ⟨t2,e2,e4⟩,h5.trans e5⟩
theorem Bb(l:List Oper):∀acc:Array Nat,(l.foldl (fun acc o=>acc.push (CheckFast.one (fun i=>acc.getD i 0) o)) acc).size=acc.size+l.length:=by
 induction l with
 |nil=>intro acc;rfl
 |cons o r ih=>intro acc;rw[List.foldl_cons,ih];simp;omega
theorem BF(l:List Oper):∀(acc:Array Nat) (i:Nat),i<acc.size→(l.foldl (fun acc o=>acc.push (CheckFast.one (fun i=>acc.getD i 0) o)) acc).getD i 0=acc.getD i 0:=by
 induction l with
 |nil=>intro acc i _;rfl
 |cons o r ih=>
  intro acc i hi;rw[List.foldl_cons,ih _ i (by simp;omega)];simp only[aiq,Array.getElem?_push];rw[if_neg (by omega)]
theorem YX(look:Nat→Nat)(o:Oper)(j:Nat)(h:(CheckFast.one look o).testBit j=true):∃e∈o.after.toList,Region.binds .any e=true∧(e.on=j∨(look e.on).testBit j=true):=by
 unfold CheckFast.one at h;rw[←Array.foldl_toList]at h
 have key:∀(l:List Edge) (s:Nat),(l.foldl (fun s e=>if Region.binds .any e then s|||2 ^ e.on|||look e.on else s) s).testBit j=true→s.testBit j=true∨∃e∈l,Region.binds .any e=true∧(e.on=j∨(look e.on).testBit j=true):=by
  intro l
  induction l with
  |nil=>intro s h;exact .inl h
  |cons e r ih=>
   intro s h;rw[List.foldl_cons]at h;rcases ih _ h with h1|⟨e',h1,h2,h3⟩
   ·split at h1
    ·rename_i hb;rw[Nat.testBit_or,Nat.testBit_or,ajJ,ajJ]at h1;rcases h1 with(h1|h1)|h1
     ·exact .inl h1
     ·rw[Nat.testBit_two_pow]at h1;exact .inr ⟨e,by simp,hb,.inl (by simpa using h1)⟩
     ·exact .inr ⟨e,by simp,hb,.inr h1⟩
    ·exact .inl h1
   ·exact .inr ⟨e',by simp[h1],h2,h3⟩
 rcases key _ _ h with h|h
 ·simp at h
 ·exact h
theorem NT(ops:Array Oper){i j:Nat}(h:((Region.before ops).getD i 0).testBit j=true):
  ∃o,ops[i]?=some o∧∃e∈o.after.toList,Region.binds .any e=true∧(e.on=j∨(e.on<i∧((Region.before ops).getD e.on 0).testBit j=true)):=by
 have hdef:Region.before ops=ops.toList.foldl (fun acc o=>acc.push (CheckFast.one (fun i=>acc.getD i 0) o)) #[]:=by
  unfold Region.before;rw[←Array.foldl_toList];rfl
 have hi:i<ops.toList.length:=by
  rcases ajE i ops.toList.length with hi|hi
  ·exact hi
  ·have:(Region.before ops).size=ops.toList.length:=by rw[hdef,Bb];simp
   rw[aiq,Array.getElem?_eq_none (by rw[this];exact hi)]at h;simp at h
 have hi':i<ops.size:=by simpa using hi
 have hsplit:ops.toList=ops.toList.take i++ops.toList[i]::ops.toList.drop (i+1):=by
  rw[List.getElem_cons_drop,aj1]
 have hval:(Region.before ops).getD i 0=CheckFast.one (fun k=>if k<i then(Region.before ops).getD k 0 else 0) ops.toList[i]:=by
  have e:Region.before ops=(ops.toList.drop (i+1)).foldl (fun acc o=>acc.push (CheckFast.one (fun i=>acc.getD i 0) o))
    (((ops.toList.take i).foldl (fun acc o=>acc.push (CheckFast.one (fun i=>acc.getD i 0) o)) #[]).push (CheckFast.one (fun k=>((ops.toList.take i).foldl (fun acc o=>acc.push (CheckFast.one (fun i=>acc.getD i 0) o)) #[]).getD k 0) ops.toList[i])):=by
   rw[hdef]
   conv=>lhs;rw[hsplit]
   rw[List.foldl_append,List.foldl_cons]
  generalize hA:(ops.toList.take i).foldl (fun acc o=>acc.push (CheckFast.one (fun i=>acc.getD i 0) o)) #[]=A at e;have hsz:A.size=i:=by rw[←hA,Bb];simp;omega
  have e1:(fun k=>if k<i then(Region.before ops).getD k 0 else 0)=fun k=>A.getD k 0:=by
   funext k
   split
   ·rename_i hk;rw[e,BF _ _ k (by simp;omega)];simp only[aiq,Array.getElem?_push];rw[if_neg (by omega)]
   ·rw[aiq,Array.getElem?_eq_none (by omega)];rfl
  rw[e1];rw[e,BF _ _ i (by simp;omega)];simp only[aiq,Array.getElem?_push];rw[if_pos hsz.symm];rfl
 rw[hval]at h;obtain⟨e,h1,h2,h3⟩:=YX _ _ _ h;refine⟨ops.toList[i],by simp[ajb (show i<ops.size by simpa using hi)],e,h1,h2,?_⟩;rcases h3 with h3|h3
 ·exact .inl h3
 ·split at h3
  ·rename_i hlt;exact .inr ⟨hlt,h3⟩
  ·simp at h3
def Down(ops:Array Oper)(listed:Array Bool):Prop:=
 ∀i o,ops[i]?=some o→listed.getD i true=true→∀e∈o.after.toList,Region.binds .any e=true→listed.getD e.on false=true
theorem Down.anc{ops:Array Oper}{listed:Array Bool}(hs:listed.size=ops.size)(hd:Down ops listed):∀(i:Nat) (o:Oper),ops[i]?=some o→(∀e∈o.after.toList,Region.binds .any e=true→listed.getD e.on false=true)→
  ∀j,((Region.before ops).getD i 0).testBit j=true→listed.getD j false=true:=by
 intro i
 induction i using Nat.strongRecOn with
 |ind i ih=>
  intro o ho hall j hj;obtain⟨o',ho',e,he,hb,h⟩:=NT ops hj;rw[ho]at ho';cases ho';have h1:=hall e he hb;rcases h with h|⟨hlt,h⟩
  ·rw[←h];exact h1
  ·have hsz:e.on<ops.size:=by
    rcases ajE e.on ops.size with h|h
    ·exact h
    ·rw[aiq,Array.getElem?_eq_none (by omega)]at h1;cases h1
   have h2:listed.getD e.on true=true:=by
    simp only[aiq]at h1 ⊢;rw[ajb (by omega)]at h1 ⊢;exact h1
   have ho2:ops[e.on]?=some ops[e.on]:=ajb hsz;exact ih e.on hlt _ ho2 (hd _ _ ho2 h2) j h
end
section
variable{E:Env}{Y:XT}{ops:Array Oper}{Q:Exit→Act→World→Prop}{base:Nat}
theorem SR.alike{nt:Nat}{w:World}{ρ:cB}{a:Act}{s t:St}(h:SR Y nt w ρ a s)(ha:Alike s t):SR Y nt w ρ a t:=
 ⟨h.YW,h.VQ,fun u=>by rw[ha.hp,ha.fr u];exact h.fr u,by rw[ha.hp];exact h.hp⟩
theorem HR.drew{w:World}{ρ:cB}{H:Heap}(h:HR Y w ρ H):HR Y w.drew ρ H:=by
 refine⟨fun g k hg=> ?_,h.inj,h.dom,h.lt,h.sep,h.ylt⟩;rcases h.blk g k hg with hb|⟨b,h1,h2⟩
 ·exact .inl hb
 ·exact .inr ⟨b,h1,h2.keep (Stable.refl w (XU Y ρ H)).drew (fun _ _ e=>e) rfl⟩
theorem SR.drew{nt:Nat}{w:World}{ρ:cB}{a:Act}{s:St}(h:SR Y nt w ρ a s):SR Y nt w.drew ρ a s:=
 ⟨h.YW,h.VQ,h.fr.mono (Stable.refl w _).drew fun _ _ e=>e,h.hp.drew⟩
theorem Gx{listed:Array Bool}{i:Nat}(h:i∈Region.ready .any ops listed):i<ops.size∧listed.getD i true=false∧∃o,ops[i]?=some o∧∀e∈o.after.toList,Region.binds .any e=true→listed.getD e.on false=true:=by
 unfold Region.ready at h;simp only[aj9,ajM,ai7,ajB]at h;obtain⟨h1,h2,h3⟩:=h;refine⟨h1,h2,ops[i],ajb h1,fun e he hb=> ?_⟩;rw[ajb h1]at h3;simp only[aiF,aj0]at h3;have he':e∈ops[i].after:=by simpa using he
 obtain⟨k,hk,rfl⟩:=Array.mem_iff_getElem.1 he';have:=(Array.all_eq_true.1 h3) k hk;simp only[hb,aiD,aiz]at this;exact this
theorem PZ(hS:∀i,Sound E.P (E.call i)){T:Nat→Option gD}{s':St}
  (hloose:∀j i,j<i→i<ops.size→((Region.before ops).getD i 0).testBit j=true∨Loose ops base T j i)
  (hedge:∀i o,ops[i]?=some o→∀e∈o.after.toList,Region.binds .any e=true→e.on<i):
  ∀(n:Nat) (L:List Nat) (listed:Array Bool) (s s'':St) (a:Act) (w:World) (ρ:cB),L.length=n→L.Pairwise (· < ·)→listed.size=ops.size→(∀i,i∈L↔i<ops.size∧listed.getD i true=false)→
   Down ops listed→SR Y E.nt w ρ a s→(∀i∈L,dx ops i=true→Free s.hp (bB ops base i))→eD E ops base L s=some (s'',L.map T)→Alike s' s''→
   (∀a' w' ρ',SR Y E.nt w' ρ' a' s'→qJ w ρ s.hp w' ρ' s'.hp→Q .normal a' w')→wpAny E.P .any ops Q n listed a w:=by
 intro n
 induction n with
 |zero=>
  intro L listed s s'' a w ρ hlen _ _ hmem _ hsr _ hrun hal hQ;have hL:L=[]:=ajk hlen;subst hL;simp only[eD,aiS,aiv,aiC]at hrun;obtain⟨rfl,_⟩:=hrun;refine⟨?_,hQ a w ρ (hsr.alike hal.symm) (by rw[←hal.hp];exact qJ.refl _ _ _)⟩
  cases hr:Region.ready .any ops listed with
  |nil=>rfl
  |cons i r=>
   have:=Gx (ops:=ops) (listed:=listed) (i:=i) (by rw[hr];simp);have:=(hmem i).2 ⟨this.1,this.2.1⟩;simp at this
 |succ n ih=>
  intro L listed s s'' a w ρ hlen hsort hsz hmem hdown hsr hfree hrun hal hQ;refine⟨fun hnil=> ?_,fun i hi=> ?_⟩
  ·
   exfalso
   cases L with
   |nil=>simp at hlen
   |cons j r=>
    obtain⟨hj1,hj2⟩:=(hmem j).1 (by simp)
    have hin:j∈Region.ready .any ops listed:=by
     unfold Region.ready;simp only[aj9,ajM,ai7,ajB];refine⟨hj1,hj2,?_⟩;rw[ajb hj1];simp only[aiF,aj0,Array.all_eq_true];intro k hk
     cases hb:Region.binds .any ops[j].after[k]with
     |false=>simp
     |true=>
      simp only[aiD,aiz];have hlt:=hedge j ops[j] (ajb hj1) ops[j].after[k] (by simp) hb
      cases hl:listed.getD (ops[j].after[k]).on false with
      |true=>rfl
      |false=>
       have hl':listed.getD (ops[j].after[k]).on true=false:=by
        simp only[aiq]at hl ⊢;rw[ajb (by omega)]at hl ⊢;exact hl
       have:=(hmem (ops[j].after[k]).on).2 ⟨by omega,hl'⟩;simp only[aiV]at this;rcases this with e|e
       ·omega
       ·have:=List.rel_of_pairwise_cons hsort e;omega
    rw[hnil]at hin;simp at hin
  ·obtain⟨h1,h2,o,ho,hed⟩:=Gx hi;have hiL:i∈L:=(hmem i).2 ⟨h1,h2⟩;obtain⟨L1,L2,rfl⟩:=List.append_of_mem hiL;have hpw:=List.pairwise_append.1 hsort;have hlt:∀j,j∈L1→j<i:=fun j hj=>hpw.2.2 j hj i (by simp)
   obtain⟨s1,s2,e1,e2,e3⟩:=bubble L1 s s'' (fun j hj=>((hmem j).1 hj).1) (fun j hj=>by
    refine⟨Nat.ne_of_lt (hlt j hj),?_⟩;rcases hloose j i (hlt j hj) h1 with hb|hb
    ·have:=Down.anc hsz hdown i o ho hed j hb;have h3:=((hmem j).1 (by simp[hj])).2;simp only[aiq]at this h3
     cases hg:listed[j]? with
     |none=>rw[hg]at h3;cases h3
     |some v=>rw[hg]at h3 this;simp at h3 this;rw[h3]at this;cases this
    ·exact hb) hrun
   have hnd:(L1++i::L2).Nodup:=hsort.imp Nat.ne_of_lt
   have hni:i∉L1++L2:=by
    intro hm;rw[List.nodup_append]at hnd;simp only[ai9]at hm;rcases hm with hm|hm
    ·exact hnd.2.2 i hm i (by simp) rfl
    ·exact(List.nodup_cons.1 hnd.2.1).1 hm
   refine wpOp_step hS hsr (hfree i hiL) e1 (fun a' w' ρ' h3 h4=> ?_);refine ih (L1++L2) (listed.setIfInBounds i true) s1 s2 a' w' ρ' (by simp at hlen ⊢;omega) ?_ (by simpa using hsz) (fun j=> ?_) (fun j p hp hj e he hb=> ?_) h3 (fun j hj hm=> ?_) e2 (hal.trans e3) (fun a2 w2 ρ2 h5 h6=>hQ a2 w2 ρ2 h5 (h4.trans h6))
   ·exact hsort.sublist (List.Sublist.append (List.Sublist.refl _) (List.sublist_cons_self _ _))
   ·simp only[aiq,Array.getElem?_setIfInBounds];have:=hmem j;simp only[aiq,ai9,aiV]at this ⊢;by_cases hij:i=j
    ·subst hij;constructor
     ·intro hm;exact absurd (ai9.2 hm) hni
     ·intro hm;simp[hsz,h1]at hm
    ·rw[if_neg hij,←this];simp[Ne.symm hij]
   ·simp only[aiq,Array.getElem?_setIfInBounds]at hj ⊢
    have get:∀k,listed.getD k false=true→((if i=k then(if i<listed.size then some true else none)else listed[k]?)).getD false=true:=by
     intro k hk;split
     ·rename_i e;subst e;simp[hsz,h1]
     ·rwa [aiq]at hk
    by_cases hij:i=j
    ·subst hij;rw[ho]at hp;cases hp;exact get _ (hed e he hb)
    ·rw[if_neg hij]at hj;exact get _ (hdown j p hp (by rw[aiq];exact hj) e he hb)
   ·have hji:j≠i:=fun e=>hni (e ▸ hj)
    have hjL:j∈L1++i::L2:=by
     simp only[ai9,aiV]at hj ⊢;rcases hj with hj|hj
     ·exact .inl hj
     ·exact .inr (.inr hj)
    exact EG e1 (Ne.symm hji) hm (hfree j hjL hm)
theorem Jh(hS:∀i,Sound E.P (E.call i))(hm:E.P.follows .mixedOrders=true){id:Nat}{ops:Array Oper}{draw:Bool}{s s':St}{a:Act}{w:World}{ρ:cB}{Q:Exit→Act→World→Prop}
  (hsr:SR Y E.nt w ρ a s) (hok:draw=true→M0 (E.pairs id) ops=true) (h:mF E id ops draw s=some s')
  (hQ:∀a' w' ρ',SR Y E.nt w' ρ' a' s'→qJ w ρ s.hp w' ρ' s'.hp→Q .normal a' w'):(Code.region id ops draw).wp E.P Q a w:=by
 unfold mF at h;split at h
 ·rename_i s1 xs hrun;split at h
  ·cases h
  ·rename_i hchk;simp only[aiv]at h;subst h;have hfree:∀i∈List.range ops.size,dx ops i=true→Free (s.hp++List.replicate (mM ops) []) (bB ops s.hp.length i):=fun i _ hi=>Free.more (xI hi).1 (xI hi).2
   have hgrew:∀w' ρ' (H:Heap),qJ w ρ (s.hp++List.replicate (mM ops) []) w' ρ' H→qJ w ρ s.hp w' ρ' H:=fun w' ρ' H hg=>⟨by have:=hg.st;rwa [xD]at this,hg.le⟩
   cases draw with
   |false=>
    refine wp_region (QM hS _ _ _ _ a w ρ List.nodup_range (hsr.more _) hfree hrun fun a' w' ρ' h1 h2=> ?_);exact hQ a' w' ρ' (h1.clear E.iL) (hgrew _ _ _ h2)
   |true=>
    have hok:=hok rfl;simp only[aiT,ajB,Bool.not_eq_false,aiP]at hchk;have hlen:=Ky _ _ _ _ hrun
    have hxs:xs=(List.range ops.size).map fun i=>xs.getD i none:=by
     apply List.ext_getElem
     ·simpa using hlen
     ·intro i h1 h2;simp[aiJ,aiw h1]
    rw[hxs]at hrun;simp only[M0,aiP,ajM]at hok;refine wp_region_any hm ?_;refine PZ (T:=fun i=>xs.getD i none) (base:=s.hp.length) (s':=s1) hS (fun j i hji hi=> ?_) (fun i o ho e he hb=> ?_) ops.size (List.range ops.size) _ _ s1 a w.drew ρ (by simp) List.pairwise_lt_range (by simp) (fun i=> ?_) (fun i o ho hl=> ?_)
     (hsr.more _).drew hfree hrun (Alike.refl _) (fun a' w' ρ' h1 h2=>hQ a' w' ρ' (h1.clear E.iL) (hgrew _ _ _ ⟨(Stable.refl w _).drew.trans h2.st,h2.le⟩))
    ·have:=hok i hi;rw[ajb hi]at this;simp only[ai7,aiP,ajM]at this;have:=this.2 j hji;rw[ajJ]at this;rcases this with this|this
     ·exact .inl this
     ·refine .inr ?_;have hj:j<ops.size:=by omega
      rw[ajb hj]at this;simp only[ai7,ajJ,ajB]at this;refine⟨ops[j],ops[i],ajb hj,ajb hi,this.1,?_⟩;rcases this.2 with((h1|h1)|h1)|h1
      ·exact .inl h1
      ·exact .inr (.inl h1)
      ·exact .inr (.inr (.inl h1))
      ·exact .inr (.inr (.inr (hchk (j,i) (by simpa using h1))))
    ·have hi:i<ops.size:=(ajn.1 ho).1;have:=hok i hi;rw[ho]at this;simp only[ai7,aiP]at this;have:=this.1 e he;simpa[hb]using this
    ·simp only[ajM,aiq,Array.getElem?_replicate];constructor
     ·intro hi;simp[hi]
     ·exact fun h=>h.1
    ·have hi:i<ops.size:=(ajn.1 ho).1;simp[aiq,Array.getElem?_replicate,hi]at hl
 ·cases h
end
section
variable{E:Env}{Y:XT}
def QE:Ex→Exit
 | .normal=>.normal
 | .exit id=>.exit id
 | .ret=>.ret
theorem rJ{H:Heap}{m:Nat}{f:Ren}{R:List Nm}{g:Nm}{k:bP}(h:get (pu H m f R) g=some k):
  g.2=0∧∃g0 k0,(aF m++R)[g.1]?=some g0∧get H g0=some k0∧k=bN f k0:=by
 obtain⟨a,c⟩:=g;simp only[get,pu,ait]at h
 cases hg:(aF m++R)[a]? with
 |none=>simp[hg]at h
 |some g0=>
  cases c with
  |zero=>
   simp only[hg,aiF,List.getElem?_cons_zero,Option.join_some]at h;obtain⟨k0,h1,rfl⟩:=aiu.1 h;exact⟨rfl,g0,k0,rfl,h1,rfl⟩
  |succ c=>simp[hg]at h
def fo(ρ:cB)(m:Nat)(R:List Nm):cB:=fun g=>if g.2=0 then(match(aF m++R)[g.1]? with|some g0=>ρ g0|none=>none)else none
theorem Pt{m i:Nat}{g:Nm}(h:(aF m)[i]?=some g):g=(i,0)∧i<m:=by
 unfold aF at h;rw[ait]at h
 cases hr:(List.range m)[i]? with
 |none=>simp[hr]at h
 |some j=>
  simp[hr]at h;have:=ain.1 hr;obtain⟨h1,h2⟩:=this;simp at h1 h2;subst h2;exact⟨h.symm,h1⟩
theorem qm{ρ:cB}{m:Nat}{R:List Nm}:Moves (iw m R) ρ (fo ρ m R):=by
 intro g g' b hg hb;unfold iw at hg;split at hg
 ·rename_i hlt;split at hg
  ·rename_i h0;cases hg;simp only[fo,h0,if_true]
   have:(aF m++R)[g.1]?=some (g.1,0):=by
    rw[ai3 (by simpa[aF]using hlt)];simp[aF,hlt]
   rw[this];simp only;rw[show((g.1,0):Nm)=g from by rw[←h0]];exact hb
  ·cases hg
 ·cases hi:idxOf g R 0 with
  |none=>simp[hi]at hg
  |some i=>
   simp[hi]at hg;subst hg;obtain⟨_,hR⟩:=gG g R 0 i hi;simp only[fo,if_true]
   have:(aF m++R)[m+i]?=some g:=by
    rw[ai0 (by simp[aF])];simpa[aF]using hR
   rw[this];exact hb
theorem PI{m:Nat}{R:List Nm}(hR:R.Nodup)(ho:∀g,g∈R→¬ g.1<m){i j:Nat}{g:Nm}(h1:(aF m++R)[i]?=some g)(h2:(aF m++R)[j]?=some g):i=j:=by
 have key:∀i,(aF m++R)[i]?=some g→(i<m∧g=(i,0))∨(m≤i∧R[i-m]?=some g):=by
  intro i h;rcases ajE i m with hi|hi
  ·rw[ai3 (by simpa[aF]using hi)]at h;exact .inl ⟨hi,(Pt h).1⟩
  ·rw[ai0 (by simpa[aF]using hi)]at h;exact .inr ⟨hi,by simpa[aF]using h⟩
 rcases key i h1 with⟨a1,a2⟩|⟨a1,a2⟩<;>rcases key j h2 with⟨b1,b2⟩|⟨b1,b2⟩
 ·rw[a2]at b2;simpa using b2
 ·exact absurd (by rw[a2];exact a1) (ho g (air b2))
 ·exact absurd (by rw[b2];exact b1) (ho g (air a2))
 ·have i1:=iM R 0 _ g hR a2;have i2:=iM R 0 _ g hR b2;rw[i1]at i2;simp at i2;omega
theorem qh{H:Heap}{m:Nat}{roots:List Nm}:(reached H m roots).Nodup∧∀g,g∈reached H m roots→¬ g.1<m:=by
 unfold reached outside;refine⟨(Aw _ _).filter _,fun g hg=> ?_⟩;simp only[aj9]at hg;simpa using hg.2
theorem HR.pack{w:World}{ρ:cB}{H:Heap}(hr:HR Y w ρ H){m:Nat}{R:List Nm}(hR:R.Nodup)(ho:∀g,g∈R→¬ g.1<m):
  HR Y w (fo ρ m R) (pu H m (iw m R) R)∧Stable w (XX ρ H) w (XX (fo ρ m R) (pu H m (iw m R) R)):=by
 have hrho:∀i g0,(aF m++R)[i]?=some g0→fo ρ m R (i,0)=ρ g0:=by
  intro i g0 h;simp[fo,h]
 have hX:∀b o,XX (fo ρ m R) (pu H m (iw m R) R) b o→XX ρ H b o:=by
  intro b o ⟨g,k,hg,hb,hk⟩;obtain⟨h0,g0,k0,h1,h2,rfl⟩:=rJ hg;obtain⟨a,c⟩:=g;simp only at h0 h1;subst h0;rw[hrho a g0 h1]at hb;rw[(lC _ k0).1,(lC _ k0).2.1]at hk;exact⟨g0,k0,h2,hb,hk⟩
 have hst:Stable w (XX ρ H) w (XX (fo ρ m R) (pu H m (iw m R) R)):=(Stable.refl w _).less fun b o _ h=>hX b o h
 refine⟨⟨fun g k hg=> ?_,fun g g' k k' b hg hg' h1 h2=> ?_,fun g b hb=> ?_,fun g b hb=> ?_,fun g k b o hg hb=> ?_,hr.ylt⟩,hst⟩
 ·obtain⟨h0,g0,k0,h1,h2,rfl⟩:=rJ hg;obtain⟨a,c⟩:=g;simp only at h0 h1;subst h0;rw[hrho a g0 h1];rcases hr.blk g0 k0 h2 with⟨b1,b2,b3⟩|⟨b,b1,b2⟩
  ·exact .inl ⟨b1,EM _ b2,by rw[(lC _ k0).2.2.1];exact b3⟩
  ·exact .inr ⟨b,b1,iP.ren qm (b2.keep (hst.xu Y) (fun _ _ h=>h) rfl)⟩
 ·obtain⟨h0,g0,k0,e1,e2,rfl⟩:=rJ hg;obtain⟨h0',g0',k0',e1',e2',rfl⟩:=rJ hg';obtain⟨a,c⟩:=g;obtain⟨a',c'⟩:=g';simp only at h0 h0' e1 e1';subst h0 h0';rw[hrho a g0 e1]at h1;rw[hrho a' g0' e1']at h2;have:=hr.inj g0 g0' k0 k0' b e2 e2' h1 h2;subst this;rw[PI hR ho e1 e1']
 ·simp only[fo]at hb;split at hb
  ·rename_i h0
   cases hg:(aF m++R)[g.1]? with
   |none=>simp[hg]at hb
   |some g0=>
    rw[h0];simp only[pu,aiJ,ait,hg,aiF,aj0];simp
  ·cases hb
 ·simp only[fo]at hb;split at hb
  ·cases hg:(aF m++R)[g.1]? with
   |none=>simp[hg]at hb
   |some g0=>simp[hg]at hb;exact hr.lt g0 b hb
  ·cases hb
 ·obtain⟨h0,g0,k0,h1,h2,rfl⟩:=rJ hg;obtain⟨a,c⟩:=g;simp only at h0 h1;subst h0;rw[hrho a g0 h1]at hb;exact hr.sep g0 k0 b o h2 hb
def Held(ρ ρ':cB)(m:Nat):Prop:=∀j,j<m→∀b,ρ (j,0)=some b→ρ' (j,0)=some b
theorem U5(f:AV→AV)(hf:f .undef= .undef):∀(fr:Fr) (t:Nat),look (fr.map fun p=>(p.1,f p.2)) t=f (look fr t):=by
 intro fr
 induction fr with
 |nil=>intro t;simp[look,hf]
 |cons p r ih=>
  intro t;obtain⟨s,x⟩:=p;simp only[aiE,look,ih];split<;>rfl
structure oO(m:Nat)(w:World)(ρ:cB)(H:Heap)(w':World)(ρ':cB)(H':Heap):Prop where
 st:Stable w (XX ρ H) w' (XX ρ' H')
 held:Held ρ ρ' m
theorem oO.refl(m:Nat)(w:World)(ρ:cB)(H:Heap):oO m w ρ H w ρ H:=⟨Stable.refl _ _,fun _ _ _ h=>h⟩
theorem oO.trans{m:Nat}{w w' w'':World}{ρ ρ' ρ'':cB}{H H' H'':Heap}(h:oO m w ρ H w' ρ' H')(k:oO m w' ρ' H' w'' ρ'' H''):oO m w ρ H w'' ρ'' H'':=
 ⟨h.st.trans k.st,fun j hj b e=>k.held j hj b (h.held j hj b e)⟩
theorem qJ.went{m:Nat}{w w':World}{ρ ρ':cB}{H H':Heap}(h:qJ w ρ H w' ρ' H'):oO m w ρ H w' ρ' H':=⟨h.st,fun j _ b e=>h.le (j,0) b e⟩
theorem SR.tidy{w:World}{ρ:cB}{a:Act}{s:St}{nt m:Nat}(h:SR Y nt w ρ a s):∃ρ',SR Y nt w ρ' a (Abs.tidy m s)∧oO m w ρ s.hp w ρ' (Abs.tidy m s).hp:=by
 unfold Abs.tidy;simp only;obtain⟨hn,ho⟩:=qh (H:=s.hp) (m:=m) (roots:=s.fr.flatMap fun p=>kV p.2);generalize reached s.hp m (s.fr.flatMap fun p=>kV p.2)=R at hn ho ⊢;obtain⟨h1,h2⟩:=h.hp.pack (m:=m) hn ho;refine⟨fo ρ m R,⟨h.YW,h.VQ,fun t=> ?_,h1⟩,h2,fun j hj b e=> ?_⟩
 ·simp only;rw[U5 (zU (iw m R)) rfl];exact rF qm ((h.fr t).mono (h2.xu Y) (fun _ _ h=>h))
 ·have:(aF m++R)[j]?=some (j,0):=by
   rw[ai3 (by simpa[aF]using hj)];simp[aF,hj]
  simp[fo,this,e]
end
def Good(P:Program)(N:FuncId→Note):Prop:=
 ∀ f fn, (N f).on = true → P.funcs[f]? = some fn → fn.name ≠ "runtime.NumGoroutine" ∧ ∀ body, fn.body = some body → gJ (N f).pairs body = true
theorem entered {P : Program} {f : FuncId} {fn : Func} {body : Code} (h : P.funcs[f]? = some fn) (hb : fn.body = some body) (hn : fn.name ≠ "runtime.NumGoroutine") : l8 P f := by
 intro args w;simp[callFunc,h,hb,hn]
theorem G9:∀(l:List AV) (i t:Nat),look (zq l i) t=if i≤t then(l[t-i]?).getD .undef else .undef:=by
 intro l
 induction l with
 |nil=>intro i t;simp[zq,look]
 |cons x r ih=>
  intro i t;simp only[zq,look,ih];by_cases h:i=t
  ·subst h;simp
  ·rw[if_neg h];by_cases h1:i≤t
   ·have h2:i+1≤t:=by omega
    rw[if_pos h1,if_pos h2,show t-i=(t-(i+1))+1 from by omega];simp
   ·rw[if_neg h1,if_neg (by omega)]
section
variable{Y:XT}{P:Program}
theorem LF{w:World}{ρ:cB}{H:Heap}{tmps:Array Value}{fr:Fr}(hr:HR Y w ρ H)(hf:FR w (XU Y ρ H) ρ tmps fr){x:ResultVar}{y:AV}(h:sP P fr H x=some y):
  ∃v,((match x with| .tmp t=>pure (tmps.getD t undef)| .cell a t=>do loadVar t (←asAddr (tmps.getD a undef)):Sem Value)).run P w= .ok v w∧VR w (XU Y ρ H) ρ v y:=by
 cases x with
 |tmp t=>
  simp only[sP,aiv]at h;subst h;exact⟨_,rfl,hf t⟩
 |cell a t=>
  simp only[sP]at h;obtain⟨r,hr',rfl⟩:=aiu.1 h;obtain⟨_,_,u,h1,h2⟩:=xH hr (hf a) hr';refine⟨u,?_,h2⟩
  have hptr:∃p,tmps.getD a undef= .pointer (some p):=by
   have hv:=hf a;generalize tmps.getD a undef=v at hv h1;unfold kR at hr';split at hr'
   ·split at hr'
    ·rename_i hl;rw[hl]at hv;split at hr'
     ·split at hr'
      ·rename_i hc;obtain⟨b,rfl,_⟩:=hv.CQ hc.2;exact⟨_,rfl⟩
      ·cases hr'
     ·cases hr'
    ·rename_i hl;rw[hl]at hv;obtain⟨b,o,rfl⟩:=hv.Zm;exact⟨_,rfl⟩
    ·rename_i hl;rw[hl]at hv;cases hv with|pur v x hp=>cases hp with|fp b _ _ _=>exact⟨_,rfl⟩
    ·cases hr'
   ·cases hr'
  obtain⟨p,hp⟩:=hptr;rw[hp]at h1;simp only;rw[hp];simp only[Instr.loadAt,Instr.sureAddr]at h1;simpa[asAddr,Sem.run_bind]using h1
theorem zi{w:World}{ρ:cB}{H:Heap}{tmps:Array Value}{fr:Fr}{fn:Func}(hr:HR Y w ρ H)(hf:FR w (XU Y ρ H) ρ tmps fr){y:AV}(h:Ea P fr H fn.results.toList=some y):
  ∃v,(results fn tmps).run P w= .ok v w∧VR w (XU Y ρ H) ρ v y:=by
 unfold Ea at h
 cases hm:fn.results.toList.mapM (sP P fr H)with
 |none=>simp[hm]at h
 |some ys=>
  obtain⟨hlen,hget⟩:=mapM_some _ _ _ hm
  have hex:∀x,x∈fn.results.toList→∃v,((match x with| .tmp t=>pure (tmps.getD t undef)| .cell a t=>do loadVar t (←asAddr (tmps.getD a undef)):Sem Value)).run P w= .ok v w∧∀y,sP P fr H x=some y→VR w (XU Y ρ H) ρ v y:=by
   intro x hx;obtain⟨i,hi⟩:=List.getElem?_of_mem hx;obtain⟨y,_,hy⟩:=hget i x hi;obtain⟨v,h1,h2⟩:=LF hr hf hy;exact⟨v,h1,fun y' hy'=>by rw[hy]at hy';cases hy';exact h2⟩
  classical
  let g:ResultVar→Value:=fun x=>if hx:x∈fn.results.toList then Classical.choose (hex x hx)else undef
  have hg:∀x,x∈fn.results.toList→((match x with| .tmp t=>pure (tmps.getD t undef)| .cell a t=>do loadVar t (←asAddr (tmps.getD a undef)):Sem Value)).run P w= .ok (g x) w∧∀y,sP P fr H x=some y→VR w (XU Y ρ H) ρ (g x) y:=by
   intro x hx;simp only[g,dif_pos hx];exact Classical.choose_spec (hex x hx)
  have hrun:=Array.xP (P:=P) (w:=w) (fun x:ResultVar=>(match x with| .tmp t=>pure (tmps.getD t undef)| .cell a t=>do loadVar t (←asAddr (tmps.getD a undef)):Sem Value)) g fn.results (fun x hx=>(hg x hx).1)
  have hval:(results fn tmps).run P w= .ok (if h:(fn.results.map g).size=1 then(fn.results.map g)[0]else .tuple (fn.results.map g)) w:=by
   unfold results;simp only[Sem.run_bind]
   erw [hrun]
   rfl
  have hel:∀(i:Nat) (y:AV),ys[i]?=some y→VR w (XU Y ρ H) ρ ((fn.results.map g).getD i undef) y:=by
   intro i y hy;have hi:i<ys.length:=(ain.1 hy).1;have hi':i<fn.results.toList.length:=by omega
   obtain⟨z,hz1,hz2⟩:=hget i fn.results.toList[i] (aiw hi');rw[hy]at hz1;cases hz1;have:=(hg fn.results.toList[i] (List.getElem_mem hi')).2 y hz2;have hi2:i<fn.results.size:=by simpa using hi'
   simpa[aiq,hi2]using this
  refine⟨_,hval,?_⟩;rw[hm]at h;have hsz:(fn.results.map g).size=ys.length:=by simp[hlen]
  cases ys with
  |nil=>
   simp only[aiv]at h;subst h;rw[dif_neg (by rw[hsz];simp)];exact .tup _ _ hsz hel
  |cons y0 r=>
   cases r with
   |nil=>
    simp only[aiv]at h;subst h;have h1:(fn.results.map g).size=1:=by rw[hsz];rfl
    rw[dif_pos h1];have:=hel 0 y0 (by simp)
    rwa [aiq,ajb (by omega)]at this
   |cons y1 r=>
    simp only[aiv]at h;subst h;rw[dif_neg (by rw[hsz];simp)];exact .tup _ _ hsz hel
def Weak(nt keep:Nat)(s s':St):Prop:=∀(Y:XT) (w:World) (ρ:cB) (a:Act),SR Y nt w ρ a s→∃ρ',SR Y nt w ρ' a s'∧oO keep w ρ s.hp w ρ' s'.hp
theorem Weak.refl(nt keep:Nat)(s:St):Weak nt keep s s:=fun _ _ ρ _ h=>⟨ρ,h,oO.refl _ _ _ _⟩
theorem Weak.trans{nt keep:Nat}{s s1 s2:St}(h:Weak nt keep s s1)(k:Weak nt keep s1 s2):Weak nt keep s s2:=by
 intro Y w ρ a hr;obtain⟨ρ1,h1,h2⟩:=h Y w ρ a hr;obtain⟨ρ2,h3,h4⟩:=k Y w ρ1 a h1;exact⟨ρ2,h3,h2.trans h4⟩
def To(P:Program)(nt keep:Nat)(c:Code)(s:St)(e:Ex)(s':St):Prop:=
 ∀(Y:XT) (a:Act) (w:World) (ρ:cB) (Q:Exit→Act→World→Prop),SR Y nt w ρ a s→
  (∀a' w' ρ',SR Y nt w' ρ' a' s'→oO keep w ρ s.hp w' ρ' s'.hp→Q (QE e) a' w')→c.wp P Q a w
variable{nt keep:Nat}{s s1 s':St}{e:Ex}{c b:Code}
theorem To.pre(hw:Weak nt keep s s1)(h:To P nt keep c s1 e s'):To P nt keep c s e s':=by
 intro Y a w ρ Q hsr hQ;obtain⟨ρ1,h1,h2⟩:=hw Y w ρ a hsr;exact h Y a w ρ1 Q h1 (fun a' w' ρ' h3 h4=>hQ a' w' ρ' h3 (h2.trans h4))
theorem To.post(h:To P nt keep c s e s1)(hw:Weak nt keep s1 s'):To P nt keep c s e s':=by
 intro Y a w ρ Q hsr hQ;refine h Y a w ρ Q hsr (fun a' w' ρ' h1 h2=> ?_);obtain⟨ρ1,h3,h4⟩:=hw Y w' ρ' a' h1;exact hQ a' w' ρ1 h3 (h2.trans h4)
theorem To.skip:To P nt keep .skip s .normal s:=fun _ a w ρ _ hsr hQ=>wp_skip (hQ a w ρ hsr (oO.refl _ _ _ _))
theorem To.label{l:Nat}:To P nt keep (.label l) s .normal s:=fun _ a w ρ _ hsr hQ=>wp_label (hQ a w ρ hsr (oO.refl _ _ _ _))
theorem To.exit{id:Nat}:To P nt keep (.exit id) s (.exit id) s:=fun _ a w ρ _ hsr hQ=>wp_exit (hQ a w ρ hsr (oO.refl _ _ _ _))
theorem To.ret:To P nt keep .ret s .ret s:=fun _ a w ρ _ hsr hQ=>wp_ret (hQ a w ρ hsr (oO.refl _ _ _ _))
theorem To.region{E:Env}(hS:∀i,Sound E.P (E.call i))(hm:E.P.follows .mixedOrders=true){id:Nat}{ops:Array Oper}{draw:Bool}(hok:gJ E.pairs (.region id ops draw)=true)
  (h:mF E id ops draw s=some s'):To E.P E.nt E.keep (.region id ops draw) s .normal s':=
 fun _ _ _ _ _ hsr hQ=>Jh hS hm hsr (fun hd=>by simpa[gJ,hd]using hok) h (fun a' w' ρ' h3 h4=>hQ a' w' ρ' h3 h4.went)
theorem To.seq{x y:Code}(h1:To P nt keep x s .normal s1)(h2:To P nt keep y s1 e s'):To P nt keep (.seq x y) s e s':=by
 intro Y a w ρ Q hsr hQ;refine wp_seq (h1 Y a w ρ _ hsr (fun a' w' ρ' h3 h4=> ?_));exact h2 Y a' w' ρ' Q h3 (fun a2 w2 ρ2 h5 h6=>hQ a2 w2 ρ2 h5 (h4.trans h6))
theorem To.Ou{x y:Code}(h1:To P nt keep x s e s')(he:e≠ .normal):To P nt keep (.seq x y) s e s':=by
 intro Y a w ρ Q hsr hQ;refine wp_seq (h1 Y a w ρ _ hsr (fun a' w' ρ' h3 h4=> ?_))
 cases e with
 |normal=>exact absurd rfl he
 |exit id=>exact hQ a' w' ρ' h3 h4
 |ret=>exact hQ a' w' ρ' h3 h4
theorem To.cond{o:Operand}{p:Bool}{x y:Code}(hp:qD s.fr o= .bool p)(h:To P nt keep (if p then x else y) s e s'):To P nt keep (.cond o x y) s e s':=by
 intro Y a w ρ Q hsr hQ;have hv:=Cm hsr.fr o;rw[hp]at hv;refine wp_cond (t:=p) hv.gW ?_
 cases p with
 |true=>exact h Y a w ρ Q hsr hQ
 |false=>exact h Y a w ρ Q hsr hQ
def leave(id:Nat):Ex→Ex
 | .exit j=>if j=id then .normal else .exit j
 |e=>e
theorem To.block{id:Nat}(h:To P nt keep b s e s'):To P nt keep (.block id b) s (leave id e) s':=by
 intro Y a w ρ Q hsr hQ;refine wp_block (h Y a w ρ _ hsr (fun a' w' ρ' h1 h2=> ?_))
 cases e with
 |normal=>exact hQ a' w' ρ' h1 h2
 |ret=>exact hQ a' w' ρ' h1 h2
 |exit j=>
  show if j=id then Q .normal a' w' else Q (.exit j) a' w'
  simp only[leave]at hQ;split
  ·rename_i hj;rw[if_pos hj]at hQ;exact hQ a' w' ρ' h1 h2
  ·rename_i hj;rw[if_neg hj]at hQ;exact hQ a' w' ρ' h1 h2
theorem To.scope(h:To P nt keep b s e s'):To P nt keep (.scope b) s e s':=by
 intro Y a w ρ Q hsr hQ;refine wp_scope_straight (h Y a w ρ _ hsr (fun a' w' ρ' h1 h2=> ?_))
 cases e with
 |normal=>exact hQ a' w' ρ' h1 h2
 |ret=>exact hQ a' w' ρ' h1 h2
 |exit j=>exact hQ a' w' ρ' h1 h2
inductive Iter(P:Program)(nt keep:Nat)(b:Code):St→Ex→St→Prop where
 |out {s s':St} {e:Ex} (h:To P nt keep b s e s') (he:e≠ .normal):Iter P nt keep b s e s'
 |next {s s1 s':St} {e:Ex} (h:To P nt keep b s .normal s1) (hr:Iter P nt keep b s1 e s'):Iter P nt keep b s e s'
theorem Iter.pre(hw:Weak nt keep s s1)(h:Iter P nt keep b s1 e s'):Iter P nt keep b s e s':=by
 cases h with
 |out h he=>exact .out (h.pre hw) he
 |next h hr=>exact .next (h.pre hw) hr
theorem To.loop(h:Iter P nt keep b s e s'):To P nt keep (.loop b) s e s':=by
 intro Y a w ρ Q hsr hQ bb k cs
 have key:∀(s s':St) (e:Ex),Iter P nt keep b s e s'→∀(a:Act) (w:World) (ρ:cB),SR Y nt w ρ a s→(∀a' w' ρ',SR Y nt w' ρ' a' s'→oO keep w ρ s.hp w' ρ' s'.hp→Q (QE e) a' w')→
   ∃e' a' w',Q e' a' w'∧Arrives P (lone (bb.at a (.code b:: .inLoop b::k)) cs w) bb k cs e' a' w':=by
  intro s s' e h
  induction h with
  |out h he=>
   intro a w ρ hsr hQ;rename_i s s' e;have hrun:=h Y a w ρ (fun x a' w'=>x=QE e∧∃ρ',SR Y nt w' ρ' a' s'∧oO keep w ρ s.hp w' ρ' s'.hp) hsr (fun a' w' ρ' h1 h2=>⟨rfl,ρ',h1,h2⟩);obtain⟨x,a1,w1,⟨hx,ρ1,h1,h2⟩,harr⟩:=hrun bb (.inLoop b::k) cs;subst hx
   cases e with
   |normal=>exact absurd rfl he
   |exit id=>exact⟨_,a1,w1,hQ a1 w1 ρ1 h1 h2,.pass (x:=.inLoop b) rfl (fun _ _=>.inl (by simp[QE])) harr⟩
   |ret=>exact⟨_,a1,w1,hQ a1 w1 ρ1 h1 h2,.pass (x:=.inLoop b) rfl (fun _ _=>.inl (by simp[QE])) harr⟩
  |next h hr ih=>
   intro a w ρ hsr hQ;rename_i s s1 s' e;have hrun:=h Y a w ρ (fun x a' w'=>x=QE .normal∧∃ρ',SR Y nt w' ρ' a' s1∧oO keep w ρ s.hp w' ρ' s1.hp) hsr (fun a' w' ρ' h1 h2=>⟨rfl,ρ',h1,h2⟩);obtain⟨x,a1,w1,⟨hx,ρ1,h1,h2⟩,harr⟩:=hrun bb (.inLoop b::k) cs;subst hx;obtain⟨e',a2,w2,hq,harr2⟩:=ih a1 w1 ρ1 h1 (fun a' w' ρ' h3 h4=>hQ a' w' ρ' h3 (h2.trans h4));exact⟨e',a2,w2,hq,.of_steps (Steps.trans harr (.one step_inLoop)) harr2⟩
 obtain⟨e',a',w',hq,harr⟩:=key s s' e h a w ρ hsr hQ;exact⟨e',a',w',hq,.of_steps (.one step_loop) harr⟩
theorem sJ{f:FuncId}{fn:Func}{body:Code}{args:List AV}{sub:List bP}{out:Out}{s1:St}(hfn:P.funcs[f]?=some fn)(hbody:fn.body=some body)
  (hlen:args.length≤fn.ntmps) (hto:To P fn.ntmps sub.length body {fr:=zq args 0,hp:=aQ sub} e s1) (he:e= .normal∨e= .ret) (hfin:finish P fn sub.length s1=some out):Contract P f args sub out:=by
 intro Y w ρ vals hr hsz hargs
 have hstart:SR Y fn.ntmps w ρ {tmps:=vals++Array.replicate (fn.ntmps-vals.size) undef,defers:=[]} {fr:=zq args 0,hp:=aQ sub}:=by
  refine⟨by simp;omega,rfl,fun t=> ?_,hr⟩;rw[G9];simp only[aiN,if_true,Nat.sub_zero]
  cases ht:args[t]? with
  |none=>exact .undef _
  |some x=>
   have:=hargs t x ht;have hlt:t<vals.size:=by rw[hsz];exact(ain.1 ht).1
   simp only[aj0];rw[aiq,ajA hlt]
   rwa [aiq]at this
 have main:∀(s':St) (a':Act) (w':World) (ρ':cB),finish P fn sub.length s'=some out→SR Y fn.ntmps w' ρ' a' s'→oO sub.length w ρ (aQ sub) w' ρ' s'.hp→
   a'.defers=[]∧∃v,(results fn a'.tmps).run P w'= .ok v w'∧∃v' ρ'',Ending.returned v= .returned v'∧HR Y w' ρ'' (aD out.2.1 out.2.2)∧VR w' (XU Y ρ'' (aD out.2.1 out.2.2)) ρ'' v' out.1∧
    Stable w (XX ρ (aQ sub)) w' (XX ρ'' (aD out.2.1 out.2.2))∧∀g b,ρ g=some b→ρ'' g=some b:=by
  intro s' a' w' ρ' hfin hsr hwent;unfold finish at hfin;split at hfin
  ·rename_i y hy;obtain⟨v,hv1,hv2⟩:=zi hsr.hp hsr.fr hy;refine⟨hsr.VQ,v,hv1,v,fo ρ' sub.length (reached s'.hp sub.length (kV y)),rfl,?_⟩;obtain⟨hn,ho⟩:=qh (H:=s'.hp) (m:=sub.length) (roots:=kV y);simp only at hfin;generalize reached s'.hp sub.length (kV y)=R at hn ho hfin ⊢;split at hfin
   ·rename_i new hnew;simp only[aiv]at hfin;subst hfin;obtain⟨h1,h2⟩:=hsr.hp.pack (m:=sub.length) hn ho
    have hH:pu s'.hp sub.length (iw sub.length R) R=aD ((aF sub.length).map (fun g=>(get s'.hp g).map (bN (iw sub.length R)))) new:=by
     unfold pu aD;rw[aiL,ajv]
     congr 1
     obtain⟨hlen,hget⟩:=mapM_some _ _ _ hnew;apply List.ext_getElem?;intro i;rw[ait,ait]
     cases hi:R[i]? with
     |none=>
      rw[aji (by rw[hlen];exact ajr.1 hi)];rfl
     |some g=>
      obtain⟨k,hk1,hk2⟩:=hget i g hi;rw[hk1];simp only[aiF,hk2]
    rw[hH]at h1 h2;refine⟨h1,?_,hwent.st.trans h2,fun g b hg=> ?_⟩
    ·exact rF qm (hv2.mono (h2.xu Y) (fun _ _ e=>e))
    ·have hd:=hr.dom g b hg
     have hsub:(aQ sub).getD g.1 []=(if h:g.1<sub.length then [some sub[g.1]]else []):=by
      simp only[aiJ,aQ,ait];split
      ·rename_i h;simp[aiw h]
      ·rename_i h;simp[aji (Nat.le_of_not_lt h)]
     rw[hsub]at hd;split at hd
     ·rename_i hlt;have h0:g.2=0:=by simpa using hd
      have hgg:g=(g.1,0):=by rw[←h0]
      have hfst:(aF sub.length++R)[g.1]?=some (g.1,0):=by
       rw[ai3 (by simpa[aF]using hlt)];simp[aF,hlt]
      unfold fo;rw[if_pos h0,hfst];exact hwent.held g.1 hlt b (by rw[←hgg];exact hg)
     ·simp at hd
   ·cases hfin
  ·cases hfin
 refine calls_of_wp hfn hbody ?_;refine hto Y _ w ρ _ hstart (fun a' w' ρ' h1 h2=> ?_);rcases he with rfl|rfl
 ·exact main s1 a' w' ρ' hfin h1 h2
 ·exact main s1 a' w' ρ' hfin h1 h2
def dU(m n:Nat):Ren:=fun g=>some (if g.1<m then g else(g.1-m+n,g.2))
def DT(ρ ρ0:cB)(m n:Nat):cB:=fun g=>if g.1<m then ρ0 g else if g.1<n then ρ g else ρ0 (g.1-n+m,g.2)
theorem IC{m n:Nat}{ρ ρ0:cB}(hmn:m≤n):Moves (dU m n) ρ0 (DT ρ ρ0 m n):=by
 intro g g' b hg hb;simp only[dU,aiv]at hg;subst hg;unfold DT;by_cases h:g.1<m
 ·simp only[h,if_true];exact hb
 ·simp only[h,if_false];rw[if_neg (by omega),if_neg (by omega),show g.1-m+n-n+m=g.1 by omega];exact hb
theorem F3{f:FuncId}{fn:Func}{body:Code}{args:List AV}{sub:List bP}{out:Out}{s1:St}{m:Nat}(hm:m≤sub.length)(hfn:P.funcs[f]?=some fn)(hbody:fn.body=some body)
  (hlen:args.length≤fn.ntmps) (hto:To P fn.ntmps m body {fr:=zq args 0,hp:=aQ sub} e s1) (he:e= .normal∨e= .ret) (hfin:finish P fn m s1=some out):
  Contract P f args sub (zU (dU m sub.length) out.1,out.2.1.map (fun b=>b.map (bN (dU m sub.length)))++(sub.drop m).map (fun _=>none),out.2.2.map (bN (dU m sub.length))):=by
 intro Y w ρ vals hr hsz hargs
 have hstart:SR Y fn.ntmps w ρ {tmps:=vals++Array.replicate (fn.ntmps-vals.size) undef,defers:=[]} {fr:=zq args 0,hp:=aQ sub}:=by
  refine⟨by simp;omega,rfl,fun t=> ?_,hr⟩;rw[G9];simp only[aiN,if_true,Nat.sub_zero]
  cases ht:args[t]? with
  |none=>exact .undef _
  |some x=>
   have:=hargs t x ht;have hlt:t<vals.size:=by rw[hsz];exact(ain.1 ht).1
   simp only[aj0];rw[aiq,ajA hlt]
   rwa [aiq]at this
 generalize hS:dU m sub.length=S;generalize hB:out.2.1.map (fun b=>b.map (bN S))++(sub.drop m).map (fun _=>(none:Option bP))=B
 have main:∀(s':St) (a':Act) (w':World) (ρ':cB),finish P fn m s'=some out→SR Y fn.ntmps w' ρ' a' s'→oO m w ρ (aQ sub) w' ρ' s'.hp→
   a'.defers=[]∧∃v,(results fn a'.tmps).run P w'= .ok v w'∧∃v' ρ'',Ending.returned v= .returned v'∧HR Y w' ρ'' (aD B (out.2.2.map (bN S)))∧
    VR w' (XU Y ρ'' (aD B (out.2.2.map (bN S)))) ρ'' v' (zU S out.1)∧
    Stable w (XX ρ (aQ sub)) w' (XX ρ'' (aD B (out.2.2.map (bN S))))∧∀g b,ρ g=some b→ρ'' g=some b:=by
  intro s' a' w' ρ' hfin hsr hwent;unfold finish at hfin;split at hfin
  ·rename_i y hy;obtain⟨v,hv1,hv2⟩:=zi hsr.hp hsr.fr hy;refine⟨hsr.VQ,v,hv1,v,?_⟩;obtain⟨hn,ho⟩:=qh (H:=s'.hp) (m:=m) (roots:=kV y);simp only at hfin;generalize reached s'.hp m (kV y)=R at hn ho hfin ⊢;split at hfin
   ·rename_i new hnew;simp only[aiv]at hfin;subst hfin;simp only at hB ⊢;obtain⟨h1,h2⟩:=hsr.hp.pack (m:=m) hn ho;generalize hA:(aF m).map (fun g=>(get s'.hp g).map (bN (iw m R)))=A at hB ⊢;have hAl:A.length=m:=by rw[←hA];simp[aF]
    have hBl:B.length=sub.length:=by rw[←hB];simp[hAl];omega
    have hH:pu s'.hp m (iw m R) R=aD A new:=by
     unfold pu aD;rw[aiL,←hA,ajv]
     congr 1
     obtain⟨hlen,hget⟩:=mapM_some _ _ _ hnew;apply List.ext_getElem?;intro i;rw[ait,ait]
     cases hi:R[i]? with
     |none=>
      rw[aji (by rw[hlen];exact ajr.1 hi)];rfl
     |some g=>
      obtain⟨k,hk1,hk2⟩:=hget i g hi;rw[hk1];simp only[aiF,hk2]
    rw[hH]at h1 h2;have hv3:=rF (qm (m:=m) (R:=R) (ρ:=ρ')) (hv2.mono (h2.xu Y) (fun _ _ e=>e));have hst:=hwent.st.trans h2
    have hheld:∀g b,ρ g=some b→g.1<m→fo ρ' m R g=some b:=by
     intro g b hg hlt;have hd:=hr.dom g b hg
     have h0:g.2=0:=by
      simp only[aiJ,aQ,ait]at hd;rw[aiw (show g.1<sub.length by omega)]at hd;simpa using hd
     have hgg:g=(g.1,0):=by rw[←h0]
     have hfst:(aF m++R)[g.1]?=some (g.1,0):=by
      rw[ai3 (by simpa[aF]using hlt)];simp[aF,hlt]
     unfold fo;rw[if_pos h0,hfst];exact hwent.held g.1 hlt b (by rw[←hgg];exact hg)
    generalize fo ρ' m R=ρ0 at h1 h2 hv3 hst hheld;generalize hn0:sub.length=n at hS hm hBl
    let φ:Nat→Nat:=fun i=>if i<m then i else i-m+n
    have hφ:∀g:Nm,S g=some (φ g.1,g.2):=by
     intro g;rw[←hS];unfold dU;simp only[φ];split<;>rfl
    have g1:∀g,get (aD A new) g=if g.2=0 then(if g.1<m then(A[g.1]?).join else new[g.1-m]?)else none:=by
     intro g;rw[jm,hAl]
    have g2:∀g,get (aD B (new.map (bN S))) g=if g.2=0 then(if g.1<n then(B[g.1]?).join else(new[g.1-n]?).map (bN S))else none:=by
     intro g;rw[jm,hBl];simp only[ait]
    have Bg:∀i,i<n→(B[i]?).join=if i<m then((A[i]?).join).map (bN S)else none:=by
     intro i hi;rw[←hB];by_cases h:i<m
     ·rw[ai3 (by simpa[hAl]using h),if_pos h,ait]
      cases A[i]? with
      |none=>rfl
      |some q=>rfl
     ·rw[ai0 (by simp[hAl];omega),if_neg h,ait];simp only[ais,hAl]
      cases (sub.drop m)[i-m]? with
      |none=>rfl
      |some q=>rfl
    have up:∀i,DT ρ ρ0 m n (φ i,0)=ρ0 (i,0):=by
     intro i;unfold DT;simp only[φ];by_cases h:i<m
     ·simp[h]
     ·simp only[h,if_false];rw[if_neg (by omega),if_neg (by omega),show i-m+n-n+m=i by omega]
    have back:∀g k,get (aD B (new.map (bN S))) g=some k→∃i k0,g=(φ i,0)∧get (aD A new) (i,0)=some k0∧k=bN S k0:=by
     rintro⟨x,y⟩ k hk;rw[g2]at hk;split at hk
     ·rename_i h0;simp only at h0 hk;subst h0;split at hk
      ·rename_i hlt;rw[Bg x hlt]at hk;split at hk
       ·rename_i hm';obtain⟨k0,e1,e2⟩:=aiu.1 hk;refine⟨x,k0,by simp[φ,hm'],?_,e2.symm⟩;rw[g1];simp only[hm',if_true];exact e1
       ·cases hk
      ·rename_i hge;obtain⟨k0,e1,e2⟩:=aiu.1 hk;refine⟨x-n+m,k0,?_,?_,e2.symm⟩
       ·simp only[φ];rw[if_neg (by omega),show x-n+m-m+n=x by omega]
       ·rw[g1];simp only[if_true];rw[if_neg (by omega),show x-n+m-m=x-n by omega];exact e1
     ·cases hk
    have forth:∀i k0,get (aD A new) (i,0)=some k0→get (aD B (new.map (bN S))) (φ i,0)=some (bN S k0):=by
     intro i k0 hk;rw[g1]at hk;rw[g2];simp only[if_true,φ]at hk ⊢;by_cases h:i<m
     ·rw[if_pos h]at hk;rw[if_pos h,if_pos (by omega),Bg i (by omega),if_pos h,hk];rfl
     ·rw[if_neg h]at hk;rw[if_neg h,if_neg (by omega),show i-m+n-n=i-m by omega,hk];rfl
    have hsz2:∀k,(bN S k).sz=k.sz∧(bN S k).iK=k.iK∧(bN S k).box=k.box:=by
     intro k;unfold bN;split
     ·exact⟨rfl,rfl,rfl⟩
     ·exact⟨rfl,rfl,rfl⟩
    have hXX:XX (DT ρ ρ0 m n) (aD B (new.map (bN S)))=XX ρ0 (aD A new):=by
     funext b o
     apply propext;constructor
     ·rintro⟨g,k,a1,a2,a3⟩;obtain⟨i,k0,rfl,e1,rfl⟩:=back g k a1;rw[up]at a2;rw[(hsz2 k0).1,(hsz2 k0).2.1]at a3;exact⟨(i,0),k0,e1,a2,a3⟩
     ·rintro⟨⟨i,y⟩,k,a1,a2,a3⟩
      have hy0:y=0:=by
       rw[g1]at a1;by_cases h0:y=0
       ·exact h0
       ·simp[h0]at a1
      subst hy0;refine⟨(φ i,0),bN S k,forth i k a1,by rw[up];exact a2,?_⟩;rw[(hsz2 k).1,(hsz2 k).2.1];exact a3
    have hXU:XU Y (DT ρ ρ0 m n) (aD B (new.map (bN S)))=XU Y ρ0 (aD A new):=by
     funext b o
     simp only[XU,hXX]
    have hdom0:∀g b,ρ g=some b→g.1<n∧g.2=0:=by
     intro g b hg;have hd:=hr.dom g b hg;simp only[aiJ,aQ,ait]at hd;by_cases hlt:g.1<sub.length
     ·rw[aiw hlt]at hd;simp at hd;exact⟨by omega,hd⟩
     ·rw[aji (by omega)]at hd;simp at hd
    have hmv:Moves S ρ0 (DT ρ ρ0 m n):=by rw[←hS];exact IC hm
    have hdomB:∀j,j<n→((aD B (new.map (bN S))).getD j []).length=1:=by
     intro j hj;simp only[aiJ,aD];rw[ai3 (by simp[hBl,hj]),ait,aiw (by omega)];rfl
    refine⟨DT ρ ρ0 m n,trivial,⟨fun g k hg=> ?_,fun g g' k k' b hg hg' hb hb'=> ?_,fun g b hb=> ?_,fun g b hb=> ?_,fun g k b o hg hb=> ?_,h1.ylt⟩,?_,?_,fun g b hg=> ?_⟩
    ·obtain⟨i,k0,rfl,e1,rfl⟩:=back g k hg;rcases h1.blk (i,0) k0 e1 with⟨n1,n2,n3⟩|⟨b,n1,n2⟩
     ·left;refine⟨(up i).trans n1,?_,?_⟩
      ·unfold bN;rw[n3];exact n2
      ·rw[(hsz2 k0).2.2];exact n3
     ·right;refine⟨b,(up i).trans n1,?_⟩;rw[hXU];exact iP.ren hmv n2
    ·obtain⟨i,k0,rfl,e1,rfl⟩:=back g k hg;obtain⟨i',k0',rfl,e1',rfl⟩:=back g' k' hg'
     replace hb:=(up _).symm.trans hb
     replace hb':=(up _).symm.trans hb'
     have:=h1.inj (i,0) (i',0) k0 k0' b e1 e1' hb hb';cases this;rfl
    ·unfold DT at hb;split at hb
     ·rename_i hlt;have:=h1.dom g b hb
      have h0:((aD A new).getD g.1 []).length=1:=by
       simp only[aiJ,aD];rw[ai3 (by simp[hAl,hlt]),ait,aiw (by omega)];rfl
      rw[h0]at this;rw[hdomB _ (by omega)];exact this
     ·split at hb
      ·rename_i hlt;rw[hdomB _ hlt,(hdom0 g b hb).2];exact Nat.lt_succ_self 0
      ·rename_i hge;have:=h1.dom _ b hb;simp only[aiJ,aD]at this ⊢;rw[ai0 (by simp[hBl];omega)];rw[ai0 (by simp[hAl])]at this;simp only[ais,ait,hAl,hBl]at this ⊢;rw[show g.1-n+m-m=g.1-n by omega]at this
       cases hn2:new[g.1-n]? with
       |none=>rw[hn2]at this;simp at this
       |some q=>rw[hn2]at this;simpa using this
    ·unfold DT at hb;split at hb
     ·exact h1.lt _ b hb
     ·split at hb
      ·exact aj6 (hr.lt g b hb) hst.size
      ·exact h1.lt _ b hb
    ·obtain⟨i,k0,rfl,e1,rfl⟩:=back g k hg
     replace hb:=(up _).symm.trans hb
     exact h1.sep (i,0) k0 b o e1 hb
    ·rw[hXU];exact rF hmv hv3
    ·rw[hXX];exact hst
    ·unfold DT;split
     ·rename_i hlt;exact hheld g b hg hlt
     ·rw[if_pos (hdom0 g b hg).1];exact hg
   ·cases hfin
  ·cases hfin
 refine calls_of_wp hfn hbody ?_;refine hto Y _ w ρ _ hstart (fun a' w' ρ' h1 h2=> ?_);rcases he with rfl|rfl
 ·exact main s1 a' w' ρ' hfin h1 h2
 ·exact main s1 a' w' ρ' hfin h1 h2
end
inductive Ty where
 |int (k:IntKind)
 |bool
 |str
 |row (t:Ty)
 |unit
 |cons (a b:Ty)
 deriving DecidableEq
def Ty.den:Ty→Type
 | .int _=>Int
 | .bool=>Bool
 | .str=>ByteArray
 | .row t=>List t.den
 | .unit=>Unit
 | .cons a b=>a.den×b.den
def Ty.agg:Ty→Bool
 | .unit| .cons ..=>true
 |_=>false
def Ty.size:Ty→Nat
 | .unit=>0
 | .cons a b=>a.size+b.size
 |_=>1
def wrap(agg:Bool)(cs:List AV):AV:=
 match agg with
 |true=>.agg cs
 |false=>match cs with
  | [c]=>c
  |_=>.undef
def eY:(t:Ty)→t.den→List AV
 | .int k,n=> [.int k n]
 | .bool,b=> [.bool b]
 | .str,s=> [.str s]
 | .row t,l=> [.dQ (wV t.size (List.map (fun x=>wrap t.agg (eY t x)) l)) (List.map (fun x=>wrap t.agg (eY t x)) l) false]
 | .unit,_=> []
 | .cons a b,x=>eY a x.1++eY b x.2
def enc(t:Ty)(x:t.den):AV:=wrap t.agg (eY t x)
inductive SV where
 |undef
 |int (k:IntKind) (n:Int)
 |bool (b:Bool)
 |str (s:ByteArray)
 |nilp
 |nilf
 |row (t:Ty) (l:List t.den) (tight:Bool)
 |own (t:Ty) (g:Nm)
 |part (t:Ty) (g:Nm) (off len:Nat)
 |ptr (g:Nm) (sz i off:Nat)
 |lp (t:Ty) (l:List t.den) (i:Nat) (x:t.den) (h:l[i]?=some x) (off:Nat)
 |clo (f:FuncId) (caps:List SV)
 |fm (l:List (Int×FuncId×List FuncId))
 |fp (g:FuncId)
 |agg (cs:List SV)
 |tup (vs:List SV)
instance:Inhabited SV:=⟨.undef⟩
abbrev Lens:=Nm→Nat
def bD(t:Ty)(l:List t.den)(tight:Bool):AV:=.dQ (wV t.size (l.map (enc t))) (l.map (enc t)) tight
def d1(ℓ:Lens):SV→AV
 | .int k n=>.int k n
 | .bool b=>.bool b
 | .str s=>.str s
 | .nilp=>.nilp
 | .nilf=>.nilf
 | .row t l tight=>bD t l tight
 | .own t g=>.own g t.size 0 (ℓ g)
 | .part t g off len=>.own g t.size off len
 | .ptr g sz i off=>.ptr g sz i off
 | .lp t l i _ _ off=>.lp t.size (l.map (enc t)) i off
 | .fm l=>.fm l
 | .fp g=>.fp g
 |_=>.undef
def dC(ℓ:Lens):SV→AV
 | .clo f cs=>.clo f (cs.map (d1 ℓ))
 |v=>d1 ℓ v
def dA(ℓ:Lens):SV→AV
 | .agg cs=>.agg (cs.map (dC ℓ))
 |v=>dC ℓ v
def dV(ℓ:Lens):SV→AV
 | .tup vs=>.tup (vs.map (dA ℓ))
 |v=>dA ℓ v
def SV.cells:SV→List SV
 | .agg cs=>cs
 |v=> [v]
def SV.isAgg:SV→Bool
 | .agg _=>true
 |_=>false
def WW:SV→Bool
 | .undef| .agg _| .tup _=>false
 |_=>true
def MB:SV→Bool
 | .agg _=>true
 |v=>WW v
inductive Fz where
 |zero
 |all
 |low (k:Nat)
def Fz.n(len:Nat):Fz→Nat
 | .zero=>0
 | .all=>len
 | .low k=>len-k
inductive SB where
 |box (sz:Nat) (v:SV)
 |arr (t:Ty) (l:List t.den) (z:Fz)
 |mp (t:Ty) (l:List (Int×t.den))
 |dead (n:Nat)
def SB.len:SB→Nat
 | .arr _ l _=>l.length
 | .dead n=>n
 | .mp ..=>0
 | .box ..=>0
abbrev aR:=List (List SB)
def dB(ℓ:Lens):SB→Option bP
 | .box sz v=>some ⟨sz,[dA ℓ v],0,true⟩
 | .arr t l z=>some ⟨t.size,l.map (enc t),z.n l.length,false⟩
 | .mp t l=>some ⟨0,l.map fun p=>.agg [.int .i64 p.1,enc t p.2],0,false⟩
 | .dead _=>none
def dH(ℓ:Lens)(H:aR):Heap:=H.map fun l=>l.map (dB ℓ)
def bC(H:aR)(g:Nm):Option SB:=
 match H[g.1]? with
 |some l=>l[g.2]?
 |none=>none
def vR(H:aR)(g:Nm)(b:SB):aR:=H.modify g.1 fun l=>l.set g.2 b
def fJ(H:aR):Lens:=fun g=>match bC H g with
 |some b=>b.len
 |none=>0
def fq(ℓ:Lens)(H:aR):Prop:=∀g b,bC H g=some b→ℓ g=b.len
abbrev wC:=List (Nat×SV)
def iI:wC→Nat→SV
 | [],_=>.undef
 |(s,x)::r,t=>if s=t then x else iI r t
def Xy(s:Nat)(x:SV):wC→wC
 | []=> [(s,x)]
 |(t,y)::r=>if s<t then(s,x)::(t,y)::r else if s=t then(s,x)::r else(t,y)::Xy s x r
structure qM where
 fr:wC
 hp:aR
def dF(ℓ:Lens)(fr:wC):Fr:=fr.map fun p=>(p.1,dV ℓ p.2)
def dS(ℓ:Lens)(s:qM):St:={fr:=dF ℓ s.fr,hp:=dH ℓ s.hp}
def zW:SV→List Nm
 | .ptr g _ _ _=> [g]
 | .own _ g=> [g]
 | .part _ g _ _=> [g]
 |_=> []
def Iu:SV→List Nm
 | .clo _ cs=>cs.flatMap zW
 |v=>zW v
def zF:SV→List Nm
 | .agg cs=>cs.flatMap Iu
 |v=>Iu v
def oF:SV→List Nm
 | .tup vs=>vs.flatMap zF
 |v=>zF v
def Jp:SV→List Nm
 | .ptr g _ _ _=> [g]
 | .clo _ cs=>cs.flatMap zW
 |_=> []
def uM:SV→List Nm
 | .agg cs=>cs.flatMap Jp
 |v=>Jp v
def Nr(H:aR)(g:Nm):List Nm:=
 match bC H g with
 |some (.box _ v)=>zF v
 |_=> []
def JX(H:aR)(l:List Nm):List Nm:=iA l (l.flatMap (Nr H))
def DW(H:aR)(l:List Nm):List Nm:=JX H (JX H (JX H (iA [] l)))
def ni(H:aR)(m:Nat)(roots:List Nm):List Nm:=outside m (DW H (iA (aF m) roots))
def kW(f:Ren):SV→SV
 | .ptr g sz i off=>match f g with
  |some g'=>.ptr g' sz i off
  |none=>.undef
 | .own t g=>match f g with
  |some g'=>.own t g'
  |none=>.undef
 | .part t g off len=>match f g with
  |some g'=>.part t g' off len
  |none=>.undef
 | .clo _ _=>.undef
 | .agg _=>.undef
 | .tup _=>.undef
 |v=>v
def mY(f:Ren):SV→SV
 | .clo fn cs=>.clo fn (cs.map (kW f))
 |v=>kW f v
def sD(f:Ren):SV→SV
 | .agg cs=>.agg (cs.map (mY f))
 |v=>mY f v
def qI(f:Ren):SV→SV
 | .tup vs=>.tup (vs.map (sD f))
 |v=>sD f v
def eT(f:Ren):SB→SB
 | .box sz v=>.box sz (sD f v)
 |b=>b
inductive Tr(α:Type):Type 1 where
 |ret (a:α)
 |fail
 |need (g:Bool) (t:Tr α)
 |br (p:Bool) (x y:Tr α)
 |ask {A:Type} (m:Option A) (k:A→Tr α)
 |look {A:Type} (l:List A) (n:Int) (k:(x:A)→l[n.toNat]?=some x→Tr α)
 |cs {A B:Type} (r:A⊕B) (f:A→Tr α) (g:B→Tr α)
def rowAt{A B:Type}(l:List A)(n:Int)(k:(x:A)→l[n.toNat]?=some x→Option B):Option B:=
 cond (decide (0≤n)) (Option.pbind l[n.toNat]? k) none
def ax{A B C:Type}(r:A⊕B)(f:A→C)(g:B→C):C:=
 match r with
 | .inl a=>f a
 | .inr b=>g b
def Tr.mean{α:Type}:Tr α→Option α
 | .ret a=>some a
 | .fail=>none
 | .need g t=>cond g t.mean none
 | .br p x y=>cond p x.mean y.mean
 | .ask m k=>m.bind fun a=>(k a).mean
 | .look l n k=>rowAt l n fun x h=>(k x h).mean
 | .cs r f g=>ax r (fun a=>(f a).mean) (fun b=>(g b).mean)
def Tr.bind{α β:Type}(t:Tr α)(k:α→Tr β):Tr β:=
 match t with
 | .ret a=>k a
 | .fail=>.fail
 | .need g t=>.need g (t.bind k)
 | .br p x y=>.br p (x.bind k) (y.bind k)
 | .ask m f=>.ask m fun a=>(f a).bind k
 | .look l n f=>.look l n fun x h=>(f x h).bind k
 | .cs r f g=>.cs r (fun a=>(f a).bind k) (fun b=>(g b).bind k)
def Tr.map{α β:Type}(f:α→β)(t:Tr α):Tr β:=t.bind fun a=>.ret (f a)
def Tr.of{α:Type}:Option α→Tr α
 |some a=>.ret a
 |none=>.fail
def Tr.when{α:Type}(b:Bool)(t:Tr α):Tr α:=
 match b with
 |true=>t
 |false=>.fail
def Tr.mapM{α β:Type}(f:α→Tr β):List α→Tr (List β)
 | []=>.ret []
 |a::r=>(f a).bind fun b=>(Tr.mapM f r).bind fun bs=>.ret (b::bs)
def IA:(t:Ty)→t.den→List SV
 | .int k,n=> [.int k n]
 | .bool,b=> [.bool b]
 | .str,s=> [.str s]
 | .row t,l=> [.row t l false]
 | .unit,_=> []
 | .cons a b,x=>IA a x.1++IA b x.2
def CF(t:Ty)(x:t.den):SV:=
 match t.agg with
 |true=>.agg (IA t x)
 |false=>match IA t x with
  | [c]=>c
  |_=>.undef
def xL{t t':Ty}(l:List t.den):Option (List t'.den):=
 if h:t=t' then some (h ▸ l)else match l with
  | []=>some []
  |_=>none
def IU:(t:Ty)→List SV→Option (t.den×List SV)
 | .int k,.int k' n::r=>if k=k' then some (n,r)else none
 | .bool,.bool b::r=>some (b,r)
 | .str,.str s::r=>some (s,r)
 | .row t,.row t' l _::r=>match xL (t:=t') (t':=t) l with
  |some l=>some (l,r)
  |none=>none
 | .unit,r=>some ((),r)
 | .cons a b,r=>match IU a r with
  |some (x,r)=>match IU b r with
   |some (y,r)=>some ((x,y),r)
   |none=>none
  |none=>none
 |_,_=>none
def LY(t:Ty)(v:SV):Option t.den:=
 if v.isAgg=t.agg then
  match IU t v.cells with
  |some (x,[])=>some x
  |_=>none
 else none
inductive oG where
 |undef
 |nilp
 |nilf
 |nil
 |own (t:Ty) (g:Nm)
 |ptr (g:Nm) (sz i off:Nat)
 |clo (f:FuncId) (caps:List (Nm×Nat×Nat×Nat))
 |fm (l:List (Int×FuncId×List FuncId))
 |fp (g:FuncId)
 deriving DecidableEq
inductive Sh where
 |nil
 |st (x:oG) (r:Sh)
 |dat (t:Ty) (r:Sh)
 |part (t:Ty) (g:Nm) (r:Sh)
 |eptr (g:Nm) (sz off:Nat) (r:Sh)
 |agg (i r:Sh)
def Sh.den:Sh→Type
 | .nil=>Unit
 | .st _ r=>r.den
 | .dat t r=>t.den×r.den
 | .part _ _ r=>(Nat×Nat)×r.den
 | .eptr _ _ _ r=>Nat×r.den
 | .agg i r=>i.den×r.den
def oG.un:oG→SV
 | .undef=>.undef
 | .nilp=>.nilp
 | .nilf=>.nilf
 | .nil=>.row .unit [] true
 | .own t g=>.own t g
 | .ptr g sz i off=>.ptr g sz i off
 | .clo f caps=>.clo f (caps.map fun c=>.ptr c.1 c.2.1 c.2.2.1 c.2.2.2)
 | .fm l=>.fm l
 | .fp g=>.fp g
def Sh.un:(s:Sh)→s.den→List SV
 | .nil,_=> []
 | .st x r,v=>x.un::Sh.un r v
 | .dat t r,v=>CF t v.1::Sh.un r v.2
 | .part t g r,v=>.part t g v.1.1 v.1.2::Sh.un r v.2
 | .eptr g sz off r,v=>.ptr g sz v.1 off::Sh.un r v.2
 | .agg i r,v=>.agg (Sh.un i v.1)::Sh.un r v.2
def ptrEq(c:Nm×Nat×Nat×Nat):SV→Bool
 | .ptr g sz i off=>decide (c=(g,sz,i,off))
 |_=>false
def HY:List (Nm×Nat×Nat×Nat)→List SV→Bool
 | [],[]=>true
 |c::r,v::vs=>ptrEq c v&&HY r vs
 |_,_=>false
def oG.fits:oG→SV→Bool
 | .undef,v=> !v.isAgg
 | .nilp,.nilp=>true
 | .nilf,.nilf=>true
 | .nil,.row _ [] true=>true
 | .own t g,.own t' g'=>decide (t=t'∧g=g')
 | .ptr g sz i off,.ptr g' sz' i' off'=>decide (g=g'∧sz=sz'∧i=i'∧off=off')
 | .clo f caps,.clo f' cs=>decide (f=f')&&HY caps cs
 | .fm l,.fm l'=>decide (l=l')
 | .fp g,.fp g'=>decide (g=g')
 |_,_=>false
def Sh.pa:(s:Sh)→List SV→Option s.den
 | .nil,[]=>some ()
 | .st x r,v::vs=>if x.fits v then Sh.pa r vs else none
 | .dat t r,v::vs=>match LY t v,Sh.pa r vs with
  |some a,some b=>some (a,b)
  |_,_=>none
 | .part t g r,v::vs=>match v,Sh.pa r vs with
  | .part t' g' off len,some b=>if t=t'∧g=g' then some ((off,len),b)else none
  |_,_=>none
 | .eptr g sz off r,v::vs=>match v,Sh.pa r vs with
  | .ptr g' sz' i off',some b=>if g=g'∧sz=sz'∧off=off' then some (i,b)else none
  |_,_=>none
 | .agg i r,v::vs=>match v,Sh.pa r vs with
  | .agg cs,some b=>match Sh.pa i cs with
   |some a=>some (a,b)
   |none=>none
  |_,_=>none
 |_,_=>none
inductive iY where
 |nil
 |box (sz:Nat) (s:Sh) (r:iY)
 |arr (t:Ty) (frozen:Bool) (r:iY)
 |mp (t:Ty) (r:iY)
 |dead (n:Nat) (r:iY)
def iY.den:iY→Type
 | .nil=>Unit
 | .box _ s r=>s.den×r.den
 | .arr t _ r=>List t.den×r.den
 | .mp t r=>List (Int×t.den)×r.den
 | .dead _ r=>r.den
def iY.len:iY→Nat
 | .nil=>0
 | .box _ _ r=>r.len+1
 | .arr _ _ r=>r.len+1
 | .mp _ r=>r.len+1
 | .dead _ r=>r.len+1
def aei(frozen:Bool):Fz:=
 match frozen with
 |true=>.all
 |false=>.zero
def iY.un:(b:iY)→b.den→aR
 | .nil,_=> []
 | .box sz s r,v=> [.box sz ((s.un v.1).headD .undef)]::iY.un r v.2
 | .arr t z r,v=> [.arr t v.1 (aei z)]::iY.un r v.2
 | .mp t r,v=> [.mp t v.1]::iY.un r v.2
 | .dead n r,v=> [.dead n]::iY.un r v
structure Sg where
 slots:List Nat
 sh:Sh
 bk:iY
abbrev Sg.den(σ:Sg):Type:=σ.sh.den×σ.bk.den
def tY:List Nat→List SV→wC
 |t::r,v::vs=>(t,v)::tY r vs
 |_,_=> []
def Sg.un(σ:Sg)(v:σ.den):qM:={fr:=tY σ.slots (σ.sh.un v.1),hp:=σ.bk.un v.2}
def aeK:Bool→Fz→Bool
 |true,.all=>true
 |false,.zero=>true
 |_,_=>false
def iY.pa:(b:iY)→aR→Option b.den
 | .nil,[]=>some ()
 | .box sz s r,[.box sz' v]::H=>if sz=sz' then(match s.pa [v],iY.pa r H with
  |some a,some b=>some (a,b)
  |_,_=>none)else none
 | .arr t z r,[.arr t' l f]::H=>if h:t'=t then(if aeK z f=true then(match iY.pa r H with
  |some b=>some (h ▸ l,b)
  |none=>none)else none)else none
 | .mp t r,[.mp t' l]::H=>if h:t'=t then(match iY.pa r H with
  |some b=>some (h ▸ l,b)
  |none=>none)else none
 | .dead n r,[.dead n']::H=>if n=n' then iY.pa r H else none
 |_,_=>none
def iD(H:aR):SV→Tr (SV×List Nm)
 | .own t g=>match bC H g with
  |some (.arr t' l _)=>if h:t'=t then(if 0<t.size then .ret (.row t (h ▸ l) false,[g])else .fail)else .fail
  |_=>.fail
 | .part t g off len=>match bC H g with
  |some (.arr t' l _)=>if h:t'=t then(if 0<t.size then .need (decide (off+len≤l.length)) (.ret (.row t (((h ▸ l:List t.den).drop off).take len) false,[g]))else .fail)else .fail
  |_=>.fail
 | .ptr ..=>.fail
 | .clo ..=>.fail
 | .lp ..=>.fail
 | .fm _=>.fail
 | .fp _=>.fail
 | .agg _=>.fail
 | .tup _=>.fail
 | .row t l _=>.ret (.row t l false,[])
 |v=>.ret (v,[])
def MX(H:aR):List SV→Tr (List SV×List Nm)
 | []=>.ret ([],[])
 |x::r=>(iD H x).bind fun p=>(MX H r).bind fun q=>.ret (p.1::q.1,p.2++q.2)
def ED(H:aR):SV→Tr (SV×List Nm)
 | .agg cs=>(MX H cs).bind fun p=>.ret (.agg p.1,p.2)
 | .tup _=>.fail
 |v=>iD H v
def SB.stop:SB→SB
 | .arr t l _=>.arr t l .all
 |b=>b
def gF(H:aR):List (Nm×SB)→aR
 | []=>H
 |(g,b)::r=>gF (vR H g b) r
def iX(H:aR)(l:List Nm):List (Nm×SB):=l.map fun g=>(g,match bC H g with
 |some b=>b.stop
 |none=>.dead 0)
def pF(H:aR)(l:List Nm):aR:=gF H (iX H l)
def qE:SV→SV
 | .tup _=>.undef
 |v=>v
def jA:Sh→List SV→aR→Tr (List SV×aR)
 | .nil,vs,H=>.ret (vs,H)
 |_,[],H=>.ret ([],H)
 | .st x r,v::vs,H=>match x,v with
  | .own t _,.row _ [] true=>(jA r vs (H++ [[.arr t [] .zero]])).bind fun q=>.ret (.own t (H.length,0)::q.1,q.2)
  | .undef,v=>(if v.isAgg=false then(jA r vs H).bind fun q=>.ret (.undef::q.1,q.2)else .fail)
  |_,v=>(jA r vs H).bind fun q=>.ret (v::q.1,q.2)
 | .dat _ r,v::vs,H=>(ED H v).bind fun p=>(jA r vs (pF H p.2)).bind fun q=>.ret (p.1::q.1,q.2)
 | .part t' _ r,v::vs,H=>match v with
  | .row _ [] true=>(jA r vs (H++ [[.arr t' [] .zero]])).bind fun q=>.ret (.part t' (H.length,0) 0 0::q.1,q.2)
  |v=>(jA r vs H).bind fun q=>.ret ((match v with
  | .own t g=>(match bC H g with
   |some b=>.part t g 0 b.len
   |none=>.own t g)
  |v=>v)::q.1,q.2)
 | .eptr _ _ _ r,v::vs,H=>(jA r vs H).bind fun q=>.ret (v::q.1,q.2)
 | .agg i r,v::vs,H=>match v with
  | .agg cs=>(jA i cs H).bind fun p=>(jA r vs p.2).bind fun q=>.ret (.agg p.1::q.1,q.2)
  |v=>(jA r vs H).bind fun q=>.ret (v::q.1,q.2)
def LB(m:Nat)(s:qM):Option qM:=
 let R:=ni s.hp m (s.fr.flatMap fun p=>oF p.2)
 let f:=iw m R
 match(aF m++R).mapM (fun g=>(bC s.hp g).map fun b=> [eT f b])with
 |some hp=>some {fr:=s.fr.map fun p=>(p.1,qI f p.2),hp}
 |none=>none
def xw:iY→Nat→aR→Tr aR
 | .nil,_,H=>.ret H
 | .box _ s r,j,H=>match bC H (j,0)with
  |some (.box sz v)=>(jA s [v] H).bind fun p=>match p.1 with
   | [v']=>xw r (j+1) (vR p.2 (j,0) (.box sz v'))
   |_=>.fail
  |_=>.fail
 | .arr _ z r,j,H=>xw r (j+1) (match z with
  |true=>(match bC H (j,0)with
   |some (.arr ..)=>pF H [(j,0)]
   |_=>H)
  |false=>H)
 | .mp _ r,j,H=>xw r (j+1) H
 | .dead _ r,j,H=>xw r (j+1) H
def iY.soft:iY→iY
 | .nil=>.nil
 | .box sz s r=>.box sz s r.soft
 | .arr t _ r=>.arr t false r.soft
 | .mp t r=>.mp t r.soft
 | .dead n r=>.dead n r.soft
def fit(m:Nat)(σ:Sg)(s:qM):Tr σ.den:=
 (jA σ.sh (σ.slots.map fun t=>qE (iI s.fr t)) s.hp).bind fun p=>
 (Tr.of (LB m {fr:=tY σ.slots (p.1.map qE),hp:=p.2})).bind fun s1=>
 (xw σ.bk.soft 0 s1.hp).bind fun H2=>
 (Tr.of (LB m {fr:=s1.fr,hp:=H2})).bind fun s1=>
 (xw σ.bk 0 s1.hp).bind fun H2=>
 (Tr.of (LB m {fr:=s1.fr,hp:=H2})).bind fun s2=>
 match σ.sh.pa (σ.slots.map (iI s2.fr)),σ.bk.pa s2.hp with
 |some a,some b=>.ret (a,b)
 |_,_=>.fail
theorem uP(ℓ:Lens):∀(fr:wC) (t:Nat),look (dF ℓ fr) t=dV ℓ (iI fr t):=by
 intro fr
 induction fr with
 |nil=>intro t;rfl
 |cons p r ih=>
  intro t;obtain⟨s,x⟩:=p;simp only[dF,aiE,look,iI];split
  ·rfl
  ·exact ih t
theorem aaY(ℓ:Lens)(s:Nat)(x:SV):∀(fr:wC),dF ℓ (Xy s x fr)=ins s (dV ℓ x) (dF ℓ fr):=by
 intro fr
 induction fr with
 |nil=>rfl
 |cons p r ih=>
  obtain⟨t,y⟩:=p;simp only[dF,aiE,ins,Xy]at ih ⊢;split
  ·rfl
  ·split
   ·rfl
   ·simp only[aiE,ih]
theorem dK(ℓ:Lens)(H:aR)(g:Nm):get (dH ℓ H) g=(bC H g).bind (dB ℓ):=by
 simp only[get,bC,dH,ait]
 cases H[g.1]? with
 |none=>rfl
 |some l=>
  simp only[aiF,ait]
  cases l[g.2]? with
  |none=>rfl
  |some b=>rfl
theorem OW(ℓ:Lens)(H:aR)(g:Nm)(b:SB):dH ℓ (vR H g b)=set (dH ℓ H) g (dB ℓ b):=by
 simp only[dH,vR,set];apply List.ext_getElem?;intro i;simp only[ait,List.getElem?_modify]
 cases H[i]? with
 |none=>rfl
 |some l=>
  simp only[aiF];split
  ·simp[List.map_set]
  ·rfl
theorem Ah(ℓ:Lens)(H K:aR):dH ℓ (H++K)=dH ℓ H++dH ℓ K:=aiL ..
theorem PS(ℓ:Lens)(H:aR):(dH ℓ H).length=H.length:=by simp[dH]
theorem jL(H:aR)(g g':Nm)(b:SB):bC (vR H g b) g'=if g'=g∧(bC H g).isSome then some b else bC H g':=by
 obtain⟨a,c⟩:=g;obtain⟨a',c'⟩:=g';simp only[bC,vR,List.getElem?_modify,aiC];by_cases ha:a=a'
 ·subst ha
  cases hl:H[a]? with
  |none=>simp
  |some l=>
   simp only[if_true,aiF,List.getElem?_set,true_and];by_cases hc:c=c'
   ·subst hc;by_cases hlt:c<l.length
    ·simp[hlt]
    ·simp[hlt]
   ·simp[hc,Ne.symm hc]
 ·have:¬ a'=a:=fun h=>ha h.symm
  cases hl:H[a']?<;>simp[ha,this]
theorem uq{H K:aR}{g:Nm}{b:SB}(h:bC H g=some b):bC (H++K) g=some b:=by
 simp only[bC]at h ⊢
 cases hl:H[g.1]? with
 |none=>simp[hl]at h
 |some l=>
  rw[hl]at h;rw[ai3 (ain.1 hl).1,hl];exact h
theorem fq.append{ℓ:Lens}{H K:aR}(h:fq ℓ (H++K)):fq ℓ H:=fun g b hg=>h g b (uq hg)
theorem fq.vR{ℓ:Lens}{H:aR}{g:Nm}{b b0:SB}(h0:bC H g=some b0)(hl:b.len=b0.len)(h:fq ℓ (vR H g b)):fq ℓ H:=by
 intro g' x hx;by_cases e:g'=g
 ·subst e;rw[h0]at hx;cases hx;rw[←hl];exact h _ b (by rw[jL];simp[h0])
 ·exact h g' x (by rw[jL,if_neg (fun hh=>e hh.1)];exact hx)
theorem fO(H:aR):fq (fJ H) H:=fun g b h=>by simp[fJ,h]
theorem Ct(ℓ:Lens)(v:SV):OA (d1 ℓ v)=zW v:=by cases v<;>rfl
theorem jR{f:AV→List Nm}{g:SV→List Nm}{d:SV→AV}(h:∀v,f (d v)=g v)(l:List SV):(l.map d).flatMap f=l.flatMap g:=by
 simp only[List.flatMap_map,h]
theorem Wy(ℓ:Lens)(v:SV):J7 (dC ℓ v)=Iu v:=by
 cases v<;>first|rfl|exact jR (Ct ℓ) _
theorem xA(ℓ:Lens)(v:SV):kV (dA ℓ v)=zF v:=by
 cases v<;>first|rfl|exact jR (Wy ℓ) _|exact jR (Ct ℓ) _
theorem Oz(ℓ:Lens)(v:SV):kV (dV ℓ v)=oF v:=by
 cases v with
 |tup vs=>
  simp only[dV,kV,oF];refine jR (fun v=> ?_) vs;have:=xA ℓ v
  cases v<;>first|rfl|exact this
 |agg cs=>exact xA ℓ (.agg cs)
 |clo f cs=>exact xA ℓ (.clo f cs)
 |_=>rfl
theorem Ue(ℓ:Lens)(v:SV):Mg (dC ℓ v)=Jp v:=by
 cases v<;>first|rfl|exact jR (Ct ℓ) _
theorem UX(ℓ:Lens)(v:SV):eH (dA ℓ v)=uM v:=by
 cases v with
 |agg cs=>exact jR (Ue ℓ) _
 |clo f cs=>exact jR (Ct ℓ) _
 |_=>rfl
theorem WO(ℓ:Lens)(H:aR)(g:Nm):Gd (dH ℓ H) g=Nr H g:=by
 simp only[Gd,Nr,dK]
 cases bC H g with
 |none=>rfl
 |some b=>
  cases b with
  |box sz v=>simp[dB,xA]
  |arr t l z=>simp[dB]
  |mp t l=>simp[dB]
  |dead n=>simp[dB]
theorem abd(ℓ:Lens)(H:aR)(l:List Nm):grow (dH ℓ H) l=JX H l:=by
 simp only[grow,JX]
 congr 1
 exact congrArg (fun f=>l.flatMap f) (funext (WO ℓ H))
theorem Ox(ℓ:Lens)(H:aR)(l:List Nm):reach (dH ℓ H) l=DW H l:=by simp only[reach,DW,abd]
theorem Gm(ℓ:Lens)(H:aR)(m:Nat)(l:List Nm):reached (dH ℓ H) m l=ni H m l:=by simp only[reached,ni,Ox]
def Goes(f:Ren)(ℓ ℓ':Lens):Prop:=∀g g',f g=some g'→ℓ' g'=ℓ g
section
variable{f:Ren}{ℓ ℓ':Lens}
theorem I8(h:Goes f ℓ ℓ')(v:SV):BL f (d1 ℓ v)=d1 ℓ' (kW f v):=by
 cases v with
 |own t g=>
  simp only[d1,BL,kW]
  cases e:f g with
  |none=>rfl
  |some g'=>simp only[d1,h g g' e]
 |part t g off len=>
  simp only[d1,BL,kW];cases e:f g<;>rfl
 |ptr g sz i off=>
  simp only[d1,BL,kW];cases e:f g<;>rfl
 |row t l tight=>rfl
 |_=>rfl
theorem SC{F:AV→AV}{G:SV→SV}{d d':SV→AV}(h:∀v,F (d v)=d' (G v))(l:List SV):(l.map d).map F=(l.map G).map d':=by
 simp only[ajv];exact aiW fun v _=>h v
theorem uf(h:Goes f ℓ ℓ')(v:SV):FB f (dC ℓ v)=dC ℓ' (mY f v):=by
 cases v with
 |clo fn cs=>simp only[dC,FB,mY,SC (I8 h)]
 |row t l tight=>rfl
 |own t g=>exact(I8 h (.own t g)).trans (by simp only[mY,kW];cases f g<;>rfl)
 |part t g off len=>exact(I8 h (.part t g off len)).trans (by simp only[mY,kW];cases f g<;>rfl)
 |ptr g sz i off=>exact(I8 h (.ptr g sz i off)).trans (by simp only[mY,kW];cases f g<;>rfl)
 |_=>rfl
theorem vN(h:Goes f ℓ ℓ')(v:SV):F8 f (dA ℓ v)=dA ℓ' (sD f v):=by
 cases v with
 |agg cs=>simp only[dA,F8,sD,SC (uf h)]
 |clo fn cs=>exact uf h (.clo fn cs)
 |row t l tight=>rfl
 |own t g=>exact(uf h (.own t g)).trans (by simp only[sD,mY,kW];cases f g<;>rfl)
 |part t g off len=>exact(uf h (.part t g off len)).trans (by simp only[sD,mY,kW];cases f g<;>rfl)
 |ptr g sz i off=>exact(uf h (.ptr g sz i off)).trans (by simp only[sD,mY,kW];cases f g<;>rfl)
 |_=>rfl
theorem H7(h:Goes f ℓ ℓ')(v:SV):zU f (dV ℓ v)=dV ℓ' (qI f v):=by
 cases v with
 |tup vs=>simp only[dV,zU,qI,SC (vN h)]
 |agg cs=>exact vN h (.agg cs)
 |clo fn cs=>exact vN h (.clo fn cs)
 |row t l tight=>rfl
 |own t g=>exact(vN h (.own t g)).trans (by simp only[qI,sD,mY,kW];cases f g<;>rfl)
 |part t g off len=>exact(vN h (.part t g off len)).trans (by simp only[qI,sD,mY,kW];cases f g<;>rfl)
 |ptr g sz i off=>exact(vN h (.ptr g sz i off)).trans (by simp only[qI,sD,mY,kW];cases f g<;>rfl)
 |_=>rfl
theorem rQ(h:Goes f ℓ ℓ')(b:SB):(dB ℓ b).map (bN f)=dB ℓ' (eT f b):=by
 cases b with
 |box sz v=>simp[dB,bN,eT,vN h]
 |arr t l z=>simp[dB,bN,eT]
 |mp t l=>simp[dB,bN,eT]
 |dead n=>rfl
theorem gQ(f:Ren)(b:SB):(eT f b).len=b.len:=by cases b<;>rfl
end
theorem Gg(t:Ty)(x:t.den)(ℓ:Lens):(IA t x).map (d1 ℓ)=eY t x∧(IA t x).map (dC ℓ)=eY t x:=by
 induction t with
 |int k=>exact⟨rfl,rfl⟩
 |bool=>exact⟨rfl,rfl⟩
 |str=>exact⟨rfl,rfl⟩
 |row t ih=>exact⟨rfl,rfl⟩
 |unit=>exact⟨rfl,rfl⟩
 |cons a b iha ihb=>
  simp only[IA,eY,aiL];exact⟨by rw[(iha x.1).1,(ihb x.2).1],by rw[(iha x.1).2,(ihb x.2).2]⟩
theorem dL(t:Ty)(x:t.den):(eY t x).length=t.size:=by
 induction t with
 |cons a b iha ihb=>simp only[eY,aiB,Ty.size,iha,ihb]
 |_=>rfl
theorem JR{t:Ty}(h:t.agg=false):t.size=1:=by cases t<;>first|rfl|cases h
theorem jJ(t:Ty)(x:t.den):(enc t x).cells=eY t x:=by
 unfold enc wrap
 cases h:t.agg with
 |true=>rfl
 |false=>
  have hl:=dL t x;rw[JR h]at hl
  cases t<;>first|rfl|cases h
theorem QY(t:Ty)(x:t.den):(enc t x).isAgg=t.agg:=by
 cases t<;>rfl
theorem Io(t:Ty)(x:t.den):okV (enc t x)=true:=by cases t<;>rfl
theorem Cq(t:Ty)(x:t.den)(ℓ:Lens):dA ℓ (CF t x)=enc t x:=by
 cases t with
 |unit=>rfl
 |cons a b=>simp only[CF,Ty.agg,dA,enc,wrap,(Gg (.cons a b) x ℓ).2]
 |_=>rfl
theorem QZ(t:Ty)(x:t.den):(CF t x).cells=IA t x:=by cases t<;>rfl
theorem Rj(t:Ty)(x:t.den):(CF t x).isAgg=t.agg:=by cases t<;>rfl
theorem fP(ℓ:Lens)(v:SV):(dA ℓ v).cells=v.cells.map (dC ℓ):=by
 cases v<;>rfl
theorem mR(ℓ:Lens)(v:SV):(dA ℓ v).isAgg=v.isAgg:=by cases v<;>rfl
theorem Df(ℓ:Lens)(v:SV):okV (dA ℓ v)=MB v:=by cases v<;>rfl
def HW(H H':Heap):Prop:=∀(Y:XT) (w:World) (ρ:cB),HR Y w ρ H→HR Y w ρ H'∧Stable w (XX ρ H) w (XX ρ H')
def VW(H H':Heap)(x y:AV):Prop:=∀(Y:XT) (w:World) (ρ:cB) (v:Value),HR Y w ρ H→VR w (XU Y ρ H) ρ v x→VR w (XU Y ρ H') ρ v y
theorem HW.refl(H:Heap):HW H H:=fun _ _ _ h=>⟨h,Stable.refl _ _⟩
theorem HW.trans{A B C:Heap}(h:HW A B)(k:HW B C):HW A C:=fun Y w ρ hr=>by
 obtain⟨h1,h2⟩:=h Y w ρ hr;obtain⟨h3,h4⟩:=k Y w ρ h1;exact⟨h3,h2.trans h4⟩
theorem HW.vw{H H':Heap}(h:HW H H')(x:AV):VW H H' x x:=fun Y w ρ _ hr hv=>hv.mono ((h Y w ρ hr).2.xu Y) (fun _ _ e=>e)
theorem VW.refl(H:Heap)(x:AV):VW H H x x:=fun _ _ _ _ _ h=>h
theorem VW.trans{A B C:Heap}{x y z:AV}(hw:HW A B)(h:VW A B x y)(k:VW B C y z):VW A C x z:=fun Y w ρ v hr hv=>
 k Y w ρ v (hw Y w ρ hr).1 (h Y w ρ v hr hv)
theorem VW.undef{H H':Heap}{x:AV}:VW H H' x .undef:=fun _ _ _ _ _ _=>.undef _
structure CW(H H':Heap)(x y:AV):Prop where
 agg:x.isAgg=y.isAgg
 len:x.cells.length=y.cells.length
 cell:∀(j:Nat) (u u':AV),x.cells[j]?=some u→y.cells[j]?=some u'→VW H H' u u'
theorem lT{x:AV}(h:x.isAgg=false):x.cells=[x]:=by cases x<;>first|rfl|cases h
theorem CW.of(H H':Heap){x y:AV}(hx:x.isAgg=false)(hy:y.isAgg=false)(h:VW H H' x y):CW H H' x y:=by
 refine⟨by rw[hx,hy],by rw[lT hx,lT hy];rfl,fun j u u' h1 h2=> ?_⟩;rw[lT hx]at h1;rw[lT hy]at h2
 cases j with
 |zero=>simp at h1 h2;subst h1;subst h2;exact h
 |succ j=>simp at h1
theorem CW.vw{H H':Heap}{x y:AV}(h:CW H H' x y):VW H H' x y:=by
 cases hx:x.isAgg with
 |true=>
  cases x<;>first|cases hx|skip
  rename_i cs;have hy:=h.agg
  cases y<;>first|cases hy|skip
  rename_i cs';intro Y w ρ v hr hv;obtain⟨ail,rfl,hn,h1,hc⟩:=hv.j3;have hl:=h.len;simp only[AV.cells]at hl;refine .agg _ _ (by omega) h1 (fun i y hy=> ?_);have hi:i<cs.length:=by rw[hl];exact(ain.1 hy).1
  exact h.cell i cs[i] y (by simp[AV.cells,hi]) hy Y w ρ _ hr (hc i cs[i] (by simp[hi]))
 |false=>
  have hy:=h.agg;rw[hx]at hy;refine h.cell 0 x y ?_ ?_
  ·rw[lT hx];rfl
  ·rw[lT hy.symm];rfl
theorem CW.refl(H H':Heap)(hw:HW H H')(x:AV):CW H H' x x:=⟨rfl,rfl,fun j u u' h1 h2=>by rw[h1]at h2;cases h2;exact hw.vw u⟩
theorem CW.trans{A B C:Heap}{x y z:AV}(hw:HW A B)(h:CW A B x y)(k:CW B C y z):CW A C x z:=by
 refine⟨h.agg.trans k.agg,h.len.trans k.len,fun j u u' h1 h2=> ?_⟩;have hj:j<y.cells.length:=by rw[←h.len];exact(ain.1 h1).1
 exact(h.cell j u _ h1 (aiw hj)).trans hw (k.cell j _ u' (aiw hj) h2)
theorem HW.pw{H H':Heap}(h:∀g k',get H' g=some k'→∃k,get H g=some k∧k'.sz=k.sz∧k'.box=k.box∧k.iK≤k'.iK∧
   (k'.elems=k.elems∨(k.box=true∧k'.elems.length=k.elems.length∧∀(i:Nat) (x y:AV),k.elems[i]?=some x→k'.elems[i]?=some y→CW H H x y)))
  (hlen:∀i,(H'.getD i []).length=(H.getD i []).length):HW H H':=by
 intro Y w ρ hr
 have hx:∀b o,XX ρ H' b o→XX ρ H b o:=by
  rintro b o ⟨g,k',hg,hρ,ho⟩;obtain⟨k,hk,h1,_,h4,_⟩:=h g k' hg;exact⟨g,k,hk,hρ,aja (by rw[h1];exact ai4 _ h4) ho⟩
 have hst:Stable w (XX ρ H) w (XX ρ H'):=(Stable.refl w _).less fun b o _ e=>hx b o e
 refine⟨⟨fun g k' hg=> ?_,fun g g' k k' b hg hg' h1 h2=> ?_,fun g b hb=> ?_,hr.lt,fun g k' b o hg hb=> ?_,hr.ylt⟩,hst⟩
 ·obtain⟨k,hk,h1,h2,h3,h4⟩:=h g k' hg;rcases hr.blk g k hk with⟨a1,a2,a3⟩|⟨b,a1,a2⟩
  ·rcases h4 with h4|⟨h4,_⟩
   ·exact .inl ⟨a1,h4.trans a2,h2.trans a3⟩
   ·rw[h4]at a3;cases a3
  ·refine .inr ⟨b,a1,?_⟩;rcases a2 with⟨a0,cs,T,a2,a3⟩|⟨m1,m2,es,cl,m3,m4⟩
   case inr=>
    rcases h4 with h4|⟨h4,_⟩
    ·exact .inr ⟨h1.trans m1,h2.trans m2,es,cl,m3,by rw[h4];exact m4⟩
    ·rw[h4]at m2;cases m2
   refine .inl ⟨by rw[h1];exact a0,cs,T,a2,?_⟩;rcases h4 with h4|⟨h4,h5,h6⟩
   ·rw[h1,h4,h2];exact a3.mono (hst.xu Y) (fun _ _ h=>h)
   ·rw[h1,h2,h4];rw[h4]at a3;refine aX.mono (hst.xu Y) (fun _ _ h=>h) ⟨by rw[h5];exact a3.1,fun i y hy=> ?_⟩;have hi:i<k.elems.length:=by rw[←h5];exact(ain.1 hy).1
    have hxe:=aiw hi;have hc:=h6 i _ y hxe hy;obtain⟨b1,b2⟩:=a3.2 i _ hxe;refine⟨by rw[←hc.len];exact b1,fun j u hu=> ?_⟩;have hj:j<k.elems[i].cells.length:=by rw[hc.len];exact(ain.1 hu).1
    obtain⟨b3,b4⟩:=b2 j _ (aiw hj);exact⟨b3,hc.cell j _ u (aiw hj) hu Y w ρ _ hr b4⟩
 ·obtain⟨x,hx,_⟩:=h g k hg;obtain⟨y,hy,_⟩:=h g' k' hg';exact hr.inj g g' x y b hx hy h1 h2
 ·rw[hlen];exact hr.dom g b hb
 ·obtain⟨x,hx,_⟩:=h g k' hg;exact hr.sep g x b o hx hb
theorem HW.less{H H':Heap}(h:Less H' H):HW H H':=fun _ _ _ hr=>⟨hr.less h,h.st⟩
theorem HW.grow(H:Heap)(sz:Nat):HW H (H++ [[some ⟨sz,[],0,false⟩]]):=by
 intro Y w ρ hr;have h1:=hr.more 1;obtain⟨h2,h3⟩:=h1.Kg (slot:=H.length) (Free.more (aiy _) (by omega)) ⟨sz,[],0,false⟩ rfl rfl
 have e:(H++List.replicate 1 []).set H.length [some ⟨sz,[],0,false⟩]=H++ [[some ⟨sz,[],0,false⟩]]:=by
  rw[List.set_append_right _ _ (aiy _)];simp
 rw[e]at h2 h3;rw[xD]at h3;exact⟨h2,h3⟩
theorem VW.row{H H':Heap}(hw:HW H H'){sz:Nat}{xs:List AV}{t:Bool}:VW H H' (.dQ sz xs t) (.dQ sz xs false):=by
 intro Y w ρ v hr hv;obtain⟨a,cap,rfl,h1,h2,hp⟩:=hv.mV;have hp:=hp.mono ((hw Y w ρ hr).2.xu Y);refine .pur _ _ ?_;generalize hn:xs.length=n at hp
 cases hp with
 |lst0 a cap sz t ht=>exact .lst0 _ _ _ _ (fun e=>by cases e)
 |dQ b o n cap sz t xs f hn hc ht hsz hx hr=>exact .dQ b o _ cap sz _ xs f hn hc (fun e=>by cases e) hsz hx hr
theorem VW.nil{H H':Heap}{sz sz':Nat}{t t':Bool}(h:t=true∨t'=false):VW H H' (.dQ sz [] t) (.dQ sz' [] t'):=by
 intro Y w ρ v hr hv;obtain⟨a,cap,rfl,h1,h2,hp⟩:=hv.mV;refine .pur _ _ (.lst0 _ _ _ _ (fun e=> ?_));rcases h with h|h
 ·exact h2 h
 ·rw[h]at e;cases e
theorem VW.Kg{H H':Heap}{sz sz' off:Nat}{g:Nm}:VW H H' (.dQ sz [] true) (.own g sz' off 0):=by
 intro Y w ρ v hr hv;obtain⟨a,cap,rfl,h1,h2,hp⟩:=hv.mV;have:=h2 rfl;subst this;exact .own0 _ _ _ _
variable{nt m:Nat}
theorem Weak.of{s s':St}(hw:HW s.hp s'.hp)(hf:∀t,VW s.hp s'.hp (look s.fr t) (look s'.fr t)):Weak nt m s s':=by
 intro Y w ρ a hr;obtain⟨h1,h2⟩:=hw Y w ρ hr.hp;exact⟨ρ,⟨hr.YW,hr.VQ,fun t=>hf t Y w ρ _ hr.hp (hr.fr t),h1⟩,h2,fun _ _ _ e=>e⟩
theorem Weak.tidy(s:St):Weak nt m s (Abs.tidy m s):=fun _ _ _ _ hr=>hr.tidy
theorem Nb{A B C:Type}(l:List A)(n:Int)(k:(x:A)→l[n.toNat]?=some x→Option B)(F:B→Option C):rowAt l n (fun x h=>(k x h).bind F)=(rowAt l n k).bind F:=by
 unfold rowAt
 cases decide (0≤n)with
 |false=>rfl
 |true=>
  simp only[cond_true];generalize hh:l[n.toNat]?=o at k
  cases o with
  |none=>rfl
  |some x=>rfl
theorem Tr.IZ{α β:Type}(t:Tr α)(k:α→Tr β):(t.bind k).mean=t.mean.bind fun a=>(k a).mean:=by
 induction t with
 |ret a=>rfl
 |fail=>rfl
 |need g t ih=>cases g<;>simp[Tr.bind,Tr.mean,ih]
 |br p x y ihx ihy=>cases p<;>simp[Tr.bind,Tr.mean,ihx,ihy]
 |ask m f ih=>
  simp only[Tr.bind,Tr.mean]
  cases m with
  |none=>rfl
  |some a=>exact ih a
 |look l n f ih=>
  simp only[Tr.bind,Tr.mean,←Nb]
  congr 1
  funext x h
  exact ih x h
 |cs r f g ihf ihg=>
  simp only[Tr.bind,Tr.mean]
  cases r with
  |inl a=>exact ihf a
  |inr b=>exact ihg b
theorem Tr.aA{α β:Type}{t:Tr α}{k:α→Tr β}{b:β}(h:(t.bind k).mean=some b):∃a,t.mean=some a∧(k a).mean=some b:=by
 rw[Tr.IZ]at h;exact ajm.1 h
theorem Tr.fM{α β:Type}{t:Tr α}{f:α→β}{b:β}(h:(t.map f).mean=some b):∃a,t.mean=some a∧f a=b:=by
 obtain⟨a,h1,h2⟩:=Tr.aA h;exact⟨a,h1,by simpa[Tr.mean]using h2⟩
theorem Tr.bJ{α:Type}{o:Option α}{a:α}(h:(Tr.of o).mean=some a):o=some a:=by cases o<;>simp_all [Tr.of,Tr.mean]
theorem Tr.aH{α:Type}{b:Bool}{t:Tr α}{a:α}(h:(Tr.when b t).mean=some a):b=true∧t.mean=some a:=by cases b<;>simp_all [Tr.when,Tr.mean]
theorem Tr.aS{α:Type}{g:Bool}{t:Tr α}{a:α}(h:(Tr.need g t).mean=some a):g=true∧t.mean=some a:=by cases g<;>simp_all [Tr.mean]
theorem Tr.ay{α:Type}{a b:α}(h:(Tr.ret a).mean=some b):a=b:=by simpa[Tr.mean]using h
theorem Tr.au{α:Type}{b:α}(h:(Tr.fail:Tr α).mean=some b):False:=by cases h
theorem Tr.zT{α β:Type}{f:α→Tr β}:∀{l:List α} {l':List β},(Tr.mapM f l).mean=some l'→l'.length=l.length∧∀(i:Nat) (a:α),l[i]?=some a→∃b,l'[i]?=some b∧(f a).mean=some b:=by
 intro l
 induction l with
 |nil=>intro l' h;have:=Tr.ay h;subst this;exact⟨rfl,fun i a ha=>by simp at ha⟩
 |cons a r ih=>
  intro l' h;obtain⟨b,h1,h2⟩:=Tr.aA h;obtain⟨bs,h3,h4⟩:=Tr.aA h2;have:=Tr.ay h4;subst this;obtain⟨e1,e2⟩:=ih h3;refine⟨by simp[e1],fun i x hx=> ?_⟩
  cases i with
  |zero=>simp at hx;subst hx;exact⟨b,rfl,h1⟩
  |succ i=>simp at hx;obtain⟨y,h5,h6⟩:=e2 i x hx;exact⟨y,by simpa using h5,h6⟩
theorem Ko(sz:Nat)(xs:List AV):wV (wV sz xs) xs=wV sz xs:=by cases xs<;>rfl
def l5(H:aR)(g:Nm):Prop:=∃t l z,bC H g=some (.arr t l z)
section
variable{H:aR}{ℓ:Lens}
theorem jZ(ha:fq ℓ H){v u:SV}{l:List Nm}(h:(iD H v).mean=some (u,l)):
  dG (dH ℓ H) (d1 ℓ v)=some (d1 ℓ u,l)∧(∀g∈l,l5 H g)∧v.isAgg=false∧u.isAgg=false∧dC ℓ v=d1 ℓ v∧dC ℓ u=d1 ℓ u:=by
 cases v with
 |own t g=>
  simp only[iD]at h;split at h
  ·rename_i t' l' z hg;split at h
   ·rename_i ht;subst ht;split at h
    case isFalse=>exact(Tr.au h).elim
    rename_i hs0;have:=Tr.ay h;simp only[aiC]at this;obtain⟨rfl,rfl⟩:=this;refine⟨?_,fun g' hg'=> ?_,rfl,rfl,rfl,rfl⟩
    ·simp only[d1,dG,dK,hg,aiZ,dB];have:=ha g _ hg;simp only[SB.len]at this;rw[if_pos (by simp[this,hs0])];have ht:List.take l'.length (List.map (enc t') l')=List.map (enc t') l':=aiX (by simp);simp[this,bD,ht]
    ·simp at hg';subst hg';exact⟨_,_,_,hg⟩
   ·exact(Tr.au h).elim
  ·exact(Tr.au h).elim
 |part t g off len=>
  simp only[iD]at h;split at h
  ·rename_i t' l' z hg;split at h
   ·rename_i ht;subst ht;split at h
    case isFalse=>exact(Tr.au h).elim
    rename_i hs0;obtain⟨h1,h2⟩:=Tr.aS h;have:=Tr.ay h2;simp only[aiC]at this;obtain⟨rfl,rfl⟩:=this;refine⟨?_,fun g' hg'=> ?_,rfl,rfl,rfl,rfl⟩
    ·simp only[d1,dG,dK,hg,aiZ,dB];have:=aix h1;rw[if_pos (by simpa[hs0]using this)];simp[bD,List.map_take,List.map_drop]
    ·simp at hg';subst hg';exact⟨_,_,_,hg⟩
   ·exact(Tr.au h).elim
  ·exact(Tr.au h).elim
 |row t l' tg=>
  have:=Tr.ay h;simp only[aiC]at this;obtain⟨rfl,rfl⟩:=this;exact⟨by simp only[d1,bD,dG,Ko],fun g hg=>by simp at hg,rfl,rfl,rfl,rfl⟩
 |undef|int k n|bool b|str s|nilp|nilf=>
  have:=Tr.ay h;simp only[aiC]at this;obtain⟨rfl,rfl⟩:=this;exact⟨rfl,fun g hg=>by simp at hg,rfl,rfl,rfl,rfl⟩
 |_=>exact(Tr.au h).elim
theorem Kh(ha:fq ℓ H):∀{vs us:List SV} {l:List Nm},(MX H vs).mean=some (us,l)→nS (dH ℓ H) (vs.map (dC ℓ))=some (us.map (dC ℓ),l)∧(∀g∈l,l5 H g):=by
 intro vs
 induction vs with
 |nil=>
  intro us l h;have:=Tr.ay h;simp only[aiC]at this;obtain⟨rfl,rfl⟩:=this;exact⟨rfl,fun g hg=>by simp at hg⟩
 |cons v r ih=>
  intro us l h;obtain⟨⟨u,l1⟩,h1,h2⟩:=Tr.aA h;obtain⟨⟨us',l2⟩,h3,h4⟩:=Tr.aA h2;have:=Tr.ay h4;simp only[aiC]at this;obtain⟨rfl,rfl⟩:=this;obtain⟨e1,e2,_,_,e3,e4⟩:=jZ ha h1;obtain⟨e5,e6⟩:=ih h3;refine⟨?_,fun g hg=> ?_⟩
  ·simp only[aiE,nS];rw[e3,e1,e5,e4]
  ·rcases ai9.1 hg with hg|hg
   ·exact e2 g hg
   ·exact e6 g hg
theorem sI(ha:fq ℓ H){v u:SV}{l:List Nm}(h:(ED H v).mean=some (u,l)):ji (dH ℓ H) (dA ℓ v)=some (dA ℓ u,l)∧(∀g∈l,l5 H g):=by
 have other:(iD H v).mean=some (u,l)→ji (dH ℓ H) (dA ℓ v)=some (dA ℓ u,l)∧(∀g∈l,l5 H g):=by
  intro h;obtain⟨e1,e2,e3,e4,e5,e6⟩:=jZ ha h;have hv:dA ℓ v=dC ℓ v:=by cases v<;>first|rfl|cases e3
  have hu:dA ℓ u=dC ℓ u:=by cases u<;>first|rfl|cases e4
  rw[hv,hu,e5,e6];refine⟨?_,e2⟩;rw[←e1]
  cases v<;>first|rfl|cases e3
 cases v with
 |agg cs=>
  obtain⟨⟨us,l'⟩,h1,h2⟩:=Tr.aA h;have:=Tr.ay h2;simp only[aiC]at this;obtain⟨rfl,rfl⟩:=this;obtain⟨e1,e2⟩:=Kh ha h1;exact⟨by simp only[dA,ji,e1],e2⟩
 |tup vs=>exact(Tr.au h).elim
 |_=>exact other h
theorem D8(ℓ:Lens):∀(wr:List (Nm×SB)) (H:aR),dH ℓ (gF H wr)=aJ (dH ℓ H) (wr.map fun p=>(p.1,dB ℓ p.2)):=by
 intro wr
 induction wr with
 |nil=>intro H;rfl
 |cons p r ih=>
  intro H;obtain⟨g,b⟩:=p;simp only[gF,aiE,aJ,ih,OW]
theorem Y3(ℓ:Lens)(t:Ty)(l:List t.den)(z:Fz):dB ℓ (SB.stop (.arr t l z))=(dB ℓ (.arr t l z)).map bP.stop:=by
 simp only[SB.stop,dB,aiF,bP.stop,Fz.n,ais]
 congr 2
 cases z<;>simp only[Fz.n]<;>omega
theorem kG{l:List Nm}(h:∀g∈l,l5 H g):(iX H l).map (fun p=>(p.1,dB ℓ p.2))=stops (dH ℓ H) l:=by
 simp only[iX,stops,ajv];refine aiW fun g hg=> ?_
 obtain⟨t,x,z,e⟩:=h g hg;simp only[Function.comp,e,dK,aiZ,Y3]
theorem Lx{l:List Nm}(h:∀g∈l,l5 H g):dH ℓ (pF H l)=aJ (dH ℓ H) (stops (dH ℓ H) l):=by
 rw[pF,D8,kG h]
def aZ(H:aR)(wr:List (Nm×SB)):Prop:=∀p∈wr,∀b,bC H p.1=some b→p.2.len=b.len
theorem Hu:∀(wr:List (Nm×SB)) (H:aR) (g:Nm) (b:SB),bC H g=some b→aZ H wr→∃b',bC (gF H wr) g=some b'∧b'.len=b.len:=by
 intro wr
 induction wr with
 |nil=>intro H g b h _;exact⟨b,h,rfl⟩
 |cons p r ih=>
  intro H g b h hl;obtain⟨a,c⟩:=p;simp only[gF]
  have hl':aZ (vR H a c) r:=by
   intro p hp x hx;rw[jL]at hx;split at hx
   ·rename_i hh;cases hx
    cases hb:bC H a with
    |none=>rw[hb]at hh;simp at hh
    |some y=>
     rw[hl p (by simp[hp]) y (by rw[hh.1];exact hb),hl (a,c) (by simp) y hb]
   ·exact hl p (by simp[hp]) x hx
  by_cases e:g=a
  ·subst e;have hs:bC (vR H g c) g=some c:=by rw[jL];simp[h]
   obtain⟨b',h1,h2⟩:=ih (vR H g c) g c hs hl';exact⟨b',h1,h2.trans (hl (g,c) (by simp) b h)⟩
  ·have hs:bC (vR H a c) g=some b:=by rw[jL,if_neg (fun hh=>e hh.1)];exact h
   exact ih (vR H a c) g b hs hl'
theorem fq.gF{wr:List (Nm×SB)}(hl:aZ H wr)(h:fq ℓ (gF H wr)):fq ℓ H:=by
 intro g b hg;obtain⟨b',h1,h2⟩:=Hu wr H g b hg hl;rw[h g b' h1,h2]
theorem V9(b:SB):b.stop.len=b.len:=by cases b<;>rfl
theorem nu(l:List Nm):aZ H (iX H l):=by
 intro p hp b hb;simp only[iX,ajj]at hp;obtain⟨g,_,rfl⟩:=hp;simp only at hb;simp only[hb,V9]
theorem fq.pF{l:List Nm}(h:fq ℓ (pF H l)):fq ℓ H:=h.gF (nu l)
theorem HW.pF{l:List Nm}(h:∀g∈l,l5 H g):HW (dH ℓ H) (dH ℓ (pF H l)):=by
 rw[Lx h];exact HW.less (Less.stops l _ (Less.refl _))
theorem Ud{H:Heap}{x u:AV}{l:List Nm}(h:ji H x=some (u,l)):CW H (aJ H (stops H l)) x u:=by
 have one:∀{x u:AV} {m:List Nm},dG H x=some (u,m)→(∀g∈m,g∈l)→VW H (aJ H (stops H l)) x u∧x.isAgg=false∧u.isAgg=false:=by
  intro x u m hp hm;refine⟨fun Y w ρ v hr hv=> ?_,?_,?_⟩
  ·have hless:Less (aJ H (stops H l)) H:=Less.stops l H (Less.refl H);exact .pur _ _ (mE hr hv hp (Shut.mono (Shut.Jo hr hless (fun g hg k hk k' hk'=>pG H g hk l H hg k' hk')) hm))
  ·cases x<;>first|rfl|simp[dG]at hp
  ·cases x with
   |own g sz off len=>
    simp only[dG]at hp;split at hp
    ·split at hp
     ·cases hp;rfl
     ·cases hp
    ·cases hp
   |_=>first|(simp[dG]at hp;done)|(simp only[dG,aiv,aiC]at hp;rw[←hp.1];rfl)
 cases x with
 |agg cs=>
  simp only[ji]at h;split at h
  ·rename_i ys m hy;simp only[aiv,aiC]at h;obtain⟨rfl,rfl⟩:=h;obtain⟨e1,e2⟩:=Gi cs ys m hy;refine⟨rfl,e1.symm,fun j a b h1 h2=> ?_⟩;obtain⟨u,m',h3,h4,h5⟩:=e2 j a h1;simp only[AV.cells]at h2;rw[h2]at h3;cases h3;exact(one h4 h5).1
  ·cases h
 |tup vs=>simp[ji]at h
 |_=>
  have h':=h;simp only[ji]at h';obtain⟨e1,e2,e3⟩:=one h' (fun _ h=>h);exact CW.of _ _ e2 e3 e1
end
inductive F2{α β:Type}(R:α→β→Prop):List α→List β→Prop where
 |nil:F2 R [] []
 |cons {a:α} {b:β} {l:List α} {m:List β} (h:R a b) (t:F2 R l m):F2 R (a::l) (b::m)
theorem F2.imp{α β:Type}{R S:α→β→Prop}(h:∀a b,R a b→S a b){l:List α}{m:List β}(k:F2 R l m):F2 S l m:=by
 induction k with
 |nil=>exact .nil
 |cons h1 _ ih=>exact .cons (h _ _ h1) ih
theorem F2.refl{α:Type}{R:α→α→Prop}(h:∀a,R a a):∀l,F2 R l l
 | []=>.nil
 |a::l=>.cons (h a) (F2.refl h l)
theorem F2.length{α β:Type}{R:α→β→Prop}{l:List α}{m:List β}(k:F2 R l m):l.length=m.length:=by
 induction k with
 |nil=>rfl
 |cons _ _ ih=>simp[ih]
theorem F2.get{α β:Type}{R:α→β→Prop}{l:List α}{m:List β}(k:F2 R l m):∀(i:Nat) (a:α) (b:β),l[i]?=some a→m[i]?=some b→R a b:=by
 induction k with
 |nil=>intro i a b h;simp at h
 |cons h _ ih=>
  intro i x y h1 h2
  cases i with
  |zero=>simp at h1 h2;subst h1;subst h2;exact h
  |succ i=>exact ih i x y (by simpa using h1) (by simpa using h2)
structure CV(ℓ:Lens)(H H':aR)(v v':SV):Prop where
 a:CW (dH ℓ H) (dH ℓ H') (dA ℓ v) (dA ℓ v')
 c:VW (dH ℓ H) (dH ℓ H') (dC ℓ v) (dC ℓ v')
section
variable{ℓ:Lens}{A B C H H':aR}{v v':SV}
theorem CV.refl(hw:HW (dH ℓ H) (dH ℓ H'))(v:SV):CV ℓ H H' v v:=⟨CW.refl _ _ hw _,hw.vw _⟩
theorem CV.then(hw:HW (dH ℓ A) (dH ℓ B))(hw':HW (dH ℓ B) (dH ℓ C))(h:CV ℓ A B v v'):CV ℓ A C v v':=⟨h.a.trans hw (CW.refl _ _ hw' _),h.c.trans hw (hw'.vw _)⟩
theorem CV.behind(hw:HW (dH ℓ A) (dH ℓ B))(h:CV ℓ B C v v'):CV ℓ A C v v':=⟨(CW.refl _ _ hw _).trans hw h.a,(hw.vw _).trans hw h.c⟩
structure Conv(ℓ:Lens)(vs vs':List SV)(H H':aR):Prop where
 agr:fq ℓ H
 hw:HW (dH ℓ H) (dH ℓ H')
 vals:F2 (CV ℓ H H') vs vs'
 box:∀g sz v,bC H g=some (.box sz v)→bC H' g=some (.box sz v)
theorem Conv.refl(h:fq ℓ H)(vs:List SV):Conv ℓ vs vs H H:=⟨h,HW.refl _,F2.refl (fun v=>CV.refl (HW.refl _) v) vs,fun _ _ _ h=>h⟩
theorem Conv.cons{vs vs':List SV}{v':SV}(h1:fq ℓ B→fq ℓ A∧HW (dH ℓ A) (dH ℓ B)∧CV ℓ A B v v'∧∀g sz v,bC A g=some (.box sz v)→bC B g=some (.box sz v))(h:Conv ℓ vs vs' B C):Conv ℓ (v::vs) (v'::vs') A C:=by
 obtain⟨a1,a2,a3,a4⟩:=h1 h.agr;exact⟨a1,a2.trans h.hw,.cons (a3.then a2 h.hw) (h.vals.imp fun _ _ k=>k.behind a2),fun g sz v e=>h.box g sz v (a4 g sz v e)⟩
theorem Conv.same{vs vs':List SV}(h:Conv ℓ vs vs' A C)(v:SV):Conv ℓ (v::vs) (v::vs') A C:=
 h.cons fun ha=>⟨ha,HW.refl _,CV.refl (HW.refl _) v,fun _ _ _ e=>e⟩
theorem CV.undef(hw:HW (dH ℓ H) (dH ℓ H'))(h:v.isAgg=false):CV ℓ H H' v .undef:=
 ⟨CW.of _ _ (by rw[mR];exact h) rfl VW.undef,VW.undef⟩
theorem Et{l:List Nm}(h:∀g∈l,l5 H g){g:Nm}{sz:Nat}{v:SV}(hg:bC H g=some (.box sz v)):bC (pF H l) g=some (.box sz v):=by
 have key:∀(wr:List (Nm×SB)) (K:aR),(∀p∈wr,p.1≠g)→bC K g=some (.box sz v)→bC (gF K wr) g=some (.box sz v):=by
  intro wr
  induction wr with
  |nil=>intro K _ hk;exact hk
  |cons p r ih=>
   intro K hp hk;obtain⟨a,c⟩:=p;refine ih _ (fun q hq=>hp q (by simp[hq])) ?_;rw[jL,if_neg (fun hh=>hp (a,c) (by simp) hh.1.symm)];exact hk
 refine key _ _ (fun p hp e=> ?_) hg;simp only[iX,ajj]at hp;obtain⟨g',hg',rfl⟩:=hp;simp only at e;subst e;obtain⟨t,l',z,e⟩:=h _ hg';rw[hg]at e;cases e
theorem UI(H:aR)(b:SB):bC (H++ [[b]]) (H.length,0)=some b:=by simp[bC]
theorem Mt(h:v.isAgg=false)(ht:∀vs,v≠ .tup vs):ED H v=iD H v:=by
 cases v<;>first|rfl|cases h|exact absurd rfl (ht _)
theorem qc:∀(sh:Sh) (vs:List SV) (H:aR) (vs':List SV) (H':aR),(jA sh vs H).mean=some (vs',H')→fq ℓ H'→Conv ℓ vs vs' H H':=by
 intro sh
 induction sh with
 |nil=>
  intro vs H vs' H' h ha;have:=Tr.ay h;simp only[aiC]at this;obtain⟨rfl,rfl⟩:=this;exact .refl ha _
 |st x r ih=>
  intro vs H vs' H' h ha
  cases vs with
  |nil=>
   have:=Tr.ay h;simp only[aiC]at this;obtain⟨rfl,rfl⟩:=this;exact .refl ha _
  |cons v vs=>
   have plain:∀{K:aR} {u:SV},((jA r vs K).bind fun q=>.ret (u::q.1,q.2)).mean=some (vs',H')→∃us,vs'=u::us∧Conv ℓ vs us K H':=by
    intro K u hk;obtain⟨q,h1,h2⟩:=Tr.aA hk;have:=Tr.ay h2;simp only[aiC]at this;obtain⟨rfl,rfl⟩:=this;exact⟨q.1,rfl,ih _ _ _ _ h1 ha⟩
   simp only[jA]at h;split at h
   ·rename_i t g t';obtain⟨us,rfl,hc⟩:=plain h;refine hc.cons fun hb=>⟨hb.append,?_,?_,fun _ _ _ e=>uq e⟩
    ·rw[Ah];exact HW.grow _ _
    ·have hl:=hb _ _ (UI H (.arr t [] .zero))
     have:VW (dH ℓ H) (dH ℓ (H++ [[.arr t [] .zero]])) (dA ℓ (.row t' [] true)) (dA ℓ (.own t (H.length,0))):=by
      simp only[dA,dC,d1,bD,hl,SB.len,aiS,List.length_nil];exact VW.Kg
     exact⟨CW.of _ _ rfl rfl this,this⟩
   ·split at h
    ·obtain⟨us,rfl,hc⟩:=plain h;refine hc.cons fun hb=>⟨hb,HW.refl _,?_,fun _ _ _ e=>e⟩
     exact .undef (HW.refl _) (by assumption)
    ·exact(Tr.au h).elim
   ·obtain⟨us,rfl,hc⟩:=plain h;exact hc.same _
 |dat t r ih=>
  intro vs H vs' H' h ha
  cases vs with
  |nil=>
   have:=Tr.ay h;simp only[aiC]at this;obtain⟨rfl,rfl⟩:=this;exact .refl ha _
  |cons v vs=>
   simp only[jA]at h;obtain⟨⟨u,l⟩,h1,h2⟩:=Tr.aA h;obtain⟨q,h3,h4⟩:=Tr.aA h2;have:=Tr.ay h4;simp only[aiC]at this;obtain⟨rfl,rfl⟩:=this;refine(ih _ _ _ _ h3 ha).cons fun hb=> ?_
   have ha0:=hb.pF;obtain⟨e1,e2⟩:=sI ha0 h1;have hcw:=Ud e1;rw[←Lx e2]at hcw;refine⟨ha0,HW.pF e2,⟨hcw,?_⟩,fun g sz v e=>Et e2 e⟩
   cases v with
   |agg cs=>
    obtain⟨p,h5,h6⟩:=Tr.aA h1;have:=Tr.ay h6;simp only[aiC]at this;rw[←this.1];exact VW.undef
   |tup vs=>exact(Tr.au h1).elim
   |_=>
    rw[Mt rfl (fun _ e=>by cases e)]at h1;obtain⟨f1,_,f3,f4,f5,f6⟩:=jZ ha0 h1;have:=hcw.vw
    cases u<;>first|exact this|cases f4
 |part t g r ih=>
  intro vs H vs' H' h ha
  cases vs with
  |nil=>
   have:=Tr.ay h;simp only[aiC]at this;obtain⟨rfl,rfl⟩:=this;exact .refl ha _
  |cons v vs=>
   simp only[jA]at h;split at h
   ·rename_i t';obtain⟨q,h3,h4⟩:=Tr.aA h;have:=Tr.ay h4;simp only[aiC]at this;obtain⟨rfl,rfl⟩:=this;refine(ih _ _ _ _ h3 ha).cons fun hb=>⟨hb.append,?_,?_,fun _ _ _ e=>uq e⟩
    ·rw[Ah];exact HW.grow _ _
    ·have:VW (dH ℓ H) (dH ℓ (H++ [[.arr t [] .zero]])) (dA ℓ (.row t' [] true)) (dA ℓ (.part t (H.length,0) 0 0)):=by
      simp only[dA,dC,d1,bD,aiS];exact VW.Kg
     exact⟨CW.of _ _ rfl rfl this,this⟩
   obtain⟨q,h3,h4⟩:=Tr.aA h;have:=Tr.ay h4;simp only[aiC]at this;obtain⟨rfl,rfl⟩:=this;have hc:=ih _ _ _ _ h3 ha;split
   ·rename_i t g hne;split
    ·rename_i b hb;refine hc.cons fun ha'=>⟨ha',HW.refl _,?_,fun _ _ _ e=>e⟩
     have e:d1 ℓ (.own t g)=d1 ℓ (.part t g 0 b.len):=by simp only[d1,ha' g b hb]
     have:VW (dH ℓ H) (dH ℓ H) (d1 ℓ (.own t g)) (d1 ℓ (.part t g 0 b.len)):=by rw[e];exact VW.refl _ _
     exact⟨CW.of _ _ rfl rfl this,this⟩
    ·exact hc.same _
   ·exact hc.same _
 |eptr g sz off r ih=>
  intro vs H vs' H' h ha
  cases vs with
  |nil=>
   have:=Tr.ay h;simp only[aiC]at this;obtain⟨rfl,rfl⟩:=this;exact .refl ha _
  |cons v vs=>
   simp only[jA]at h;obtain⟨q,h3,h4⟩:=Tr.aA h;have:=Tr.ay h4;simp only[aiC]at this;obtain⟨rfl,rfl⟩:=this;exact(ih _ _ _ _ h3 ha).same _
 |agg i r ihi ih=>
  intro vs H vs' H' h ha
  cases vs with
  |nil=>
   have:=Tr.ay h;simp only[aiC]at this;obtain⟨rfl,rfl⟩:=this;exact .refl ha _
  |cons v vs=>
   simp only[jA]at h;split at h
   ·rename_i cs;obtain⟨p,h1,h2⟩:=Tr.aA h;obtain⟨q,h3,h4⟩:=Tr.aA h2;have:=Tr.ay h4;simp only[aiC]at this;obtain⟨rfl,rfl⟩:=this;refine(ih _ _ _ _ h3 ha).cons fun hb=> ?_
    have hc:=ihi _ _ _ _ h1 hb;refine⟨hc.agr,hc.hw,⟨⟨rfl,?_,fun j u u' e1 e2=> ?_⟩,VW.undef⟩,hc.box⟩
    ·simp only[dA,AV.cells,ais];exact hc.vals.length
    ·simp only[dA,AV.cells,ait]at e1 e2;obtain⟨a,b1,rfl⟩:=aiu.1 e1;obtain⟨a',b2,rfl⟩:=aiu.1 e2;exact(hc.vals.get j a a' b1 b2).c
   ·obtain⟨q,h3,h4⟩:=Tr.aA h;have:=Tr.ay h4;simp only[aiC]at this;obtain⟨rfl,rfl⟩:=this;exact(ih _ _ _ _ h3 ha).same _
end
section
variable{ℓ ℓ':Lens}{A B C H H' K:aR}{v v':SV}
theorem HW.box{H K:Heap}(hw:HW H K){g:Nm}{sz:Nat}{x y:AV}(h1:get H g=some ⟨sz,[x],0,true⟩)(h2:get K g=some ⟨sz,[x],0,true⟩)(hc:CW H K x y):
  HW H (set K g (some ⟨sz,[y],0,true⟩)):=by
 intro Y w ρ hr;obtain⟨hk,hst⟩:=hw Y w ρ hr;rcases hr.blk g _ h1 with⟨_,a2,_⟩|⟨b,hρ,⟨a0,cs,T,hcs,he⟩|⟨_,a2,_⟩⟩
 ·cases a2
 ·have hw1:=hk.write (w1:=w) (k1:=⟨sz,[y],0,true⟩) h2 hρ a0 rfl rfl rfl rfl (fun _ _=>rfl) hcs hcs rfl (fun _ _=>rfl) rfl (aiy _) ⟨he.1,fun i z hz=>by
   cases i with
   |succ i=>simp at hz
   |zero=>
    simp at hz;subst hz;obtain⟨b1,b2⟩:=he.2 0 x rfl;refine⟨by rw[←hc.len];exact b1,fun j u hu=> ?_⟩;have hj:j<x.cells.length:=by rw[hc.len];exact(ain.1 hu).1
    obtain⟨b3,b4⟩:=b2 j _ (aiw hj);exact⟨b3,hc.cell j _ u (aiw hj) hu Y w ρ _ hr b4⟩⟩
  exact⟨hw1.1,hst.trans hw1.2⟩
 ·cases a2
theorem Ev:∀(bk:iY) (j:Nat) (H H':aR),(xw bk j H).mean=some H'→fq ℓ H'→fq ℓ H∧HW (dH ℓ H) (dH ℓ H'):=by
 intro bk
 induction bk with
 |nil=>intro j H H' h ha;have:=Tr.ay h;subst this;exact⟨ha,HW.refl _⟩
 |box sz s r ih=>
  intro j H H' h ha;simp only[xw]at h;split at h
  ·rename_i sz' v hg;obtain⟨⟨l,K⟩,h1,h2⟩:=Tr.aA h;simp only at h2;split at h2
   ·rename_i v';obtain⟨a1,a2⟩:=ih _ _ _ h2 ha;have hkeep:∀ha':fq ℓ K,bC K (j,0)=some (.box sz' v):=fun ha'=>(qc (ℓ:=ℓ) s [v] H _ K h1 ha').box _ _ _ hg
    have hagr:fq ℓ K:=by
     cases hk:bC K (j,0)with
     |none=>
      intro g b hb;refine a1 g b ?_;rw[jL,if_neg (fun hh=>by rw[hk]at hh;simp at hh)];exact hb
     |some b0=>
      have hb0:=(qc (ℓ:=fJ K) s [v] H _ K h1 (fO K)).box _ _ _ hg;exact fq.vR (b:=.box sz' v') hb0 rfl a1
    have hc:=qc (ℓ:=ℓ) s [v] H _ K h1 hagr
    have hv:CV ℓ H K v v':=by
     have:=hc.vals
     cases this with
     |cons h _=>exact h
    refine⟨hc.agr,(HW.box hc.hw (g:=(j,0)) (sz:=sz') ?_ ?_ hv.a).trans ?_⟩
    ·rw[dK,hg];rfl
    ·rw[dK,hc.box _ _ _ hg];rfl
    ·rw[OW]at a2;exact a2
   ·exact(Tr.au h2).elim
  ·exact(Tr.au h).elim
 |arr t z r ih=>
  intro j H H' h ha;simp only[xw]at h;obtain⟨a1,a2⟩:=ih _ _ _ h ha
  cases z with
  |false=>exact⟨a1,a2⟩
  |true=>
   simp only at a1 a2;split at a1
   ·rename_i t' l z hg;have hs:∀g∈ [((j,0):Nm)],l5 H g:=fun g hg'=>by simp at hg';subst hg';exact⟨_,_,_,hg⟩
    rw[hg]at a2;exact⟨a1.pF,(HW.pF hs).trans a2⟩
   ·rename_i hn;split at a2
    ·rename_i t' l z hg;exact absurd hg (hn _ _ _)
    ·exact⟨a1,a2⟩
 |mp t r ih=>
  intro j H H' h ha;exact ih _ _ _ h ha
 |dead n r ih=>
  intro j H H' h ha;exact ih _ _ _ h ha
theorem K9{α β:Type}{f:α→Option β}{l:List α}{l':List β}(h:l.mapM f=some l'){i:Nat}{a:α}(ha:l[i]?=some a):∃b,l'[i]?=some b∧f a=some b:=(mapM_some _ _ _ h).2 i a ha
theorem wF{m:Nat}{s s':qM}(h:LB m s=some s')(ha:fq ℓ s.hp)(ha':fq ℓ' s'.hp):Abs.tidy m (dS ℓ s)=dS ℓ' s':=by
 unfold LB at h;simp only at h;split at h
 ·rename_i hp hm;simp only[aiv]at h;subst h
  have hroots:((dS ℓ s).fr.flatMap fun p=>kV p.2)=s.fr.flatMap fun p=>oF p.2:=by
   simp only[dS,dF,List.flatMap_map,Oz]
  have hR:reached (dS ℓ s).hp m ((dS ℓ s).fr.flatMap fun p=>kV p.2)=ni s.hp m (s.fr.flatMap fun p=>oF p.2):=by
   rw[hroots];exact Gm ℓ s.hp m _
  unfold Abs.tidy;simp only;rw[hR];generalize ni s.hp m (s.fr.flatMap fun p=>oF p.2)=R at hm ⊢
  have hgoes:Goes (iw m R) ℓ ℓ':=by
   intro g g' hg
   have key:∀i,(aF m++R)[i]?=some g→g'=(i,0)→ℓ' g'=ℓ g:=by
    intro i hi e;obtain⟨b,h1,h2⟩:=K9 hm hi;obtain⟨b0,h3,rfl⟩:=aiu.1 h2;subst e;rw[ha' (i,0) (eT (iw m R) b0) (by simp[bC,h1]),ha g b0 h3,gQ]
   unfold iw at hg;split at hg
   ·rename_i hlt;split at hg
    ·rename_i h0;cases hg;refine key g.1 ?_ (by rw[←h0]);rw[ai3 (by simpa[aF]using hlt)];simp[aF,hlt,←h0]
    ·cases hg
   ·cases hi:idxOf g R 0 with
    |none=>simp[hi]at hg
    |some i=>
     simp[hi]at hg;obtain⟨_,hR⟩:=gG g R 0 i hi;refine key (m+i) ?_ hg.symm;rw[ai0 (by simp[aF])];simpa[aF]using hR
  simp only[dS,dF,ajv]
  congr 1
  ·refine aiW fun p _=> ?_
   simp only[Function.comp,H7 hgoes]
  ·unfold pu;simp only[dH];apply List.ext_getElem?;intro i;simp only[ait]
   cases hi:(aF m++R)[i]? with
   |none=>
    have:hp[i]?=none:=by
     rw[ajr,(mapM_some _ _ _ hm).1];exact ajr.1 hi
    rw[this];rfl
   |some g=>
    obtain⟨b,h1,h2⟩:=K9 hm hi;obtain⟨b0,h3,rfl⟩:=aiu.1 h2;rw[h1];simp only[aiF,aiE,aiS];rw[show get (List.map (fun l=>List.map (dB ℓ) l) s.hp) g=_ from dK ℓ s.hp g,h3,aiZ,rQ hgoes]
 ·cases h
theorem wP{t t':Ty}{l:List t.den}{l':List t'.den}(h:xL l=some l')(tight:Bool):bD t l tight=bD t' l' tight:=by
 unfold xL at h;split at h
 ·rename_i e;subst e;cases h;rfl
 ·split at h
  ·cases h;rfl
  ·cases h
theorem V3:∀(t:Ty) (cs:List SV) (x:t.den) (r:List SV),IU t cs=some (x,r)→∃pre,cs=pre++r∧F2 (fun c c'=>CV ℓ H H c c') pre (IA t x):=by
 intro t
 induction t with
 |int k=>
  intro cs x r h
  cases cs with
  |nil=>cases h
  |cons c cs=>
   cases c<;>first|(cases h;done)|skip
   simp only[IU]at h;split at h
   ·rename_i e;subst e;cases h;exact⟨[_],rfl,.cons (CV.refl (HW.refl _) _) .nil⟩
   ·cases h
 |bool=>
  intro cs x r h
  cases cs with
  |nil=>cases h
  |cons c cs=>
   cases c<;>first|(cases h;done)|skip
   cases h;exact⟨[_],rfl,.cons (CV.refl (HW.refl _) _) .nil⟩
 |str=>
  intro cs x r h
  cases cs with
  |nil=>cases h
  |cons c cs=>
   cases c<;>first|(cases h;done)|skip
   cases h;exact⟨[_],rfl,.cons (CV.refl (HW.refl _) _) .nil⟩
 |row t ih=>
  intro cs x r h
  cases cs with
  |nil=>cases h
  |cons c cs=>
   cases c<;>first|cases h|skip
   rename_i t' l tg;simp only[IU]at h;split at h
   ·rename_i l' hl;cases h;refine⟨[_],rfl,.cons ?_ .nil⟩
    have hv:VW (dH ℓ H) (dH ℓ H) (bD t' l tg) (bD t x false):=by
     rw[←wP hl false];exact VW.row (HW.refl _)
    exact⟨CW.of _ _ rfl rfl hv,hv⟩
   ·cases h
 |unit=>intro cs x r h;cases h;exact⟨[],rfl,.nil⟩
 |cons a b iha ihb=>
  intro cs x r h;simp only[IU]at h;split at h
  ·rename_i y r1 h1;split at h
   ·rename_i z r2 h2;cases h;obtain⟨p1,rfl,f1⟩:=iha _ _ _ h1;obtain⟨p2,rfl,f2⟩:=ihb _ _ _ h2;refine⟨p1++p2,by simp,?_⟩;simp only[IA]
    have app:∀{l m:List SV},F2 (fun c c'=>CV ℓ H H c c') l m→F2 (fun c c'=>CV ℓ H H c c') (l++p2) (m++IA b z):=by
     intro l m f
     induction f with
     |nil=>exact f2
     |cons h _ ih=>exact .cons h ih
    exact app f1
   ·cases h
  ·cases h
theorem TW{t:Ty}{v:SV}{x:t.den}(h:LY t v=some x):CV ℓ H H v (CF t x):=by
 unfold LY at h;split at h
 ·rename_i hagg;split at h
  ·rename_i y hy;cases h;obtain⟨pre,h1,h2⟩:=V3 (ℓ:=ℓ) (H:=H) t _ _ _ hy;rw[aiO]at h1;subst h1;have hu:(CF t x).cells=IA t x:=QZ t x;have ha:v.isAgg=(CF t x).isAgg:=by rw[hagg,Rj]
   refine⟨⟨by rw[mR,mR,ha],?_,fun j u u' e1 e2=> ?_⟩,?_⟩
   ·rw[fP,fP,hu,ais,ais];exact h2.length
   ·rw[fP]at e1 e2;rw[ait]at e1 e2;rw[hu]at e2;obtain⟨a,b1,rfl⟩:=aiu.1 e1;obtain⟨a',b2,rfl⟩:=aiu.1 e2;exact(h2.get j a a' b1 b2).c
   ·cases hv:v.isAgg with
    |true=>
     rw[hv]at ha
     have e:dC ℓ (CF t x)= .undef:=by
      generalize CF t x=z at ha
      cases z<;>first|rfl|cases ha
     rw[e];exact VW.undef
    |false=>
     rw[hv]at ha;have e1:v.cells=[v]:=by cases v<;>first|rfl|cases hv
     have e2:(CF t x).cells=[CF t x]:=by
      generalize CF t x=z at ha
      cases z<;>first|rfl|cases ha
     rw[e1,←hu,e2]at h2
     cases h2 with
     |cons h _=>exact h.c
  ·cases h
 ·cases h
theorem Ld:∀(caps:List (Nm×Nat×Nat×Nat)) (cs:List SV),HY caps cs=true→cs=caps.map fun c=>.ptr c.1 c.2.1 c.2.2.1 c.2.2.2:=by
 intro caps
 induction caps with
 |nil=>intro cs h;cases cs with
  |nil=>rfl
  |cons _ _=>cases h
 |cons c r ih=>
  intro cs h
  cases cs with
  |nil=>cases h
  |cons v vs=>
   simp only[HY,ai7]at h;obtain⟨h1,h2⟩:=h;rw[ih vs h2]
   cases v<;>first|(cases h1;done)|skip
   simp only[ptrEq,aiU]at h1;subst h1;rfl
theorem PD{x:oG}{v:SV}(h:x.fits v=true):CV ℓ H H v x.un:=by
 have eq:v=x.un→CV ℓ H H v x.un:=fun e=>by rw[←e];exact CV.refl (HW.refl _) v
 cases x with
 |undef=>exact CV.undef (HW.refl _) (by simpa[oG.fits]using h)
 |nil=>
  cases v<;>first|(cases h;done)|skip
  rename_i t l tg
  cases l<;>first|(cases h;done)|skip
  cases tg<;>first|(cases h;done)|skip
  have:dC ℓ (.row t [] true)=dC ℓ (.row .unit [] true):=rfl;refine⟨CW.of _ _ rfl rfl ?_,?_⟩
  ·exact VW.refl _ _
  ·exact VW.refl _ _
 |nilp=>cases v<;>first|(cases h;done)|exact eq rfl
 |nilf=>cases v<;>first|(cases h;done)|exact eq rfl
 |own t g=>
  cases v<;>first|(cases h;done)|skip
  simp only[oG.fits,aiU]at h;obtain⟨rfl,rfl⟩:=h;exact eq rfl
 |ptr g sz i off=>
  cases v<;>first|(cases h;done)|skip
  simp only[oG.fits,aiU]at h;obtain⟨rfl,rfl,rfl,rfl⟩:=h;exact eq rfl
 |clo f caps=>
  cases v<;>first|(cases h;done)|skip
  simp only[oG.fits,ai7,aiU]at h;obtain⟨rfl,h2⟩:=h;exact eq (by rw[Ld _ _ h2];rfl)
 |fm l=>
  cases v<;>first|(cases h;done)|skip
  simp only[oG.fits,aiU]at h;subst h;exact eq rfl
 |fp g=>
  cases v<;>first|(cases h;done)|skip
  simp only[oG.fits,aiU]at h;subst h;exact eq rfl
theorem Og:∀(s:Sh) (vs:List SV) (x:s.den),s.pa vs=some x→F2 (CV ℓ H H) vs (s.un x):=by
 intro s
 induction s with
 |nil=>intro vs x h;cases vs with
  |nil=>exact .nil
  |cons _ _=>cases h
 |st y r ih=>
  intro vs x h
  cases vs with
  |nil=>cases h
  |cons v vs=>
   replace h:(if y.fits v=true then r.pa vs else none)=(some x:Option r.den):=h
   split at h
   ·rename_i hf;exact .cons (PD hf) (ih _ _ h)
   ·cases h
 |dat t r ih=>
  intro vs x h
  cases vs with
  |nil=>cases h
  |cons v vs=>
   simp only[Sh.pa]at h;split at h
   ·rename_i a b h1 h2;cases h;exact .cons (TW h1) (ih _ _ h2)
   ·cases h
 |part t g r ih=>
  intro vs x h
  cases vs with
  |nil=>cases h
  |cons v vs=>
   simp only[Sh.pa]at h;split at h
   ·rename_i t' g' off len b h2;split at h
    ·rename_i e;obtain⟨rfl,rfl⟩:=e;cases h;exact .cons (CV.refl (HW.refl _) _) (ih _ _ h2)
    ·cases h
   ·cases h
 |eptr g sz off r ih=>
  intro vs x h
  cases vs with
  |nil=>cases h
  |cons v vs=>
   simp only[Sh.pa]at h;split at h
   ·rename_i g' sz' i off' b h2;split at h
    ·rename_i e;obtain⟨rfl,rfl,rfl⟩:=e;cases h;exact .cons (CV.refl (HW.refl _) _) (ih _ _ h2)
    ·cases h
   ·cases h
 |agg i r ihi ih=>
  intro vs x h
  cases vs with
  |nil=>cases h
  |cons v vs=>
   simp only[Sh.pa]at h;split at h
   ·rename_i cs b h2;split at h
    ·rename_i a h1;cases h;have f:=ihi _ _ h1;refine .cons ⟨⟨rfl,?_,fun j u u' e1 e2=> ?_⟩,VW.undef⟩ (ih _ _ h2)
     ·simp only[dA,AV.cells,ais];exact f.length
     ·simp only[dA,AV.cells,ait]at e1 e2;obtain⟨p,b1,rfl⟩:=aiu.1 e1;obtain⟨q,b2,rfl⟩:=aiu.1 e2;exact(f.get j p q b1 b2).c
    ·cases h
   ·cases h
end
section
variable{ℓ:Lens}{H H0:aR}
def RB(ℓ:Lens)(H:aR)(b b':SB):Prop:=b=b'∨∃sz v v',b= .box sz v∧b'= .box sz v'∧CV ℓ H H v v'
def RG(ℓ:Lens)(H:aR)(l l':List SB):Prop:=∃b b',l=[b]∧l'=[b']∧RB ℓ H b b'
theorem RB.len{b b':SB}(h:RB ℓ H b b'):b.len=b'.len:=by
 rcases h with rfl|⟨sz,v,v',rfl,rfl,_⟩<;>rfl
theorem F2.agS{α β:Type}{R:α→β→Prop}{l:List α}{m:List β}(k:F2 R l m){i:Nat}{b:β}(h:m[i]?=some b):∃a,l[i]?=some a∧R a b:=by
 have hi:i<l.length:=by rw[k.length];exact(ain.1 h).1
 exact⟨l[i],aiw hi,k.get i _ _ (aiw hi) h⟩
theorem F2.vU{α β:Type}{R:α→β→Prop}{l:List α}{m:List β}(k:F2 R l m){i:Nat}{a:α}(h:l[i]?=some a):∃b,m[i]?=some b∧R a b:=by
 have hi:i<m.length:=by rw[←k.length];exact(ain.1 h).1
 exact⟨m[i],aiw hi,k.get i _ _ h (aiw hi)⟩
theorem Mj{H':aR}(h:F2 (RG ℓ H0) H H')(ha:fq ℓ H'):fq ℓ H:=by
 intro g b hg;simp only[bC]at hg
 cases hl:H[g.1]? with
 |none=>simp[hl]at hg
 |some l=>
  rw[hl]at hg;obtain⟨l',h1,b1,b2,rfl,rfl,h2⟩:=h.vU hl
  cases hc:g.2 with
  |succ c=>rw[hc]at hg;simp at hg
  |zero=>
   rw[hc]at hg;simp at hg;subst hg;rw[ha g b2 (by simp[bC,h1,hc]),h2.len]
theorem PN{H':aR}(h:F2 (RG ℓ H) H H'):HW (dH ℓ H) (dH ℓ H'):=by
 refine HW.pw (fun g k' hg=> ?_) (fun i=> ?_)
 ·rw[dK]at hg;obtain⟨b',h1,h2⟩:=ajm.1 hg;simp only[bC]at h1
  cases hl:H'[g.1]? with
  |none=>simp[hl]at h1
  |some l'=>
   rw[hl]at h1;obtain⟨l,h3,b1,b2,rfl,rfl,h4⟩:=h.agS hl
   cases hc:g.2 with
   |succ c=>rw[hc]at h1;simp at h1
   |zero=>
    rw[hc]at h1;simp at h1;subst h1;have hb:bC H g=some b1:=by simp[bC,h3,hc]
    rcases h4 with rfl|⟨sz,v,v',rfl,rfl,hv⟩
    ·exact⟨k',by rw[dK,hb];exact h2,rfl,rfl,aiy _,.inl rfl⟩
    ·simp only[dB,aiv]at h2;subst h2;refine⟨⟨sz,[dA ℓ v],0,true⟩,by rw[dK,hb];rfl,rfl,rfl,aiy _,.inr ⟨rfl,rfl,fun i x y h5 h6=> ?_⟩⟩
     cases i with
     |succ i=>simp at h5
     |zero=>simp at h5 h6;subst h5;subst h6;exact hv.a
 ·simp only[dH,aiJ,ait]
  cases hl:H[i]? with
  |none=>
   have:H'[i]?=none:=by rw[ajr,←h.length];exact ajr.1 hl
   rw[this]
  |some l=>
   obtain⟨l',h1,b1,b2,rfl,rfl,_⟩:=h.vU hl;rw[h1];rfl
theorem K4:∀(bk:iY) (H:aR) (x:bk.den),bk.pa H=some x→F2 (RG ℓ H0) H (bk.un x):=by
 intro bk
 induction bk with
 |nil=>intro H x h;cases H with
  |nil=>exact .nil
  |cons _ _=>cases h
 |box sz s r ih=>
  intro H x h
  cases H with
  |nil=>cases h
  |cons g H'=>
  cases g with
  |nil=>cases h
  |cons b bs=>
  cases bs with
  |cons _ _=>cases b<;>cases h
  |nil=>
  cases b<;>first|(cases h;done)|skip
  rename_i sz' v
  replace h:(if sz=sz' then(match s.pa [v],r.pa H' with
   |some a,some b=>some (a,b)
   |_,_=>none)else none)=(some x:Option (s.den×r.den)):=h
  split at h
  ·rename_i e;subst e;split at h
   ·rename_i a b h1 h2;cases h;have f:=Og (ℓ:=ℓ) (H:=H0) s _ _ h1;refine .cons ⟨_,_,rfl,rfl,.inr ⟨sz,v,_,rfl,rfl,?_⟩⟩ (ih _ _ h2);simp only;generalize s.un a=us at f
    cases f with
    |cons h t=>exact h
   ·cases h
  ·cases h
 |arr t z r ih=>
  intro H x h
  cases H with
  |nil=>cases h
  |cons g H'=>
  cases g with
  |nil=>cases h
  |cons b bs=>
  cases bs with
  |cons _ _=>cases b<;>cases h
  |nil=>
  cases b<;>first|(cases h;done)|skip
  rename_i t' l f
  replace h:(if e:t'=t then(if aeK z f=true then(match r.pa H' with
   |some b=>some (e ▸ l,b)
   |none=>none)else none)else none)=(some x:Option (List t.den×r.den)):=h
  split at h
  ·rename_i e;subst e;split at h
   ·rename_i hz;split at h
    ·rename_i b h2;cases h;refine .cons ⟨_,_,rfl,rfl,.inl ?_⟩ (ih _ _ h2)
     congr 1
     cases z<;>cases f<;>first|rfl|cases hz
    ·cases h
   ·cases h
  ·cases h
 |mp t r ih=>
  intro H x h
  cases H with
  |nil=>cases h
  |cons g H'=>
  cases g with
  |nil=>cases h
  |cons b bs=>
  cases bs with
  |cons _ _=>cases b<;>cases h
  |nil=>
  cases b<;>first|(cases h;done)|skip
  rename_i t' l
  replace h:(if e:t'=t then(match r.pa H' with
   |some b=>some (e ▸ l,b)
   |none=>none)else none)=(some x:Option (List (Int×t.den)×r.den)):=h
  split at h
  ·rename_i e;subst e;split at h
   ·rename_i b h2;cases h;exact .cons ⟨_,_,rfl,rfl,.inl rfl⟩ (ih _ _ h2)
   ·cases h
  ·cases h
 |dead n r ih=>
  intro H x h
  cases H with
  |nil=>cases h
  |cons g H'=>
  cases g with
  |nil=>cases h
  |cons b bs=>
  cases bs with
  |cons _ _=>cases b<;>cases h
  |nil=>
  cases b<;>first|(cases h;done)|skip
  rename_i n'
  replace h:(if n=n' then r.pa H' else none)=(some x:Option r.den):=h
  split at h
  ·rename_i e;subst e;exact .cons ⟨_,_,rfl,rfl,.inl rfl⟩ (ih _ _ h)
  ·cases h
theorem SK(v:SV):dV ℓ (qE v)=dA ℓ v:=by cases v<;>rfl
theorem VW.qE{A B:aR}(hw:HW (dH ℓ A) (dH ℓ B))(v:SV):VW (dH ℓ A) (dH ℓ B) (dV ℓ v) (dA ℓ v):=by
 cases v with
 |tup vs=>exact VW.undef
 |_=>exact hw.vw _
theorem Kb:∀(slots:List Nat) (ws:List SV) (t:Nat),iI (tY slots ws) t= .undef∨∃(i:Nat) (w:SV),slots[i]?=some t∧ws[i]?=some w∧iI (tY slots ws) t=w:=by
 intro slots
 induction slots with
 |nil=>intro ws t;exact .inl rfl
 |cons s r ih=>
  intro ws t
  cases ws with
  |nil=>exact .inl rfl
  |cons w ws=>
   simp only[tY,iI];by_cases e:s=t
   ·subst e;rw[if_pos rfl];exact .inr ⟨0,w,rfl,rfl,rfl⟩
   ·rw[if_neg e];rcases ih ws t with h|⟨i,w',h1,h2,h3⟩
    ·exact .inl h
    ·exact .inr ⟨i+1,w',by simpa using h1,by simpa using h2,h3⟩
theorem ade(s:Sh):∀(x:s.den),∀w∈s.un x,dV ℓ w=dA ℓ w:=by
 induction s with
 |nil=>intro x w h;cases h
 |st y r ih=>
  intro x w h;rcases aiV.1 h with rfl|h
  ·cases y<;>rfl
  ·exact ih _ _ h
 |dat t r ih=>
  intro x w h;rcases aiV.1 h with rfl|h
  ·cases t<;>rfl
  ·exact ih _ _ h
 |part t g r ih=>
  intro x w h;rcases aiV.1 h with rfl|h
  ·rfl
  ·exact ih _ _ h
 |eptr g sz off r ih=>
  intro x w h;rcases aiV.1 h with rfl|h
  ·rfl
  ·exact ih _ _ h
 |agg i r ihi ih=>
  intro x w h;rcases aiV.1 h with rfl|h
  ·rfl
  ·exact ih _ _ h
theorem xQ{nt m:Nat}{σ:Sg}{s:qM}{v:σ.den}(h:(fit m σ s).mean=some v){ℓ2:Lens}(ha:fq ℓ2 (σ.un v).hp):∃ℓ,fq ℓ s.hp∧Weak nt m (dS ℓ s) (dS ℓ2 (σ.un v)):=by
 unfold fit at h;obtain⟨⟨vs',K⟩,h1,h⟩:=Tr.aA h;obtain⟨s1,h2,h⟩:=Tr.aA h;obtain⟨H2,h3,h⟩:=Tr.aA h;obtain⟨s1b,h4,h⟩:=Tr.aA h;obtain⟨H3,h3b,h⟩:=Tr.aA h;obtain⟨s2,h4b,h⟩:=Tr.aA h;have h2:=Tr.bJ h2;have h4:=Tr.bJ h4;have h4b:=Tr.bJ h4b;split at h
 ·rename_i a b h5 h6;have:=Tr.ay h;subst this;have hb:=K4 (ℓ:=ℓ2) (H0:=s2.hp) _ _ _ h6;have ha2:fq ℓ2 s2.hp:=Mj hb ha;have e4b:=wF h4b (fO H3) ha2;obtain⟨a1b,hw3b⟩:=Ev (ℓ:=fJ H3) _ _ _ _ h3b (fO H3);have e4:=wF h4 (fO H2) a1b;obtain⟨a1,hw3⟩:=Ev (ℓ:=fJ H2) _ _ _ _ h3 (fO H2);have e2:=wF h2 (fO K) a1;have hc:=qc (ℓ:=fJ K) _ _ _ _ _ h1 (fO K);refine⟨fJ K,hc.agr,?_⟩
  have w1:Weak nt m (dS (fJ K) s) (dS (fJ K) {fr:=tY σ.slots (vs'.map qE),hp:=K}):=by
   refine Weak.of hc.hw (fun t=> ?_);simp only[dS,uP];rcases Kb σ.slots (vs'.map qE) t with e|⟨i,w,i1,i2,i3⟩
   ·rw[e];exact VW.undef
   ·rw[i3];rw[ait]at i2;obtain⟨w0,i4,rfl⟩:=aiu.1 i2;rw[SK];have i5:(σ.slots.map fun t=>qE (iI s.fr t))[i]?=some (qE (iI s.fr t)):=by rw[ait,i1];rfl
    have hv:=(hc.vals.get i _ _ i5 i4).a.vw;refine VW.trans (B:=dH (fJ K) s.hp) (HW.refl _) (VW.qE (HW.refl _) (iI s.fr t)) ?_;have:dA (fJ K) (qE (iI s.fr t))=dA (fJ K) (iI s.fr t):=by cases iI s.fr t<;>rfl
    rw[←this];exact hv
  have w2:Weak nt m (dS (fJ K) {fr:=tY σ.slots (vs'.map qE),hp:=K}) (dS (fJ H2) s1):=by
   rw[←e2];exact Weak.tidy _
  have w3:Weak nt m (dS (fJ H2) s1) (dS (fJ H2) {fr:=s1.fr,hp:=H2}):=Weak.of hw3 fun t=>hw3.vw _
  have w4a:Weak nt m (dS (fJ H2) {fr:=s1.fr,hp:=H2}) (dS (fJ H3) s1b):=by
   rw[←e4];exact Weak.tidy _
  have w4b:Weak nt m (dS (fJ H3) s1b) (dS (fJ H3) {fr:=s1b.fr,hp:=H3}):=Weak.of hw3b fun t=>hw3b.vw _
  have w4:Weak nt m (dS (fJ H3) {fr:=s1b.fr,hp:=H3}) (dS ℓ2 s2):=by
   rw[←e4b];exact Weak.tidy _
  have w5:Weak nt m (dS ℓ2 s2) (dS ℓ2 (σ.un (a,b))):=by
   have hwb:=PN (K4 (ℓ:=ℓ2) (H0:=s2.hp) _ _ _ h6);refine Weak.of hwb (fun t=> ?_);simp only[dS,uP,Sg.un];rcases Kb σ.slots (σ.sh.un a) t with e|⟨i,w,i1,i2,i3⟩
   ·rw[e];exact VW.undef
   ·rw[i3];have i5:(σ.slots.map (iI s2.fr))[i]?=some (iI s2.fr t):=by rw[ait,i1];rfl
    have hv:=(Og (ℓ:=ℓ2) (H:=s2.hp) _ _ _ h5).get i _ _ i5 i2;rw[ade _ _ w (air i2)];exact VW.trans (HW.refl _) (VW.qE (HW.refl _) _) (hv.a.vw.trans (HW.refl _) (hwb.vw _))
  exact(((((w1.trans w2).trans w3).trans w4a).trans w4b).trans w4).trans w5
 ·exact(Tr.au h).elim
end
def Fw:Value→SV
 | .bool b=>.bool b
 | .int k n=>.int k n
 | .string s=>.str s
 | .pointer none=>.nilp
 | .nilFunc=>.nilf
 | .slice none 0 0=>.row .unit [] true
 |_=>.undef
def svC:Value→SV
 | .agg cs=>if(cs.toList.map Fw).all WW then .agg (cs.toList.map Fw)else .undef
 |v=>Fw v
def wB(fr:wC):Operand→SV
 | .tmp t=>iI fr t
 | .const v=>svC v
 | .global _=>.undef
 | .func f=>.clo f []
structure eu where
 val:SV
 rd:List Nm:=[]
 wr:List (Nm×SB):=[]
 new:List SB:=[]
def qW(v:SV):eu:={val:=v}
def o7(P:Program):Nat→TypeId→Option Ty
 |0,_=>none
 |d+1,t=>
  match P.underlying t with
  |some (.int k)=>some (.int k)
  |some .bool=>some .bool
  |some .string=>some .str
  |some (.slice e)=>(o7 P d e).map .row
  |some (.struct fs)=>fs.toList.foldr (fun f r=>match o7 P d f.type,r with
   |some a,some b=>some (.cons a b)
   |_,_=>none) (some .unit)
  |some (.array n e)=>match o7 P d e with
   |some a=>some ((List.replicate n a).foldr .cons .unit)
   |none=>none
  |_=>none
def Ba:SV→Bool
 | .agg _| .tup _=>false
 |_=>true
def Ku:SV→Bool
 | .agg _| .tup _| .clo ..=>false
 |_=>true
def nk:SV→Bool
 | .tup _=>false
 |_=>true
def xR(agg:Bool)(cs:List SV):Option SV:=
 match agg with
 |true=>some (.agg cs)
 |false=>match cs with
  | [c]=>if Ba c=true then some c else none
  |_=>none
def yo(size:Nat)(agg:Bool)(x:SV)(off:Nat):Option SV:=
 if off+size≤x.cells.length then
  (if off=0∧size=x.cells.length∧x.isAgg=agg then(if nk x=true then some x else none)else xR agg ((x.cells.drop off).take size))
 else none
def wS(P:Program)(t:TypeId)(p:SV)(H:aR):Tr eu:=
 match aW P t,Av P t with
 |some size,some agg=>
  match p with
  | .ptr g sz i off=>
   match bC H g with
   |some (.box sz' v)=>.when (decide (sz'=sz∧i=0∧0<sz)) ((Tr.of (yo size agg v off)).map fun u=>{val:=u,rd:=[g]})
   |some (.arr t' l _)=>.when (decide (t'.size=sz∧0<sz)) (.ask l[i]? fun x=>(Tr.of (yo size agg (CF t' x) off)).map fun u=>{val:=u,rd:=[g]})
   |_=>.fail
  | .lp t' _ _ x _ off=>(Tr.of (yo size agg (CF t' x) off)).map qW
  | .fp g=>.when (decide (size=1∧agg=false)) (.ret (qW (.clo g [])))
  |_=>.fail
 |_,_=>.fail
def nM(cs:List SV)(off:Nat)(new:List SV):List SV:=cs.take off++new++cs.drop (off+new.length)
def vM:SV→Bool
 | .row _ _ tight=> !tight
 | .agg _=>false
 |_=>true
def Bz:SV→Bool
 | .agg cs=>cs.all vM
 |v=>vM v
def U4(z:Fz)(len i:Nat)(t:Tr eu):Tr eu:=
 match z with
 | .zero=>t
 |z=>.need (decide (z.n len≤i)) t
def y5 (P:Program) (t:TypeId) (p v:SV) (H:aR):Tr eu:=
 match aW P t with
 |some size=>
  match p with
  | .ptr g sz i off=>
   match bC H g with
   |some (.box sz' x)=>
    .when (decide (sz'=sz∧i=0∧v.cells.length=size∧off+size≤sz∧MB v=true∧0<sz)) (
     if off=0∧size=sz then .ret {val:=.tup [],rd:=[g],wr:=[(g,.box sz' v)]}
     else if x.isAgg=true then .ret {val:=.tup [],rd:=[g],wr:=[(g,.box sz' (.agg (nM x.cells off v.cells)))]}
     else .fail)
   | some (.arr t' l z)=>
    (ED H v).bind fun ul=>
     .when (decide (t'.size=sz∧ul.1.cells.length=size∧off+size≤sz∧¬ g∈ul.2∧MB ul.1=true∧Bz ul.1=true∧0<sz)) (
      U4 z l.length i (
       if off=0∧size=sz then
        .need (decide (i<l.length)) ((Tr.of (LY t' ul.1)).bind fun y=>
         .ret {val:=.tup [],rd:=g::ul.2,wr:=iX H ul.2++ [(g,.arr t' (l.set i y) z)]})
       else
        .ask l[i]? fun x=>.when t'.agg ((Tr.of (LY t' (.agg (nM (IA t' x) off ul.1.cells)))).bind fun y=>
         .ret {val:=.tup [],rd:=g::ul.2,wr:=iX H ul.2++ [(g,.arr t' (l.set i y) z)]})))
   |_=>.fail
  |_=>.fail
 |none=>.fail
def qo(P:Program)(t:TypeId)(p:SV)(f:Nat):Option SV:=
 match nT P t f with
 |some (o,ft)=>
  if aW P ft=none∨aW P ft=some 0 then none else
  match p with
  | .ptr g sz i off=>if 0<sz then some (.ptr g sz i (off+o))else none
  | .lp t l i x h off=>some (.lp t l i x h (off+o))
  |_=>none
 |none=>none
def lG(P:Program)(t:TypeId)(cs:List SV)(off:Nat):Option SV:=
 match aW P t,Av P t with
 |some size,some agg=>if off+size≤cs.length then xR agg ((cs.drop off).take size)else none
 |_,_=>none
def Di(P:Program)(t:TypeId)(x:SV)(f:Nat):Option SV:=
 match nT P t f,x with
 |some (o,ft),.agg cs=>lG P ft cs o
 |_,_=>none
def qC(P:Program)(t:TypeId)(x i:SV)(H:aR):Tr SV:=
 match P.underlying t,i with
 |some (.slice e),.int _ n=>
  match x with
  | .own t' g=>match bC H g with
   |some b=>.when (decide (aW P e=some t'.size∧0<t'.size)) (.need (decide (0≤n∧n<b.len)) (.ret (.ptr g t'.size n.toNat 0)))
   |none=>.fail
  | .part t' g off len=>.when (decide (aW P e=some t'.size∧0<t'.size)) (.need (decide (0≤n∧n<len)) (.ret (.ptr g t'.size (off+n.toNat) 0)))
  | .row t' l _=>.when (decide (aW P e=some t'.size)) (.look l n fun x h=>.ret (.lp t' l n.toNat x h 0))
  |_=>.fail
 |some (.array len e),.int _ n=>
  match x with
  | .ptr g sz j off=>match aW P e with
   |some es=>.when (decide (0<sz)) (.need (decide (0≤n∧n<len)) (.ret (.ptr g sz j (off+n.toNat*es))))
   |none=>.fail
  |_=>.fail
 |_,_=>.fail
def yU(P:Program)(t:TypeId)(x i:SV):Tr SV:=
 match P.underlying t,x,i with
 |some (.array len e),.agg cs,.int _ n=>
  match aW P e with
  |some es=>.need (decide (0≤n∧n<len)) (Tr.of (lG P e cs (n.toNat*es)))
  |none=>.fail
 |some .string,.str s,.int _ n=>.need (decide (0≤n∧n<s.size)) (.ret (.int .u8 ((s[n.toNat]?.getD 0).toNat:Nat)))
 |_,_,_=>.fail
def Xv(P:Program)(e:TypeId)(ty:Ty)(cs:List SV)(es:Nat):Nat→Nat→Option (List ty.den)
 |0,_=>some []
 |n+1,i=>match lG P e cs (i*es),Xv P e ty cs es n (i+1)with
  |some v,some r=>if Bz v=true then(LY ty v).map fun x=>x::r else none
  |_,_=>none
def Aq(P:Program)(t:TypeId)(x i:SV):Tr SV:=
 match P.underlying t,x,i with
 |some (.array len e),.agg cs,.int _ n=>
  match aW P e,o7 P 12 e with
  |some es,some ty=>(Tr.of (Xv P e ty cs es len 0)).bind fun l=>.look l n fun x _=>.ret (CF ty x)
  |_,_=>.fail
 |_,_,_=>yU P t x i
def Ai(P:Program)(t:TypeId)(x i:SV):Operand→Tr SV
 | .const _=>yU P t x i
 |_=>Aq P t x i
def Od(l:List (Int×FuncId×List FuncId))(n:Int)(k:SV→Bool→Tr SV):Tr SV:=
 match l with
 | []=>k .nilf false
 |(m,f,gs)::r=>.br (n==m) (k (.clo f (gs.map .fp)) true) (Od r n k)
def zO(P:Program)(t:TypeId)(m k:SV)(ok:Bool):Tr SV:=
 match P.underlying t,m,k with
 |some (.map kt et),.fm l,.int .i64 n=>
  match P.underlying kt,mO P et with
  |some (.int .i64),some .nilf=>Od l n fun v b=>.ret (if ok then .tup [v,.bool b]else v)
  |_,_=>.fail
 |_,_,_=>.fail
def Y1:Ty→Bool
 | .int _| .bool| .str=>true
 |_=>false
def qG{α:Type}(n:Int):List (Int×α)→Option α
 | []=>none
 |p::r=>if n=p.1 then some p.2 else qG n r
def OT{α:Type}(n:Int)(x:α):List (Int×α)→List (Int×α)
 | []=> [(n,x)]
 |p::r=>if n=p.1 then(p.1,x)::r else p::OT n x r
def aaM(op:BinOp)(k:IntKind)(a b:Int):Tr SV:=
 match op with
 | .add=>.ret (.int k (k.wrap (a+b)))
 | .sub=>.ret (.int k (k.wrap (a-b)))
 | .mul=>.ret (.int k (k.wrap (a*b)))
 | .quo=>.need (decide (b≠0)) (.ret (.int k (k.wrap (a.tdiv b))))
 | .rem=>.need (decide (b≠0)) (.ret (.int k (a.tmod b)))
 | .eql=>.ret (.bool (a==b))
 | .neq=>.ret (.bool (a !=b))
 | .lss=>.ret (.bool (decide (a<b)))
 | .leq=>.ret (.bool (decide (a≤b)))
 | .gtr=>.ret (.bool (decide (a>b)))
 | .geq=>.ret (.bool (decide (a≥b)))
 | .and=>.ret (.int k (NK .and k a b))
 | .or=>.ret (.int k (NK .or k a b))
 | .xor=>.ret (.int k (NK .xor k a b))
 |_=>.fail
def Nj(op:BinOp)(k:IntKind)(a b:Int):Tr SV:=
 match op with
 | .shl=>.need (decide (0≤b)) (.ret (.int k (abk k a b)))
 | .shr=>.need (decide (0≤b)) (.ret (.int k (xW k a b)))
 |_=>.fail
def Y6:BinOp→Bool
 | .shl| .shr=>true
 |_=>false
def abQ(op:BinOp)(a b:ByteArray):Tr SV:=
 match op with
 | .add=>.need (decide (a.size+b.size≤4294967296)) (.ret (.str (a++b)))
 | .eql=>.ret (.bool (a.toList==b.toList))
 | .neq=>.ret (.bool (!(a.toList==b.toList)))
 | .lss=>.ret (.bool (Op.bytesLess a.toList b.toList))
 | .leq=>.ret (.bool (Op.bytesLess a.toList b.toList||a.toList==b.toList))
 | .gtr=>.ret (.bool (!(Op.bytesLess a.toList b.toList||a.toList==b.toList)))
 | .geq=>.ret (.bool (!(Op.bytesLess a.toList b.toList)))
 |_=>.fail
def uW(P:Program)(eq:TypeId→SV→SV→Option Bool)(xs ys:List SV):List Field→Option Bool
 | []=>some true
 |f::r=>
  if f.name = "_" then none else
  match lG P f.type xs f.offset,lG P f.type ys f.offset with
  |some a,some b=>match eq f.type a b,uW P eq xs ys r with
   |some c,some d=>some (c&&d)
   |_,_=>none
  |_,_=>none
def yA(P:Program)(eq:TypeId→SV→SV→Option Bool)(e:TypeId)(size:Nat)(xs ys:List SV):Nat→Nat→Option Bool
 |0,_=>some true
 |n+1,i=>
  match lG P e xs (i*size),lG P e ys (i*size)with
  |some a,some b=>match eq e a b,yA P eq e size xs ys n (i+1)with
   |some c,some d=>some (c&&d)
   |_,_=>none
  |_,_=>none
def Q7(P:Program):Nat→TypeId→SV→SV→Option Bool
 |0,_,_,_=>none
 |d+1,t,x,y=>
  match P.underlying t,x,y with
  |some .bool,.bool a,.bool b=>some (a==b)
  |some (.int _),.int k a,.int k' b=>if k=k' then some (a==b)else none
  |some .string,.str a,.str b=>some (a==b)
  |some (.struct fs),.agg xs,.agg ys=>if P.stoodInHeld t then none else uW P (Q7 P d) xs ys fs.toList
  |some (.array n e),.agg xs,.agg ys=>
   match aW P e with
   |some size=>yA P (Q7 P d) e size xs ys n 0
   |none=>none
  |_,_,_=>none
def zV(P:Program)(t:TypeId)(x y:SV):Option Bool:=
 match x,y with
 | .bool a,.bool b=>Q7 P 8 t (.bool a) (.bool b)
 | .agg xs,.agg ys=>if P.eqGuardType P.depth t then none else Q7 P 8 t (.agg xs) (.agg ys)
 |_,_=>none
def Nt(P:Program)(op:BinOp)(t:TypeId)(x y:SV):Tr SV:=
 match x,y with
 | .int k a,.int k' b=>match Y6 op with
  |true=>Nj op k a b
  |false=>.when (decide (k=k')) (aaM op k a b)
 | .str a,.str b=>abQ op a b
 |x,y=>match op with
  | .eql=>(Tr.of (zV P t x y)).map .bool
  | .neq=>(Tr.of (zV P t x y)).map fun b=>.bool (!b)
  |_=>.fail
def Oj(P:Program)(op:BinOp)(t:TypeId)(l:Nat)(oy:Operand):Tr SV:=
 match op,P.underlying t,oy with
 | .eql,some (.slice _),.const (.slice none 0 0)=>.need (decide (0<l)) (.ret (.bool false))
 |_,_,_=>.fail
def IW(P:Program)(op:BinOp)(t:TypeId)(x y:SV)(oy:Operand):Tr SV:=
 match x with
 | .row _ l _=>Oj P op t l.length oy
 |x=>Nt P op t x y
def Tp(op:UnOp)(x:SV):Option SV:=
 match op,x with
 | .neg,.int k n=>some (.int k (k.wrap (0-n)))
 | .not,.bool b=>some (.bool !b)
 |_,_=>none
def wI(P:Program)(src dst:TypeId)(x:SV):Option SV:=
 match P.underlying src,P.underlying dst,x with
 |some (.int _),some (.int k),.int _ n=>some (.int k (k.wrap n))
 |some .string,some .string,.str s=>some (.str s)
 |_,_,_=>none
def gV(o:Option SV)(dflt:Nat):Tr Nat:=
 match o with
 |none=>.ret dflt
 |some (.int _ n)=>.need (decide (0≤n)) (.ret n.toNat)
 |some _=>.fail
def ze(P:Program)(t:TypeId)(x:SV)(lo hi mx:Option SV)(H:aR):Tr eu:=
 match P.underlying t,x with
 |some .string,.str s=>
  match mx with
  |none=>(gV lo 0).bind fun l=>(gV hi s.size).bind fun h=>.need (decide (l≤h∧h≤s.size)) (.ret {val:=.str (s.extract l h)})
  |some _=>.fail
 |some (.slice e),.row t' xs tight=>
  .when (decide (aW P e=some t'.size)) (
   match mx with
   |none=>(gV lo 0).bind fun l=>(gV hi xs.length).bind fun h=>.need (decide (l≤h∧h≤xs.length)) (.ret {val:=.row t' ((xs.drop l).take (h-l)) (tight&&hi.isNone)})
   |some m=>(gV lo 0).bind fun l=>(gV hi xs.length).bind fun h=>(gV (some m) 0).bind fun m=>
    .when hi.isSome (.need (decide (l≤h∧h=m∧m≤xs.length)) (.ret {val:=.row t' ((xs.drop l).take (h-l)) true})))
 | some (.slice e),.own t' g=>
  match bC H g with
  | some (.arr t2 l2 _)=>
   if h2:t2=t' then
   .when (decide (aW P e=some t'.size)) (
    match mx with
    |none=>match lo,hi with
     |none,none=>.ret {val:=.own t' g}
     |lo,hi=>(gV lo 0).bind fun l=>(gV hi l2.length).bind fun h=>.need (decide (l≤h∧h≤l2.length)) (.ret {val:=.part t' g l (h-l)})
    |some m=>(gV lo 0).bind fun l=>(gV hi l2.length).bind fun h=>(gV (some m) 0).bind fun m=>
     .when (hi.isSome&&decide (0<t'.size)) (.need (decide (l≤h∧h=m∧m≤l2.length))
      (.ret {val:=.row t' (((h2 ▸ l2:List t'.den).drop l).take (h-l)) true,rd:=[g],wr:=iX H [g]})))
   else .fail
  |_=>.fail
 |some (.slice e),.part t' g off len=>
  .when (decide (aW P e=some t'.size)) (
   match mx with
   |none=>(gV lo 0).bind fun l=>(gV hi len).bind fun h=>.need (decide (l≤h∧h≤len)) (.ret {val:=.part t' g (off+l) (h-l)})
   |some _=>.fail)
 |_,_=>.fail
def Dy(place:Nat→Option (Nat×Nat))(cells:List SV):List (Nat×SV)→Option (List SV)
 | []=>some cells
 |(i,v)::rest=>
  match place i with
  |none=>none
  |some (off,size)=>if v.cells.length=size∧off+size≤cells.length∧MB v=true then Dy place (nM cells off v.cells) rest else none
def GD(P:Program)(t:TypeId):Option SV:=
 match P.info? t with
 |some i=>match i.zero with
  |some z=>some (svC z)
  |none=>none
 |none=>none
def Ec(P:Program)(t:TypeId)(parts:List (Nat×SV)):Option SV:=
 match GD P t,P.underlying t with
 |some (.agg z),some (.struct fs)=>
  if !(fs.toList.all fun f=>(aW P f.type).isSome)then none else
  (Dy (fun i=>match fs[i]? with
   |some f=>(aW P f.type).map fun s=>(f.offset,s)
   |none=>none) z parts).map .agg
 |some (.agg z),some (.array _ e)=>
  match aW P e with
  |some s=>(Dy (fun i=>some (i*s,s)) z parts).map .agg
  |none=>none
 |_,_=>none
def LC(P:Program)(e:TypeId)(t:Ty):Option t.den:=(GD P e).bind (LY t)
def Ac(H:aR)(size:Nat)(t:Ty)(es:List t.den)(l:List Nm):List (Nat×SV)→Tr (List t.den×List Nm)
 | []=>.ret (es,l)
 |(i,v)::rest=>(ED H v).bind fun p=>.when (decide (p.1.cells.length=size∧p.1.isAgg=t.agg∧MB p.1=true∧Bz p.1=true)) (
   (Tr.of (LY t p.1)).bind fun y=>.need (decide (i<es.length)) (Ac H size t (es.set i y) (l++p.2) rest))
def jU(P:Program)(t:TypeId)(len:Nat)(parts:List (Nat×SV))(H:aR)(slot:Nat):Tr eu:=
 match jG P t with
 |some e=>
  match aW P e,Av P e,o7 P 12 e with
  |some size,some agg,some ty=>
   .when (decide (len*size≤65536∧0<size∧ty.size=size∧ty.agg=agg)) (
    (Tr.of (LC P e ty)).bind fun z=>
    (Ac H size ty (List.replicate len z) [] parts).bind fun p=>.ret {val:=.own ty (slot,0),rd:=p.2,wr:=iX H p.2,new:=[.arr ty p.1 .zero]})
  |_,_,_=>.fail
 |none=>.fail
def lF(P:Program)(t:TypeId)(l c:SV)(slot:Nat):Tr eu:=
 match jG P t,l,c with
 |some e,.int _ n,.int _ m=>
  match aW P e,rG P e,o7 P 12 e with
  |some size,some bytes,some ty=>
   .when (decide (bytes≤32768∧0<size∧ty.size=size)) ((Tr.of (LC P e ty)).bind fun z=>.need (decide (0≤n∧n≤m∧m≤4294967296))
    (.ret {val:=.own ty (slot,0),new:=[.arr ty (List.replicate n.toNat z) .zero]}))
  |_,_,_=>.fail
 |_,_,_=>.fail
def Ir(H:aR)(ty:Ty):SV→Tr (List ty.den×List Nm)
 | .row t l _=>(Tr.of (xL (t:=t) (t':=ty) l)).map fun l=>(l,[])
 | .own t g=>match bC H g with
  |some (.arr t' l _)=>.when (decide (t'=t∧0<t'.size)) ((Tr.of (xL (t:=t') (t':=ty) l)).map fun l=>(l,[g]))
  |_=>.fail
 | .part t g off len=>match bC H g with
  |some (.arr t' l _)=>.when (decide (t'=t∧0<t'.size)) (.need (decide (off+len≤l.length)) ((Tr.of (xL (t:=t') (t':=ty) l)).map fun l=>((l.drop off).take len,[g])))
  |_=>.fail
 |_=>.fail
def Fz.grow(z:Fz)(n:Nat):Fz:=
 match z with
 | .zero=>.zero
 | .all=>.low n
 | .low k=>.low (k+n)
def zY(P:Program)(t:TypeId)(s x:SV)(H:aR)(slot:Nat):Tr eu:=
 match jG P t with
 |some e=>
  match aW P e,rG P e,mO P e,o7 P 12 e with
  |some size,some bytes,some z,some ty=>
   .when (decide (0<size∧bytes≤32768∧z.cells.length=size∧okV z=true∧ty.size=size)) (
    (Ir H ty x).bind fun q=>
    match s with
    | .row t' l true=>(Tr.of (xL (t:=t') (t':=ty) l)).bind fun l=>.br l.isEmpty
      (.need (decide (l.length+q.1.length≤4294967296)) (.ret {val:=.own ty (slot,0),rd:=q.2,new:=[.arr ty (l++q.1) .zero]}))
      (.br q.1.isEmpty (.ret {val:=.row ty l true,rd:=q.2})
       (.need (decide (l.length+q.1.length≤4294967296)) (.ret {val:=.own ty (slot,0),rd:=q.2,new:=[.arr ty (l++q.1) .zero]})))
    | .own t' g=>match bC H g with
     |some (.arr t2 l z)=>if h:t2=ty then .when (decide (t'=ty)) (.need (decide (l.length+q.1.length≤4294967296))
       (.ret {val:=.own ty (slot,0),rd:=g::q.2,wr:=[(g,.dead l.length)],new:=[.arr ty ((h ▸ l:List ty.den)++q.1) (z.grow q.1.length)]}))else .fail
     |_=>.fail
    | .part t' g off len=>match bC H g with
     |some (.arr t2 l z)=>if h:t2=ty then .when (decide (t'=ty)) (match z with
      | .zero=>.need (decide (off=0∧len≤l.length∧len+q.1.length≤4294967296))
       (.ret {val:=.own ty (slot,0),rd:=g::q.2,wr:=[(g,.dead l.length)],new:=[.arr ty ((h ▸ l:List ty.den).take len++q.1) .zero]})
      |z=>.need (decide (off=0∧len=l.length∧l.length+q.1.length≤4294967296))
       (.ret {val:=.own ty (slot,0),rd:=g::q.2,wr:=[(g,.dead l.length)],new:=[.arr ty ((h ▸ l:List ty.den)++q.1) (z.grow q.1.length)]}))else .fail
     |_=>.fail
    |_=>.fail)
  |_,_,_,_=>.fail
 |none=>.fail
def bQ{α:Type}(l:List α)(off:Nat)(new:List α):List α:=l.take off++new++l.drop (off+new.length)
def Jk(P:Program)(t:TypeId)(d x:SV)(H:aR):Tr eu:=
 match jG P t with
 |some e=>
  match aW P e,o7 P 12 e with
  |some size,some ty=>.when (decide (0<size∧ty.size=size)) ((Ir H ty x).bind fun q=>
    match d with
    | .own t' g=>match bC H g with
     |some (.arr t2 l .zero)=>if h:t2=ty then .when (decide (t'=ty)) (.ret {val:=.int .i64 (min q.1.length l.length:Nat),rd:=g::q.2,wr:=[(g,.arr ty (bQ (h ▸ l:List ty.den) 0 (q.1.take l.length)) .zero)]})else .fail
     |_=>.fail
    | .part t' g off len=>match bC H g with
     |some (.arr t2 l .zero)=>if h:t2=ty then .when (decide (t'=ty)) (.need (decide (off+len≤l.length)) (.ret {val:=.int .i64 (min q.1.length len:Nat),rd:=g::q.2,wr:=[(g,.arr ty (bQ (h ▸ l:List ty.den) off (q.1.take len)) .zero)]}))else .fail
     |_=>.fail
    |_=>.fail)
  |_,_=>.fail
 |none=>.fail
def Dn(P:Program)(t:TypeId)(d:SV)(H:aR):Tr eu:=
 match jG P t with
 |some e=>
  match aW P e,o7 P 12 e with
  |some size,some ty=>.when (decide (0<size∧ty.size=size)) ((Tr.of (LC P e ty)).bind fun z=>
    match d with
    | .own t' g=>match bC H g with
     |some (.arr t2 l .zero)=>if h:t2=ty then .when (decide (t'=ty)) (.ret {val:=.tup [],rd:=[g],wr:=[(g,.arr ty (bQ (h ▸ l:List ty.den) 0 (List.replicate l.length z)) .zero)]})else .fail
     |_=>.fail
    | .part t' g off len=>match bC H g with
     |some (.arr t2 l .zero)=>if h:t2=ty then .when (decide (t'=ty)) (.need (decide (off+len≤l.length)) (.ret {val:=.tup [],rd:=[g],wr:=[(g,.arr ty (bQ (h ▸ l:List ty.den) off (List.replicate len z)) .zero)]}))else .fail
     |_=>.fail
    |_=>.fail)
  |_,_=>.fail
 |none=>.fail
def Ns(P:Program)(t:TypeId)(x:SV)(H:aR):Option SV:=
 match P.underlying t with
 |some (.array n _)=>some (.int .i64 n)
 |some (.slice _)=>match x with
  | .row _ xs _=>some (.int .i64 xs.length)
  | .own _ g=>match bC H g with
   |some b=>some (.int .i64 b.len)
   |none=>none
  | .part _ _ _ len=>some (.int .i64 len)
  |_=>none
 |some .string=>match x with
  | .str s=>some (.int .i64 s.size)
  |_=>none
 |_=>none
def minS:SV→List SV→Option SV
 |x,[]=>if Ba x=true then some x else none
 | .int k a,.int k' b::r=>if k=k' then minS (.int k (if b<a then b else a)) r else none
 |_,_=>none
def maxS:SV→List SV→Option SV
 |x,[]=>if Ba x=true then some x else none
 | .int k a,.int k' b::r=>if k=k' then maxS (.int k (if b>a then b else a)) r else none
 |_,_=>none
abbrev Pq:=SV×List SB×List SB
abbrev fF:=List SV→List SB→Tr Pq
def rC(H:aR)(share:Bool)(f:Ren)(x:SV):Tr SV:=
 match x with
 | .own t g=>if share then(match f g with
   |some g'=>.ret (.own t g')
   |none=>.fail)
  else(iD H (.own t g)).map (·.1)
 | .part t g off len=>if share then(match f g with
   |some g'=>.ret (.part t g' off len)
   |none=>.fail)
  else(iD H (.part t g off len)).map (·.1)
 | .row t l _=>.ret (.row t l false)
 | .agg _=>.fail
 | .tup _=>.fail
 |x=>.ret (mY f x)
def TQ(H:aR)(share:Bool)(f:Ren):SV→Tr SV
 | .agg cs=>(Tr.mapM (rC H share f) cs).map .agg
 |v=>rC H share f v
def bS:SV→List Nm
 | .agg cs=>cs.flatMap fun c=>match c with
  | .own _ g=> [g]
  | .part _ g _ _=> [g]
  |_=> []
 | .own _ g=> [g]
 | .part _ g _ _=> [g]
 |_=> []
def KR(v:SV):Bool:=Ie (dV (fun _=>0) v)
def SB.alive:SB→Bool
 | .dead _=>false
 |_=>true
def rV:List SB→List SB→Bool
 | .box ..::r,.box ..::r'=>rV r r'
 |b::r,b'::r'=>decide (b'.len=b.len)&&rV r r'
 | [],[]=>true
 |_,_=>false
def Ja(share:Bool)(call:fF)(args:List SV)(H:aR)(slot:Nat):Tr eu:=
 let lent:=if share then []else args.flatMap bS
 let R:=DW H (args.flatMap (if share then fun v=>uM v++bS v else uM))
 let f:Ren:=fun g=>(idxOf g R 0).map fun i=>(i,0)
 if lent.any (fun g=>R.contains g)|| !args.all nk then .fail else
 (Tr.mapM (TQ H share f) args).bind fun args'=>
 match R.mapM (fun g=>(bC H g).bind fun b=>if b.alive=true then some (eT f b)else none)with
 |some sub=>
  (call args' sub).bind fun out=>
   .need (rV sub out.2.1) (.when (out.2.2.all SB.alive) (
    let b:=bG R slot
    .ret { val:=qI b out.1,rd:=R++lent,
           wr:=(R.zip out.2.1).map (fun p=>(p.1,eT b p.2))++(if KR out.1&&out.2.2.isEmpty&&R.isEmpty then []else iX H lent),
           new:=out.2.2.map (eT b)}))
 |none=>.fail
def qN(fr:wC)(ps:Array (Nat×Operand)):List (Nat×SV):=ps.toList.map fun p=>(p.1,wB fr p.2)
def RY(c:Bool)(a b:SV):Tr SV:=
 match a,b with
 | .bool p,.bool q=>.ret (.bool (cond c p q))
 |a,b=>.br c (.ret a) (.ret b)
def En(P:Program)(t:TypeId)(v:SV)(slot:Nat):Tr eu:=
 match aW P t with
 |some size=>.when (decide (v.cells.length=size∧MB v=true∧0<size)) (.ret {val:=.ptr (slot,0) size 0 0,new:=[.box size v]})
 |none=>.fail
def uT(P:Program)(fr:wC)(t:TypeId)(x:Operand)(slot:Nat):Tr eu:=
 match x with
 | .const (.slice none 0 0)=>
  match jG P t with
  |some e=>match aW P e,o7 P 12 e with
   |some size,some ty=>.when (decide (ty.size=size)) (.ret {val:=.own ty (slot,0),new:=[.arr ty [] .zero]})
   |_,_=>.fail
  |none=>.fail
 |x=>.ret {val:=wB fr x}
def wM(P:Program)(t:TypeId)(m k:SV)(ok:Bool)(H:aR):Tr eu:=
 match Np P t,m,k with
 |some et,.ptr g 0 0 0,.int .i64 n=>match bC H g,GD P et with
  |some (.mp ty l),some z=>.when (Y1 ty) ((Tr.of (LY ty z)).bind fun z=>
    .ret {val:=if ok then .tup [CF ty ((qG n l).getD z),.bool (qG n l).isSome]else CF ty ((qG n l).getD z),rd:=[g]})
  |_,_=>.fail
 |_,_,_=>.fail
def lH(P:Program)(t:TypeId)(m k v:SV)(H:aR):Tr eu:=
 match Np P t,m,k with
 |some _,.ptr g 0 0 0,.int .i64 n=>match bC H g with
  |some (.mp ty l)=>.when (Y1 ty) ((Tr.of (LY ty v)).bind fun x=>.ret {val:=.tup [],rd:=[g],wr:=[(g,.mp ty (OT n x l))]})
  |_=>.fail
 |_,_,_=>.fail
def wO(P:Program)(t:TypeId)(slot:Nat):Tr eu:=
 match(Np P t).bind (o7 P 12)with
 |some ty=>.ret {val:=.ptr (slot,0) 0 0 0,new:=[.mp ty []]}
 |none=>.fail
def jw(P:Program)(N:FuncId→Note)(call:FuncId→fF)(o:Oper)(fr:wC)(H:aR)(slot:Nat):Tr eu:=
 let ev:=wB fr
 match o.op with
 | .move x=>.ret {val:=ev x}
 | .assign x=>uT P fr o.type x slot
 | .pick c a b=>match ev c with
  | .bool p=>(RY p (ev a) (ev b)).map qW
  |_=>.fail
 | .alloc t=>match GD P t with
  |some z=>En P t z slot
  |none=>.fail
 | .box t x=>En P t (ev x) slot
 | .build t ps=>(Tr.of (Ec P t (qN fr ps))).map qW
 | .buildSlice t n ps=>jU P t n (qN fr ps) H slot
 | .load t a=>wS P t (ev a) H
 | .store t a x=>y5 P t (ev a) (ev x) H
 | .nilCheck x=>match ev x with
  | .ptr g sz i off=>.when (decide (0<sz)) (.ret {val:=.ptr g sz i off})
  | .lp t l i x h off=>.ret {val:=.lp t l i x h off}
  |_=>.fail
 | .binOp op t x y _=>(IW P op t (ev x) (ev y) y).map qW
 | .unOp op _ x=>(Tr.of (Tp op (ev x))).map qW
 | .convert a b x=>(Tr.of (wI P a b (ev x))).map qW
 | .makeFunc (.func f) first caps=>if first.isEmpty then .when (caps.toList.all fun c=>Ku (ev c)) (.ret {val:=.clo f (caps.toList.map ev)})else .fail
 | .makeSlice t l c=>lF P t (ev l) (ev c) slot
 | .slice t x lo hi mx=>ze P t (ev x) (lo.map ev) (hi.map ev) (mx.map ev) H
 | .fieldAddr t x f=>(Tr.of (qo P t (ev x) f)).map qW
 | .field t x f=>(Tr.of (Di P t (ev x) f)).map qW
 | .indexAddr t x i=>(qC P t (ev x) (ev i) H).map qW
 | .index t x i=>(Ai P t (ev x) (ev i) i).map qW
 | .lookup t m k ok=>match ev m with
  | .ptr g sz i off=>wM P t (.ptr g sz i off) (ev k) ok H
  |m=>(zO P t m (ev k) ok).map qW
 | .mapUpdate t m k v=>lH P t (ev m) (ev k) (ev v) H
 | .makeMap t none=>wO P t slot
 | .extract x i=>match ev x with
  | .tup vs=>match vs[i]? with
   |some v=>.when (nk v) (.ret {val:=v})
   |none=>.fail
  |_=>.fail
 | .call c=>match c.callee with
  | .value f=>match ev f with
   | .clo fn caps=>.when (caps.all Ku) (Ja (N fn).share (call fn) (c.args.toList.map ev++caps) H slot)
   |_=>.fail
  | .builtin .len=>match c.args.toList,c.argTypes.toList with
   | [x],[t]=>(Tr.of (Ns P t (ev x) H)).map qW
   |_,_=>.fail
  | .builtin .append=>match c.args.toList,c.argTypes.toList with
   | [s,x],[t,t']=>.when (decide (t=t')) (zY P t (ev s) (ev x) H slot)
   |_,_=>.fail
  | .builtin .copy=>match c.args.toList,c.argTypes.toList with
   | [d,x],[t,_]=>Jk P t (ev d) (ev x) H
   |_,_=>.fail
  | .builtin .clear=>match c.args.toList,c.argTypes.toList with
   | [d],[t]=>Dn P t (ev d) H
   |_,_=>.fail
  | .builtin .min=>match c.args.toList.map ev with
   |x::r=>(Tr.of (minS x r)).map qW
   | []=>.fail
  | .builtin .max=>match c.args.toList.map ev with
   |x::r=>(Tr.of (maxS x r)).map qW
   | []=>.fail
  |_=>.fail
 |_=>.fail
def mg(H:aR)(slot:Nat)(mk:Bool)(new:List SB):Option aR:=
 match mk with
 |true=>match H[slot]? with
  |some []=>if new.all SB.alive=true then some (H.set slot new)else none
  |_=>none
 |false=>match new with
  | []=>some H
  |_=>none
def yP(fr:wC):Option Nat→SV→wC
 |some d,v=>Xy d v fr
 |none,_=>fr
def HZ(r:eu):gD:={val:=.undef,rd:=r.rd,wr:=r.wr.map fun p=>(p.1,none)}
structure LV where
 P:Program
 N:FuncId→Note
 nt:Nat
 iL:List Nat
 pairs:Nat→List (Nat×Nat)
 keep:Nat
def vL(x:SV)(d:Nat):wC→wC
 | []=> []
 |(s,y)::r=>if s=d then(s,x)::r else(s,y)::vL x d r
def MW (E:LV) (call:Nat→FuncId→fF) (ops:Array Oper) (base i:Nat) (s:qM):Tr (qM×Option eu):=
 match ops[i]? with
 |none=>.ret (s,none)
 |some o=>
  .when (OM E.nt o.dst) (
   let skip (fr:wC):Tr (qM×Option eu):=.ret ({s with fr:=yP fr o.dst (.tup [])},none)
   let doit (fr:wC):Tr (qM×Option eu):=(jw E.P E.N (call i) o fr s.hp (bB ops base i)).bind fun r=>
    match mg (gF s.hp r.wr) (bB ops base i) (makes o.op) r.new with
    |some H=>.ret ({fr:=yP fr o.dst r.val,hp:=H},some r)
    |none=>.fail
   match o.guard with
   |none=>doit s.fr
   |some (j,want)=>
    match(ops[j]?).bind (·.dst)with
    |some d=>match iI s.fr d with
     | .bool b=>match want with
      |true=>.br b (doit (vL (.bool true) d s.fr)) (skip (vL (.bool false) d s.fr))
      |false=>.br b (skip (vL (.bool true) d s.fr)) (doit (vL (.bool false) d s.fr))
     | .tup []=>skip s.fr
     |_=>.fail
    |none=>.fail)
def OV(E:LV)(call:Nat→FuncId→fF)(ops:Array Oper)(base:Nat):List Nat→qM→Tr (qM×List (Option eu))
 | [],s=>.ret (s,[])
 |i::r,s=>(MW E call ops base i s).bind fun p=>(OV E call ops base r p.1).bind fun q=>.ret (q.1,p.2::q.2)
def MV(iL:List Nat)(fr:wC):wC:=fr.filter fun p=>iL.contains p.1
def nG(E:LV)(call:Nat→FuncId→fF)(id:Nat)(ops:Array Oper)(draw:Bool)(s:qM):Tr qM:=
 (OV E call ops s.hp.length (List.range ops.size) {s with hp:=s.hp++List.replicate (mM ops) []}).bind fun p=>
  if draw&& !((E.pairs id).all fun q=>qd ops s.hp.length q.1 q.2 ((p.2.getD q.1 none).map HZ) ((p.2.getD q.2 none).map HZ))then .fail
  else .ret {p.1 with fr:=MV E.iL p.1.fr}
def q9:Code→Nat
 | .region id _ _=>id
 | .seq a _=>q9 a
 | .cond _ a _=>q9 a
 | .block _ b=>q9 b
 | .loop b=>q9 b
 | .scope b=>q9 b
 |_=>0
def YV:Ex→Ex→Bool
 | .normal,.normal=>true
 | .exit a,.exit b=>a==b
 | .ret,.ret=>true
 |_,_=>false
inductive kI where
 |one (e:Ex) (σ:Sg)
 |more (e:Ex) (σ:Sg) (r:kI)
def kI.den:kI→Type
 | .one _ σ=>σ.den
 | .more _ σ r=>σ.den⊕r.den
def dN(ℓ:Lens)(b:SB):bP:=match dB ℓ b with
 |some k=>k
 |none=>⟨0,[],0,false⟩
def dW(ℓ:Lens)(wr:List (Nm×SB)):List (Nm×Option bP):=wr.map fun p=>(p.1,dB ℓ p.2)
def dR(ℓ:Lens)(r:eu):gD:={val:=dV ℓ r.val,rd:=r.rd,wr:=dW ℓ r.wr,new:=r.new.map (dN ℓ)}
def vD(ℓ:Lens)(slot:Nat)(new:List SB):Prop:=∀(k:Nat) (b:SB),new[k]?=some b→ℓ (slot,k)=b.len
theorem MG(ℓ:Lens)(v:Value):d1 ℓ (Fw v)=Ry v∧dC ℓ (Fw v)=Ry v∧dA ℓ (Fw v)=Ry v∧dV ℓ (Fw v)=Ry v:=by
 cases v with
 |pointer p=>cases p<;>exact⟨rfl,rfl,rfl,rfl⟩
 |slice a n c=>
  cases a with
  |some _=>exact⟨rfl,rfl,rfl,rfl⟩
  |none=>
   cases n with
   |succ n=>exact⟨rfl,rfl,rfl,rfl⟩
   |zero=>cases c<;>exact⟨rfl,rfl,rfl,rfl⟩
 |_=>exact⟨rfl,rfl,rfl,rfl⟩
theorem Q8(v:Value):WW (Fw v)=Rw (Ry v):=by
 cases v with
 |pointer p=>cases p<;>rfl
 |slice a n c=>
  cases a with
  |some _=>rfl
  |none=>
   cases n with
   |succ n=>rfl
   |zero=>cases c<;>rfl
 |_=>rfl
theorem Gt(ℓ:Lens)(v:Value):dA ℓ (svC v)=cv v∧dV ℓ (svC v)=cv v:=by
 cases v with
 |agg cs=>
  have e:(cs.toList.map Fw).all WW=(cs.toList.map Ry).all Rw:=by
   simp only[List.all_map]
   congr 1
   funext v
   exact Q8 v
  simp only[svC,cv,e];split
  ·have:List.map (dC ℓ) (cs.toList.map Fw)=cs.toList.map Ry:=by
    simp only[ajv];exact aiW fun v _=>(MG ℓ v).2.1
   exact⟨by simp only[dA,this],by simp only[dV,dA,this]⟩
  ·exact⟨rfl,rfl⟩
 |_=>first|exact⟨(MG ℓ _).2.2.1,(MG ℓ _).2.2.2⟩|exact⟨rfl,rfl⟩
theorem eG(ℓ:Lens)(k:IntKind)(n:Int):dV ℓ (.int k n)= .int k n:=rfl
theorem ow(ℓ:Lens)(b:Bool):dV ℓ (.bool b)= .bool b:=rfl
theorem vT(ℓ:Lens)(s:ByteArray):dV ℓ (.str s)= .str s:=rfl
theorem o9(ℓ:Lens)(t:Ty)(l:List t.den)(b:Bool):dV ℓ (.row t l b)=bD t l b:=rfl
theorem jP(ℓ:Lens)(t:Ty)(g:Nm):dV ℓ (.own t g)= .own g t.size 0 (ℓ g):=rfl
theorem lJ(ℓ:Lens)(t:Ty)(g:Nm)(off len:Nat):dV ℓ (.part t g off len)= .own g t.size off len:=rfl
theorem oH(ℓ:Lens)(g:Nm)(sz i off:Nat):dV ℓ (.ptr g sz i off)= .ptr g sz i off:=rfl
theorem acO(ℓ:Lens)(t:Ty)(l:List t.den)(i:Nat)(x:t.den)(h:l[i]?=some x)(off:Nat):dV ℓ (.lp t l i x h off)= .lp t.size (l.map (enc t)) i off:=rfl
theorem Nv(ℓ:Lens)(f:FuncId)(cs:List SV):dV ℓ (.clo f cs)= .clo f (cs.map (d1 ℓ)):=rfl
theorem tC(ℓ:Lens)(cs:List SV):dV ℓ (.agg cs)= .agg (cs.map (dC ℓ)):=rfl
theorem oD(ℓ:Lens)(vs:List SV):dV ℓ (.tup vs)= .tup (vs.map (dA ℓ)):=rfl
theorem dD(ℓ:Lens)(fr:wC)(x:Operand):dV ℓ (wB fr x)=qD (dF ℓ fr) x:=by
 cases x with
 |tmp t=>exact(uP ℓ fr t).symm
 |const v=>exact(Gt ℓ v).2
 |global g=>rfl
 |func f=>rfl
theorem GU{v:SV}(h:Ba v=true)(ℓ:Lens):dV ℓ v=dC ℓ v∧dA ℓ v=dC ℓ v:=by cases v<;>first|exact⟨rfl,rfl⟩|cases h
theorem iF{v:SV}(h:nk v=true)(ℓ:Lens):dV ℓ v=dA ℓ v:=by cases v<;>first|rfl|cases h
theorem vB{agg:Bool}{cs:List SV}{u:SV}(h:xR agg cs=some u)(ℓ:Lens):nL agg (cs.map (dC ℓ))=some (dV ℓ u):=by
 cases agg with
 |true=>cases h;rfl
 |false=>
  cases cs with
  |nil=>cases h
  |cons c r=>
   cases r with
   |cons _ _=>cases h
   |nil=>
    simp only[xR]at h;split at h
    ·rename_i h1;cases h;rw[(GU h1 ℓ).1];rfl
    ·cases h
theorem qB{size off:Nat}{agg:Bool}{x u:SV}(h:yo size agg x off=some u)(ℓ:Lens):loadAt size agg (dA ℓ x) off=some (dV ℓ u):=by
 unfold yo at h;unfold loadAt;rw[fP,ais,mR];split at h
 ·rename_i h1;rw[if_pos h1];split at h
  ·rename_i h2;rw[if_pos h2];split at h
   ·rename_i h3;cases h;rw[iF h3]
   ·cases h
  ·rename_i h2;rw[if_neg h2,←List.map_drop,←List.map_take];exact vB h ℓ
 ·cases h
theorem gH{P:Program}{t:TypeId}{cs:List SV}{off:Nat}{u:SV}(h:lG P t cs off=some u)(ℓ:Lens):partOf P t (cs.map (dC ℓ)) off=some (dV ℓ u):=by
 unfold lG at h;unfold partOf;split at h
 ·rename_i size agg h1 h2;simp only[h1,h2,ais];split at h
  ·rename_i h3;rw[if_pos h3,←List.map_drop,←List.map_take];exact vB h ℓ
  ·cases h
 ·cases h
section
variable{P:Program}{H:aR}{ℓ:Lens}
theorem yE{t:TypeId}{p:SV}{r:eu}(h:(wS P t p H).mean=some r):kR P t (dV ℓ p) (dH ℓ H)=some (dR ℓ r)∧r.wr=[]:=by
 unfold wS at h;unfold kR;split at h
 ·rename_i size agg h1 h2;simp only[h1,h2]
  cases p with
  |ptr g sz i off=>
   simp only at h;simp only[oH,dK];split at h
   ·rename_i sz' v hg;obtain⟨h3,h4⟩:=Tr.aH h;obtain⟨rfl,rfl,h0⟩:=aix h3;obtain⟨u,h5,rfl⟩:=Tr.fM h4;have:=qB (Tr.bJ h5) ℓ;simp[hg,dB,this,dR,dW,h0]
   ·rename_i t' l z hg;obtain⟨h3,h4⟩:=Tr.aH h;have h3:=aix h3;simp only[Tr.mean]at h4;obtain⟨x,h5,h6⟩:=ajm.1 h4;obtain⟨u,h7,rfl⟩:=Tr.fM h6;have:=qB (Tr.bJ h7) ℓ;rw[Cq]at this;simp[hg,dB,h3,h5,this,dR,dW]
   ·exact(Tr.au h).elim
  |lp t' l i x hx off=>
   simp only at h;obtain⟨u,h7,rfl⟩:=Tr.fM h;have:=qB (Tr.bJ h7) ℓ;rw[Cq]at this;simp[acO,hx,jJ,dL,this,dR,dW,qW]
  |fp g=>
   simp only at h;obtain⟨h3,h4⟩:=Tr.aH h;have h3:=aix h3;have:=Tr.ay h4;subst this;simp only[show dV ℓ (.fp g)= .fp g from rfl];rw[if_pos h3];exact⟨rfl,rfl⟩
  |_=>exact(Tr.au h).elim
 ·exact(Tr.au h).elim
theorem QS:∀(t:Ty) (cs:List SV) (x:t.den) (r:List SV),IU t cs=some (x,r)→(∀c∈cs,vM c=true)→∃pre,cs=pre++r∧pre.map (dC ℓ)=eY t x:=by
 intro t
 induction t with
 |int k=>
  intro cs x r h _
  cases cs with
  |nil=>cases h
  |cons c cs=>
   cases c<;>first|(cases h;done)|skip
   simp only[IU]at h;split at h
   ·rename_i e;subst e;cases h;exact⟨[_],rfl,rfl⟩
   ·cases h
 |bool=>
  intro cs x r h _
  cases cs with
  |nil=>cases h
  | cons c cs => cases c<;>first|(cases h;done)|skip
                 cases h;exact⟨[_],rfl,rfl⟩
 |str=>
  intro cs x r h _
  cases cs with
  |nil=>cases h
  | cons c cs => cases c<;>first|(cases h;done)|skip
                 cases h;exact⟨[_],rfl,rfl⟩
 |row t ih=>
  intro cs x r h hs
  cases cs with
  |nil=>cases h
  |cons c cs=>
   have hc:=hs c (by simp)
   cases c<;>first|cases h|skip
   rename_i t' l tg
   cases tg with
   |true=>cases hc
   |false=>
    simp only[IU]at h;split at h
    ·rename_i l' hl;cases h;exact⟨[_],rfl,by simp only[aiE,aiS,dC,d1,wP hl false];rfl⟩
    ·cases h
 |unit=>intro cs x r h _;cases h;exact⟨[],rfl,rfl⟩
 |cons a b iha ihb=>
  intro cs x r h hs;simp only[IU]at h;split at h
  ·rename_i y r1 h1;split at h
   ·rename_i z r2 h2;cases h;obtain⟨p1,rfl,f1⟩:=iha _ _ _ h1 hs;obtain⟨p2,rfl,f2⟩:=ihb _ _ _ h2 (fun c hc=>hs c (by simp at hc ⊢;right;exact hc));exact⟨p1++p2,by simp,by rw[aiL,f1,f2];rfl⟩
   ·cases h
  ·cases h
theorem uH{t:Ty}{v:SV}{x:t.den}(h:LY t v=some x)(hs:Bz v=true):dA ℓ v=enc t x:=by
 unfold LY at h;split at h
 ·rename_i hagg;split at h
  ·rename_i y hy;cases h
   have hsl:∀c∈v.cells,vM c=true:=by
    cases v with
    |agg cs=>simpa[Bz,SV.cells]using hs
    |_=>intro c hc;simp[SV.cells]at hc;subst hc;exact hs
   obtain⟨pre,h1,h2⟩:=QS (ℓ:=ℓ) t _ _ _ hy hsl;rw[aiO]at h1;subst h1;rw[←fP]at h2;unfold enc wrap;rw[←h2,←hagg,←mR ℓ];generalize dA ℓ v=z;cases z<;>rfl
  ·cases h
 ·cases h
theorem zA(cs:List SV)(off:Nat)(new:List SV):(nM cs off new).map (dC ℓ)=splice (cs.map (dC ℓ)) off (new.map (dC ℓ)):=by
 simp[nM,splice,List.map_take,List.map_drop]
theorem aZ.append{wr wr':List (Nm×SB)}(h:aZ H wr)(k:aZ H wr'):aZ H (wr++wr'):=by
 intro p hp;rcases ai9.1 hp with hp|hp
 ·exact h p hp
 ·exact k p hp
theorem aZ.nil:aZ H []:=fun p hp=>by simp at hp
theorem aZ.one{g:Nm}{b b0:SB}(h:bC H g=some b0)(hl:b.len=b0.len):aZ H [(g,b)]:=by
 intro p hp x hx;simp at hp;subst hp;rw[h]at hx;cases hx;exact hl
theorem tN{t:Ty}(l:List t.den)(i:Nat)(y:t.den):(l.map (enc t)).set i (enc t y)=(l.set i y).map (enc t):=by rw[List.map_set]
theorem KM{z:Fz}{len i:Nat}{t:Tr eu}{r:eu}(h:(U4 z len i t).mean=some r):z.n len≤i∧t.mean=some r:=by
 cases z with
 |zero=>exact⟨aiN _,h⟩
 |all=>obtain⟨h1,h2⟩:=Tr.aS h;exact⟨aix h1,h2⟩
 |low k=>obtain⟨h1,h2⟩:=Tr.aS h;exact⟨aix h1,h2⟩
theorem tQ{v:SV}(h:MB v=true):nk v=true:=by cases v<;>first|rfl|cases h
theorem FL(ha:fq ℓ H){t:TypeId}{p v:SV}{r:eu}(h:(y5 P t p v H).mean=some r):jY P t (dV ℓ p) (dV ℓ v) (dH ℓ H)=some (dR ℓ r)∧aZ H r.wr∧r.new=[]:=by
 unfold y5 at h;unfold jY;split at h
 ·rename_i size h1;simp only[h1]
  cases p with
  |ptr g sz i off=>
   simp only at h;simp only[oH,dK];split at h
   ·rename_i sz' x hg;obtain⟨h2,h3⟩:=Tr.aH h;obtain⟨rfl,rfl,h4,h5,h6,h0⟩:=aix h2;have hv:dV ℓ v=dA ℓ v:=iF (tQ h6) ℓ;have hc:(dA ℓ v).cells.length=size∧off+size≤sz'∧okV (dA ℓ v)=true:=⟨by rw[fP,ais];exact h4,h5,by rw[Df];exact h6⟩
    simp only[hg,aiZ,dB,true_and,aiy,h0,if_true,List.getElem?_cons_zero,show dV ℓ v=dA ℓ v from hv];rw[if_pos hc];split at h3
    ·rename_i he;have:=Tr.ay h3;subst this;refine⟨?_,aZ.one hg rfl,rfl⟩;unfold iN;rw[if_pos he];rfl
    ·rename_i he;split at h3
     ·rename_i hx;have:=Tr.ay h3;subst this;refine⟨?_,aZ.one hg rfl,rfl⟩;unfold iN;rw[if_neg he,mR,if_pos hx];simp only[fP,←zA];rfl
     ·exact(Tr.au h3).elim
   ·rename_i t' l z hg;obtain⟨⟨u,m⟩,h2,h3⟩:=Tr.aA h;obtain⟨h4,h5⟩:=Tr.aH h3;obtain⟨rfl,c1,c2,c3,c4,c5,h0⟩:=aix h4;obtain⟨c6,h6⟩:=KM h5;obtain⟨e1,e2⟩:=sI ha h2
    have hv:dV ℓ v=dA ℓ v:=by
     cases v<;>first|rfl|exact(Tr.au h2).elim
    have hcc:(dA ℓ u).cells.length=size∧off+size≤t'.size∧¬ g∈m∧okV (dA ℓ u)=true:=⟨by rw[fP,ais];exact c1,c2,c3,by rw[Df];exact c4⟩
    have hwr:∀y:t'.den,aZ H (iX H m++ [(g,.arr t' (l.set i y) z)]):=fun y=>(nu m).append (aZ.one hg (by simp[SB.len]))
    have hdw:∀y:t'.den,dW ℓ (iX H m++ [(g,.arr t' (l.set i y) z)])=stops (dH ℓ H) m++ [(g,some ⟨t'.size,(l.set i y).map (enc t'),z.n l.length,false⟩)]:=fun y=>by
     rw[←kG e2];simp only[dW,aiL,aiE,aiS,dB,ajc]
    simp only[hg,aiZ,dB,true_and,show dV ℓ v=dA ℓ v from hv,e1,ai2,if_false];rw[if_pos ⟨c6,h0⟩];split at h6
    ·rename_i he;obtain⟨c7,h7⟩:=Tr.aS h6;obtain⟨y,h8,h9⟩:=Tr.aA h7;have:=Tr.ay h9;subst this;have hi:=aix c7;have hy:=uH (ℓ:=ℓ) (Tr.bJ h8) c5;refine⟨?_,hwr y,rfl⟩;simp only[ait,aiw hi,aiF];rw[if_pos hcc];unfold iN;rw[if_pos he];simp only[dR,hdw,hy,tN,oD,aiS]
    ·rename_i he;simp only[Tr.mean]at h6;obtain⟨x,h7,h8⟩:=ajm.1 h6;obtain⟨h9,h10⟩:=Tr.aH h8;obtain⟨y,h11,h12⟩:=Tr.aA h10;have:=Tr.ay h12;subst this
     have hx:dA ℓ (SV.agg (nM (IA t' x) off u.cells))= .agg (splice (enc t' x).cells off (dA ℓ u).cells):=by
      rw[jJ,fP,←(Gg t' x ℓ).2,←zA];rfl
     have hsl:Bz (SV.agg (nM (IA t' x) off u.cells))=true:=by
      simp only[Bz,aiP];intro c hc
      have h1:∀c∈IA t' x,vM c=true:=by
       have:∀(t:Ty) (x:t.den),∀c∈IA t x,vM c=true:=by
        intro t
        induction t with
        |cons a b iha ihb=>intro x c hc;simp only[IA,ai9]at hc;exact hc.elim (iha _ c) (ihb _ c)
        |unit=>intro x c hc;cases hc
        |_=>intro x c hc;simp[IA]at hc;subst hc;rfl
       exact this t' x
      have h2:∀c∈u.cells,vM c=true:=by
       cases u with
       |agg cs=>simpa[Bz,SV.cells]using c5
       |_=>intro c hc;simp[SV.cells]at hc;subst hc;exact c5
      simp only[nM,ai9]at hc;rcases hc with(hc|hc)|hc
      ·exact h1 c (List.mem_of_mem_take hc)
      ·exact h2 c hc
      ·exact h1 c (List.mem_of_mem_drop hc)
     have hy:=uH (ℓ:=ℓ) (Tr.bJ h11) hsl;refine⟨?_,hwr y,rfl⟩;simp only[ait,h7,aiF];rw[if_pos hcc];unfold iN;rw[if_neg he,QY,if_pos h9,←hx,hy];simp only[dR,hdw,tN,oD,aiS]
   ·exact(Tr.au h).elim
  |_=>exact(Tr.au h).elim
 ·exact(Tr.au h).elim
end
section
variable{P:Program}{H:aR}{ℓ:Lens}
theorem Du{A B:Type}{l:List A}{n:Int}{k:(x:A)→l[n.toNat]?=some x→Option B}{b:B}(h:rowAt l n k=some b):0≤n∧n<l.length∧∃x,∃hx:l[n.toNat]?=some x,k x hx=some b:=by
 unfold rowAt at h
 cases hn:decide (0≤n)with
 |false=>rw[hn]at h;cases h
 |true=>
  rw[hn]at h;have h0:=aix hn;obtain⟨x,hx,hk⟩:=Option.pbind_eq_some_iff.1 (show Option.pbind l[n.toNat]? k=some b from h);have:=(ain.1 hx).1;exact⟨h0,by omega,x,hx,hk⟩
theorem yD{t:TypeId}{p u:SV}{f:Nat}(h:qo P t p f=some u):ku P t (dV ℓ p) f=some (dV ℓ u):=by
 unfold qo at h;unfold ku;split at h
 ·rename_i o ft hf;simp only[hf];split at h
  ·cases h
  ·rename_i hs;rw[if_neg hs]
   cases p with
   |ptr g sz i off=>
    by_cases h0:0<sz
    ·simp only[if_pos h0]at h;cases h;simp only[oH,if_pos h0]
    ·simp only[if_neg h0]at h;cases h
   |lp t l i x hx off=>cases h;rfl
   |_=>cases h
 ·cases h
theorem FE{t:TypeId}{p u:SV}{f:Nat}(h:Di P t p f=some u):yx P t (dV ℓ p) f=some (dV ℓ u):=by
 unfold Di at h;split at h
 ·rename_i o ft cs hf;simp only[tC,yx,hf];exact gH h ℓ
 ·cases h
theorem OD{sz:Nat}{xs:List AV}(h:0<xs.length):wV sz xs=sz:=by
 cases xs with
 |nil=>simp at h
 |cons _ _=>rfl
theorem yK(ha:fq ℓ H){t:TypeId}{x i u:SV}(h:(qC P t x i H).mean=some u):jf P t (dV ℓ x) (dV ℓ i)=some (dV ℓ u):=by
 unfold qC at h;split at h
 ·rename_i e k n hu;unfold jf;simp only[eG,hu]
  cases x with
  |own t' g=>
   simp only at h;split at h
   ·rename_i b hb;obtain⟨h1,h2⟩:=Tr.aH h;obtain⟨h3,h4⟩:=Tr.aS h2;have:=Tr.ay h4;subst this;obtain⟨h5,h6⟩:=aix h3;obtain⟨h1,h7⟩:=aix h1;simp only[jP,ha g b hb];rw[if_pos ⟨h1,h5,h6,h7⟩];simp only[oH,aiY]
   ·exact(Tr.au h).elim
  |part t' g off len=>
   obtain⟨h1,h2⟩:=Tr.aH h;obtain⟨h3,h4⟩:=Tr.aS h2;have:=Tr.ay h4;subst this;obtain⟨h5,h6⟩:=aix h3;obtain⟨h1,h7⟩:=aix h1;simp only[lJ];rw[if_pos ⟨h1,h5,h6,h7⟩];rfl
  |row t' l tg=>
   obtain⟨h1,h2⟩:=Tr.aH h;simp only[Tr.mean]at h2;obtain⟨h3,h4,y,hy,h5⟩:=Du h2;have h5:=Option.some.inj h5;subst h5;have hl:wV t'.size (l.map (enc t'))=t'.size:=OD (by simp;omega);simp only[o9,bD,hl];rw[if_pos ⟨h3,by simpa using h4,aix h1⟩];rfl
  |_=>exact(Tr.au h).elim
 ·rename_i len e k n hu;unfold jf;simp only[eG,hu]
  cases x with
  |ptr g sz j off=>
   simp only at h;simp only[oH];split at h
   ·rename_i es he;obtain⟨h0,h⟩:=Tr.aH h;obtain⟨h3,h4⟩:=Tr.aS h;have:=Tr.ay h4;subst this;simp only[he];rw[if_pos ⟨(aix h3).1,(aix h3).2,aix h0⟩];rfl
   ·exact(Tr.au h).elim
  |_=>exact(Tr.au h).elim
 ·exact(Tr.au h).elim
theorem Mi{n:Int}{k:SV→Bool→Tr SV}{u:SV}:∀(l:List (Int×FuncId×List FuncId)),(Od l n k).mean=some u→∃v b,(k v b).mean=some u∧dV ℓ v=(rD l n).1∧nk v=true∧b=(rD l n).2:=by
 intro l
 induction l with
 |nil=>intro h;exact⟨_,_,h,rfl,rfl,rfl⟩
 |cons p r ih=>
  intro h;obtain⟨m,f,gs⟩:=p;simp only[Od,Tr.mean]at h;by_cases hn:n=m
  ·rw[show(n==m)=true by simpa using hn,cond_true]at h;refine⟨_,_,h,?_,rfl,?_⟩
   ·simp only[Nv,rD,if_pos hn,ajv];rfl
   ·simp only[rD,if_pos hn]
  ·rw[show(n==m)=false by simpa using hn,ajq]at h;simp only[rD,if_neg hn];exact ih h
theorem Db{t:TypeId}{m k u:SV}{ok:Bool}(h:(zO P t m k ok).mean=some u):mU P t (dV ℓ m) (dV ℓ k) ok=some (dV ℓ u):=by
 unfold zO at h;split at h
 ·rename_i kt et l n hu;split at h
  ·rename_i hkt hz;obtain⟨v,b,h1,h2,h3,h4⟩:=Mi (ℓ:=ℓ) l h;have:=Tr.ay h1;subst this;simp only[show dV ℓ (.fm l)= .fm l from rfl,eG,mU,hu,hkt,hz];cases ok
   ·simp only[ai2,if_false,h2]
   ·simp only[if_true,oD,aiE,aiS,←h2,←h4,iF h3];rfl
  ·exact(Tr.au h).elim
 ·exact(Tr.au h).elim
theorem vF{t:TypeId}{x i u:SV}(h:(yU P t x i).mean=some u):l9 P t (dV ℓ x) (dV ℓ i)=some (dV ℓ u):=by
 unfold yU at h;split at h
 ·rename_i len e cs k n hu;simp only[l9,tC,eG,hu];split at h
  ·rename_i es he;obtain⟨h3,h4⟩:=Tr.aS h;simp only[he];rw[if_pos (aix h3)];exact gH (Tr.bJ h4) ℓ
  ·exact(Tr.au h).elim
 ·rename_i s k n hu;obtain⟨h3,h4⟩:=Tr.aS h;have:=Tr.ay h4;subst this;obtain⟨h5,h6⟩:=aix h3;have hlt:n.toNat<s.size:=by omega
  simp only[l9,vT,eG,hu,h5,if_true];have:s[n.toNat]?=some s[n.toNat]:=by simp[hlt]
  simp[this]
 ·exact(Tr.au h).elim
theorem QG{e:TypeId}{ty:Ty}{cs:List SV}{es:Nat}:∀(n i:Nat) (l:List ty.den),Xv P e ty cs es n i=some l→∀(k:Nat) (x:ty.den),l[k]?=some x→k<n∧partOf P e (cs.map (dC ℓ)) ((i+k)*es)=some (dV ℓ (CF ty x)):=by
 intro n
 induction n with
 |zero=>intro i l h k x hx;cases h;simp at hx
 |succ n ih=>
  intro i l h k x hx;simp only[Xv]at h;split at h
  ·rename_i v r h1 h2;split at h
   ·rename_i hs;obtain⟨y,h3,rfl⟩:=aiu.1 h
    cases k with
    |zero=>
     simp only[List.getElem?_cons_zero,aiv]at hx;subst hx;refine⟨Nat.succ_pos n,?_⟩;rw[ajH,gH h1 ℓ]
     have hv:dV ℓ v=dA ℓ v:=by
      cases v<;>first|rfl|(exfalso;cases ty<;>simp[LY,IU,SV.cells,SV.isAgg,Ty.agg]at h3)
     have hu:dV ℓ (CF ty y)=dA ℓ (CF ty y):=by cases ty<;>rfl
     rw[hv,uH h3 hs,hu,Cq]
    |succ k=>
     simp only[List.getElem?_cons_succ]at hx;obtain⟨a1,a2⟩:=ih _ _ h2 k x hx;exact⟨Nat.succ_lt_succ a1,by rw[show i+(k+1)=i+1+k by omega];exact a2⟩
   ·cases h
  ·cases h
theorem Ej{t:TypeId}{x i u:SV}(h:(Aq P t x i).mean=some u):l9 P t (dV ℓ x) (dV ℓ i)=some (dV ℓ u):=by
 unfold Aq at h;split at h
 ·rename_i len e cs k n hu;split at h
  ·rename_i es ty he hty;obtain⟨l,h1,h2⟩:=Tr.aA h;have h1:=Tr.bJ h1;simp only[Tr.mean]at h2;obtain⟨h3,h4,y,hy,h5⟩:=Du h2;have h5:=Option.some.inj h5;subst h5;obtain⟨a1,a2⟩:=QG (ℓ:=ℓ) _ _ _ h1 _ _ hy;simp only[l9,tC,eG,hu,he];rw[if_pos ⟨h3,by omega⟩];rw[aiY]at a2;exact a2
  ·exact(Tr.au h).elim
 ·exact vF h
theorem D6{t:TypeId}{x i u:SV}{oi:Operand}(h:(Ai P t x i oi).mean=some u):l9 P t (dV ℓ x) (dV ℓ i)=some (dV ℓ u):=by
 unfold Ai at h;split at h
 ·exact vF h
 ·exact Ej h
theorem QT{op:BinOp}{k:IntKind}{a b:Int}{u:SV}(h:(aaM op k a b).mean=some u):jI op (.int k a) (.int k b)=some (dV ℓ u):=by
 unfold aaM at h
 split at h<;>first
  |(have:=Tr.ay h;subst this;simp[jI,eG,ow];done)
  |(obtain⟨h1,h2⟩:=Tr.aS h;have:=Tr.ay h2;subst this;have h1:=aix h1;simp[jI,eG,h1];done)
  |exact(Tr.au h).elim
theorem Kw{op:BinOp}{k k':IntKind}{a b:Int}{u:SV}(h:(Nj op k a b).mean=some u):jI op (.int k a) (.int k' b)=some (dV ℓ u):=by
 unfold Nj at h
 split at h<;>first
  |(obtain⟨h1,h2⟩:=Tr.aS h;have:=Tr.ay h2;subst this;have h1:=aix h1;simp[jI,eG,h1];done)
  |exact(Tr.au h).elim
theorem Qq{op:BinOp}{a b:ByteArray}{u:SV}(h:(abQ op a b).mean=some u):jI op (.str a) (.str b)=some (dV ℓ u):=by
 unfold abQ at h
 split at h<;>first
  |(have:=Tr.ay h;subst this;simp[jI,vT,ow];done)
  |(obtain⟨h1,h2⟩:=Tr.aS h;have:=Tr.ay h2;subst this;have h1:=aix h1;simp[jI,vT,h1];done)
  |exact(Tr.au h).elim
theorem Dh{eq:TypeId→SV→SV→Option Bool}{eq':TypeId→AV→AV→Option Bool}(he:∀t x y b,eq t x y=some b→eq' t (dV ℓ x) (dV ℓ y)=some b)(xs ys:List SV):
  ∀(fs:List Field) (b:Bool),uW P eq xs ys fs=some b→eqFields P eq' (xs.map (dC ℓ)) (ys.map (dC ℓ)) fs=some b:=by
 intro fs
 induction fs with
 |nil=>intro b h;exact h
 |cons f r ih=>
  intro b h;simp only[uW]at h;simp only[eqFields];split at h
  ·cases h
  ·rename_i hn;rw[if_neg hn];split at h
   ·rename_i x y h1 h2;simp only[gH h1 ℓ,gH h2 ℓ];split at h
    ·rename_i c d h3 h4;simp only[he _ _ _ _ h3,ih _ h4];exact h
    ·cases h
   ·cases h
theorem Fu{eq:TypeId→SV→SV→Option Bool}{eq':TypeId→AV→AV→Option Bool}(he:∀t x y b,eq t x y=some b→eq' t (dV ℓ x) (dV ℓ y)=some b)(e:TypeId)(size:Nat)(xs ys:List SV):
  ∀(n i:Nat) (b:Bool),yA P eq e size xs ys n i=some b→nV P eq' e size (xs.map (dC ℓ)) (ys.map (dC ℓ)) n i=some b:=by
 intro n
 induction n with
 |zero=>intro i b h;exact h
 |succ n ih=>
  intro i b h;simp only[yA]at h;simp only[nV];split at h
  ·rename_i x y h1 h2;simp only[gH h1 ℓ,gH h2 ℓ];split at h
   ·rename_i c d h3 h4;simp only[he _ _ _ _ h3,ih _ _ h4];exact h
   ·cases h
  ·cases h
theorem FZ:∀(d:Nat) (t:TypeId) (x y:SV) (b:Bool),Q7 P d t x y=some b→Js P d t (dV ℓ x) (dV ℓ y)=some b:=by
 intro d
 induction d with
 |zero=>intro t x y b h;cases h
 |succ d ih=>
  intro t x y b h;unfold Q7 at h;split at h
  ·rename_i hu;simp only[Js,ow,hu];exact h
  ·rename_i hu;simp only[Js,eG,hu];exact h
  ·rename_i hu;simp only[Js,vT,hu];exact h
  ·rename_i fs xs ys hu;simp only[Js,tC,hu];split at h
   ·cases h
   ·rename_i hs;rw[if_neg hs];exact Dh ih xs ys _ _ h
  ·rename_i n e xs ys hu;simp only[Js,tC,hu];split at h
   ·rename_i size he;simp only[he];exact Fu ih e size xs ys n 0 b h
   ·cases h
  ·cases h
theorem BK{t:TypeId}{x y:SV}{b:Bool}(h:zV P t x y=some b):A7 P t (dV ℓ x) (dV ℓ y)=some b:=by
 unfold zV at h;split at h
 ·simp only[A7,ow];exact FZ (ℓ:=ℓ) 8 t _ _ b h
 ·simp only[A7,tC];split at h
  ·cases h
  ·rename_i hg;rw[if_neg hg];exact FZ (ℓ:=ℓ) 8 t _ _ b h
 ·cases h
theorem LH{op:BinOp}{t:TypeId}{x y u:SV}(h:(Nt P op t x y).mean=some u):nE P op t (dV ℓ x) (dV ℓ y)=some (dV ℓ u):=by
 unfold Nt at h;split at h
 ·rename_i k a k' b;split at h
  ·have:=Kw (ℓ:=ℓ) (k':=k') h;simp only[nE,eG,this]
  ·obtain⟨h1,h2⟩:=Tr.aH h;have h1:=aix h1;subst h1;have:=QT (ℓ:=ℓ) h2;simp only[nE,eG,this]
 ·rename_i a b;have:=Qq (ℓ:=ℓ) h;simp only[nE,vT,this]
 ·rename_i hn1 hn2
  have hx:∀z b,zV P t x y=some b→jI z (dV ℓ x) (dV ℓ y)=none:=by
   intro z b hb;unfold zV at hb;split at hb
   ·rfl
   ·rfl
   ·cases hb
  split at h
  ·obtain⟨b,h1,rfl⟩:=Tr.fM h;have h1:=Tr.bJ h1;simp only[nE,hx _ b h1,BK (ℓ:=ℓ) h1,aiF,ow]
  ·obtain⟨b,h1,rfl⟩:=Tr.fM h;have h1:=Tr.bJ h1;simp only[nE,hx _ b h1,BK (ℓ:=ℓ) h1,aiF,ow]
  ·exact(Tr.au h).elim
theorem Iw{op:BinOp}{t:TypeId}{x y u:SV}{oy:Operand}(h:(IW P op t x y oy).mean=some u):zR P op t (dV ℓ x) (dV ℓ y) oy=some (dV ℓ u):=by
 unfold IW at h;split at h
 ·rename_i ty l tight;unfold Oj at h;split at h
  ·rename_i e ht;obtain⟨h1,h2⟩:=Tr.aS h;have:=Tr.ay h2;subst this;have h1:=aix h1
   cases l with
   |nil=>simp at h1
   |cons a r=>
    have e1:nE P .eql t (dV ℓ (.row ty (a::r) tight)) (dV ℓ y)=none:=by
     simp only[nE,dV,dA,dC,d1,bD,jI,A7,Option.map_none]
    simp only[zR,e1];simp only[IG,ht,dV,dA,dC,d1,bD,aiE]
  ·exact(Tr.au h).elim
 ·simp only[zR,LH (ℓ:=ℓ) h]
theorem Mv{op:UnOp}{x u:SV}(h:Tp op x=some u):VY op (dV ℓ x)=some (dV ℓ u):=by
 unfold Tp at h;split at h
 ·cases h;rfl
 ·cases h;rfl
 ·cases h
theorem Cc{a b:TypeId}{x u:SV}(h:wI P a b x=some u):lZ P a b (dV ℓ x)=some (dV ℓ u):=by
 unfold wI at h;split at h
 ·rename_i h1 h2;cases h;simp only[lZ,eG,h1,h2]
 ·rename_i h1 h2;cases h;simp only[lZ,vT,h1,h2]
 ·cases h
theorem bT{o:Option SV}{d r:Nat}(h:(gV o d).mean=some r):bound (o.map (dV ℓ)) d=some r:=by
 unfold gV at h;split at h
 ·have:=Tr.ay h;subst this;rfl
 ·obtain⟨h1,h2⟩:=Tr.aS h;have:=Tr.ay h2;subst this;simp only[aiF,eG,bound];rw[if_pos (aix h1)]
 ·exact(Tr.au h).elim
theorem Fa(ha:fq ℓ H){t:TypeId}{x:SV}{lo hi mx:Option SV}{r:eu}(h:(ze P t x lo hi mx H).mean=some r):
  fu P t (dV ℓ x) (lo.map (dV ℓ)) (hi.map (dV ℓ)) (mx.map (dV ℓ)) (dH ℓ H)=some (dR ℓ r)∧aZ H r.wr∧r.new=[]:=by
 unfold ze at h;split at h
 ·rename_i s hu;simp only[fu,vT,hu]
  cases mx with
  |some _=>exact(Tr.au h).elim
  |none=>
   obtain⟨l,h1,h⟩:=Tr.aA h;obtain⟨hh,h2,h⟩:=Tr.aA h;obtain⟨h3,h⟩:=Tr.aS h;have:=Tr.ay h;subst this;refine⟨?_,aZ.nil,rfl⟩;simp only[Option.map_none,bT (ℓ:=ℓ) h1,bT (ℓ:=ℓ) h2];rw[if_pos (aix h3)];rfl
 ·rename_i e t' xs tight hu;obtain⟨h0,h⟩:=Tr.aH h;have h0:=aix h0
  have hsz:((aW P e).isSome&&(decide (aW P e=some (wV t'.size (xs.map (enc t'))))||(xs.map (enc t')).isEmpty))=true:=by
   rw[h0]
   cases xs with
   |nil=>simp
   |cons y ys=>simp[wV]
  have hlz:∀l k,wV (wV t'.size (xs.map (enc t'))) (((xs.map (enc t')).drop l).take k)=wV t'.size (((xs.drop l).take k).map (enc t')):=by
   intro l k;rw[←List.map_drop,←List.map_take]
   cases xs with
   |nil=>simp[wV]
   |cons y ys=>rfl
  simp only[fu,o9,bD,hu];rw[if_pos hsz];simp only[ais]
  cases mx with
  |none=>
   obtain⟨l,h1,h⟩:=Tr.aA h;obtain⟨hh,h2,h⟩:=Tr.aA h;obtain⟨h3,h⟩:=Tr.aS h;have:=Tr.ay h;subst this;refine⟨?_,aZ.nil,rfl⟩;simp only[Option.map_none,bT (ℓ:=ℓ) h1,bT (ℓ:=ℓ) h2];rw[if_pos (aix h3),hlz];simp only[dR,o9,bD,List.map_drop,List.map_take,dW,aiS,Option.isNone_map]
  |some m=>
   obtain⟨l,h1,h⟩:=Tr.aA h;obtain⟨hh,h2,h⟩:=Tr.aA h;obtain⟨mm,h4,h⟩:=Tr.aA h;obtain⟨h5,h⟩:=Tr.aH h;obtain⟨h3,h⟩:=Tr.aS h;have:=Tr.ay h;subst this;obtain⟨c1,rfl,c3⟩:=aix h3;refine⟨?_,aZ.nil,rfl⟩;have h4':=bT (ℓ:=ℓ) h4;simp only[aiF]at h4';simp only[aiF,bT (ℓ:=ℓ) h1,bT (ℓ:=ℓ) h2,h4'];rw[if_pos ⟨c1,aiy _,c3,by simpa using h5⟩,hlz];simp only[dR,o9,bD,List.map_drop,List.map_take,dW,aiS,ajo]
 ·rename_i e t' g hu;split at h
  ·rename_i t2 l2 z hg;split at h
   ·rename_i ht;subst ht;obtain⟨h0,h⟩:=Tr.aH h;have h0:=aix h0;have hlen:ℓ g=l2.length:=ha g _ hg;simp only[fu,jP,hu];rw[if_pos h0];simp only[hlen]
    cases mx with
    |none=>
     have gen:∀(lo hi:Option SV),((gV lo 0).bind fun l=>(gV hi l2.length).bind fun h=>Tr.need (decide (l≤h∧h≤l2.length)) (.ret {val:=SV.part t2 g l (h-l)})).mean=some r→
       (match(none:Option AV),bound (lo.map (dV ℓ)) 0,bound (hi.map (dV ℓ)) l2.length with
       |none,some l,some h=>if l≤h∧h≤l2.length then some {val:=AV.own g t2.size (0+l) (h-l)} else none
       |some m,some l,some h=>match bound (some m) 0,get (dH ℓ H) g with
        |some m,some b=>if l≤h∧h≤m∧m≤l2.length∧0+l2.length≤b.elems.length∧b.box=false∧b.sz=t2.size∧(hi.map (dV ℓ)).isSome=true∧0<t2.size then
          some {val:=.dQ (wV t2.size ((b.elems.drop (0+l)).take (h-l))) ((b.elems.drop (0+l)).take (h-l)) (h==m),rd:=[g],wr:=stops (dH ℓ H) [g]} else none
        |_,_=>none
       |_,_,_=>none)=some (dR ℓ r)∧aZ H r.wr∧r.new=[]:=by
      intro lo hi h;obtain⟨l,h1,h⟩:=Tr.aA h;obtain⟨hh,h2,h⟩:=Tr.aA h;obtain⟨h3,h⟩:=Tr.aS h;have:=Tr.ay h;subst this;refine⟨?_,aZ.nil,rfl⟩;simp only[bT (ℓ:=ℓ) h1,bT (ℓ:=ℓ) h2];rw[if_pos (aix h3)];simp only[dR,lJ,dW,aiS,aiY]
     simp only at h;split at h
     ·have:=Tr.ay h;subst this;refine⟨?_,aZ.nil,rfl⟩;simp[bound,dR,jP,hlen,dW]
     ·exact gen lo hi h
    |some m=>
     obtain⟨l,h1,h⟩:=Tr.aA h;obtain⟨hh,h2,h⟩:=Tr.aA h;obtain⟨mm,h4,h⟩:=Tr.aA h;obtain⟨h5,h⟩:=Tr.aH h;obtain⟨h3,h⟩:=Tr.aS h;have:=Tr.ay h;subst this;obtain⟨c1,rfl,c3⟩:=aix h3;have hs:∀g'∈ [g],l5 H g':=fun g' hg'=>by simp at hg';subst hg';exact⟨_,_,_,hg⟩
     refine⟨?_,nu _,rfl⟩;have h4':=bT (ℓ:=ℓ) h4;simp only[aiF]at h4';simp only[aiF,bT (ℓ:=ℓ) h1,bT (ℓ:=ℓ) h2,h4',dK,hg,aiZ,dB];simp only[ai7,aiU]at h5;rw[if_pos (by simp[c1,c3,h5])];simp only[dR,o9,bD,List.map_drop,List.map_take,dW,kG hs,aiS,aiY,ajo]
   ·exact(Tr.au h).elim
  ·exact(Tr.au h).elim
 ·rename_i e t' g off len hu;obtain⟨h0,h⟩:=Tr.aH h;have h0:=aix h0;simp only[fu,lJ,hu];rw[if_pos h0]
  cases mx with
  |some _=>exact(Tr.au h).elim
  |none=>
   obtain⟨l,h1,h⟩:=Tr.aA h;obtain⟨hh,h2,h⟩:=Tr.aA h;obtain⟨h3,h⟩:=Tr.aS h;have:=Tr.ay h;subst this;refine⟨?_,aZ.nil,rfl⟩;simp only[Option.map_none,bT (ℓ:=ℓ) h1,bT (ℓ:=ℓ) h2];rw[if_pos (aix h3)];rfl
 ·exact(Tr.au h).elim
end
section
variable{P:Program}{H:aR}{ℓ:Lens}
theorem BI{place:Nat→Option (Nat×Nat)}:∀(ps:List (Nat×SV)) (cells r:List SV),Dy place cells ps=some r→Bt place (cells.map (dC ℓ)) (ps.map fun p=>(p.1,dV ℓ p.2))=some (r.map (dC ℓ)):=by
 intro ps
 induction ps with
 |nil=>intro cells r h;cases h;rfl
 |cons p ps ih=>
  intro cells r h;obtain⟨i,v⟩:=p;simp only[Dy]at h;simp only[aiE,Bt];split at h
  ·cases h
  ·rename_i off size hp;simp only[hp];split at h
   ·rename_i hc;obtain⟨h1,h2,h3⟩:=hc;rw[iF (tQ h3)];rw[if_pos ⟨by rw[fP,ais];exact h1,by simpa using h2,by rw[Df];exact h3⟩];have:=ih _ _ h;rw[zA,←fP]at this;exact this
   ·cases h
theorem ny{t:TypeId}{v:SV}(h:GD P t=some v):∃z,mO P t=some (cv z)∧v=svC z:=by
 unfold GD at h;unfold mO;split at h
 ·rename_i i hi;split at h
  ·rename_i z hz;cases h;exact⟨z,by simp only[hi,hz],rfl⟩
  ·cases h
 ·cases h
theorem Ee(fr:wC)(ps:Array (Nat×Operand)):(qN fr ps).map (fun p=>(p.1,dV ℓ p.2))=partsOf (dF ℓ fr) ps:=by
 simp only[qN,partsOf,ajv];refine aiW fun p _=> ?_
 simp only[Function.comp,dD]
theorem FD{t:TypeId}{ps:List (Nat×SV)}{u:SV}(h:Ec P t ps=some u):uG P t (ps.map fun p=>(p.1,dV ℓ p.2))=some (dV ℓ u):=by
 unfold Ec at h;split at h
 ·rename_i z fs hz hu;obtain⟨zv,h1,h2⟩:=ny hz;have hcv:cv zv= .agg (z.map (dC ℓ)):=by rw[←(Gt ℓ zv).1,←h2];rfl
  simp only[uG,h1,hcv,hu];split at h
  ·cases h
  ·rename_i hs;rw[if_neg hs];obtain⟨r,h3,rfl⟩:=aiu.1 h;exact congrArg (Option.map AV.agg) (BI (ℓ:=ℓ) _ _ _ h3)
 ·rename_i z n e hz hu;obtain⟨zv,h1,h2⟩:=ny hz;have hcv:cv zv= .agg (z.map (dC ℓ)):=by rw[←(Gt ℓ zv).1,←h2];rfl
  simp only[uG,h1,hcv,hu];split at h
  ·rename_i s hs;simp only[hs];obtain⟨r,h3,rfl⟩:=aiu.1 h;exact congrArg (Option.map AV.agg) (BI (ℓ:=ℓ) _ _ _ h3)
  ·cases h
 ·cases h
theorem ab8:∀(t:Ty) (cs:List SV) (x:t.den) (r:List SV),IU t cs=some (x,r)→∃pre,cs=pre++r∧pre.map (fun c=>ZU (dC ℓ c))=eY t x:=by
 intro t
 induction t with
 |int k=>
  intro cs x r h
  cases cs with
  |nil=>cases h
  |cons c cs=>
   cases c<;>first|(cases h;done)|skip
   simp only[IU]at h;split at h
   ·rename_i e;subst e;cases h;exact⟨[_],rfl,rfl⟩
   ·cases h
 |bool=>
  intro cs x r h
  cases cs with
  |nil=>cases h
  | cons c cs => cases c<;>first|(cases h;done)|skip
                 cases h;exact⟨[_],rfl,rfl⟩
 |str=>
  intro cs x r h
  cases cs with
  |nil=>cases h
  | cons c cs => cases c<;>first|(cases h;done)|skip
                 cases h;exact⟨[_],rfl,rfl⟩
 |row t ih=>
  intro cs x r h
  cases cs with
  |nil=>cases h
  |cons c cs=>
   cases c<;>first|cases h|skip
   rename_i t' l tg;simp only[IU]at h;split at h
   ·rename_i l' hl;cases h;refine⟨[_],rfl,?_⟩;have:=wP hl false;simp only[aiE,aiS,dC,d1]
    show [ZU (bD t' l tg)]=_
    rw[show ZU (bD t' l tg)=bD t' l false from rfl,this];rfl
   ·cases h
 |unit=>intro cs x r h;cases h;exact⟨[],rfl,rfl⟩
 |cons a b iha ihb=>
  intro cs x r h;simp only[IU]at h;split at h
  ·rename_i y r1 h1;split at h
   ·rename_i z r2 h2;cases h;obtain⟨p1,rfl,f1⟩:=iha _ _ _ h1;obtain⟨p2,rfl,f2⟩:=ihb _ _ _ h2;exact⟨p1++p2,by simp,by rw[aiL,f1,f2];rfl⟩
   ·cases h
  ·cases h
theorem w9{e:TypeId}{t:Ty}{x:t.den}(h:LC P e t=some x):qO P e=some (enc t x):=by
 unfold LC at h;obtain⟨v,h1,h2⟩:=ajm.1 h;obtain⟨zv,h3,rfl⟩:=ny h1;unfold qO;rw[h3,aiF,←(Gt (fun _=>0) zv).1]
 congr 1
 generalize svC zv=v at h2;unfold LY at h2;split at h2
 ·rename_i hagg;split at h2
  ·rename_i y hy;cases h2;obtain⟨pre,e1,e2⟩:=ab8 (ℓ:=fun _=>0) t _ _ _ hy;rw[aiO]at e1;subst e1;unfold enc wrap;rw[←e2,←hagg]
   cases v<;>first|rfl|(simp[SV.isAgg,SV.cells,dA,ntV];done)
  ·cases h2
 ·cases h2
theorem K5(ha:fq ℓ H){size:Nat}{t:Ty}:∀(ps:List (Nat×SV)) (es:List t.den) (l:List Nm) (r:List t.den×List Nm),(Ac H size t es l ps).mean=some r→(∀g∈l,l5 H g)→
  nQ (dH ℓ H) size t.agg (es.map (enc t)) l (ps.map fun p=>(p.1,dV ℓ p.2))=some (r.1.map (enc t),r.2)∧(∀g∈r.2,l5 H g):=by
 intro ps
 induction ps with
 |nil=>intro es l r h hl;have:=Tr.ay h;subst this;exact⟨rfl,hl⟩
 |cons p ps ih=>
  intro es l r h hl;obtain⟨i,v⟩:=p;simp only[Ac]at h;obtain⟨⟨u,m⟩,h1,h2⟩:=Tr.aA h;obtain⟨h3,h4⟩:=Tr.aH h2;obtain⟨c1,c2,c3,c4⟩:=aix h3;obtain⟨y,h5,h6⟩:=Tr.aA h4;obtain⟨h7,h8⟩:=Tr.aS h6;obtain⟨e1,e2⟩:=sI ha h1;have hv:dV ℓ v=dA ℓ v:=by cases v<;>first|rfl|exact(Tr.au h1).elim
  have hy:=uH (ℓ:=ℓ) (Tr.bJ h5) c4;simp only[aiE,nQ,hv,e1];rw[if_pos ⟨by rw[fP,ais];exact c1,by rw[mR];exact c2,by simpa using aix h7,by rw[Df];exact c3⟩,hy,tN];exact ih _ _ _ h8 (fun g hg=>(ai9.1 hg).elim (hl g) (e2 g))
theorem vD.one{slot:Nat}{b:SB}{new:List SB}(h:vD ℓ slot (b::new)):ℓ (slot,0)=b.len:=h 0 b rfl
theorem wE(ha:fq ℓ H){t:TypeId}{n:Nat}{ps:List (Nat×SV)}{slot:Nat}{r:eu}(h:(jU P t n ps H slot).mean=some r)(hn:vD ℓ slot r.new):
  fA P t n (ps.map fun p=>(p.1,dV ℓ p.2)) (dH ℓ H) slot=some (dR ℓ r)∧aZ H r.wr:=by
 unfold jU at h;unfold fA;split at h
 ·rename_i e he;simp only[he];split at h
  ·rename_i size agg ty h1 h2 h3;obtain⟨h4,hA⟩:=Tr.aH h;obtain⟨c1,c2,c3,c4⟩:=aix h4;clear h h4;subst c3;subst c4;obtain⟨z,h5,h⟩:=Tr.aA hA;obtain⟨⟨es,l⟩,h6,h⟩:=Tr.aA h;have:=Tr.ay h;subst this;obtain⟨e1,e2⟩:=K5 ha _ _ _ _ h6 (fun g hg=>by simp at hg);rw[List.map_replicate]at e1;simp only[h1,h2,w9 (Tr.bJ h5)];rw[if_pos ⟨c1,c2,by rw[jJ,dL],Io ty z⟩];simp only[e1];refine⟨?_,nu _⟩;have hl:=hn.one
   have hlen:∀(ps:List (Nat×SV)) (es:List ty.den) (l:List Nm) (r:List ty.den×List Nm),(Ac H ty.size ty es l ps).mean=some r→r.1.length=es.length:=by
    intro ps
    induction ps with
    |nil=>intro es l r h;have:=Tr.ay h;subst this;rfl
    |cons p ps ih=>
     intro es l r h;obtain⟨i,v⟩:=p;simp only[Ac]at h;obtain⟨_,_,h⟩:=Tr.aA h;obtain⟨_,h⟩:=Tr.aH h;obtain⟨_,_,h⟩:=Tr.aA h;obtain⟨_,h⟩:=Tr.aS h;rw[ih _ _ _ h,ajc]
   have hl2:=hlen _ _ _ _ h6;simp only[List.length_replicate]at hl2;simp only[SB.len]at hl;have hw:dW ℓ (iX H l)=stops (dH ℓ H) l:=kG e2;simp only[dR,jP,hl,hl2,hw,aiE,aiS,dN,dB,Fz.n]
  ·exact(Tr.au h).elim
 ·exact(Tr.au h).elim
theorem y9{t:TypeId}{l c:SV}{slot:Nat}{r:eu}(h:(lF P t l c slot).mean=some r)(hn:vD ℓ slot r.new):
  kF P t (dV ℓ l) (dV ℓ c) slot=some (dR ℓ r)∧aZ H r.wr:=by
 unfold lF at h;split at h
 ·rename_i e k n k' m he;split at h
  ·rename_i size bytes ty h1 h2 h3;obtain⟨h4,hA⟩:=Tr.aH h;obtain⟨c1,c2,c3⟩:=aix h4;clear h h4;subst c3;obtain⟨z,h5,h⟩:=Tr.aA hA;obtain⟨h6,h⟩:=Tr.aS h;have:=Tr.ay h;subst this;obtain⟨d1,d2,d3⟩:=aix h6;have hl:=hn.one;simp only[SB.len,List.length_replicate]at hl;simp only[kF,he,eG,h1,h2,w9 (Tr.bJ h5)];rw[if_pos ⟨d1,d2,d3,c1,c2,by rw[jJ,dL],Io ty z⟩];refine⟨?_,aZ.nil⟩;simp only[dR,jP,hl,dW,aiS,aiE,dN,dB,Fz.n,List.map_replicate]
  ·exact(Tr.au h).elim
 ·exact(Tr.au h).elim
theorem uR{t t':Ty}{l:List t.den}{l':List t'.den}(h:xL l=some l'):l.map (enc t)=l'.map (enc t')∧(t'=t∨l'=[]):=by
 unfold xL at h;split at h
 ·rename_i e;subst e;cases h;exact⟨rfl,.inl rfl⟩
 ·split at h
  ·cases h;exact⟨rfl,.inr rfl⟩
  ·cases h
theorem AJ(ha:fq ℓ H){ty:Ty}{x:SV}{q:List ty.den×List Nm}(h:(Ir H ty x).mean=some q):∃sz,jd (dH ℓ H) (dV ℓ x)=some (sz,q.1.map (enc ty),q.2)∧(sz=ty.size∨q.1.map (enc ty)=[]):=by
 unfold Ir at h;split at h
 ·rename_i t l tg;obtain⟨l',h1,rfl⟩:=Tr.fM h;obtain⟨e1,e2⟩:=uR (Tr.bJ h1);simp only[o9,bD,jd,e1];refine⟨_,rfl,?_⟩
  cases l' with
  |nil=>exact .inr rfl
  |cons y ys=>
   rcases e2 with rfl|e2
   ·exact .inl rfl
   ·cases e2
 ·rename_i t g;split at h
  ·rename_i t' l z hg;obtain⟨h0,hA⟩:=Tr.aH h;obtain⟨h0,hps⟩:=aix h0;subst h0;obtain⟨l',h1,rfl⟩:=Tr.fM hA;obtain⟨e1,e2⟩:=uR (Tr.bJ h1);have hl:ℓ g=l.length:=ha g _ hg;simp only[jP,jd,dK,hg,aiZ,dB,hl];refine⟨t'.size,?_,?_⟩
   ·rw[if_pos (by simp[hps])];simp only[aiK];rw[aiX (by simp),e1]
   ·rcases e2 with rfl|e2
    ·exact .inl rfl
    ·exact .inr (by rw[e2];rfl)
  ·exact(Tr.au h).elim
 ·rename_i t g off len;split at h
  ·rename_i t' l z hg;obtain⟨h0,hA⟩:=Tr.aH h;obtain⟨h0,hps⟩:=aix h0;subst h0;obtain⟨h2,hB⟩:=Tr.aS hA;obtain⟨l',h1,rfl⟩:=Tr.fM hB;obtain⟨e1,e2⟩:=uR (Tr.bJ h1);simp only[lJ,jd,dK,hg,aiZ,dB];refine⟨t'.size,?_,?_⟩
   ·rw[if_pos (by simpa[hps]using aix h2)];simp only[e1,List.map_drop,List.map_take]
   ·rcases e2 with rfl|e2
    ·exact .inl rfl
    ·exact .inr (by rw[e2];simp)
  ·exact(Tr.au h).elim
 ·exact(Tr.au h).elim
theorem Ot(z:Fz)(a b:Nat):(z.grow b).n (a+b)=z.n a:=by
 cases z<;>simp only[Fz.grow,Fz.n]<;>omega
theorem Z4(z:Fz)(a:Nat):z.n a≤a:=by
 cases z<;>simp only[Fz.n]<;>omega
theorem EI(ha:fq ℓ H){t:TypeId}{s x:SV}{slot:Nat}{r:eu}(h:(zY P t s x H slot).mean=some r)(hn:vD ℓ slot r.new):
  kr P t (dV ℓ s) (dV ℓ x) (dH ℓ H) slot=some (dR ℓ r)∧aZ H r.wr:=by
 unfold zY at h;unfold kr;split at h
 ·rename_i e he;simp only[he];split at h
  ·rename_i size bytes z ty h1 h2 h3 h4;obtain⟨h5,hA⟩:=Tr.aH h;obtain⟨c1,c2,c3,c4,c5⟩:=aix h5;clear h h5;subst c5;obtain⟨⟨ys,m⟩,h6,h⟩:=Tr.aA hA;obtain⟨sz,e1,e2⟩:=AJ ha h6;simp only[h1,h2,h3,e1];rw[if_pos ⟨c1,c2,c3,c4,e2⟩];simp only at h
   have grown:∀(g:Nm) (l:List ty.den) (len:Nat) (z zz:Fz),bC H g=some (.arr ty l z)→len≤l.length→z.n l.length≤len→zz.n (len+ys.length)=z.n l.length→len+ys.length≤4294967296→
     r={val:=.own ty (slot,0),rd:=g::m,wr:=[(g,.dead l.length)],new:=[.arr ty (l.take len++ys) zz]}→
     (if True∧True∧True∧len≤(l.map (enc ty)).length∧True∧z.n l.length≤len∧len+(ys.map (enc ty)).length≤4294967296 then
      some ({val:=.own (slot,0) ty.size 0 (len+(ys.map (enc ty)).length),rd:=g::m,wr:=[(g,none)],new:=[⟨ty.size,(l.map (enc ty)).take len++ys.map (enc ty),z.n l.length,false⟩]}:gD)else none)=some (dR ℓ r)∧aZ H r.wr:=by
    intro g l len z zz hg hlen hz hzz hle hr;subst hr;have hl:=hn.one;have htl:(l.take len).length=len:=by simp;omega
    simp only[SB.len,aiB,htl]at hl;rw[if_pos ⟨trivial,trivial,trivial,by simpa using hlen,trivial,hz,by simpa using hle⟩];refine⟨?_,aZ.one hg rfl⟩;simp only[dR,jP,hl,dW,aiE,aiS,dB,dN,aiL,aiB,htl,hzz,ais,List.map_take]
   split at h
   ·rename_i t' l;obtain⟨l',h7,h⟩:=Tr.aA h;obtain⟨f1,f2⟩:=uR (Tr.bJ h7)
    have key:((l'=[]∨ys≠ [])∧(Tr.need (decide (l'.length+ys.length≤4294967296)) (.ret ({val:=.own ty (slot,0),rd:=m,new:=[.arr ty (l'++ys) .zero]}:eu))).mean=some r)∨(l'≠ []∧ys=[]∧({val:=.row ty l' true,rd:=m}:eu)=r):=by
     have h:cond l'.isEmpty _ _=some r:=h;cases hle:l'.isEmpty
     ·rw[hle]at h;have h:cond ys.isEmpty _ _=some r:=h;cases hye:ys.isEmpty
      ·rw[hye]at h;exact .inl ⟨.inr (fun e=>by subst e;cases hye),h⟩
      ·rw[hye]at h;exact .inr ⟨(fun e=>by subst e;cases hle),List.isEmpty_iff.1 hye,Tr.ay h⟩
     ·rw[hle]at h;exact .inl ⟨.inl (List.isEmpty_iff.1 hle),h⟩
    clear h;rcases key with⟨hc,h⟩|⟨hln,hy,hr⟩
    ·obtain⟨h8,h⟩:=Tr.aS h;have:=Tr.ay h;subst this;have h8:=aix h8;have hl:=hn.one;simp only[SB.len,aiB]at hl;simp only[o9,bD,f1]
     rw[if_neg (by
      rintro⟨a,b⟩;rcases hc with hc|hc
      ·exact b (by rw[hc];rfl)
      ·exact hc (List.map_eq_nil_iff.1 a)),if_pos]
     ·refine⟨?_,aZ.nil⟩;simp only[dR,jP,hl,dW,aiE,aiS,dB,dN,aiL,Fz.n,ais]
     ·refine⟨trivial,?_,?_,?_⟩
      ·cases l' with
       |nil=>exact .inr rfl
       |cons y ys=>
        rcases f2 with rfl|f2
        ·exact .inl rfl
        ·cases f2
      ·rcases hc with hc|hc
       ·exact .inl (by rw[hc];rfl)
       ·exact .inr (by simpa using List.length_pos_iff.2 hc)
      ·simpa using h8
    ·subst hy hr;simp only[o9,bD,f1]
     cases l' with
     |nil=>exact absurd rfl hln
     |cons y ys=>
      rw[if_pos ⟨rfl,fun e=>by cases e⟩,if_pos (by
       rcases f2 with rfl|f2
       ·rfl
       ·cases f2)]
      exact⟨by simp only[dR,o9,bD,dW,aiS];rfl,aZ.nil⟩
   ·rename_i t' g;split at h
    ·rename_i t2 l z hg;split at h
     ·rename_i ht;subst ht;obtain⟨h7,h⟩:=Tr.aH h;have h7:=aix h7;subst h7;obtain⟨h8,h⟩:=Tr.aS h;have:=Tr.ay h;have hlen:ℓ g=l.length:=ha g _ hg;simp only[jP,dK,hg,aiZ,dB,hlen];exact grown g l l.length z (z.grow ys.length) hg (aiy _) (Z4 z _) (Ot z _ _) (aix h8) (by rw[ajl];exact this.symm)
     ·exact(Tr.au h).elim
    ·exact(Tr.au h).elim
   ·rename_i t' g off len;split at h
    ·rename_i t2 l z hg;split at h
     ·rename_i ht;subst ht;obtain⟨h7,h⟩:=Tr.aH h;have h7:=aix h7;subst h7;split at h
      ·obtain⟨h8,h⟩:=Tr.aS h;have:=Tr.ay h;obtain⟨rfl,h8,h9⟩:=aix h8;simp only[lJ,dK,hg,aiZ,dB];exact grown g l len .zero .zero hg h8 (aiN _) rfl h9 this.symm
      ·obtain⟨h8,h⟩:=Tr.aS h;have:=Tr.ay h;obtain⟨rfl,rfl,h9⟩:=aix h8;simp only[lJ,dK,hg,aiZ,dB];exact grown g l l.length z (z.grow ys.length) hg (aiy _) (Z4 z _) (Ot z _ _) h9 (by rw[ajl];exact this.symm)
     ·exact(Tr.au h).elim
    ·exact(Tr.au h).elim
   ·exact(Tr.au h).elim
  ·exact(Tr.au h).elim
 ·exact(Tr.au h).elim
theorem JJ{α β:Type}(f:α→β)(l:List α)(off:Nat)(new:List α):(bQ l off new).map f=(l.map f).take off++new.map f++(l.map f).drop (off+(new.map f).length):=by
 simp[bQ,aiL,List.map_take,List.map_drop]
theorem DC{α:Type}{l:List α}{off:Nat}{new:List α}(h:off+new.length≤l.length):(bQ l off new).length=l.length:=by
 simp[bQ];omega
theorem Wu{g:Nm}{ty:Ty}{l:List ty.den}{off:Nat}{new:List ty.den}{v:SV}{rd:List Nm}(hg:bC H g=some (.arr ty l .zero))(hle:off+new.length≤l.length):
  dR ℓ ({val:=v,rd:=rd,wr:=[(g,.arr ty (bQ l off new) .zero)]}:eu)=({val:=dV ℓ v,rd:=rd,wr:=[(g,some ⟨ty.size,splice (l.map (enc ty)) off (new.map (enc ty)),0,false⟩)]}:gD)∧aZ H [(g,.arr ty (bQ l off new) .zero)]:=by
 refine⟨?_,aZ.one hg (DC hle)⟩;simp only[dR,dW,aiE,aiS,dB,JJ,Fz.n,splice]
theorem Hg(ha:fq ℓ H){t:TypeId}{d x:SV}{r:eu}(h:(Jk P t d x H).mean=some r):qR P t (dV ℓ d) (dV ℓ x) (dH ℓ H)=some (dR ℓ r)∧aZ H r.wr:=by
 unfold Jk at h;unfold qR;split at h
 ·rename_i e he;simp only[he];split at h
  ·rename_i size ty h1 h2;obtain⟨h3,hA⟩:=Tr.aH h;obtain⟨c1,c2⟩:=aix h3;clear h h3;subst c2;obtain⟨⟨ys,m⟩,h4,h⟩:=Tr.aA hA;obtain⟨sz,e1,e2⟩:=AJ ha h4;simp only[h1,e1];simp only at h;split at h
   ·rename_i t' g;split at h
    ·rename_i t2 l hg;split at h
     ·rename_i ht;subst ht;obtain⟨h5,h⟩:=Tr.aH h;have h5:=aix h5;subst h5;have:=Tr.ay h;subst this;have hlen:ℓ g=l.length:=ha g _ hg;have hle:0+(ys.take l.length).length≤l.length:=by simp;omega
      obtain⟨m1,m2⟩:=Wu (ℓ:=ℓ) (v:=.int .i64 (min ys.length l.length:Nat)) (rd:=g::m) hg hle;simp only[jP,dK,hg,aiZ,dB,hlen];rw[if_pos ⟨trivial,trivial,c1,by simp,trivial,aiy _,e2⟩,m1];exact⟨by simp only[List.map_take,ais,eG,Fz.n],m2⟩
     ·exact(Tr.au h).elim
    ·exact(Tr.au h).elim
   ·rename_i t' g off len;split at h
    ·rename_i t2 l hg;split at h
     ·rename_i ht;subst ht;obtain⟨h5,h⟩:=Tr.aH h;have h5:=aix h5;subst h5;obtain⟨h6,h⟩:=Tr.aS h;have h6:=aix h6;have:=Tr.ay h;subst this;have hle:off+(ys.take len).length≤l.length:=by simp;omega
      obtain⟨m1,m2⟩:=Wu (ℓ:=ℓ) (v:=.int .i64 (min ys.length len:Nat)) (rd:=g::m) hg hle;simp only[lJ,dK,hg,aiZ,dB];rw[if_pos ⟨trivial,trivial,c1,by simpa using h6,trivial,aiN _,e2⟩,m1];exact⟨by simp only[List.map_take,ais,eG,Fz.n],m2⟩
     ·exact(Tr.au h).elim
    ·exact(Tr.au h).elim
   ·exact(Tr.au h).elim
  ·exact(Tr.au h).elim
 ·exact(Tr.au h).elim
theorem Fg(ha:fq ℓ H){t:TypeId}{d:SV}{r:eu}(h:(Dn P t d H).mean=some r):nO P t (dV ℓ d) (dH ℓ H)=some (dR ℓ r)∧aZ H r.wr:=by
 unfold Dn at h;unfold nO;split at h
 ·rename_i e he;simp only[he];split at h
  ·rename_i size ty h1 h2;obtain⟨h3,hA⟩:=Tr.aH h;obtain⟨c1,c2⟩:=aix h3;clear h h3;subst c2;obtain⟨z,h4,h⟩:=Tr.aA hA;have z1:=w9 (Tr.bJ h4);have z2:(enc ty z).cells.length=ty.size:=by rw[jJ,dL]
   have z3:okV (enc ty z)=true:=Io ty z;simp only[h1,z1];split at h
   ·rename_i t' g;split at h
    ·rename_i t2 l hg;split at h
     ·rename_i ht;subst ht;obtain⟨h5,h⟩:=Tr.aH h;have h5:=aix h5;subst h5;have:=Tr.ay h;subst this;have hlen:ℓ g=l.length:=ha g _ hg;have hle:0+(List.replicate l.length z).length≤l.length:=by simp
      obtain⟨m1,m2⟩:=Wu (ℓ:=ℓ) (v:=.tup []) (rd:=[g]) hg hle;simp only[jP,dK,hg,aiZ,dB,hlen];rw[if_pos ⟨trivial,trivial,c1,by simp,trivial,aiy _,z2,z3⟩,m1];exact⟨by simp only[List.map_replicate,ais,oD,aiS,Fz.n],m2⟩
     ·exact(Tr.au h).elim
    ·exact(Tr.au h).elim
   ·rename_i t' g off len;split at h
    ·rename_i t2 l hg;split at h
     ·rename_i ht;subst ht;obtain⟨h5,h⟩:=Tr.aH h;have h5:=aix h5;subst h5;obtain⟨h6,h⟩:=Tr.aS h;have h6:=aix h6;have:=Tr.ay h;subst this;have hle:off+(List.replicate len z).length≤l.length:=by simp;omega
      obtain⟨m1,m2⟩:=Wu (ℓ:=ℓ) (v:=.tup []) (rd:=[g]) hg hle;simp only[lJ,dK,hg,aiZ,dB];rw[if_pos ⟨trivial,trivial,c1,by simpa using h6,trivial,aiN _,z2,z3⟩,m1];exact⟨by simp only[List.map_replicate,ais,oD,aiS,Fz.n],m2⟩
     ·exact(Tr.au h).elim
    ·exact(Tr.au h).elim
   ·exact(Tr.au h).elim
  ·exact(Tr.au h).elim
 ·exact(Tr.au h).elim
theorem KH(ha:fq ℓ H){t:TypeId}{x u:SV}(h:Ns P t x H=some u):Kt P t (dV ℓ x)=some (dV ℓ u):=by
 unfold Ns at h;unfold Kt;split at h
 ·rename_i hu;cases h;simp only[hu];rfl
 ·rename_i hu;simp only[hu]
  cases x with
  |row t l b=>cases h;simp[o9,bD,eG]
  |own t g=>
   simp only at h;split at h
   ·rename_i b hb;cases h;simp only[jP,eG,ha g b hb]
   ·cases h
  |part t g off len=>cases h;simp only[lJ,eG]
  |_=>cases h
 ·rename_i hu;simp only[hu]
  cases x with
  |str s=>cases h;rfl
  |_=>cases h
 ·cases h
theorem Rl:∀(r:List SV) (x u:SV),minS x r=some u→MZ (dV ℓ x) (r.map (dV ℓ))=some (dV ℓ u):=by
 intro r
 induction r with
 |nil=>
  intro x u h;unfold minS at h;split at h
  ·cases h;rfl
  ·cases h
 |cons y r ih=>
  intro x u h;unfold minS at h;split at h
  ·rename_i e;cases e
  ·rename_i e;cases e;split at h
   ·rename_i e;subst e;simp only[aiE,eG,MZ,if_true];exact ih _ _ h
   ·cases h
  ·cases h
theorem Rq:∀(r:List SV) (x u:SV),maxS x r=some u→Me (dV ℓ x) (r.map (dV ℓ))=some (dV ℓ u):=by
 intro r
 induction r with
 |nil=>
  intro x u h;unfold maxS at h;split at h
  ·cases h;rfl
  ·cases h
 |cons y r ih=>
  intro x u h;unfold maxS at h;split at h
  ·rename_i e;cases e
  ·rename_i e;cases e;split at h
   ·rename_i e;subst e;simp only[aiE,eG,Me,if_true];exact ih _ _ h
   ·cases h
  ·cases h
end
def wu(ℓ:Lens)(sub:List SB):Prop:=∀(j:Nat) (b:SB),sub[j]?=some b→ℓ (j,0)=b.len
def dO(ℓ:Lens)(out:Pq):Out:=(dV ℓ out.1,out.2.1.map (dB ℓ),out.2.2.map (dN ℓ))
def dJ(P:Program)(f:FuncId)(c:fF):Prop:=∀(args:List SV) (sub:List SB) (out:Pq),(c args sub).mean=some out→
 ∀ℓ0 ℓ':Lens,wu ℓ0 sub→wu ℓ' (out.2.1++out.2.2)→l8 P f∧Contract P f (args.map (dV ℓ0)) (sub.map (dN ℓ0)) (dO ℓ' out)
open Classical in
noncomputable def only(f:FuncId)(args:List AV)(sub:List bP)(out:Out):CL:=fun f' args' sub'=>if f'=f∧args'=args∧sub'=sub then some out else none
theorem Px(f:FuncId)(args:List AV)(sub:List bP)(out:Out):only f args sub out f args sub=some out:=by simp[only]
theorem N9{P:Program}{f:FuncId}{args:List AV}{sub:List bP}{out:Out}(h:l8 P f∧Contract P f args sub out):Sound P (only f args sub out):=by
 intro f' args' sub' out' h';unfold only at h';split at h'
 ·rename_i e;obtain⟨rfl,rfl,rfl⟩:=e;cases h';exact h
 ·cases h'
theorem pX{P:Program}:Sound P (fun _ _ _=>none):=fun _ _ _ _ h=>by cases h
section
variable{P:Program}{H:aR}{ℓ ℓ0 ℓ':Lens}
theorem pR{b:SB}(h:b.alive=true):dB ℓ b=some (dN ℓ b):=by cases b<;>first|rfl|cases h
theorem ML{v u:SV}{l:List Nm}(h:(iD H v).mean=some (u,l)):(∀ℓ ℓ':Lens,dC ℓ u=dC ℓ' u)∧Ba u=true:=by
 cases v with
 |own t g=>
  simp only[iD]at h;split at h
  ·split at h
   ·split at h
    ·have:=Tr.ay h;cases this;exact⟨fun _ _=>rfl,rfl⟩
    ·exact(Tr.au h).elim
   ·exact(Tr.au h).elim
  ·exact(Tr.au h).elim
 |part t g off len=>
  simp only[iD]at h;split at h
  ·split at h
   ·split at h
    ·obtain⟨_,h⟩:=Tr.aS h;have:=Tr.ay h;cases this;exact⟨fun _ _=>rfl,rfl⟩
    ·exact(Tr.au h).elim
   ·exact(Tr.au h).elim
  ·exact(Tr.au h).elim
 |row t l' tg=>have:=Tr.ay h;cases this;exact⟨fun _ _=>rfl,rfl⟩
 |undef|int k n|bool b|str s|nilp|nilf=>have:=Tr.ay h;cases this;exact⟨fun _ _=>rfl,rfl⟩
 |_=>exact(Tr.au h).elim
theorem sM(ha:fq ℓ H){share:Bool}{f:Ren}(hg:Goes f ℓ ℓ0){v u:SV}(h:(rC H share f v).mean=some u):
  pz (dH ℓ H) share f (dC ℓ v)=some (dC ℓ0 u)∧Ba v=true∧Ba u=true∧(share=false→∀g∈bS v,l5 H g):=by
 have own:∀(w:SV),(match share with|true=>False|false=>True)→w.isAgg=false→dC ℓ w=d1 ℓ w→((iD H w).map (·.1)).mean=some u→
   (dG (dH ℓ H) (dC ℓ w)).map (·.1)=some (dC ℓ0 u)∧Ba u=true∧∃l,(iD H w).mean=some (u,l):=by
  intro w _ _ hd hm;obtain⟨⟨u',l⟩,h1,rfl⟩:=Tr.fM hm;obtain⟨e1,_,_,_,_,e2⟩:=jZ ha h1;obtain⟨e3,e4⟩:=ML h1;refine⟨?_,e4,l,h1⟩;rw[hd,e1,aiF];simp only;rw[←e2,e3 ℓ ℓ0]
 cases v with
 |own t g=>
  cases share with
  |true=>
   simp only[rC,if_true]at h;split at h
   ·rename_i g' hgg;have:=Tr.ay h;subst this;exact⟨by simp only[dC,d1,pz,if_true,hgg,hg g g' hgg],rfl,rfl,fun e=>by cases e⟩
   ·exact(Tr.au h).elim
  |false=>
   simp only[rC,ai2,if_false]at h;obtain⟨e1,e2,l,e3⟩:=own _ trivial rfl rfl h;refine⟨e1,rfl,e2,fun _ g' hg'=> ?_⟩;simp[bS]at hg';subst hg';simp only[iD]at e3;split at e3
   ·rename_i hq;exact⟨_,_,_,hq⟩
   ·exact(Tr.au e3).elim
 |part t g off len=>
  cases share with
  |true=>
   simp only[rC,if_true]at h;split at h
   ·rename_i g' hgg;have:=Tr.ay h;subst this;exact⟨by simp only[dC,d1,pz,if_true,hgg],rfl,rfl,fun e=>by cases e⟩
   ·exact(Tr.au h).elim
  |false=>
   simp only[rC,ai2,if_false]at h;obtain⟨e1,e2,l,e3⟩:=own _ trivial rfl rfl h;refine⟨e1,rfl,e2,fun _ g' hg'=> ?_⟩;simp[bS]at hg';subst hg';simp only[iD]at e3;split at e3
   ·rename_i hq;exact⟨_,_,_,hq⟩
   ·exact(Tr.au e3).elim
 |row t l tg=>
  have:=Tr.ay h;subst this;refine⟨?_,rfl,rfl,fun _ g' hg'=>by simp[bS]at hg'⟩;simp only[dC,d1,bD,pz,Ko]
 |agg cs=>exact(Tr.au h).elim
 |tup vs=>exact(Tr.au h).elim
 |ptr g sz i off=>
  have:=Tr.ay h;subst this;refine⟨?_,rfl,?_,fun _ g' hg'=>by simp[bS]at hg'⟩
  ·rw[←uf hg];rfl
  ·simp only[mY,kW];cases f g<;>rfl
 |clo fn cs=>
  have:=Tr.ay h;subst this;exact⟨by rw[←uf hg];rfl,rfl,rfl,fun _ g' hg'=>by simp[bS]at hg'⟩
 |_=>
  have:=Tr.ay h;subst this;exact⟨by rw[←uf hg];rfl,rfl,rfl,fun _ g' hg'=>by simp[bS]at hg'⟩
theorem yw{α β:Type}{l:List α}{f g:α→List β}(h:∀a∈l,f a=g a):l.flatMap f=l.flatMap g:=by
 induction l with
 |nil=>rfl
 |cons a r ih=>rw[ajz,ajz,h a (by simp),ih (fun x hx=>h x (by simp[hx]))]
theorem xK{α β:Type}{f:α→Option β}:∀{l:List α} {m:List β},m.length=l.length→(∀(i:Nat) (a:α),l[i]?=some a→∃b,m[i]?=some b∧f a=some b)→l.mapM f=some m:=by
 intro l
 induction l with
 |nil=>
  intro m hl _
  cases m with
  |nil=>rfl
  |cons _ _=>cases hl
 |cons a r ih=>
  intro m hl h
  cases m with
  |nil=>cases hl
  |cons b m=>
   obtain⟨b',h1,h2⟩:=h 0 a rfl;cases h1;rw[List.mapM_cons,h2,ih (by simpa using hl) (fun i x hx=>h (i+1) x (by simpa using hx))];rfl
theorem Ay(ha:fq ℓ H){share:Bool}{f:Ren}(hg:Goes f ℓ ℓ0){v u:SV}(hv:nk v=true)(h:(TQ H share f v).mean=some u):
  pO (dH ℓ H) share f (dV ℓ v)=some (dV ℓ0 u)∧(share=false→∀g∈bS v,l5 H g):=by
 have one:(rC H share f v).mean=some u→v.isAgg=false→pO (dH ℓ H) share f (dV ℓ v)=some (dV ℓ0 u)∧(share=false→∀g∈bS v,l5 H g):=by
  intro h hagg;obtain⟨e1,e2,e3,e4⟩:=sM ha hg h;rw[(GU e2 ℓ).1,(GU e3 ℓ0).1];refine⟨?_,e4⟩;rw[←e1]
  cases v<;>first|rfl|cases hagg
 cases v with
 |agg cs=>
  obtain⟨us,h1,rfl⟩:=Tr.fM h;obtain⟨e1,e2⟩:=Tr.zT h1;refine⟨?_,fun hs g hgm=> ?_⟩
  ·simp only[tC,pO];rw[xK (m:=us.map (dC ℓ0)) (by simp[e1]) (fun i a hi=> ?_)]
   ·rfl
   ·rw[ait]at hi;obtain⟨c,h2,rfl⟩:=aiu.1 hi;obtain⟨b,h3,h4⟩:=e2 i c h2;exact⟨dC ℓ0 b,by rw[ait,h3];rfl,(sM ha hg h4).1⟩
  ·simp only[bS,List.mem_flatMap]at hgm;obtain⟨c,hc,hgc⟩:=hgm;obtain⟨i,hi⟩:=List.getElem?_of_mem hc;obtain⟨b,h3,h4⟩:=e2 i c hi;refine(sM ha hg h4).2.2.2 hs g ?_
   cases c<;>first|exact hgc|(simp at hgc;done)
 |tup vs=>cases hv
 |_=>exact one h rfl
theorem AU{v:SV}(hv:nk v=true):aY (dV ℓ v)=bS v:=by
 cases v with
 |agg cs=>
  simp only[tC,aY,bS,List.flatMap_map]
  congr 1
  funext c
  cases c<;>rfl
 |tup vs=>cases hv
 |_=>rfl
theorem aaN(v:SV):Ie (dV ℓ v)=KR v:=by
 have h1:∀c,kZ (d1 ℓ c)=kZ (d1 (fun _=>0) c):=fun c=>by cases c<;>rfl
 have hC:∀c,kZ (dC ℓ c)=kZ (dC (fun _=>0) c):=fun c=>by cases c<;>rfl
 have hA:∀c,Eg (dA ℓ c)=Eg (dA (fun _=>0) c):=fun c=>by
  cases c with
  |agg cs=>simp only[dA,Eg,List.all_map];congr 1;funext c;exact hC c
  |_=>rfl
 unfold KR
 cases v with
 |tup vs=>simp only[dV,Ie,List.all_map];congr 1;funext c;exact hA c
 |agg cs=>exact hA (.agg cs)
 |_=>rfl
theorem KP:∀(a b:List SB),rV a b=true→b.length=a.length∧∀(i:Nat) (x y:SB),a[i]?=some x→b[i]?=some y→y.len=x.len:=by
 intro a
 induction a with
 |nil=>
  intro b h
  cases b with
  |nil=>exact⟨rfl,fun i x y h=>by simp at h⟩
  |cons _ _=>simp[rV]at h
 |cons x r ih=>
  intro b h
  cases b with
  |nil=>cases x<;>simp[rV]at h
  |cons y r'=>
   have key:y.len=x.len∧rV r r'=true:=by
    unfold rV at h;split at h
    ·rename_i e1 e2;cases e1;cases e2;exact⟨rfl,h⟩
    ·rename_i e1 e2;cases e1;cases e2;simpa using h
    ·rename_i e1 e2;cases e1
    ·cases h
   obtain⟨h1,h2⟩:=ih r' key.2;refine⟨by simp[h1],fun i u w e1 e2=> ?_⟩
   cases i with
   |zero=>simp at e1 e2;subst e1;subst e2;exact key.1
   |succ i=>exact h2 i u w (by simpa using e1) (by simpa using e2)
theorem ug(f:Ren)(b:SB):(eT f b).alive=b.alive:=by cases b<;>rfl
theorem Iz(ha:fq ℓ H){f:FuncId}{share:Bool}{call:fF}(hc:dJ P f call){args:List SV}{slot:Nat}{r:eu}(h:(Ja share call args H slot).mean=some r)(hn:vD ℓ slot r.new):
  ∃c:CL,Sound P c∧kL share (c f) (args.map (dV ℓ)) (dH ℓ H) slot=some (dR ℓ r)∧aZ H r.wr:=by
 unfold Ja at h;simp only at h;generalize hlent:(if share=true then []else args.flatMap bS)=lent at h;generalize hR:DW H (args.flatMap (if share=true then fun v=>uM v++bS v else uM))=R at h;split at h
 ·exact(Tr.au h).elim
 ·rename_i hcond;simp only[ajJ,not_or,Bool.not_eq_true,Bool.not_eq_false',Bool.not_eq_eq_eq_not,aiD,aiA]at hcond;obtain⟨hdis,hnt⟩:=hcond;have hnt:∀v∈args,nk v=true:=by simpa using hnt
  obtain⟨args',h1,h⟩:=Tr.aA h;split at h
  ·rename_i sub hsub;obtain⟨out,h2,h⟩:=Tr.aA h;obtain⟨h3,h⟩:=Tr.aS h;obtain⟨h4,h⟩:=Tr.aH h;have:=Tr.ay h;subst this;obtain⟨L1,L2⟩:=KP _ _ h3;have hal:∀b∈out.2.2,b.alive=true:=by simpa using h4
   obtain⟨S1,S2⟩:=mapM_some _ _ _ hsub
   let f0:Ren:=fun g=>(idxOf g R 0).map fun i=>(i,0)
   let l0:Lens:=fun g=>match R[g.1]? with
    |some g'=>ℓ g'
    |none=>0
   let b:=bG R slot
   let l1:Lens:=fun g=>match b g with
    |some g'=>ℓ g'
    |none=>0
   have hg0:Goes f0 ℓ l0:=by
    intro g g' e;obtain⟨i,hi,rfl⟩:=aiu.1 e;obtain⟨_,hR⟩:=gG g R 0 i hi;simp only[Nat.sub_zero]at hR
    show(match R[i]? with|some g'=>ℓ g'|none=>0)=ℓ g
    rw[hR]
   have hg1:Goes b l1 ℓ:=by
    intro g g' e
    show ℓ g'=(match b g with|some g'=>ℓ g'|none=>0)
    rw[e]
   have hsub0:wu l0 sub:=by
    intro j x hj;have hjR:j<R.length:=by rw[←S1];exact(ain.1 hj).1
    obtain⟨y,e1,e2⟩:=S2 j R[j] (aiw hjR);rw[hj]at e1;cases e1;obtain⟨b0,e3,e4⟩:=ajm.1 e2;split at e4
    ·cases e4
     show(match R[j]? with|some g'=>ℓ g'|none=>0)=_
     rw[aiw hjR,gQ];exact ha _ _ e3
    ·cases e4
   have hlenR:out.2.1.length=R.length:=by rw[L1,S1]
   have hout:wu l1 (out.2.1++out.2.2):=by
    intro j x hj;rcases ajE j R.length with hlt|hge
    ·rw[ai3 (by omega)]at hj;have hb:b (j,0)=some R[j]:=by simp[b,bG,hlt]
     show(match b (j,0)with|some g'=>ℓ g'|none=>0)=_
     rw[hb];have hjs:j<sub.length:=by omega
     obtain⟨y,e1,e2⟩:=S2 j R[j] (aiw hlt);obtain⟨b0,e3,e4⟩:=ajm.1 e2;split at e4
     ·cases e4;rw[L2 j _ x e1 hj,gQ];exact ha _ _ e3
     ·cases e4
    ·rw[ai0 (by omega),hlenR]at hj;have hb:b (j,0)=some (slot,j-R.length):=by simp[b,bG,Nat.not_lt.2 hge]
     show(match b (j,0)with|some g'=>ℓ g'|none=>0)=_
     rw[hb];simp only;rw[hn (j-R.length) (eT b x) (by simp only[ait,hj];rfl),gQ]
   have hcall:=hc args' sub out h2 l0 l1 hsub0 hout;refine⟨only f (args'.map (dV l0)) (sub.map (dN l0)) (dO l1 out),N9 hcall,?_,?_⟩
   ·
    unfold kL;simp only
    have elent:(if share=true then []else(args.map (dV ℓ)).flatMap aY)=lent:=by
     rw[←hlent];split
     ·rfl
     ·rw[List.flatMap_map];exact yw fun v hv=>AU (hnt v hv)
    have eR:reach (dH ℓ H) ((args.map (dV ℓ)).flatMap (if share=true then fun v=>eH v++aY v else eH))=R:=by
     rw[←hR,Ox,List.flatMap_map]
     congr 1
     refine yw fun v hv=> ?_
     have hs:eH (dV ℓ v)=uM v:=by rw[iF (hnt v hv)];exact UX ℓ v
     split
     ·simp only[hs,AU (hnt v hv)]
     ·exact hs
    rw[elent,eR];obtain⟨M1,M2⟩:=Tr.zT h1
    have eargs:(args.map (dV ℓ)).mapM (pO (dH ℓ H) share f0)=some (args'.map (dV l0)):=by
     refine xK (by simp[M1]) (fun i a hi=> ?_);rw[ait]at hi;obtain⟨v,e1,rfl⟩:=aiu.1 hi;obtain⟨u,e2,e3⟩:=M2 i v e1;exact⟨dV l0 u,by rw[ait,e2];rfl,(Ay ha hg0 (hnt v (air e1)) e3).1⟩
    have esub:R.mapM (fun g=>(get (dH ℓ H) g).map (bN f0))=some (sub.map (dN l0)):=by
     refine xK (by simp[S1]) (fun i g hi=> ?_);obtain⟨y,e1,e2⟩:=S2 i g hi;obtain⟨b0,e3,e4⟩:=ajm.1 e2;split at e4
     ·rename_i hb0;cases e4;refine⟨dN l0 (eT f0 b0),by rw[ait,e1];rfl,?_⟩;rw[dK,e3,aiZ,rQ hg0];exact pR (by rw[ug];exact hb0)
     ·cases e4
    rw[if_neg (by simpa using hdis)]
    show(match(args.map (dV ℓ)).mapM (pO (dH ℓ H) share f0),R.mapM (fun g=>(get (dH ℓ H) g).map (bN f0))with
     |some args',some sub=>_
     |_,_=>none)=_
    rw[eargs,esub];simp only[Px,dO];rw[if_pos (by simpa using hlenR)]
    have harr:∀g∈lent,l5 H g:=by
     intro g hg;rw[←hlent]at hg;split at hg
     ·cases hg
     ·rename_i hs;obtain⟨v,hv,hgv⟩:=List.mem_flatMap.1 hg;obtain⟨i,hi⟩:=List.getElem?_of_mem hv;obtain⟨u,e2,e3⟩:=M2 i v hi;exact(Ay ha hg0 (hnt v hv) e3).2 (by simpa using hs) g hgv
    have ewr:((R.zip (out.2.1.map (dB l1))).map fun p=>(p.1,p.2.map (bN (bG R slot))))=dW ℓ ((R.zip out.2.1).map fun p=>(p.1,eT (bG R slot) p.2)):=by
     simp only[dW,ajv,List.zip_map_right];refine aiW fun p _=> ?_
     simp only[Function.comp,Prod.map,id];exact congrArg (Prod.mk p.1) (rQ hg1 p.2)
    have enew:(out.2.2.map (dN l1)).map (bN (bG R slot))=(out.2.2.map (eT (bG R slot))).map (dN ℓ):=by
     simp only[ajv];refine aiW fun x hx=> ?_
     have e:=rQ hg1 x;rw[pR (hal x hx),aiF,pR (by rw[ug];exact hal x hx)]at e;exact Option.some.inj e
    have eval:zU (bG R slot) (dV l1 out.1)=dV ℓ (qI (bG R slot) out.1):=H7 hg1 out.1
    have ewr2:(if(KR out.1&&out.2.2.isEmpty&&R.isEmpty)=true then []else stops (dH ℓ H) lent)=dW ℓ (if(KR out.1&&out.2.2.isEmpty&&R.isEmpty)=true then []else iX H lent):=by
     split
     ·rfl
     ·exact(kG harr).symm
    simp only[dR,eval,ewr,enew,aaN,List.isEmpty_map,ewr2];simp only[dW,aiL]
   ·
    refine aZ.append ?_ ?_
    ·intro p hp x hx;simp only[ajj]at hp;obtain⟨⟨g,y⟩,hz,rfl⟩:=hp;obtain⟨i,hi⟩:=List.getElem?_of_mem hz;rw[List.getElem?_zip_eq_some]at hi;obtain⟨i1,i2⟩:=hi;obtain⟨z,e1,e2⟩:=S2 i g i1;obtain⟨b0,e3,e4⟩:=ajm.1 e2;split at e4
     ·cases e4;simp only at hx;rw[e3]at hx;cases hx;simp only[gQ];rw[L2 i _ y e1 i2,gQ]
     ·cases e4
    ·split
     ·exact aZ.nil
     ·exact nu _
  ·exact(Tr.au h).elim
theorem Mq{c:Bool}{a b u:SV}(h:(RY c a b).mean=some u):uz c (dV ℓ a) (dV ℓ b)=dV ℓ u:=by
 unfold RY at h;split at h
 ·have:=Tr.ay h;subst this;simp only[ow,uz];cases c<;>rfl
 ·rename_i hn
  have key:uz c (dV ℓ a) (dV ℓ b)=if c then dV ℓ a else dV ℓ b:=by
   unfold uz;split
   ·rename_i p q e1 e2
    cases a<;>first|(cases e1;done)|skip
    cases b<;>first|(cases e2;done)|skip
    exact absurd rfl (hn _ _ rfl)
   ·rfl
  rw[key]
  cases c with
  |true=>have:=Tr.ay (show(Tr.ret a).mean=some u from h);subst this;rfl
  |false=>have:=Tr.ay (show(Tr.ret b).mean=some u from h);subst this;rfl
theorem J8{ty:Ty}(h:Y1 ty=true)(x:ty.den):okS (enc ty x)=true∧dV ℓ (CF ty x)=enc ty x∧dA ℓ (CF ty x)=enc ty x:=by
 cases ty<;>first|exact⟨rfl,rfl,rfl⟩|cases h
theorem Pk{ty:Ty}(h:Y1 ty=true){v:SV}{x:ty.den}(hx:LY ty v=some x):dV ℓ v=enc ty x∧dA ℓ v=enc ty x:=by
 unfold LY at hx;split at hx
 ·split at hx
  ·rename_i y hy;cases hx
   cases ty with
   |int k=>cases v<;>simp[SV.cells,IU]at hy<;>first|(obtain⟨rfl,hy⟩:=hy;cases hy;exact⟨rfl,rfl⟩)|(rename_i ha;simp[SV.isAgg,Ty.agg]at ha)
   |bool=>cases v<;>simp[SV.cells,IU]at hy<;>first|(cases hy;exact⟨rfl,rfl⟩)|(rename_i ha;simp[SV.isAgg,Ty.agg]at ha)
   |str=>cases v<;>simp[SV.cells,IU]at hy<;>first|(cases hy;exact⟨rfl,rfl⟩)|(rename_i ha;simp[SV.isAgg,Ty.agg]at ha)
   |_=>cases h
  ·cases hx
 ·cases hx
theorem Ep{ty:Ty}(n:Int):∀l:List (Int×ty.den),kN n (l.map fun p=>AV.agg [.int .i64 p.1,enc ty p.2])=(qG n l).map (enc ty)
 | []=>rfl
 |p::r=>by
  simp only[aiE,kN,qG];split
  ·rfl
  ·exact Ep n r
theorem Gz{ty:Ty}(n:Int)(x:ty.den):∀l:List (Int×ty.den),nY n (enc ty x) (l.map fun p=>AV.agg [.int .i64 p.1,enc ty p.2])=(OT n x l).map fun p=>AV.agg [.int .i64 p.1,enc ty p.2]
 | []=>rfl
 |p::r=>by
  simp only[aiE,nY,OT];split
  ·rfl
  ·simp only[aiE,Gz n x r]
theorem Oi{g:Nm}{ty:Ty}{l:List (Int×ty.den)}(hg:bC H g=some (.mp ty l)):yg (dH ℓ H) (.ptr g 0 0 0)=some (g,⟨0,l.map fun p=>AV.agg [.int .i64 p.1,enc ty p.2],0,false⟩):=by
 simp only[yg,dK,hg,aiZ,dB,true_and,if_true]
theorem BU{t:TypeId}{m k:SV}{ok:Bool}{r:eu}(h:(wM P t m k ok H).mean=some r):jc P t (dV ℓ m) (dV ℓ k) ok (dH ℓ H)=some (dR ℓ r)∧aZ H r.wr:=by
 unfold wM at h;split at h
 ·rename_i et g n ht;split at h
  ·rename_i ty l z hg hz;obtain⟨h1,h⟩:=Tr.aH h;obtain⟨x,h2,h⟩:=Tr.aA h;have:=Tr.ay h;subst this;refine⟨?_,aZ.nil⟩;obtain⟨zv,h3,rfl⟩:=ny hz;have h4:cv zv=enc ty x:=by rw[←(Gt ℓ zv).2];exact(Pk h1 (Tr.bJ h2)).1
   have h5:=fun y=>J8 (ℓ:=ℓ) h1 y
   have h6:(Option.map (enc ty) (qG n l)).getD (enc ty x)=enc ty ((qG n l).getD x):=by cases qG n l<;>rfl
   have h7:(Option.map (enc ty) (qG n l)).isSome=(qG n l).isSome:=by cases qG n l<;>rfl
   simp only[jc,ht,oH,eG,Oi hg,h3,h4,Ep,h6,h7];rw[if_pos (h5 x).1]
   cases ok with
   |true=>simp only[if_true,dR,oD,aiE,aiS,(h5 _).2.2,dW];rfl
   |false=>simp only[ai2,if_false,dR,(h5 _).2.1,dW,aiS]
  ·exact(Tr.au h).elim
 ·exact(Tr.au h).elim
theorem yB{t:TypeId}{m k v:SV}{r:eu}(h:(lH P t m k v H).mean=some r):gm P t (dV ℓ m) (dV ℓ k) (dV ℓ v) (dH ℓ H)=some (dR ℓ r)∧aZ H r.wr:=by
 unfold lH at h;split at h
 ·rename_i et g n ht;split at h
  ·rename_i ty l hg;obtain⟨h1,h⟩:=Tr.aH h;obtain⟨x,h2,h⟩:=Tr.aA h;have:=Tr.ay h;subst this;refine⟨?_,aZ.one hg rfl⟩;simp only[gm,ht,oH,eG,Oi hg,(Pk (ℓ:=ℓ) h1 (Tr.bJ h2)).1,Gz];rw[if_pos (J8 (ℓ:=ℓ) h1 x).1];rfl
  ·exact(Tr.au h).elim
 ·exact(Tr.au h).elim
theorem AY{t:TypeId}{v:SV}{slot:Nat}{r:eu}(h:(En P t v slot).mean=some r):Gc P t (dV ℓ v) slot=some (dR ℓ r)∧aZ H r.wr:=by
 unfold En at h;unfold Gc;split at h
 ·rename_i size hs;obtain⟨h1,h⟩:=Tr.aH h;obtain⟨c1,c2,c3⟩:=aix h1;have:=Tr.ay h;subst this;simp only[hs,iF (tQ c2)];rw[if_pos ⟨by rw[fP,ais];exact c1,by rw[Df];exact c2,c3⟩];exact⟨rfl,aZ.nil⟩
 ·exact(Tr.au h).elim
theorem Er{fr:wC}{t:TypeId}{x:Operand}{slot:Nat}{r:eu}(h:(uT P fr t x slot).mean=some r)(hn:vD ℓ slot r.new):kz P (dF ℓ fr) t x slot=some (dR ℓ r)∧aZ H r.wr:=by
 unfold uT at h;split at h
 ·unfold kz;split at h
  ·rename_i e he;split at h
   ·rename_i size ty h1 h2;obtain⟨h3,h⟩:=Tr.aH h;have h3:=aix h3;have:=Tr.ay h;subst this;have hl:=hn.one;simp only[SB.len,List.length_nil]at hl;simp only[he,h1];refine⟨?_,aZ.nil⟩;simp only[dR,jP,hl,h3,dW,aiS,aiE,dN,dB,Fz.n]
   ·exact(Tr.au h).elim
  ·exact(Tr.au h).elim
 ·rename_i hx;have:=Tr.ay h;subst this;refine⟨?_,aZ.nil⟩
  have e:kz P (dF ℓ fr) t x slot=some {val:=qD (dF ℓ fr) x}:=by
   unfold kz;split
   ·exact absurd rfl hx
   ·rfl
  rw[e];simp only[dR,dD,dW,aiS]
theorem OE{v:SV}(h:Ku v=true)(ℓ:Lens):dV ℓ v=d1 ℓ v:=by cases v<;>first|rfl|cases h
theorem wY{N:FuncId→Note}{call:FuncId→fF}(hc:∀f,dJ P f (call f)){o:Oper}{fr:wC}{slot:Nat}{r:eu}(ha:fq ℓ H)(h:(jw P N call o fr H slot).mean=some r)(hn:vD ℓ slot r.new):
  ∃c:CL,Sound P c∧aK P N c o (dF ℓ fr) (dH ℓ H) slot=some (dR ℓ r)∧aZ H r.wr:=by
 obtain⟨dst,op,type,pos,after,guard⟩:=o
 have plain:(∀c:CL,aK P N c ⟨dst,op,type,pos,after,guard⟩ (dF ℓ fr) (dH ℓ H) slot=some (dR ℓ r))∧aZ H r.wr→∃c:CL,Sound P c∧aK P N c ⟨dst,op,type,pos,after,guard⟩ (dF ℓ fr) (dH ℓ H) slot=some (dR ℓ r)∧aZ H r.wr:=
  fun h=>⟨fun _ _ _=>none,pX,h.1 _,h.2⟩
 have val:∀{t:Tr SV},(t.map qW).mean=some r→∃u,t.mean=some u∧dR ℓ r={val:=dV ℓ u}∧aZ H r.wr:=by
  intro t h;obtain⟨u,h1,rfl⟩:=Tr.fM h;exact⟨u,h1,rfl,aZ.nil⟩
 cases op with
 |move x=>
  have:=Tr.ay h;subst this;exact plain ⟨fun c=>by simp only[aK,dR,dD,dW,aiS],aZ.nil⟩
 |assign x=>
  obtain⟨e1,e2⟩:=Er (H:=H) (show(uT P fr type x slot).mean=some r from h) hn;exact plain ⟨fun c=>e1,e2⟩
 |pick c a b=>
  simp only[jw]at h;split at h
  ·rename_i p hp;obtain⟨u,h1,e1,e2⟩:=val h;refine plain ⟨fun c'=> ?_,e2⟩;have:=dD ℓ fr c;rw[hp]at this;simp only[aK,←dD,e1];rw[show dV ℓ (wB fr c)= .bool p from by rw[hp];rfl];simp only[Mq h1]
  ·exact(Tr.au h).elim
 |alloc t=>
  simp only[jw]at h;split at h
  ·rename_i z hz;obtain⟨zv,h1,rfl⟩:=ny hz;obtain⟨e1,e2⟩:=AY (ℓ:=ℓ) (H:=H) h;rw[(Gt ℓ zv).2]at e1;exact plain ⟨fun c=>by simp only[aK,h1,e1],e2⟩
  ·exact(Tr.au h).elim
 |box t x=>
  obtain⟨e1,e2⟩:=AY (ℓ:=ℓ) (H:=H) (show(En P t (wB fr x) slot).mean=some r from h);exact plain ⟨fun c=>by simp only[aK,←dD,e1],e2⟩
 |build t ps=>
  obtain⟨u,h1,e1,e2⟩:=val h;have:=FD (ℓ:=ℓ) (Tr.bJ h1);rw[Ee]at this;exact plain ⟨fun c=>by simp only[aK,one,this,e1,aiF],e2⟩
 |buildSlice t n ps=>
  obtain⟨e1,e2⟩:=wE ha (show(jU P t n (qN fr ps) H slot).mean=some r from h) hn;rw[Ee]at e1;exact plain ⟨fun c=>e1,e2⟩
 |load t a=>
  obtain⟨e1,e2⟩:=yE (ℓ:=ℓ) (show(wS P t (wB fr a) H).mean=some r from h);exact plain ⟨fun c=>by simp only[aK,←dD,e1],by rw[e2];exact aZ.nil⟩
 |store t a x=>
  obtain⟨e1,e2,_⟩:=FL ha (show(y5 P t (wB fr a) (wB fr x) H).mean=some r from h);exact plain ⟨fun c=>by simp only[aK,←dD,e1],e2⟩
 |nilCheck x=>
  simp only[jw]at h;split at h
  ·rename_i hx;obtain⟨h0,h⟩:=Tr.aH h;have:=Tr.ay h;subst this;exact plain ⟨fun c=>by simp only[aK,←dD,hx,oH];rw[if_pos (aix h0)];rfl,aZ.nil⟩
  ·rename_i hx;have:=Tr.ay h;subst this;exact plain ⟨fun c=>by simp only[aK,←dD,hx];rfl,aZ.nil⟩
  ·exact(Tr.au h).elim
 |binOp op t x y yt=>
  obtain⟨u,h1,e1,e2⟩:=val h;exact plain ⟨fun c=>by simp only[aK,one,←dD,Iw (ℓ:=ℓ) h1,e1,aiF],e2⟩
 |unOp op t x=>
  obtain⟨u,h1,e1,e2⟩:=val h;exact plain ⟨fun c=>by simp only[aK,one,←dD,Mv (ℓ:=ℓ) (Tr.bJ h1),e1,aiF],e2⟩
 |convert a b x=>
  obtain⟨u,h1,e1,e2⟩:=val h;exact plain ⟨fun c=>by simp only[aK,one,←dD,Cc (ℓ:=ℓ) (Tr.bJ h1),e1,aiF],e2⟩
 |makeFunc fn first caps=>
  cases fn with
  |func f=>
   simp only[jw]at h;split at h
   ·rename_i hf;obtain⟨h1,h⟩:=Tr.aH h;have:=Tr.ay h;subst this;refine plain ⟨fun c=> ?_,aZ.nil⟩;simp only[aK];rw[if_pos hf];simp only[dR,Nv,dW,aiS,ajv]
    congr 3
    refine aiW fun x hx=> ?_
    simp only[Function.comp,←dD];have:Ku (wB fr x)=true:=(aiP.1 h1) x hx;exact OE this ℓ
   ·exact(Tr.au h).elim
  |_=>exact(Tr.au h).elim
 |makeSlice t l c=>
  obtain⟨e1,e2⟩:=y9 (ℓ:=ℓ) (H:=H) (show(lF P t (wB fr l) (wB fr c) slot).mean=some r from h) hn;exact plain ⟨fun c=>by simp only[aK,←dD,e1],e2⟩
 |slice t x lo hi mx=>
  obtain⟨e1,e2,_⟩:=Fa ha (show(ze P t (wB fr x) (lo.map (wB fr)) (hi.map (wB fr)) (mx.map (wB fr)) H).mean=some r from h);refine plain ⟨fun c=> ?_,e2⟩;simp only[aK,←dD];have conv:∀o:Option Operand,Option.map (fun x=>dV ℓ (wB fr x)) o=(o.map (wB fr)).map (dV ℓ):=fun o=>by cases o<;>rfl
  have ev':qD (dF ℓ fr)=fun x=>dV ℓ (wB fr x):=funext fun x=>(dD ℓ fr x).symm
  rw[ev',conv,conv,conv];exact e1
 |fieldAddr t x f=>
  obtain⟨u,h1,e1,e2⟩:=val h;exact plain ⟨fun c=>by simp only[aK,one,←dD,yD (ℓ:=ℓ) (Tr.bJ h1),e1,aiF],e2⟩
 |field t x f=>
  obtain⟨u,h1,e1,e2⟩:=val h;exact plain ⟨fun c=>by simp only[aK,one,←dD,FE (ℓ:=ℓ) (Tr.bJ h1),e1,aiF],e2⟩
 |indexAddr t x i=>
  obtain⟨u,h1,e1,e2⟩:=val h;exact plain ⟨fun c=>by simp only[aK,one,←dD,yK ha h1,e1,aiF],e2⟩
 |index t x i=>
  obtain⟨u,h1,e1,e2⟩:=val h;exact plain ⟨fun c=>by simp only[aK,one,←dD,D6 (ℓ:=ℓ) h1,e1,aiF],e2⟩
 |lookup t m k ok=>
  simp only[jw]at h;split at h
  ·rename_i hm;obtain⟨e1,e2⟩:=BU (ℓ:=ℓ) h
   have h0:∀(g:Nm) (a b c:Nat) (w:AV),mU P t (.ptr g a b c) w ok=none:=fun g a b c w=>by
    unfold mU;split
    ·exact AV.noConfusion ‹AV.ptr g a b c=AV.fm _›
    ·rfl
   rw[oH]at e1;exact plain ⟨fun c=>by simp only[aK,←dD,hm,oH,h0];exact e1,e2⟩
  ·obtain⟨u,h1,e1,e2⟩:=val h;exact plain ⟨fun c=>by simp only[aK,←dD,Db (ℓ:=ℓ) h1];exact congrArg some e1.symm,e2⟩
 |mapUpdate t m k v=>
  obtain⟨e1,e2⟩:=yB (ℓ:=ℓ) (show(lH P t (wB fr m) (wB fr k) (wB fr v) H).mean=some r from h);exact plain ⟨fun c=>by simp only[aK,←dD,e1],e2⟩
 |makeMap t rv=>
  cases rv with
  |none=>
   have h:(wO P t slot).mean=some r:=h;unfold wO at h;split at h
   ·have:=Tr.ay h;subst this;exact plain ⟨fun c=>rfl,aZ.nil⟩
   ·exact(Tr.au h).elim
  |some _=>exact(Tr.au h).elim
 |extract x i=>
  simp only[jw]at h;split at h
  ·rename_i vs hx;split at h
   ·rename_i v hv;obtain⟨h1,h⟩:=Tr.aH h;have:=Tr.ay h;subst this;refine plain ⟨fun c=> ?_,aZ.nil⟩;simp only[aK,←dD,hx,oD,ait,hv,aiF,dR,iF h1,dW,aiS]
   ·exact(Tr.au h).elim
  ·exact(Tr.au h).elim
 |call c=>
  simp only[jw]at h;split at h
  ·rename_i f hcal;split at h
   ·rename_i fn caps hf;obtain⟨h1,h⟩:=Tr.aH h;obtain⟨cl,s1,s2,s3⟩:=Iz ha (hc fn) h hn;refine⟨cl,s1,?_,s3⟩;simp only[aK,hcal,←dD,hf,Nv];have ev':qD (dF ℓ fr)=fun x=>dV ℓ (wB fr x):=funext fun x=>(dD ℓ fr x).symm
    rw[ev',←s2,aiL,ajv]
    congr 2
    refine aiW fun x hx=> ?_
    have:Ku x=true:=(aiP.1 h1) x hx;exact(OE this ℓ).symm
   ·exact(Tr.au h).elim
  ·rename_i hcal;split at h
   ·rename_i x t hx ht;obtain⟨u,h1,e1,e2⟩:=val h;exact plain ⟨fun c'=>by simp only[aK,hcal,hx,ht,one,←dD,KH ha (Tr.bJ h1),e1,aiF],e2⟩
   ·exact(Tr.au h).elim
  ·rename_i hcal;split at h
   ·rename_i s x t t' hx ht;obtain⟨h1,h⟩:=Tr.aH h;obtain⟨e1,e2⟩:=EI ha h hn;exact plain ⟨fun c'=>by simp only[aK,hcal,hx,ht];rw[if_pos (aix h1),←dD,←dD];exact e1,e2⟩
   ·exact(Tr.au h).elim
  ·rename_i hcal;split at h
   ·rename_i d x t t' hx ht;obtain⟨e1,e2⟩:=Hg ha h;exact plain ⟨fun c'=>by simp only[aK,hcal,hx,ht];rw[←dD,←dD];exact e1,e2⟩
   ·exact(Tr.au h).elim
  ·rename_i hcal;split at h
   ·rename_i d t hx ht;obtain⟨e1,e2⟩:=Fg ha h;exact plain ⟨fun c'=>by simp only[aK,hcal,hx,ht];rw[←dD];exact e1,e2⟩
   ·exact(Tr.au h).elim
  ·rename_i hcal;split at h
   ·rename_i x rr hx;obtain⟨u,h1,e1,e2⟩:=val h;have:=Rl (ℓ:=ℓ) _ _ _ (Tr.bJ h1);refine plain ⟨fun c'=> ?_,e2⟩;have ev':qD (dF ℓ fr)=fun x=>dV ℓ (wB fr x):=funext fun x=>(dD ℓ fr x).symm
    simp only[aK,hcal];rw[ev',show c.args.toList.map (fun x=>dV ℓ (wB fr x))=(c.args.toList.map (wB fr)).map (dV ℓ)from by rw[ajv];rfl,hx];simp only[aiE,one,this,e1,aiF]
   ·exact(Tr.au h).elim
  ·rename_i hcal;split at h
   ·rename_i x rr hx;obtain⟨u,h1,e1,e2⟩:=val h;have:=Rq (ℓ:=ℓ) _ _ _ (Tr.bJ h1);refine plain ⟨fun c'=> ?_,e2⟩;have ev':qD (dF ℓ fr)=fun x=>dV ℓ (wB fr x):=funext fun x=>(dD ℓ fr x).symm
    simp only[aK,hcal];rw[ev',show c.args.toList.map (fun x=>dV ℓ (wB fr x))=(c.args.toList.map (wB fr)).map (dV ℓ)from by rw[ajv];rfl,hx];simp only[aiE,one,this,e1,aiF]
   ·exact(Tr.au h).elim
  ·exact(Tr.au h).elim
 |_=>exact(Tr.au h).elim
end
end Go.Abs
