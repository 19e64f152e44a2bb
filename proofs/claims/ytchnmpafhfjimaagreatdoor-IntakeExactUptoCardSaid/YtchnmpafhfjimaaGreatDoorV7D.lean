/- Lemmas for the statement of the last text of this claim. -/
import Derived.Test.YtchnmpafhfjimaaGreatDoorV7C
set_option linter.unusedSimpArgs false
set_option linter.unusedVariables false
namespace Go.Proofs.YtchnmpafhfjimaaGreatDoor.Fr
open Go Go.Abs Go.RowKit Go.Maps
theorem ahe:Maps.Keyed Tryz.prog 9:=string_keyed Tryz.underlying9
set_option maxHeartbeats 6400000 in
set_option maxRecDepth 1000000 in
theorem VB(w:World)(a b:Int)(gs sl:Value)(l:List lY)(hsl:sl.oneCell'=true)(hv:PR w Ki gs (bU MB l false))(hb:wE l=true):Calls Tryz.prog 47 #[.agg #[.int .i64 a,gs,sl,.int .i64 b]] w (Dx l w):=by
 have hmm:= @run_makeMap Tryz.prog;obtain⟨ga,gb,go,gcap,rfl,ha,hc⟩:=Xp hv
 have H:Hid ((l≠ []→ga=some ⟨gb,go,none⟩)∧∀(p:Nat) (g:lY),l[p]?=some g→∃mv,w.cell? ⟨gb,go+p*5,none⟩=some (.int .i64 g.1)∧w.cell? ⟨gb,go+p*5+1,none⟩=some (.string g.2.1)∧
   w.cell? ⟨gb,go+p*5+2,none⟩=some mv∧w.cell? ⟨gb,go+p*5+3,none⟩=some (.int .i64 g.2.2.2.1)∧w.cell? ⟨gb,go+p*5+4,none⟩=some (.int .i64 g.2.2.2.2.1)∧mv.oneCell'=true∧PR w Ki mv (bU Yn g.2.2.1 false)):=⟨ha,hc⟩
 have HB:Hid (wE l=true):=hb;have hpb:=(ahm hb).len;clear ha hc hv hb;obtain⟨i9,hi9,hz9,hs9,hb9⟩:=info_parts (P:=Tryz.prog) (e:=9) (z:=.string ⟨#[]⟩) (size:=1) (bytes:=16) (by kernel_rfl);obtain⟨i51,hi51,hz51,hs51,hb51⟩:=info_parts (P:=Tryz.prog) (e:=51) (z:=.slice none 0 0) (size:=1) (bytes:=24) (by kernel_rfl)
 go_enter Tryz.func47,Tryz.ntmps47
 go_wp2
 go_loopg [4,18] l.length (fun g kv i wr=>∃(p:Nat) (kv':Value),p≤l.length∧g=l.length-p∧i= .int .i64 p∧kv'=kv∧Hid (FI w wr kv' (cu (l.take p))))
 case atStart=>
  refine⟨0,_,arO _,rfl,rfl,rfl,?_⟩;have h1:=World.ownsMap_made (H:=Value) (w.alloc (.cells #[.int .i64 a,.slice ga l.length gcap,sl,.int .i64 b] 40)) Tryz.prog 9 RV;simp only[World.size_alloc]at h1;exact FI.start ((gN (gN (World.Since.refl _ w) (arz _) (World.grownBy_alloc _ _ none) (fun k e=>by cases e)) (by simp) (World.grownBy_alloc _ _ none) (fun k e=>by cases e))) (by simp) h1
 case round=>
  obtain⟨p,kv,hp,rfl,rfl,rfl,HF⟩:=hrel;by_cases hlt:p<l.length
  ·obtain⟨g,hg⟩:∃g,l[p]?=some g:=⟨_,arw hlt⟩
   have hne:l≠ []:=fun e=>by rw[e]at hlt;simp at hlt
   have:=H.out.1 hne;subst this;obtain⟨mv,c0,c1,c2,c3,c4,om,hmv⟩:=H.out.2 p g hg;have hgb:gb<w.heap.size:=World.block_lt_of_cell? _ _ c0;obtain⟨ma,mb,mo,mcap,rfl,hma,hmc⟩:=WI hmv;have hs:=HF.out.since;have k0:wr.cell? ⟨gb,go+p*5,none⟩=some (.int .i64 g.1):=by rw[hs.cell (a:=⟨gb,go+p*5,none⟩) hgb];exact c0
   have k1:wr.cell? ⟨gb,go+p*5+1,none⟩=some (.string g.2.1):=by rw[hs.cell (a:=⟨gb,go+p*5+1,none⟩) hgb];exact c1
   have k2:wr.cell? ⟨gb,go+p*5+2,none⟩=some (.slice ma g.2.2.1.length mcap):=by rw[hs.cell (a:=⟨gb,go+p*5+2,none⟩) hgb];exact c2
   have k3:wr.cell? ⟨gb,go+p*5+3,none⟩=some (.int .i64 g.2.2.2.1):=by rw[hs.cell (a:=⟨gb,go+p*5+3,none⟩) hgb];exact c3
   have k4:wr.cell? ⟨gb,go+p*5+4,none⟩=some (.int .i64 g.2.2.2.2.1):=by rw[hs.cell (a:=⟨gb,go+p*5+4,none⟩) hgb];exact c4
   have HM:Hid ((g.2.2.1≠ []→ma=some ⟨mb,mo,none⟩)∧∀(q:Nat) (m:kV),g.2.2.1[q]?=some m→∃lv,w.cell? ⟨mb,mo+q*6,none⟩=some (.string m.1)∧w.cell? ⟨mb,mo+q*6+1,none⟩=some lv∧
    w.cell? ⟨mb,mo+q*6+2,none⟩=some (.int .i64 m.2.2.1)∧w.cell? ⟨mb,mo+q*6+3,none⟩=some (.int .i64 m.2.2.2.1)∧w.cell? ⟨mb,mo+q*6+4,none⟩=some (.bool m.2.2.2.2.1)∧w.cell? ⟨mb,mo+q*6+5,none⟩=some (.bool m.2.2.2.2.2.1)∧lv.oneCell'=true∧PR w Ki lv (bU jO m.2.1 false)):=⟨hma,hmc⟩
   clear c0 c1 c2 c3 c4 om hmv hma hmc hs
   go_wp2
   have HG:Hid (FI w (wr.alloc (.cells #[.int .i64 g.1,.string g.2.1,.slice ma g.2.2.1.length mcap,.int .i64 g.2.2.2.1,.int .i64 g.2.2.2.2.1] 110)) kv (cu (l.take p))):=HF.out.same (World.grownBy_alloc _ _ none);have HT:Hid (l[p]?=some g):=hg;clear HF k0 k1 k2 k3 k4 hg
   go_loopg [4,25] g.2.2.1.length (fun c kx j wi=>∃(q:Nat) (kv':Value),q≤g.2.2.1.length∧c=g.2.2.1.length-q∧j= .int .i64 q∧kv'=kx∧Hid (FI w wi kv' (cu (l.take p)++(g.2.2.1.take q).filter fun m=>m.2.2.2.2.1)))
   case atStart=>exact⟨0,_,arO _,rfl,rfl,rfl,by rw[asV,List.filter_nil,arP];exact HG.out⟩
   case round=>
    clear HG;obtain⟨q,kx,hq,rfl,rfl,rfl,HI⟩:=hrel;by_cases hqt:q<g.2.2.1.length
    ·obtain⟨m,hm⟩:∃m,g.2.2.1[q]?=some m:=⟨_,arw hqt⟩
     have hne2:g.2.2.1≠ []:=fun e=>by rw[e]at hqt;simp at hqt
     have:=HM.out.1 hne2;subst this;obtain⟨lv,c0,c1,c2,c3,c4,c5,olv,hlv⟩:=HM.out.2 q m hm;obtain⟨la,lb,lo,lcap,rfl,_,_⟩:=xI hlv;have hmb:mb<w.heap.size:=World.block_lt_of_cell? _ _ c0;have hs:=HI.out.since;have k0:wr.cell? ⟨mb,mo+q*6,none⟩=some (.string m.1):=by rw[hs.cell (a:=⟨mb,mo+q*6,none⟩) hmb];exact c0
     have k1:wr.cell? ⟨mb,mo+q*6+1,none⟩=some (.slice la m.2.1.length lcap):=by rw[hs.cell (a:=⟨mb,mo+q*6+1,none⟩) hmb];exact c1
     have k2:wr.cell? ⟨mb,mo+q*6+2,none⟩=some (.int .i64 m.2.2.1):=by rw[hs.cell (a:=⟨mb,mo+q*6+2,none⟩) hmb];exact c2
     have k3:wr.cell? ⟨mb,mo+q*6+3,none⟩=some (.int .i64 m.2.2.2.1):=by rw[hs.cell (a:=⟨mb,mo+q*6+3,none⟩) hmb];exact c3
     have k4:wr.cell? ⟨mb,mo+q*6+4,none⟩=some (.bool m.2.2.2.2.1):=by rw[hs.cell (a:=⟨mb,mo+q*6+4,none⟩) hmb];exact c4
     have k5:wr.cell? ⟨mb,mo+q*6+5,none⟩=some (.bool m.2.2.2.2.2.1):=by rw[hs.cell (a:=⟨mb,mo+q*6+5,none⟩) hmb];exact c5
     clear c0 c1 c2 c3 c4 c5 hs;have hB:=ahm HB.out;have hbm:=hB.mem g (arp HT.out) m (arp hm);have hql:g.2.2.1.length≤4294967296:=by exact asb (adX HT.out) hB.all
     have hpl:=asb (Ud HT.out q) hB.all;have hkl:=RF (cu (l.take p)++(g.2.2.1.take q).filter fun m=>m.2.2.2.2.1) [];simp only[List.length_nil,asQ]at hkl;have hkey:keyOf Tryz.prog 9 (.string m.1)=some (kl m.1):=WideMaps.keyOf_string_mk (P:=Tryz.prog) Tryz.underlying9 (by unfold maxLen;omega);obtain⟨D,d1,d2,d3⟩:=HI.out.map;have hx:=HI.out.keys;have hsz:=HI.out.size;have HR:Hid (PR w Ki (.slice la m.2.1.length lcap) (bU jO m.2.1 false)):=hlv;have HMm:Hid (g.2.2.1[q]?=some m):=hm;have HD2:Hid (∀k,Maps.has D (kl k)=(bY (cu (l.take p)++(g.2.2.1.take q).filter fun m=>m.2.2.2.2.1) []).any fun x=>decide (x=k)):=d2;have HD3:Hid (∀k∈bY (cu (l.take p)++(g.2.2.1.take q).filter fun m=>m.2.2.2.2.1) [],∃lv,D.atKey (kl k) zS= .held lv∧PR w Ki lv (bU jO (jM (cu (l.take p)++(g.2.2.1.take q).filter fun m=>m.2.2.2.2.1) k) false)):=d3
     obtain⟨pre,hpre⟩:∃pre,pre=cu (l.take p)++(g.2.2.1.take q).filter fun m=>m.2.2.2.2.1:=⟨_,rfl⟩
     rw[←hpre]at d1 hx hkl HD2 HD3 HI hpl;have HP:Hid (pre=cu (l.take p)++(g.2.2.1.take q).filter fun m=>m.2.2.2.2.1):=hpre;clear hlv hm d2 d3 hB hpre;generalize hhas:Maps.has D (kl m.1)=seen
     go_wp2_with (first
      |(at_lookup;refine wpList_lookup_own_ok _ rfl _ _ 154 rfl 9 51 ahe Tryz.underlying154 RV (Tryz.zeroValue51 _) zS [] rfl (w.heap.size+1) _ D rfl (d1.alloc _) _ _ rfl hkey ?_;intro v ps hv;rw[hhas])
      | (at_mapUpdate;refine wpList_mapUpdate_own _ rfl _ _ _ 154 rfl 9 51 ahe Tryz.underlying154 RV (w.heap.size+1) _ D rfl (d1.alloc _) (by unfold maxLen;omega) _ _ _ rfl rfl hkey (.held (.slice la m.2.1.length lcap)) [] rfl ?_;intro w1 hown1 hgrow1
         have k6:w1.cell? ⟨wr.heap.size,0,none⟩=some (.string m.1):=lT hgrow1 (by simp) (by intro e;have:=Option.some.inj e;omega) (Wj _ _ _ _);have hs1:=hgrow1.size)
      |(at_builtin;refine wpList_append_lies _ rfl _ _ 50 rfl (w.heap.size+2) 9 i9 (.string ⟨#[]⟩) 1 16 Tryz.underlying50 hi9 hz9 hs9 hb9 rfl (by decide) kx _ _ rfl (((hx.alloc _).kept hgrow1 (by cases hkb:kx.ownBlock with|none=>exact .inl rfl|some k=>exact .inr (by have:=(hx.lt k hkb).1;simp;omega))).alloc _) ⟨w1.heap.size,0,none⟩ 1 1 [.string m.1] rfl rfl Rb (by intro u hu;simp at hu;subst hu;rfl) (by decide) (by unfold maxLen;omega) (by omega) (by simp at hs1 ⊢;omega) _ rfl ?_;intro g2 cap2 w2 hown2 hgrow2 hat2 hlt2))
     ·have hf:m.2.2.2.2.1=true:=by assumption
      have hno:m.1∉bY pre []:=fun c=>by
       have h1:=HD2.out m.1;rw[Gd.2 c,hhas]at h1;have h2:(!seen)=true:=by assumption
       rw[h1]at h2;cases h2
      go_roundg (g.2.2.1.length-(q+1))
      case measure=>omega
      case rel=>
       refine⟨q+1,_,by omega,rfl,by go_num,rfl,?_⟩;rw[xB HMm.out,if_pos hf,←arJ,←HP.out];exact HI.out.new hno d1 HD2.out HD3.out HR.out (World.grownBy_alloc _ _ none) hown1 hgrow1 (World.grownBy_alloc _ _ none) hgrow2 hown2
     ·have hf:m.2.2.2.2.1=true:=by assumption
      have hyes:m.1∈bY pre []:=by
       have h1:=HD2.out m.1;have h2:(!seen)=false:=by assumption
       rw[hhas]at h1;cases seen
       ·cases h2
       ·exact Gd.1 h1.symm
      go_roundg (g.2.2.1.length-(q+1))
      case measure=>omega
      case rel=>
       refine⟨q+1,_,by omega,rfl,by go_num,rfl,?_⟩;rw[xB HMm.out,if_pos hf,←arJ,←HP.out];exact(HI.out.same (World.grownBy_alloc _ _ none)).seen hyes
     ·have hf:m.2.2.2.2.1=false:=by
       have h:¬ m.2.2.2.2.1=true:=by assumption
       simpa using h
      go_roundg (g.2.2.1.length-(q+1))
      case measure=>omega
      case rel=>
       refine⟨q+1,_,by omega,rfl,by go_num,rfl,?_⟩;rw[xB HMm.out,if_neg (by rw[hf];simp),arP,←HP.out];exact HI.out.same (World.grownBy_alloc _ _ none)
    ·have hqe:q=g.2.2.1.length:=by omega
     have HE:Hid (FI w wr kx (cu (l.take (p+1)))):=by
      have:=HI.out;rw[hqe,asq,←aa2 HT.out]at this;exact this
     clear HI
     go_wp2
     go_roundg (l.length-(p+1))
     case measure=>omega
     case rel=>exact⟨p+1,_,by omega,rfl,by go_num,rfl,HE.out⟩
  ·have hpe:p=l.length:=by omega
   have HE:Hid (FI w wr kv (cu l)):=by
    have:=HF.out;rw[hpe,asq]at this;exact this
   have hB:=ahm HB.out
   have hkl:(kW l).length≤4294967296:=by
    have h1:=RF (cu l) [];have h2:=Um l;have h3:=hB.all;simp only[List.length_nil,asQ]at h1;exact asb h1 (asb h2 h3)
   clear HF;have hsort:=R5 HE.out.keys hkl;obtain⟨ka,kg,kcap,rfl,hka⟩:=aax HE.out.keys;have HK:Hid ((kW l).length≠0→ka=some ⟨kg,0,none⟩):=hka;clear hka;obtain⟨N,hN⟩:∃N,N=(kW l).length:=⟨_,rfl⟩
   go_wp2_with (go_at_call 102;refine hsort.mono ?_;rintro e w1 ⟨rfl,hown1,hgrow1⟩)
   have HS:Hid (w.Since w.heap.size w1∧w1.ownsRow (w.heap.size+2) 9 1 (.slice ka (kW l).length kcap) (kW l).length ((sorted (kW l)).map encStr)∧∃D,w1.ownsMap Tryz.prog 9 RV (w.heap.size+1) (cu l).length D∧
     ∀k∈kW l,∃lv,D.atKey (kl k) zS= .held lv∧PR w Ki lv (bU jO (jM (cu l) k) false)):=by
    obtain⟨D,d1,d2,d3⟩:=HE.out.map;have hlt:=HE.out.keys.lt;have hsz:=HE.out.size;refine⟨gN HE.out.since (by omega) hgrow1 (fun k e=>by have:=(hlt k e).1;omega),hown1,D,d1.kept hgrow1 ?_,d3⟩;intro e;have:=(hlt _ e.symm).1;omega
   clear HE hsort hown1 hgrow1
   go_loopg [11,58] (kW l).length (fun c ov i wo=>∃(q:Nat) (ov':Value),q≤(kW l).length∧c=(kW l).length-q∧i= .int .i64 q∧ov'=ov∧Hid (OI l w1 wo ov' q))
   case atStart=>exact⟨0,_,arO _,rfl,rfl,rfl,OI.start l w1⟩
   case round=>
    obtain⟨q,ov,hq,rfl,rfl,rfl,HO⟩:=hrel;by_cases hqt:q<(kW l).length
    ·have hkq:q<(sorted (kW l)).length:=by rw[zJ];exact hqt
     obtain⟨k,hk⟩:∃k,(sorted (kW l))[q]?=some k:=⟨_,arw hkq⟩
     have hmem:=Si (arp hk);obtain⟨gx,hgx,mx,hmx,emx⟩:=acG hmem;have hkb:=(hB.mem gx hgx mx hmx).1;rw[emx]at hkb;have:=HK.out (by omega);subst this;obtain⟨s1,s2,D,s3,s4⟩:=HS.out
     have k0:wr.cell? ⟨kg,q,none⟩=some (.string ⟨k.toArray⟩):=by
      have h1:w1.cell? ⟨kg,q,none⟩=((sorted (kW l)).map encStr)[q]?:=s2.cellAt q (by omega);rw[ars,hk]at h1;exact lT HO.out.grown (s2.lt kg rfl).2 (by simp) h1
     have hkey:keyOf Tryz.prog 9 (.string ⟨k.toArray⟩)=some (kl ⟨k.toArray⟩):=WideMaps.keyOf_string_mk (P:=Tryz.prog) Tryz.underlying9 (by unfold maxLen;omega);obtain⟨v,ps,hrun,hv⟩:=(s3.kept HO.out.grown (by simp)).lookup ahe Tryz.underlying154 (Tryz.zeroValue51 _) (zd:=zS) (zp:=[]) rfl hkey;obtain⟨lv,e1,e2⟩:=s4 _ hmem;rw[e1]at hv;have hve:v=lv:=(show v=lv∧ps=[] by simpa[RV]using hv).1;subst hve;obtain⟨la,lb,lo,lcap,rfl,_,_⟩:=xI e2;have hsw:w.Since w.heap.size wr:=gN s1 s1.size HO.out.grown (fun k e=>by cases e);have hclone:=Pp (XO e2 hsw) (adH hB k);obtain⟨xs,hx,hr⟩:=HO.out.rows;have HR:Hid (∀(p:Nat) (y:Value),xs[p]?=some y→∃k,(sorted (kW l))[p]?=some k∧nA wr w1.heap.size ov.ownBlock y (yS l k)):=hr;have HKQ:Hid ((sorted (kW l))[q]?=some k):=hk;have hsz:=HO.out.grown.size;clear s1 s2 s3 s4 hv e2 hsw hr hk hmem emx hgx hmx
     go_wp2_with (first
      | (go_at_call 103;refine hclone.mono ?_;rintro e w2 ⟨v',rfl,hpr,ho,hbel⟩
         obtain⟨va,vb,vo,vcap,rfl,_,_⟩:=xI hpr;have hg2:=P6 hbel;have HL:Hid (nA w2 wr.heap.size none (.slice va (jM (cu l) ⟨k.toArray⟩).length vcap) (yS l k)):=aiC hpr;have hsz2:=hg2.size)
      |(at_builtin;refine wpList_append_lies _ rfl _ _ 94 rfl w1.heap.size 51 i51 (.slice none 0 0) 1 24 Tryz.underlying94 hi51 hz51 hs51 hb51 rfl (by decide) ov q xs rfl ((hx.kept hg2 (by cases ov.ownBlock with|none=>exact .inl rfl|some k=>exact .inr (by simp))).alloc _) ⟨w2.heap.size,0,none⟩ 1 1 [.slice va (jM (cu l) ⟨k.toArray⟩).length vcap] rfl rfl Rb (by intro u hu;simp at hu;subst hu;rfl) (by decide) (by unfold maxLen;omega) (by omega) (by simp;omega) _ rfl ?_;intro g3 cap3 w3 hown3 hgrow3 hat3 hlt3))
     go_roundg ((kW l).length-(q+1))
     case measure=>omega
     case rel=>exact⟨q+1,_,by omega,rfl,by go_num,rfl,HO.out.step hx HR.out HKQ.out HL.out hg2 hgrow3 hown3 hat3⟩
    ·have hqe:q=(kW l).length:=by omega
     have HD:Hid (OI l w1 wr ov (sorted (kW l)).length):=by rw[zJ,←hqe];exact HO.out
     clear HO
     go_wp2
     go_ret
     exact HD.out.done HS.out.1
theorem ahR:fu Tryz.prog 47 Ve:=adK (entered Tryz.func47 rfl (by decide)) VB
end Go.Proofs.YtchnmpafhfjimaaGreatDoor.Fr
namespace Go.Proofs.YtchnmpafhfjimaaGreatDoor
open Go Go.Abs
noncomputable section
abbrev aQ:Abs.Ty:=.int .i64
abbrev rIz:Abs.Ty:=.row aQ
abbrev Jp:Abs.Ty:=.row .str
abbrev fe:Type:=(List (ByteArray×ByteArray×Unit))
abbrev mI:Type:=(ByteArray×fe×Int×Int×Bool×Bool×Unit)
abbrev Y3:Type:=(Int×ByteArray×(List mI)×Int×Int×Unit)
abbrev yJ:Abs.Ty:=(.cons aQ (.cons aQ (.cons aQ (.cons .str (.cons (.row .str) (.cons (.row .str) .unit))))))
abbrev qO:Type:=((Int×ByteArray×Int×Int×Unit)×Unit)
abbrev zB:Type:=((Int×Int×Int×ByteArray×Unit)×Unit)
abbrev Gr:Type:=(Int×Int×Int×ByteArray×(List ByteArray)×(List ByteArray)×Unit)
abbrev Z22:Abs.Ty:=(.cons (.row aQ) (.cons aQ .unit))
abbrev qC:Type:=((Int×Int×Unit)×Unit)
abbrev eF:Type:=((Bool×Unit)×(Unit))
abbrev Om:Type:=(((List Int)×Int×Unit)×Unit)
abbrev Z31:Abs.Ty:=(.cons .str (.cons .str .unit))
abbrev jH:Abs.Ty:=(.row Z31)
abbrev Z7:Abs.Ty:=(.cons .str (.cons jH (.cons aQ (.cons aQ (.cons .bool (.cons .bool .unit))))))
abbrev Z1:Abs.Ty:=(.cons aQ (.cons .str (.cons (.row Z7) (.cons aQ (.cons aQ .unit)))))
abbrev Rh:Abs.Ty:=(.cons aQ (.cons jH (.cons .bool .unit)))
abbrev Jc:Type:=(Int×fe×Bool×Unit)
abbrev Z33:Abs.Ty:=(.cons .str (.cons aQ (.cons .str .unit)))
abbrev Z2:Abs.Ty:=(.row Z33)
abbrev Z5:Abs.Ty:=(.cons aQ (.cons Z2 (.cons aQ (.cons (.row .str) (.cons aQ (.cons aQ (.cons aQ (.cons .bool .unit))))))))
abbrev Z6:Abs.Ty:=(.cons aQ (.cons aQ (.cons aQ (.cons aQ (.cons Z2 .unit)))))
abbrev Rj:Abs.Ty:=(.cons aQ (.cons (.row Z1) (.cons (.row Z6) (.cons aQ .unit))))
abbrev LQ:Abs.Ty:=(.cons Z2 (.cons Z2 (.cons (.row .str) .unit)))
abbrev Z9:Abs.Ty:=(.cons (.row Z5) (.cons (.row LQ) (.cons aQ .unit)))
abbrev J7:Type:=(Int×Int×Int×Unit)
abbrev Pv:Type:=(ByteArray×Int×ByteArray×Unit)
abbrev Y4:Type:=(List Pv)
abbrev mJ:Type:=(Int×Y4×Int×(List ByteArray)×Int×Int×Int×Bool×Unit)
abbrev Dp:Type:=(List (Y4×Y4×(List ByteArray)×Unit))
abbrev Y8:Type:=((List mJ)×Dp×Int×Unit)
abbrev Ol:Type:=(Int×Int×Int×Int×Y4×Unit)
abbrev kQ:Type:=(List Ol)
abbrev TI:Type:=(Int×(List Y3)×kQ×Int×Unit)
abbrev Y23:Type:=((TI×Unit)×(Y8×Unit)×Om×(Ol×Unit)×(Jc×Unit)×(TI×Unit)×(TI×Unit)×((Int×Unit)×Unit)×(List mJ)×Dp×Unit)
abbrev VY:Type:=((Int×kQ×Int×Unit)×Unit)
abbrev Sc:Type:=((List Y3)×(Y8×Unit)×qC×kQ×Unit)
abbrev Gj:Type:=((ByteArray×Unit)×(Unit))
abbrev Y38:Type:=((List mI)×zB×(List ByteArray)×(List ByteArray)×Unit)
abbrev Y39:Type:=(qO×zB×(Y3×Unit)×qO×zB×(mJ×Unit)×(List mI)×(List ByteArray)×(List ByteArray)×Unit)
abbrev Y40:Type:=((Y8×Unit)×(TI×Unit)×Unit)
abbrev Y41:Type:=(qO×(mJ×Unit)×qO×(List mI)×Unit)
abbrev Oo:Type:=((Unit)×((List Int)×Unit))
abbrev cZ:Abs.Sh:=(.dat aQ .nil)
abbrev Qq:Abs.Sh:=(.agg (.dat aQ (.dat aQ (.dat aQ (.dat .str (.st .nil (.st .nil .nil)))))) .nil)
abbrev DF:Abs.Sh:=(.agg (.dat aQ (.st .nil (.st .nil cZ))) .nil)
abbrev l9:Abs.Sh:=(.dat aQ cZ)
abbrev EN:Abs.Sh:=(.agg (.dat aQ (.dat .str (.st .nil l9))) .nil)
abbrev Qb8:Abs.gm:=(.box 9 (.agg (.dat (.row Z5) (.dat (.row LQ) (.dat aQ (.dat aQ (.part Z1 (1,0) (.st (.own Z6 (2,0)) (.dat aQ (.st (.own yJ (3,0)) cZ)))))))) .nil) (.arr Z1 false (.arr Z6 false (.arr yJ false .nil))))
abbrev eH:Abs.Sh:=(.dat .bool .nil)
abbrev zm:Abs.gm:=(.arr Z7 false (.box 5 EN (.box 5 (.agg (.dat aQ (.dat .str (.st (.own Z7 (0,0)) l9))) .nil) .nil)))
abbrev gQ:Abs.nE:=(.ptr (0,0) 5 0 0)
abbrev ZV:Abs.Sh:=(.agg (.dat aQ (.dat aQ (.dat aQ (.dat .str (.st (.own .str (5,0)) (.st (.own .str (6,0)) .nil)))))) .nil)
abbrev ah7:Abs.Sh:=(.agg (.dat aQ (.dat aQ (.dat aQ (.dat .str (.st (.own .str (6,0)) (.st (.own .str (7,0)) .nil)))))) .nil)
abbrev fV:Abs.nE:=(.ptr (0,0) 4 0 0)
abbrev rW:Abs.nE:=(.ptr (1,0) 5 0 0)
abbrev iJ:Abs.Sh:=(.dat .str .nil)
abbrev Oi:Abs.gm:=(.arr .str false (.arr .str false .nil))
abbrev aqg:Abs.gm:=(.box 6 (.agg (.dat aQ (.dat aQ (.dat aQ (.dat .str (.st (.own .str (2,0)) (.st (.own .str (3,0)) .nil)))))) .nil) Oi)
abbrev p8:Abs.nE:=(.ptr (2,0) 5 0 0)
abbrev amV:Abs.Sh:=(.agg (.dat aQ (.dat aQ (.dat aQ (.dat .str (.st (.own .str (4,0)) (.st (.own .str (5,0)) .nil)))))) .nil)
abbrev kU:Abs.nE:=(.ptr (1,0) 4 0 0)
abbrev kD:Abs.Sh:=(.dat Z9 .nil)
abbrev mZ:Abs.Sh:=(.dat Z22 .nil)
abbrev RA:Abs.Sh:=(.st gQ (.dat aQ (.st (.ptr (1,0) 8 0 0) (.dat aQ (.st p8 .nil)))))
abbrev kT:Abs.nE:=(.ptr (2,0) 3 0 0)
abbrev sK:Abs.nE:=(.ptr (1,0) 6 0 0)
abbrev Cq:Abs.gm:=(.arr aQ false .nil)
abbrev zi:Abs.nE:=(.ptr (0,0) 2 0 0)
abbrev nJ:Abs.gm:=(.arr Z6 false .nil)
abbrev acZ:Abs.gm:=(.box 4 DF (.box 4 (.agg (.dat aQ (.st (.own Z1 (5,0)) (.st (.own Z6 (6,0)) cZ))) .nil) (.box 3 (.dat Rh .nil) (.box 3 kD (.arr aQ false (.arr Z1 false nJ))))))
abbrev kS:Abs.Sh:=(.dat Rj .nil)
abbrev Dg:Abs.gm:=(.box 4 kS .nil)
abbrev NU:Abs.nE:=(.own aQ (0,0))
abbrev qL:Abs.gm:=(.arr Z1 false .nil)
abbrev yM:Abs.nE:=(.ptr (3,0) 4 0 0)
abbrev mF:Abs.Sh:=(.dat jH .nil)
abbrev yC:Abs.nE:=(.own Z1 (0,0))
abbrev Yo:Abs.gm:=(.arr Z1 false (.box 3 kD (.box 4 (.agg (.dat aQ (.st yC (.st (.own Z6 (3,0)) cZ))) .nil) nJ)))
abbrev CF:Abs.nE:=(.ptr (3,0) 5 0 0)
abbrev qi:Abs.nE:=(.ptr (1,0) 3 0 0)
abbrev Ic:Abs.Sh:=(.dat aQ eH)
abbrev aec:Abs.Sh:=(.dat aQ (.st (.ptr (4,0) 8 0 0) .nil))
abbrev agM:Abs.Sh:=(.agg (.dat aQ (.dat aQ (.dat aQ (.dat .str (.st (.own .str (3,0)) (.st (.own .str (4,0)) .nil)))))) .nil)
abbrev ql:Abs.gm:=(.box 2 mZ .nil)
abbrev acK:Abs.Sh:=(.dat aQ (.st yC (.st (.clo 132 [((1,0),3,0,0),((2,0),4,0,0)]) cZ)))
abbrev wP:Abs.Sh:=(.dat Z5 .nil)
abbrev aen:Abs.gm:=(.box 5 (.agg (.dat aQ (.dat .str (.st (.own Z7 (5,0)) l9))) .nil) (.box 5 EN (.box 6 Qq (.box 6 ah7 (.box 8 wP (.arr Z7 false Oi))))))
abbrev amO:Abs.gm:=(.box 8 wP (.box 5 (.agg (.dat aQ (.dat .str (.st (.own Z7 (0,0)) l9))) .nil) Oi))
abbrev Aa:Abs.Sh:=(.dat (.row Z6) cZ)
abbrev Yg:Abs.gm:=(.box 4 DF (.box 4 (.agg (.dat aQ (.st (.own Z1 (6,0)) Aa)) .nil) (.box 3 (.dat Rh .nil) (.arr aQ false (.box 3 kD (.box 8 wP qL))))))
abbrev alf:Abs.Sh:=(.agg (.dat aQ (.st yC Aa)) .nil)
abbrev ahO:Abs.gm:=(.box 4 DF (.box 4 (.agg (.dat aQ (.st (.own Z1 (5,0)) Aa)) .nil) (.box 3 (.dat Rh .nil) (.arr aQ false (.box 3 kD qL)))))
abbrev acJ:Abs.gm:=(.arr Z1 false (.arr jH false (.arr .str false (.box 4 alf (.box 6 (.dat Z7 .nil) .nil)))))
abbrev agU:Abs.gm:=(.box 4 (.agg (.dat aQ (.part Z1 (2,0) (.st (.own Z6 (3,0)) cZ))) .nil) (.arr yJ false (.arr Z1 false nJ)))
abbrev aiz:Abs.gm:=(.box 4 kS (.box 3 (.agg (.st (.own Z5 (2,0)) (.st (.own LQ (3,0)) cZ)) .nil) (.arr Z5 true (.arr LQ true .nil))))
abbrev pz:Abs.Sh:=(.dat Z1 .nil)
abbrev aaN:Abs.gm:=(.box 5 (.agg (.dat aQ (.dat .str (.st (.own Z7 (6,0)) l9))) .nil) (.box 6 (.agg (.dat aQ (.dat aQ (.dat aQ (.dat .str (.st (.own .str (7,0)) (.st (.own .str (8,0)) .nil)))))) .nil) (.box 5 pz (.box 5 EN (.box 6 Qq (.box 8 wP (.arr Z7 false Oi)))))))
abbrev yF:Abs.gm:=(.box 5 pz .nil)
abbrev Xc:Abs.nE:=(.ptr (0,0) 6 0 0)
abbrev DN:Abs.Sh:=(.dat aQ l9)
abbrev JV:Abs.Sh:=(.dat Jp .nil)
abbrev Fw:Abs.Sh:=(.dat aQ iJ)
abbrev ady:Abs.gm:=(.arr jH false (.arr .str false (.box 4 kS (.box 6 (.dat Z7 .nil) .nil))))
abbrev Dq:Abs.nE:=(.ptr (0,0) 3 0 0)
abbrev Pm:Abs.Sh:=(.st gQ (.st rW .nil))
abbrev zF:Abs.nE:=(.ptr (2,0) 4 0 0)
abbrev JB:Abs.nE:=(.ptr (2,0) 6 0 0)
abbrev Ho:Abs.nE:=(.ptr (5,0) 8 0 0)
abbrev BN:Abs.gm:=(.arr Z31 false .nil)
abbrev acD:Abs.gm:=(.arr Z1 false (.arr jH false (.arr .str false (.box 4 alf .nil))))
abbrev JL:Abs.Sh:=(.st rW (.st p8 .nil))
abbrev ahK:Abs.Sh:=(.st (.own .bool (0,0)) (.st (.own .bool (1,0)) (.dat .str (.dat aQ (.dat .str cZ)))))
abbrev LZ:Abs.gm:=(.box 3 kD Dg)
abbrev WY:Abs.Sh:=(.dat aQ (.st gQ .nil))
abbrev Fq:Abs.Sh:=(.dat Z6 .nil)
abbrev Qb6:Abs.gm:=(.box 4 kS (.box 3 kD (.box 2 mZ (.box 5 Fq (.box 3 (.dat Rh .nil) (.box 4 kS (.box 4 kS (.box 3 (.agg (.st (.own Z5 (8,0)) (.st (.own LQ (9,0)) cZ)) .nil) (.arr Z5 true (.arr LQ true .nil))))))))))
abbrev yE:Abs.gm:=(.arr Z7 false .nil)
abbrev AX:Abs.gm:=(.box 5 (.agg (.dat aQ (.dat .str (.st (.own Z7 (1,0)) l9))) .nil) yE)
abbrev LJ:Abs.gm:=(.box 5 (.agg (.dat aQ (.dat .str (.st (.own Z7 (3,0)) l9))) .nil) (.box 8 wP (.box 5 EN yE)))
abbrev Rz:Abs.gm:=(.box 5 EN (.box 5 (.agg (.dat aQ (.dat .str (.st (.own Z7 (2,0)) l9))) .nil) yE))
abbrev acF:Abs.gm:=(.box 8 wP (.arr .str false (.arr .str false yE)))
abbrev ahp:Abs.gm:=(.box 6 ah7 (.box 5 pz (.box 5 (.agg (.dat aQ (.dat .str (.st (.own Z7 (8,0)) l9))) .nil) (.box 5 EN (.box 6 Qq acF)))))
abbrev aiE:Abs.gm:=(.box 5 EN (.box 6 Qq (.box 6 ZV (.box 5 (.agg (.dat aQ (.dat .str (.part Z7 (7,0) l9))) .nil) acF))))
abbrev acL:Abs.Sh:=(.st (.clo 132 [((1,0),3,0,0),((2,0),4,0,0)]) .nil)
abbrev Fa:Abs.nE:=(.own .str (1,0))
abbrev ahZ:Abs.Sh:=(.st (.own jH (0,0)) (.st Fa (.dat aQ (.st zF (.dat aQ (.st (.ptr (3,0) 6 0 0) cZ))))))
abbrev SI:Abs.nE:=(.own Z6 (0,0))
abbrev Hg:Abs.nE:=(.own Z1 (1,0))
abbrev DT:Abs.gm:=(.box 4 (.agg (.dat aQ (.st Hg (.st (.own Z6 (2,0)) cZ))) .nil) (.arr Z1 false nJ))
abbrev MG:Abs.nE:=(.ptr (4,0) 6 0 0)
abbrev ahY:Abs.Sh:=(.st (.own jH (1,0)) (.st (.own .str (2,0)) (.dat aQ (.st yM (.dat aQ (.st MG cZ))))))
abbrev F4:Abs.nE:=(.ptr (4,0) 3 0 0)
abbrev Yk:Abs.Sh:=(.st (.ptr (2,0) 2 0 0) (.st CF (.dat aQ (.st F4 (.dat (.cons Rj (.cons Rj .unit)) (.st (.ptr (5,0) 4 0 0) (.st (.ptr (6,0) 4 0 0) (.dat (.cons Z9 (.cons Z9 (.cons Z9 .unit))) (.st (.ptr (7,0) 3 0 0) DN)))))))))
abbrev agH:Abs.Sh:=(.st (.ptr (2,0) 2 0 0) (.st CF (.dat aQ (.st F4 (.dat (.cons Rj (.cons Rj .unit)) (.st (.ptr (5,0) 4 0 0) (.st (.ptr (6,0) 4 0 0) (.dat (.cons Z9 (.cons Z9 (.cons Z9 .unit))) (.st (.ptr (7,0) 3 0 0) (.dat aQ DN))))))))))
abbrev iN:Type:=(Int×Unit)
abbrev yc:Type:=(TI×Unit)
abbrev qR:Type:=((Unit)×(Unit))
abbrev qG:Type:=(Int×Int×Unit)
abbrev Yq5:Type:=((((List mJ)×Dp×Int×Int×(Nat×Nat)×Int×Int×Unit)×Unit)×(List Y3)×kQ×(List Gr)×Unit)
abbrev L9:Type:=(mJ×Unit)
abbrev Yq7:Type:=((Int×ByteArray×(Nat×Nat)×Int×Int×Unit)×Unit)
abbrev uo:Type:=(iN×(Unit))
abbrev X6:Type:=(((List mJ)×Int×fe×Unit)×(Unit))
abbrev RZ:Type:=((List mI)×qO×qO×Unit)
abbrev JU:Type:=(qC×(List Y3)×kQ×Unit)
abbrev adq:Type:=(qC×VY×(Jc×Unit)×(List Int)×(Y8×Unit)×L9×(List Y3)×Unit)
abbrev uj:Type:=(Bool×Int×Unit)
abbrev Yy:Type:=(qO×qO×zB×zB×L9×(List mI)×(List ByteArray)×(List ByteArray)×Unit)
abbrev Fe:Type:=(iN×(qO×(List mI)×Unit))
abbrev Nr:Type:=(ByteArray×ByteArray×Unit)
abbrev ahQ:Type:=((List mI)×zB×zB×L9×qO×(List ByteArray)×(List ByteArray)×Unit)
abbrev JG:Type:=(fe×Unit)
abbrev aa4:Type:=(Int×(List mI)×Int×Unit)
abbrev MI:Type:=((Y3×Unit)×Unit)
abbrev ajt:Type:=(zB×(Y3×Unit)×qO×qO×zB×L9×(List ByteArray)×(List ByteArray)×(List mI)×Unit)
abbrev mY:Type:=(Bool×Unit)
abbrev YG:Type:=(qC×qC×(Jc×Unit)×(Y8×Unit)×(List Int)×(List Y3)×kQ×Unit)
abbrev WG:Type:=((List Y3)×(List fe)×(List ByteArray)×VY×Unit)
abbrev aan:Type:=((List Y3)×(List fe)×(List ByteArray)×VY×(mI×Unit)×Unit)
abbrev aid:Type:=(ByteArray×ByteArray×ByteArray×ByteArray×Unit)
abbrev Jk:Type:=(Y8×Y8×Y8×Unit)
abbrev ZT:Type:=(qG×((List Y3)×(List Y3)×(Y8×Unit)×Unit))
abbrev ZP:Type:=((List fe)×(List ByteArray)×yc×(mI×Unit)×Unit)
abbrev abQ:Type:=(qO×qO×(List mI)×Unit)
abbrev MK:Type:=((List Y3)×Unit)
abbrev ahU:Type:=(J7×((Y3×Unit)×(List ByteArray)×(List fe)×yc×(Y8×Unit)×VY×qC×(List Gr)×(List Y3)×Unit))
abbrev EZ:Type:=((List Int)×Unit)
abbrev aef:Type:=(iN×(qC×VY×(Jc×Unit)×(List Int)×(Y8×Unit)×(List Y3)×Unit))
abbrev Vt:Type:=((List fe)×(List ByteArray)×yc×Unit)
abbrev QU:Type:=((Int×Y4×Int×Unit)×(Unit))
abbrev LM:Type:=(TI×TI×Unit)
abbrev Sl:Type:=((Int×ByteArray×Unit)×(Unit))
abbrev IC:Type:=(kQ×Unit)
abbrev Rl:Type:=(Om×Unit)
abbrev JM:Type:=(Bool×Int×Int×Unit)
abbrev Mq:Type:=(Ol×Unit)
abbrev ahH:Type:=((Int×(Nat×Nat)×Int×Unit)×Unit)
abbrev Ra:Type:=(iN×Unit)
abbrev ak4:Type:=(zB×Yq7×(List mI)×qO×zB×L9×(List ByteArray)×(List ByteArray)×Unit)
abbrev ahD:Type:=(qO×zB×zB×Yq7×L9×(List ByteArray)×(List ByteArray)×(List mI)×Unit)
abbrev WR:Type:=((ByteArray×Int×Unit)×(Unit))
abbrev aci:Type:=((List Int)×(List Int)×Unit)
abbrev ald:Type:=((Int×(List Jc)×Int×Int×Unit)×(qC×(((List mJ)×Dp×Int×Int×(Nat×Nat)×Int×Int×Unit)×Unit)×(Y8×Unit)×(List Y3)×kQ×(List Gr)×Unit))
abbrev ah5:Type:=((ByteArray×Int×ByteArray×Int×Unit)×((List Bool)×(List Bool)×Unit))
abbrev V9:Type:=((Gr×Unit)×(Gr×Unit)×Unit)
abbrev ai2:Type:=(qG×((List fe)×yc×(Y8×Unit)×(List Gr)×VY×qC×(List Y3)×Unit))
abbrev YI:Type:=((List ByteArray)×Unit)
abbrev al9:Type:=((Y8×Unit)×Om×Mq×(Jc×Unit)×yc×yc×Ra×(List mJ)×Dp×Unit)
abbrev Xb:Type:=((Y3×Unit)×(Unit))
abbrev Sw:Type:=(yc×Unit)
abbrev alB:Type:=(Int×(List Y3)×Int×Unit)
abbrev Rx:Type:=((List mI)×Unit)
abbrev Xz:Type:=(Bool×Int×Int×Int×Unit)
abbrev ah8:Type:=(Om×Mq×(Jc×Unit)×yc×yc×Ra×(List mJ)×Dp×Unit)
abbrev ajo:Type:=(Int×(List fe)×(List mI)×Int×Unit)
abbrev aaI:Type:=(Om×(List ByteArray)×Unit)
abbrev ahG:Type:=((List Y3)×kQ×(List ByteArray)×qC×(Y8×Unit)×Unit)
abbrev YL:Type:=((Y8×TI×Int×Unit)×(Unit))
abbrev ZM:Type:=((Y8×Unit)×(Y3×Unit)×Unit)
abbrev akM:Type:=((List Gr)×qC×(Y8×Unit)×(List Y3)×qC×kQ×Unit)
abbrev acp:Type:=((Int×ByteArray×Int×Unit)×(Unit))
abbrev adC:Type:=((Int×fe×ByteArray×Unit)×(Unit))
abbrev XD:Type:=(qO×L9×(Y3×Unit)×Unit)
abbrev NM:Type:=((Unit)×RZ)
abbrev ab2:Type:=(yc×Ra×(List mJ)×Dp×Unit)
abbrev al6:Type:=((Y3×mJ×Int×(List ByteArray)×Unit)×(Unit))
abbrev ahg:Type:=(((List ByteArray)×ByteArray×Unit)×(Unit))
abbrev adN:Type:=(Om×yc×(Y8×Unit)×qC×Unit)
abbrev VU:Type:=(aa4×(Unit))
abbrev adZ:Type:=(((List mJ)×Unit)×(Unit))
abbrev adU:Type:=((Y3×Unit)×(Y3×Unit)×Unit)
abbrev ajR:Type:=(qO×zB×zB×qO×L9×(List ByteArray)×(List ByteArray)×(List mI)×Unit)
abbrev aiL:Type:=(ahH×(List Gr)×(List Y3)×kQ×Unit)
abbrev RJ:Type:=((Unit)×Rl)
abbrev anl:Type:=((Int×ByteArray×Int×ByteArray×Unit)×((List Bool)×(List Bool)×Unit))
abbrev Mf:Type:=(iN×Rl)
abbrev ahz:Type:=(Bool×(List ByteArray)×Int×Unit)
abbrev aai:Type:=((List fe)×Unit)
abbrev agK:Type:=(Int×LM×Jk×Int×Int×Int×Unit)
abbrev ajj:Type:=((Int×(Jc×Jc×Jc×Unit)×Int×LM×Jk×Int×Int×Int×Unit)×Y23)
abbrev agF:Type:=((Int×Int×ByteArray×Unit)×adq)
abbrev aco:Type:=(Om×(List mJ)×Unit)
abbrev ahP:Type:=((Y3×Unit)×(Y8×Unit)×yc×Unit)
abbrev acP:Type:=(JG×JG×Unit)
abbrev agx:Type:=((Int×(List ByteArray)×(List ByteArray)×Int×Unit)×(Unit))
abbrev Lr:Type:=((Unit)×abQ)
abbrev aeJ:Type:=((Int×(Ol×Ol×Unit)×Int×LM×Jk×Int×Int×Int×Unit)×Y23)
abbrev UN:Type:=(Y4×Y4×(List ByteArray)×Unit)
abbrev Xi:Type:=((UN×Unit)×Unit)
abbrev akl:Type:=((Int×fe×(List fe)×(List fe)×Dp×Int×Int×Int×Unit)×Xi)
abbrev akr:Type:=((List Y3)×Int×Unit)
abbrev ZB:Type:=((List Y3)×iN×Unit)
abbrev Ux:Type:=((Pv×Unit)×(Unit))
abbrev aal:Type:=(Bool×Int×Int×Int×Int×Unit)
abbrev X9:Type:=(Int×Int×kQ×Bool×Int×Unit)
abbrev aeY:Type:=((Int×Int×Int×Int×ByteArray×ByteArray×Unit)×(Unit))
abbrev afs:Type:=((Int×(List ByteArray)×ByteArray×Int×Unit)×(Unit))
abbrev OP:Type:=(Om×fe×Unit)
abbrev U7:Type:=((List Bool)×Unit)
abbrev GY:Type:=(L9×Unit)
abbrev IY:Type:=(iN×IC)
abbrev aeR:Type:=((ByteArray×(List mI)×Int×Int×Int×Unit)×(Unit))
abbrev Zx:Type:=(Bool×ByteArray×Int×Unit)
abbrev aeS:Type:=((Int×Bool×(List ByteArray)×Int×Int×Unit)×ahQ)
abbrev agz:Type:=((Bool×(List ByteArray)×Int×Int×Int×Unit)×ahQ)
abbrev KL:Type:=(Mq×Unit)
abbrev XQ:Type:=(Bool×Bool×Int×Int×Unit)
abbrev afp:Type:=((Int×ByteArray×(List ByteArray)×Unit)×(Unit))
abbrev Q7:Type:=(JG×(Unit))
abbrev O1:Type:=((Unit)×JG)
abbrev YP:Type:=((Unit)×MK)
abbrev aff:Type:=((Int×J7×Int×LM×Jk×Int×Int×Int×Unit)×Y23)
abbrev agi:Type:=((Unit)×Sw)
abbrev afe:Type:=((Int×(List mJ)×(List mJ)×Int×Unit)×(Unit))
abbrev agw:Type:=((Int×Int×Bool×fe×Int×kQ×Int×Unit)×(Unit))
abbrev aey:Type:=(J7×((Y8×Unit)×qC×(List Y3)×qC×kQ×Unit))
abbrev agb:Type:=((Int×(List ByteArray)×fe×fe×Unit)×(Unit))
abbrev Ug:Type:=(iN×(qC×Unit))
abbrev afo:Type:=(qG×(VY×(Y8×Unit)×yc×qC×(List Y3)×Unit))
abbrev aga:Type:=((Int×Bool×(List ByteArray)×Int×Unit)×ajt)
abbrev afO:Type:=((Bool×(List ByteArray)×Int×Int×Unit)×ajt)
abbrev afw:Type:=((Int×Int×Bool×(List Y3)×Int×Unit)×(Unit))
abbrev afA:Type:=((fe×(List fe)×Dp×Int×Int×Unit)×(Unit))
abbrev afW:Type:=((Int×fe×(List fe)×Dp×Int×Unit)×(Unit))
abbrev afR:Type:=((Dp×kQ×fe×(List fe)×Int×Unit)×(Unit))
abbrev afZ:Type:=((Y8×TI×Unit)×(Unit))
abbrev Zb:Type:=(Int×Int×Int×Int×Unit)
abbrev agj:Type:=((Int×(List fe)×fe×Int×Dp×Unit)×(Unit))
abbrev KQ:Type:=(J7×JU)
abbrev aeI:Type:=((Int×(List ByteArray)×fe×Int×Unit)×JG)
abbrev afN:Type:=((fe×(List ByteArray)×Int×Int×Unit)×JG)
abbrev agd:Type:=(ZT⊕((Unit)×((List Y3)×(List Y3)×Unit)))
abbrev Uf:Type:=(Int×Bool×Unit)
abbrev Wv:Type:=(Uf×(Unit))
abbrev aeK:Type:=((Int×(List Gr)×(List Gr)×Unit)×(Unit))
abbrev Vp:Type:=(Int×aid×Unit)
abbrev agl:Type:=((Int×kQ×kQ×Int×Unit)×(Mq×Mq×Unit))
abbrev afn:Type:=((Bool×ByteArray×ByteArray×Unit)×(Unit))
abbrev afY:Type:=((Int×Int×Bool×fe×Int×kQ×Unit)×(Unit))
abbrev afk:Type:=((Int×(Nat×Nat)×Bool×Int×Int×Unit)×ak4)
abbrev ae6:Type:=((Int×Int×(List mJ)×fe×Int×Unit)×aci)
abbrev afV:Type:=((Int×Int×Int×(List mI)×Int×Unit)×Y41)
abbrev afi:Type:=((Int×Int×(List mI)×Int×Int×Unit)×Y41)
abbrev afz:Type:=((Int×ByteArray×ByteArray×Unit)×(Unit))
abbrev afr:Type:=((Int×Int×LM×Jk×Int×Int×Unit)×al9)
abbrev agh:Type:=((Bool×ByteArray×Int×Int×Unit)×(Unit))
abbrev UY:Type:=(Om×Dp×Unit)
abbrev aeP:Type:=(((List fe)×fe×Dp×Int×Unit)×(Unit))
abbrev aeU:Type:=((Int×(List fe)×fe×Dp×Unit)×(Unit))
abbrev QN:Type:=(JG×Unit)
abbrev afb:Type:=((Int×fe×(List ByteArray)×Unit)×JG)
abbrev afG:Type:=((Unit)×((List Y3)×kQ×qC×ahH×Unit))
abbrev afC:Type:=((Int×(List ByteArray)×Int×Unit)×acP)
abbrev aeC:Type:=((Int×ByteArray×fe×Int×Unit)×(Unit))
abbrev ZK:Type:=((mI×Unit)×(Unit))
abbrev alq:Type:=((List fe)×(List mI)×Int×Int×Unit)
abbrev afT:Type:=((fe×(List ByteArray)×Unit)×(Unit))
abbrev afu:Type:=((Int×(List ByteArray)×Unit)×(Unit))
abbrev aaH:Type:=(Bool×Dp×Int×Unit)
abbrev YT:Type:=(Int×Bool×Int×Unit)
abbrev af3:Type:=((qG×Sc)⊕((iN×Sc)⊕((Unit)×Sc)))
abbrev agf:Type:=((Int×Int×(List mJ)×Int×Unit)×EZ)
abbrev afL:Type:=((Int×Int×(List mJ)×fe×Unit)×aci)
abbrev ae4:Type:=((Int×(List fe)×Int×Int×Unit)×akM)
abbrev agq:Type:=((ByteArray×Int×Int×Int×Unit)×ZB)
abbrev ae2:Type:=((Bool×fe×(List mJ)×Unit)×(Unit))
abbrev ae7:Type:=((Y3×mJ×fe×Bool×Int×Unit)×(Unit))
abbrev U6:Type:=(Om×Y4×Unit)
abbrev Vr:Type:=(uj×(Unit))
abbrev Ul:Type:=(Nr×(Unit))
abbrev UZ:Type:=(IC×(Unit))
abbrev aeG:Type:=((Bool×Int×ByteArray×Unit)×(Unit))
abbrev agt:Type:=((Dp×fe×(List fe)×Unit)×(Unit))
abbrev afF:Type:=(qG×(qC×(List Y3)×qC×kQ×Unit))
abbrev aeO:Type:=((Int×Int×Int×kQ×Bool×Unit)×IC)
abbrev Ro1:Abs.kR:=(.one (.exit 0) ⟨[],.nil,.nil⟩)
abbrev Ro2:Abs.kR:=(.more .ret ⟨[2],eH,.nil⟩ Ro1)
abbrev Ro3:Abs.kR:=(.more .ret ⟨[4],cZ,.nil⟩ Ro1)
abbrev Ro4:Abs.kR:=(.more .ret ⟨[4],eH,.nil⟩ Ro1)
abbrev Rb8:Abs.gm:=(.box 5 pz (.arr .str false (.arr jH false (.box 4 kS (.box 3 kD (.box 4 (.agg (.dat aQ (.st (.own Z1 (8,0)) Aa)) .nil) (.box 4 DF (.arr yJ false qL))))))))
abbrev J9:Abs.Ty:=(.row Z6)
abbrev Qy:Abs.gm:=(.arr .str false .nil)
abbrev qw:Abs.Ty:=(.row jH)
abbrev adv:Abs.gm:=(.box 3 kD .nil)
abbrev acE:Abs.gm:=(.box 6 (.dat yJ .nil) (.box 6 (.dat yJ .nil) .nil))
abbrev F5:Abs.Ty:=(.row Z7)
abbrev G9:Abs.nE:=(.ptr (4,0) 4 0 0)
abbrev alr:Abs.gm:=(.arr yJ false (.box 4 (.agg (.dat aQ (.st (.own Z1 (3,0)) (.st (.own Z6 (5,0)) cZ))) .nil) (.box 3 kD (.arr Z1 false (.box 4 DF nJ)))))
abbrev F3:Abs.Ty:=(.row LQ)
abbrev EY:Abs.nE:=(.own jH (0,0))
abbrev N7:Abs.nE:=(.own .str (2,0))
abbrev akx:Abs.gm:=(.box 6 ah7 (.box 5 (.agg (.dat aQ (.dat .str (.part Z7 (2,0) l9))) .nil) (.arr Z7 false (.box 5 EN (.box 6 Qq (.box 8 wP Oi))))))
abbrev ams:Abs.gm:=(.arr jH false (.box 4 kS (.box 3 kD (.arr yJ false (.box 4 (.agg (.dat aQ (.st (.own Z1 (6,0)) Aa)) .nil) (.box 4 DF qL))))))
abbrev Bw:Abs.Ty:=(.row Z5)
abbrev Xv:Abs.Sh:=(.st (.ptr (0,0) 8 0 0) .nil)
abbrev Wm:Abs.gm:=(.box 3 (.dat LQ .nil) .nil)
abbrev NC:Abs.Sh:=(.dat .bool cZ)
abbrev ajz:Abs.gm:=(.arr Z1 false (.arr Z6 false (.box 4 DF (.box 4 (.agg (.dat aQ (.part Z1 (0,0) (.st (.own Z6 (1,0)) cZ))) .nil) .nil))))
abbrev agJ:Abs.Sh:=(.st rW (.st JB (.dat .bool (.st (.ptr (3,0) 6 0 0) aec))))
abbrev ajB:Abs.gm:=(.arr Z1 false (.arr Z6 false (.arr .str false (.box 4 (.agg (.dat aQ (.st yC (.st (.own Z6 (1,0)) cZ))) .nil) adv))))
abbrev SS:Abs.nE:=(.ptr (1,0) 8 0 0)
abbrev Oh:Abs.nE:=(.ptr (3,0) 3 0 0)
abbrev XW:Abs.Ty:=(.row Z1)
abbrev Pz:Abs.Sh:=(.st gQ .nil)
abbrev Iu:Abs.Sh:=(.st gQ cZ)
abbrev Xx:Abs.nE:=(.own Z31 (0,0))
abbrev adB:Abs.gm:=(.arr .bool false .nil)
abbrev ajh:Abs.Sh:=(.agg (.dat aQ (.dat .str (.st (.own Z7 (7,0)) l9))) .nil)
abbrev Qr:Abs.gm:=(.arr Z7 false aqg)
abbrev ac5:Abs.Ty:=(.cons aQ (.cons aQ (.cons aQ .unit)))
abbrev Nk:Abs.gm:=(.box 8 wP .nil)
abbrev XL:Abs.gm:=(.box 5 EN (.box 8 wP yF))
abbrev V3:Abs.Sh:=(.st rW (.st p8 cZ))
abbrev GV:Abs.nE:=(.own Z7 (0,0))
abbrev ak3:Abs.Sh:=(.dat .bool (.st sK (.dat Jp (.st GV (.st JB (.dat aQ (.st (.ptr (3,0) 8 0 0) (.st (.ptr (4,0) 5 0 0) l9))))))))
abbrev amr:Abs.Sh:=(.dat .bool (.st gQ (.st sK (.dat .bool (.st JB (.st CF (.dat aQ (.st (.ptr (4,0) 8 0 0) cZ))))))))
abbrev JY:Abs.Sh:=(.st zi .nil)
abbrev ac4:Abs.gm:=(.arr jH false (.arr .str false Dg))
abbrev Wy:Abs.gm:=(.box 1 cZ .nil)
abbrev ad1:Abs.Sh:=(.st fV (.st (.own yJ (1,0)) cZ))
abbrev abt:Abs.Ty:=(.cons Z9 (.cons Z9 (.cons Z9 .unit)))
abbrev akE:Abs.Sh:=(.st fV (.st kU (.st kT (.st (.own aQ (3,0)) (.st F4 (.dat aQ (.dat aQ (.st Ho iJ))))))))
abbrev aki:Abs.Sh:=(.dat .bool (.st Xc (.dat Jp (.st rW (.st p8 (.st CF (.st MG (.dat aQ (.st Ho cZ)))))))))
abbrev QF:Abs.gm:=(.box 1 mF .nil)
abbrev OA:Abs.gm:=(.box 5 Fq .nil)
abbrev Ng:Abs.Sh:=(.st fV cZ)
abbrev abO:Abs.gm:=(.arr Z1 false (.arr Z1 false adv))
abbrev VP:Abs.Sh:=(.st yC .nil)
abbrev Oe:Abs.Sh:=(.dat J9 .nil)
abbrev adR:Abs.Sh:=(.dat .str (.dat (.int .u8) .nil))
abbrev ai5:Abs.Sh:=(.agg (.dat aQ (.st (.own Z1 (4,0)) Aa)) .nil)
abbrev akX:Abs.Sh:=(.st gQ (.st sK (.st p8 (.st CF (.st MG (.dat .bool (.dat aQ (.st Ho .nil))))))))
abbrev OL:Abs.Sh:=(.dat .str iJ)
abbrev aee:Abs.kR:=(.more .ret ⟨[2],cZ,.nil⟩ Ro1)
abbrev Pt:Abs.Sh:=(.dat Bw .nil)
abbrev ahN:Abs.gm:=(.arr Z7 false (.box 6 ZV (.box 6 Qq amO)))
abbrev amK:Abs.Sh:=(.dat aQ (.dat F5 (.st (.clo 114 []) cZ)))
abbrev akN:Abs.Sh:=(.dat .bool (.st gQ (.st sK (.st p8 (.dat aQ (.st (.ptr (3,0) 8 0 0) JV))))))
abbrev SQ:Abs.Sh:=(.st fV .nil)
abbrev Xm:Abs.Sh:=(.st kU .nil)
abbrev PI:Abs.Sh:=(.st yM .nil)
abbrev Nv:Abs.Sh:=(.st NU .nil)
abbrev Ro7:Abs.kR:=(.one (.exit 0) ⟨[1,7],(.dat aQ Nv),Cq⟩)
abbrev ahc:Abs.Sh:=(.dat aQ (.dat Z2 (.st (.clo 189 []) cZ)))
abbrev YO:Abs.Sh:=(.dat Z9 (.dat Rj cZ))
abbrev aed:Abs.nE:=(.clo 183 [((1,0),6,0,0)])
abbrev acU:Abs.Ty:=(.cons .str (.cons .str Z31))
abbrev akU:Abs.Sh:=(.st gQ (.st sK (.st p8 (.st CF (.st MG (.dat aQ (.st Ho eH)))))))
abbrev QW:Abs.Sh:=(.st SI cZ)
abbrev aej:Abs.nE:=(.ptr (0,0) 9 0 0)
abbrev WK:Abs.nE:=(.ptr (5,0) 4 0 0)
abbrev ahq:Abs.Sh:=(.dat XW cZ)
abbrev amt:Abs.nE:=(.own .str (0,0))
abbrev aaT:Abs.gm:=(.arr Z33 false .nil)
abbrev akD:Abs.Sh:=(.agg (.dat aQ (.st (.own Z1 (3,0)) (.st (.own Z6 (4,0)) cZ))) .nil)
abbrev ZC:Abs.gm:=(.arr jH false .nil)
abbrev akK:Abs.Sh:=(.st fV (.st kU (.st kT (.st (.own aQ (3,0)) (.st F4 cZ)))))
abbrev aeb:Abs.Sh:=(.st Xc (.st sK .nil))
abbrev ajA:Abs.Sh:=(.st gQ (.dat aQ (.st SS (.dat aQ (.dat F5 (.st p8 l9))))))
abbrev S9:Abs.gm:=(.box 4 DF .nil)
abbrev ai1:Abs.gm:=(.box 2 mZ (.box 4 kS (.box 3 kD S9)))
abbrev alh:Abs.Sh:=(.st gQ (.st rW cZ))
abbrev YB:Abs.gm:=(.arr Z1 false nJ)
abbrev R8:Abs.Sh:=(.dat jH cZ)
abbrev W9:Abs.nE:=(.own jH (1,0))
abbrev aho:Abs.kR:=(.one (.exit 0) ⟨[0],iJ,.nil⟩)
abbrev amP:Abs.Sh:=(.dat Z1 (.dat Z5 (.dat aQ JV)))
abbrev aha:Abs.gm:=(.box 2 mZ (.arr LQ false .nil))
abbrev YE:Abs.gm:=(.box 2 mZ (.arr Z5 false .nil))
abbrev Zt:Abs.kR:=(.more .ret ⟨[6],eH,.nil⟩ Ro1)
abbrev Lf:Abs.Sh:=(.dat .str cZ)
abbrev aeW:Abs.Sh:=(.dat F5 cZ)
abbrev KM:Abs.Sh:=(.dat F3 cZ)
abbrev La:Abs.Sh:=(.dat Bw cZ)
abbrev afX:Abs.Sh:=(.agg (.dat aQ (.dat .str (.st (.own Z7 (2,0)) l9))) .nil)
abbrev afx:Abs.Sh:=(.st gQ (.st sK (.dat .bool (.st JB (.st CF aec)))))
abbrev aeE:Abs.kR:=(.more .ret ⟨[4],cZ,Yo⟩ (.one (.exit 0) ⟨[],.nil,Yo⟩))
abbrev agu:Abs.Sh:=(.agg (.dat aQ (.dat .str (.st (.own Z7 (3,0)) l9))) .nil)
abbrev afj:Abs.kR:=(.one (.exit 0) ⟨[7],(.st Hg .nil),(.arr Z1 false qL)⟩)
abbrev Ua:Abs.gm:=(.arr .bool false adB)
abbrev ae9:Abs.Sh:=(.st gQ (.st sK (.dat .bool (.st JB (.st CF l9)))))
abbrev aew:Abs.Sh:=(.st CF (.st MG (.dat .bool (.dat aQ (.st Ho cZ)))))
abbrev ae5:Abs.Sh:=(.dat aQ (.st yC (.st Hg (.dat aQ (.st kT .nil)))))
abbrev aeZ:Abs.gm:=(.box 2 mZ (.box 4 kS (.box 3 kD (.box 4 DF Dg))))
abbrev afq:Abs.Sh:=(.st gQ (.dat aQ (.st SS (.dat aQ (.st p8 cZ)))))
abbrev KE:Abs.Sh:=(.st zi cZ)
abbrev ags:Abs.gm:=(.box 5 EN (.box 6 Qq (.box 6 ZV (.box 5 ajh acF))))
abbrev TY:Abs.gm:=(.arr aQ false Cq)
abbrev ajN:Abs.Sh:=(.dat F5 .nil)
abbrev Q6:Abs.Sh:=(.dat F3 .nil)
abbrev aeF:Abs.gm:=(.arr Z1 false (.arr Z6 false (.arr yJ false .nil)))
abbrev aaY:Abs.Sh:=(.st (.own Z33 (1,0)) .nil)
abbrev ZR:Abs.Sh:=(.dat .bool (.st Dq Xm))
abbrev aex:Abs.Sh:=(.dat .bool (.dat F3 (.dat aQ (.st Dq .nil))))
abbrev PD:Abs.Sh:=(.dat Z33 .nil)
abbrev afJ:Abs.Sh:=(.dat aQ (.dat .bool (.dat jH (.dat aQ Aa))))
abbrev GX:Abs.Sh:=(.dat Rh .nil)
abbrev Rb5:Abs.gm:=(.box 3 kD (.box 2 mZ (.box 5 Fq (.box 3 GX (.box 4 kS (.box 4 kS (.box 3 (.agg (.st (.own Z5 (7,0)) (.st (.own LQ (8,0)) cZ)) .nil) (.arr Z5 true (.arr LQ true .nil)))))))))
abbrev Rb6:Abs.gm:=(.box 2 mZ (.box 5 Fq (.box 3 GX (.box 4 kS (.box 4 kS (.box 3 (.agg (.st (.own Z5 (6,0)) (.st (.own LQ (7,0)) cZ)) .nil) (.arr Z5 true (.arr LQ true .nil))))))))
abbrev YD:Abs.kR:=(.one .ret ⟨[4],cZ,Qb8⟩)
abbrev afh:Abs.Sh:=(.dat .bool (.dat aQ (.st fV (.st Hg DN))))
abbrev Ox:Abs.Sh:=(.st Xx .nil)
abbrev Zn:Abs.Sh:=(.dat .bool (.st aej l9))
abbrev agy:Abs.Sh:=(.dat F3 (.dat J9 (.dat jH (.dat qw cZ))))
abbrev Yb:Abs.Sh:=(.dat aQ (.st gQ Ic))
abbrev aft:Abs.nE:=(.ptr (2,0) 8 0 0)
abbrev aaB:Abs.Sh:=(.dat aQ (.st zF .nil))
abbrev Ue:Abs.nE:=(.own .bool (0,0))
abbrev aeV:Abs.Sh:=(.st SI (.dat aQ (.dat aQ (.dat J9 NC))))
abbrev aev:Abs.Sh:=(.dat aQ (.dat aQ (.st fV (.st Hg cZ))))
abbrev aeD:Abs.Sh:=(.st yC (.st Hg (.dat aQ (.st kT cZ))))
abbrev afm:Abs.Sh:=(.st kU (.st zi (.st kT (.st yM cZ))))
abbrev afg:Abs.kR:=(.one (.exit 0) ⟨[5,0],(.dat aQ VP),Yo⟩)
def note:FuncId→Abs.Note
 |7=>⟨true,[0,1,2,3,4,6,7,10,11,12,13,14,15,16,18,20,22,23,24,25,26,28,29,30,31,32,33,34,36,37,38,39,40,41,42,44,45,46,47,48,49,50,51,52,53,54,55,70,94,98,99,100,106,109,110,111,119,135,136,137,161,172,173,174,206,211,212,213,244,249,250,251,275,305,307,308,309,320],false,fun|16=> [(1,2)]|21=> [(2,3),(2,4)]|23=> [(0,4),(2,4),(0,7),(2,7),(0,9),(2,9),(4,12),(7,12),(9,12)]|31=> [(2,4),(2,5),(4,8),(5,8)]|39=> [(0,2)]|59=> [(1,2)]|_=> []⟩
 |9=>⟨true,[0,2],false,fun _=> []⟩
 |10=>⟨true,[0,1,2,4,5,6,7,8,9,10,11,12,13],false,fun|4=> [(0,1),(0,3),(1,3),(0,10),(1,10),(3,10),(5,10)]|_=> []⟩
 |11=>⟨true,[0,2],false,fun _=> []⟩
 |12=>⟨true,[0,1,4],false,fun _=> []⟩
 |15=>⟨true,[0,1,2,3,6,7,8,9,10,12,13,14,17,22,27,39,40,41,42,50,67,76],false,fun|8=> [(0,1)]|22=> [(7,8)]|_=> []⟩
 |17=>⟨true,[0,1,2,3,4,5,34,39,53],false,fun _=> []⟩
 |18=>⟨true,[0,1,4,5,10,14,26],false,fun _=> []⟩
 |19=>⟨true,[0,1,4,12],false,fun _=> []⟩
 |20=>⟨true,[0,1,2,4,7],false,fun _=> []⟩
 |24=>⟨true,[0,2,3,4],false,fun _=> []⟩
 |25=>⟨true,[0,1,2,3,4,5,6,7,8,9,10,11,17,33],false,fun|13=> [(2,3)]|_=> []⟩
 |26=>⟨true,[0],false,fun _=> []⟩
 |27=>⟨true,[0,1,2,3,4,5,6,7,8,10,11,12,13,14,15,25,32,44,45,46,47,72,74,105,119],false,fun|15=> [(1,5),(1,6)]|16=> [(1,20),(4,20),(6,20),(9,20),(11,20),(13,20),(15,20),(16,20)]|_=> []⟩
 |28=>⟨true,[0,1,2,3,4,6,7,8,9,10,14,20],false,fun _=> []⟩
 |29=>⟨true,[0,1,2,3,4,6,7,8,9,13,25],false,fun _=> []⟩
 |30=>⟨true,[0,1,2,3,4,5,7,9,10,11,12,27],false,fun _=> []⟩
 |31=>⟨true,[0,1,2,4,6,7,8,9,10,17,28,29,46,56,67,79],false,fun|5=> [(1,3),(1,4)]|10=> [(0,4),(1,4),(0,6),(1,6)]|14=> [(0,3),(1,3)]|16=> [(0,3),(1,3)]|_=> []⟩
 |32=>⟨true,[0,1,4],false,fun _=> []⟩
 |33=>⟨true,[0],false,fun _=> []⟩
 |34=>⟨true,[0,1,2,3,4,9,15,24],false,fun _=> []⟩
 |35=>⟨true,[0,1,2,3,4,9,15,24],false,fun _=> []⟩
 |36=>⟨true,[0,1,2,3,4,5,6,7,37,54,56,57,58,59,98,102],false,fun _=> []⟩
 |37=>⟨true,[0,1,2,3,4,5,6,7,8,38,43,86,91,109,114,125],false,fun|12=> [(12,14)]|_=> []⟩
 |38=>⟨true,[0,1,4,5,19,40],false,fun _=> []⟩
 |39=>⟨true,[0,2,3,5,6,7,8,9,17],false,fun _=> []⟩
 |40=>⟨true,[0,1,4],false,fun _=> []⟩
 |41=>⟨true,[0,1,2,3,4,5,6,7,8,9,10,11,12,13,14,15,16,28,35,56,88,118,121,165,182],false,fun|14=> [(1,8),(5,8),(7,8)]|23=> [(1,8)]|24=> [(1,16),(4,16),(5,16),(7,16),(9,16),(11,16),(12,16)]|_=> []⟩
 |42=>⟨true,[0,1,2,3,4,6,7,8,9,10,11,13,14,15,16,17,18,19,20,21,23,29,35,47,84,96,111,141],false,fun|13=> [(1,22),(4,22),(6,22),(8,22),(12,22),(14,22),(17,22),(18,22)]|27=> [(0,15),(2,15),(4,15),(6,15),(9,15),(0,16),(2,16),(4,16),(6,16),(9,16),(15,16)]|_=> []⟩
 |43=>⟨true,[0,1,4,5],false,fun _=> []⟩
 |44=>⟨true,[0,1,2,3,4,5,6,7,8,9,10,11,15,19,32],false,fun|13=> [(2,3)]|_=> []⟩
 |45=>⟨true,[0,1,2,3,4,6,7,8,9,10,14,26],false,fun _=> []⟩
 |46=>⟨true,[0,1,2,3,4,5,6,7,12,31],false,fun _=> []⟩
 |47=>⟨true,[0,1,2,3,4,6,8,10,11,13,16,17,18,19,23,24,25,26,41,56,57,58,59],true,fun _=> []⟩
 |48=>⟨true,[0,1,2,3,4,5,6,7,8,13,24,48,68],true,fun _=> []⟩
 |49=>⟨true,[0,1,4,5,10,14,25],false,fun _=> []⟩
 |50=>⟨true,[0,1,4,5,6,7,16],false,fun _=> []⟩
 |51=>⟨true,[0,2,3,4,5,9],false,fun _=> []⟩
 |52=>⟨true,[0,1,4,5,6,7,8,23,35],false,fun|7=> [(3,19),(7,19),(13,19),(15,19)]|_=> []⟩
 |53=>⟨true,[0,1,4,5,6,7,8,13,17,62,67,80],false,fun|6=> [(3,8),(7,8),(3,9),(7,9),(8,9),(7,10)]|_=> []⟩
 |54=>⟨true,[0,1,2,3,4,5,6,7,42,47,100],false,fun|6=> [(1,10),(4,10),(6,10),(9,10),(1,11),(4,11),(6,11),(9,11),(10,11),(6,12),(9,12)]|_=> []⟩
 |55=>⟨true,[0,1,2,3,4,5,6,50,55,68,73,86],false,fun _=> []⟩
 |56=>⟨true,[0,2,3,4,7,10,14,47,54,61],false,fun _=> []⟩
 |57=>⟨true,[0,2,3,6,10,54],false,fun _=> []⟩
 |58=>⟨true,[0,1,2,6,7,8,9,16,29,47,50],false,fun _=> []⟩
 |59=>⟨true,[0,2,3,4,7,11,15],false,fun|9=> [(5,12)]|_=> []⟩
 |60=>⟨true,[0,1,4,5,6,7,11,17,29],false,fun _=> []⟩
 |62=>⟨true,[0,2,3,5,6,7,8,11],false,fun _=> []⟩
 |63=>⟨true,[0,1,3,4,5,6,7,17],false,fun|1=> [(1,2),(1,3)]|_=> []⟩
 |64=>⟨true,[0,1,2,3,4,14,15,16,17],true,fun|1=> [(2,4)]|5=> [(1,4)]|_=> []⟩
 |65=>⟨true,[0,1,4,5,9,10,11,12,29],true,fun _=> []⟩
 |66=>⟨true,[0,2,3,4,7,8,9,10,11,44],false,fun _=> []⟩
 |67=>⟨true,[0,1,2,4,5,10],false,fun _=> []⟩
 |68=>⟨true,[0,1,4,12],false,fun _=> []⟩
 |69=>⟨true,[0,1,2,4,7],false,fun _=> []⟩
 |70=>⟨true,[0,1,2,4,6,7],true,fun _=> []⟩
 |71=>⟨true,[0,1,2,6,7,8,9,16,22,31,68],true,fun _=> []⟩
 |72=>⟨true,[0,1,4],false,fun _=> []⟩
 |73=>⟨true,[0,1,2,3,4,5,6,10,11,12,13,14,15,16,31,46,59,68],false,fun _=> []⟩
 |74=>⟨true,[0,1,2,3,4],true,fun _=> []⟩
 |75=>⟨true,[0,1,2,3,4,6,7,8,9,10,11,12,13,14,15,16,23,24,25,26,52,53,54,55,83],false,fun|6=> [(1,13)]|13=> [(0,12),(2,12),(4,12),(6,12),(0,19),(2,19),(4,19),(6,19),(8,19),(9,19),(10,19),(12,19),(13,19),(0,20),(2,20),(4,20),(6,20),(8,20),(9,20),(10,20),(12,20),(13,20),(19,20)]|_=> []⟩
 |76=>⟨true,[0,1,2,4,6,7,8,9,10,14,19,22,38],false,fun _=> []⟩
 |77=>⟨true,[0,2],false,fun _=> []⟩
 |78=>⟨true,[0,2,3,4,5,6,10,14,15,16,17,25,33],false,fun _=> []⟩
 |79=>⟨true,[0,2,4,5,8,9,10,11,12,18],false,fun _=> []⟩
 |80=>⟨true,[0,2,3,4,7,11,18,29,46],false,fun _=> []⟩
 |81=>⟨true,[0,2,3,5,6,9,10,11,12,13,20],false,fun _=> []⟩
 |82=>⟨true,[0,1,2,3,4,25,27,28,29,30,52],false,fun _=> []⟩
 |83=>⟨true,[0,1,2,3,4,6],true,fun _=> []⟩
 |84=>⟨true,[0,1,2,3,6,10],false,fun _=> []⟩
 |85=>⟨true,[0,1,4],false,fun _=> []⟩
 |86=>⟨true,[0,1,2,3,4],true,fun|1=> [(8,10)]|_=> []⟩
 |87=>⟨true,[0,2,3,4,7,11,18,37,58,63,68],false,fun _=> []⟩
 |88=>⟨true,[0,1,2,3,4,35,40,96],false,fun|7=> [(7,9)]|_=> []⟩
 |89=>⟨true,[0,1,2,3,4,6],true,fun _=> []⟩
 |90=>⟨true,[0,1,2,3,6],false,fun _=> []⟩
 |91=>⟨true,[0,1,4],false,fun _=> []⟩
 |92=>⟨true,[0,1,2,3,4,5,6,10,11,12,13,14,15,16,29,33,47,49,55,95,109],false,fun|15=> [(1,5)]|_=> []⟩
 |93=>⟨true,[0,1,2,3,6,7,8,12,22],true,fun _=> []⟩
 |94=>⟨true,[0,1,2,3,4,5,8,9,10,11,12,13,21,33,41,60,73],false,fun _=> []⟩
 |95=>⟨true,[0,1,2,3,4,10,12],false,fun _=> []⟩
 |96=>⟨true,[0,1,2,3,4,5,8,9,10,11,12,13,14,15,16,17,18,19,20,21,29,34,47,62,77,82,115,116,124,136,158,181],false,fun|41=> [(1,2),(2,4)]|_=> []⟩
 |97=>⟨true,[0,1,4,5,6,12],false,fun _=> []⟩
 |98=>⟨true,[0,2],false,fun|1=> [(0,2),(0,6),(4,6),(0,7),(2,7),(4,7),(6,7),(0,9),(4,9),(7,9),(0,11)]|_=> []⟩
 |99=>⟨true,[0,1,3,4,5,6,7,16],false,fun|1=> [(1,2),(1,3)]|_=> []⟩
 |100=>⟨true,[0,1,4,5,6,7,8,14,24,48],true,fun _=> []⟩
 |101=>⟨true,[0,1,2,6,7,8,9,10,11,12,16,21,31,35,39,47],false,fun _=> []⟩
 |102=>⟨true,[0,2],false,fun _=> []⟩
 |103=>⟨true,[0,2,4],false,fun _=> []⟩
 |104=>⟨true,[0,1,2,3,13,18,27,28,33],false,fun _=> []⟩
 |105=>⟨true,[0,2,3,21,25,55],false,fun _=> []⟩
 |106=>⟨true,[0,2,3,6,10,22],false,fun _=> []⟩
 |107=>⟨true,[0,1,4,5,6,10,19],false,fun _=> []⟩
 |108=>⟨true,[0,1,4,5,9,18],false,fun _=> []⟩
 |109=>⟨true,[0,2,3,4,8,20],false,fun _=> []⟩
 |111=>⟨true,[0,2,3,4,8,9,10],false,fun _=> []⟩
 |112=>⟨true,[0,2,4],false,fun _=> []⟩
 |113=>⟨true,[0,1,2,3,10,11,12],true,fun|5=> [(1,9)]|_=> []⟩
 |114=>⟨true,[0,1,2],true,fun _=> []⟩
 |115=>⟨true,[0,2,3,4,21,23,24,25,47],false,fun _=> []⟩
 |116=>⟨true,[0,2,3,5,6,7,18],false,fun _=> []⟩
 |117=>⟨true,[0,1,2,6,7,9,12,13,14,15,25,37,41],false,fun _=> []⟩
 |118=>⟨true,[0,2,3,5,8,9,10,11,12],false,fun|7=> [(2,6)]|_=> []⟩
 |119=>⟨true,[0,1,4,5,7,8,9,10,11,17],false,fun _=> []⟩
 |120=>⟨true,[0,1,2,6,7,8,9,10,11,17,31],true,fun _=> []⟩
 |121=>⟨true,[0,1,2,3,5],true,fun _=> []⟩
 |123=>⟨true,[0,1],false,fun _=> []⟩
 |124=>⟨true,[0,1,2],false,fun _=> []⟩
 |125=>⟨true,[0,1,2,6],false,fun _=> []⟩
 |126=>⟨true,[0,1,2,4,5],false,fun _=> []⟩
 |127=>⟨true,[0,1,2,3,4,6,10,31,38,50],true,fun _=> []⟩
 |128=>⟨true,[0,1,2,6,7,8,9,16,22,31,68],true,fun _=> []⟩
 |129=>⟨true,[0,1,2,4,6,15,29],false,fun _=> []⟩
 |130=>⟨true,[0,1,2,4],true,fun _=> []⟩
 |131=>⟨true,[0,1,4,5,6,7,12,19,29],true,fun _=> []⟩
 |132=>⟨true,[0,1,2,3,4],true,fun _=> []⟩
 |133=>⟨true,[0,1,2,3,4,5,8,9,10,12,13,14,15,25,38,41,42,43,44,66],false,fun _=> []⟩
 |134=>⟨true,[0,1,2,3,4,5,8,9,10,11,12,13,14,15,16,17,18,29,45,56,65,66,67,68,101],false,fun|15=> [(1,10)]|23=> [(1,2),(2,4)]|_=> []⟩
 |135=>⟨true,[0,1,2,3,4,5,6,8,9,11,13,14,15,16,28],true,fun _=> []⟩
 |136=>⟨true,[0,1,4,5,7,8,9,16],false,fun _=> []⟩
 |137=>⟨true,[0,1,2,3],true,fun _=> []⟩
 |138=>⟨true,[0,1,2,6,7,16],true,fun _=> []⟩
 |139=>⟨true,[0,1,2,4,5,28,39,49],false,fun _=> []⟩
 |140=>⟨true,[0,1,2,3,14,31],false,fun _=> []⟩
 |141=>⟨true,[0,2,3,7,15],false,fun _=> []⟩
 |142=>⟨true,[0,2,3,7,31],false,fun _=> []⟩
 |143=>⟨true,[0,1,2,4,5,15,36,41,46],false,fun _=> []⟩
 |144=>⟨true,[0,1,2],false,fun|1=> [(6,8)]|_=> []⟩
 |145=>⟨true,[0,1,2],true,fun _=> []⟩
 |146=>⟨true,[0,1,4,5,6,11,12,13,16,19],false,fun _=> []⟩
 |147=>⟨true,[0,1,4,5,7,8,9,16],true,fun _=> []⟩
 |148=>⟨true,[0,2],false,fun _=> []⟩
 |149=>⟨true,[0,1,2],false,fun _=> []⟩
 |150=>⟨true,[0,1,2],false,fun _=> []⟩
 |151=>⟨true,[0,1,2],true,fun _=> []⟩
 |152=>⟨true,[0,1,4,5,6,19],true,fun _=> []⟩
 |153=>⟨true,[0,1,2,6],true,fun _=> []⟩
 |154=>⟨true,[0,1,2,3,4,6,7,14,30],true,fun _=> []⟩
 |155=>⟨true,[0,1,2,3,4,5,8,9,18],true,fun _=> []⟩
 |156=>⟨true,[0,1,2,6,7,8,9,10,11,15,47],false,fun _=> []⟩
 |157=>⟨true,[0,1,2,6,7,8,12,22,26,64],false,fun _=> []⟩
 |158=>⟨true,[0,1,4,5,9,17],false,fun _=> []⟩
 |159=>⟨true,[0,2,4],false,fun _=> []⟩
 |160=>⟨true,[0,1,2,3,8,9,10,11,12,13,14,15,16,17,18,23,29,35,50,68,72,87,113],false,fun _=> []⟩
 |161=>⟨true,[0,2],false,fun _=> []⟩
 |162=>⟨true,[0,1,2],false,fun _=> []⟩
 |163=>⟨true,[0,1,2,4,5,11,12,18,24,30],false,fun _=> []⟩
 |165=>⟨true,[0,2,4],false,fun _=> []⟩
 |166=>⟨true,[0,2,4],false,fun _=> []⟩
 |167=>⟨true,[0,2,4],false,fun _=> []⟩
 |168=>⟨true,[0,1,4,5,6,7,8,9,10,11,18],false,fun _=> []⟩
 |169=>⟨true,[0,1,3,4],false,fun _=> []⟩
 |170=>⟨true,[0,2,3,4,7,8,9,20],false,fun _=> []⟩
 |171=>⟨true,[0,1,4,5,7,8,10,12,13,15,22,29,39,40,41,42,49,63,64,65,66],false,fun _=> []⟩
 |172=>⟨true,[0,1,4],false,fun _=> []⟩
 |173=>⟨true,[0,1],false,fun _=> []⟩
 |174=>⟨true,[0,1,2,6,7,8,9,10,11,17,31],false,fun _=> []⟩
 |175=>⟨true,[0,1,2,4],true,fun _=> []⟩
 |176=>⟨true,[0,1,2,6,7,16],true,fun _=> []⟩
 |178=>⟨true,[0,1],false,fun _=> []⟩
 |179=>⟨true,[0,2,4],false,fun _=> []⟩
 |180=>⟨true,[0,1,4,5,7,8,9,16],true,fun _=> []⟩
 |181=>⟨true,[0,1,2,3,4,5,8,9,10,11,13,14,24,25,26,27,37,42],true,fun|13=> [(7,11)]|_=> []⟩
 |182=>⟨true,[0,1,4,5,6,7,12,19,29],true,fun _=> []⟩
 |183=>⟨true,[0,1,2,3],true,fun _=> []⟩
 |184=>⟨true,[0,1,2],false,fun _=> []⟩
 |185=>⟨true,[0,1,2,3,4,10,12],false,fun _=> []⟩
 |186=>⟨true,[0,1,4],false,fun _=> []⟩
 |187=>⟨true,[0,1,2],false,fun _=> []⟩
 |188=>⟨true,[0,2,3,4,5,6,7,8,27],false,fun _=> []⟩
 |189=>⟨true,[0,1,2],false,fun _=> []⟩
 |190=>⟨true,[0,2],false,fun _=> []⟩
 |191=>⟨true,[0,1,2,6,7,11,26],false,fun|4=> [(5,10)]|_=> []⟩
 |192=>⟨true,[0,1,2,6,7,12,30],false,fun _=> []⟩
 |193=>⟨true,[0,1,2,6,7,8,9,10,19,30],false,fun _=> []⟩
 |194=>⟨true,[0,1,2,6,7,8,9,10,15,33,43],false,fun _=> []⟩
 |195=>⟨true,[0,1,2,6,7,8,9,10,11,12,32,34,49,51,54],false,fun _=> []⟩
 |196=>⟨true,[0,1,2,6,7,13],false,fun _=> []⟩
 |197=>⟨true,[0,1,2,6,7,8,9,10,14,32,37,41,61,65,78,98,103,116],false,fun _=> []⟩
 |198=>⟨true,[0,1,4],false,fun _=> []⟩
 |199=>⟨true,[0,1,2,3,8,9,10,43,59,64],false,fun _=> []⟩
 |200=>⟨true,[0,1,2,3,8,9,10,11,43,60,65,112,129,134],false,fun _=> []⟩
 |201=>⟨true,[0,2,4,8],false,fun _=> []⟩
 |202=>⟨true,[0,2,4,8,14],false,fun _=> []⟩
 |203=>⟨true,[0,1,4,5,9,18],false,fun _=> []⟩
 |204=>⟨true,[0,1,4,5,6,7,8,18,28,34,54],false,fun _=> []⟩
 |205=>⟨true,[0,1,2,3],true,fun _=> []⟩
 |206=>⟨true,[0,1,2,4,5,11,12,18,24,30],false,fun _=> []⟩
 |207=>⟨true,[0,1,4],false,fun _=> []⟩
 |208=>⟨true,[0,2],false,fun _=> []⟩
 |209=>⟨true,[0,1,7,21],false,fun _=> []⟩
 |210=>⟨true,[0,1,4,5],false,fun _=> []⟩
 |211=>⟨true,[0,1,4,5,7,8,9,16],false,fun _=> []⟩
 |212=>⟨true,[0,2,3,9],true,fun _=> []⟩
 |213=>⟨true,[0,1],false,fun _=> []⟩
 |214=>⟨true,[0,1,2,6,7,9,10,11,12,13,41],false,fun _=> []⟩
 |215=>⟨true,[0,1,2,6,8,10,11,12,13,14,21,22,23,24,25,45],false,fun _=> []⟩
 |216=>⟨true,[0,1,4,5,7,8,9,16],false,fun _=> []⟩
 |217=>⟨true,[0,1,2],false,fun _=> []⟩
 |218=>⟨true,[0,2],false,fun _=> []⟩
 |219=>⟨true,[0,1,2,3,8,9,16,36,52],false,fun _=> []⟩
 |220=>⟨true,[0,2],false,fun _=> []⟩
 |221=>⟨true,[0,2],false,fun _=> []⟩
 |222=>⟨true,[0,1,2,6],false,fun _=> []⟩
 |223=>⟨true,[0,1,2,3,4,10],false,fun _=> []⟩
 |224=>⟨true,[0,1,4,6,7,8,9,10,16],false,fun _=> []⟩
 |225=>⟨true,[0,1,4,5,6,7,8,12,13,28,52],false,fun _=> []⟩
 |226=>⟨true,[0,6,19],false,fun _=> []⟩
 |227=>⟨true,[0,1,4],false,fun|0=> [(8,12)]|_=> []⟩
 |228=>⟨true,[0,2,3,9],true,fun _=> []⟩
 |229=>⟨true,[0,1,2,3,4,6],false,fun _=> []⟩
 |230=>⟨true,[0,1,2,3,8,9,18],false,fun _=> []⟩
 |231=>⟨true,[0,1,4,5,6,12,21,34],false,fun _=> []⟩
 |234=>⟨true,[0,1,4],false,fun _=> []⟩
 |235=>⟨true,[0,1,2,4],true,fun|1=> [(2,3)]|_=> []⟩
 |236=>⟨true,[0,1,4,13],false,fun _=> []⟩
 |237=>⟨true,[0,1,4,16],false,fun _=> []⟩
 |238=>⟨true,[0,2,3,4,5,9,16],false,fun _=> []⟩
 |239=>⟨true,[0,1,4,7,12],false,fun _=> []⟩
 |240=>⟨true,[0,1,4,7,15],false,fun _=> []⟩
 |241=>⟨true,[0,1,4,5,6,9,18],false,fun _=> []⟩
 |242=>⟨true,[0,1,4,5,6,9,17,26],false,fun _=> []⟩
 |243=>⟨true,[0,1,4,5,7,8,9,16],false,fun _=> []⟩
 |244=>⟨true,[0,1,4],false,fun _=> []⟩
 |245=>⟨true,[0,2,3,10],false,fun _=> []⟩
 |246=>⟨true,[0,1,4],false,fun _=> []⟩
 |247=>⟨true,[0,2,3,4,5,6,10,18,27,33,35,48],false,fun _=> []⟩
 |248=>⟨true,[0,2,3,4,5,6,7,8,9,10,11,12,16,23,45,57,59,75,77,98],false,fun _=> []⟩
 |249=>⟨true,[0,1,4,5,6,7,8,9,10,11,12,13,14,15,16,26,33,43,51,64,98,108,124,139,143,156,160,171,175,176,177,181,183],false,fun _=> []⟩
 |250=>⟨true,[0,2],false,fun _=> []⟩
 |251=>⟨true,[0,1,4],false,fun _=> []⟩
 |252=>⟨true,[0,2,3,10],false,fun _=> []⟩
 |253=>⟨true,[0,2],false,fun _=> []⟩
 |255=>⟨true,[0,1,4],false,fun _=> []⟩
 |_=>⟨false,[],false,fun _=> []⟩
theorem good:Abs.Good Tryz.prog note:=Abs.ada (by kernel_rfl)
theorem Df:(Tryz.prog).follows .mixedOrders=true:=by kernel_rfl
def Vn:FuncId→Option Nat:=Abs.ank [(52,1)]
def Zc:FuncId→Option Abs.gV:=Abs.Oc [(170,Abs.El Abs.LF),(171,Abs.El Abs.TQ),(176,Abs.VK Z7),(47,Abs.Ve),(238,Abs.Dn),(240,Abs.Dn),(239,Abs.Dn),(242,Abs.Dn),(241,Abs.Dn),(71,Abs.y9 Z1),(128,Abs.y9 Z7),(138,Abs.VK Z6)]
theorem N8:∀f q,Zc f=some q→Abs.fu Tryz.prog f q:=Abs.Vu _ (by
 intro p hp;simp only[arW,List.not_mem_nil,or_false]at hp;rcases hp with rfl|rfl|rfl|rfl|rfl|rfl|rfl|rfl|rfl|rfl|rfl|rfl
 ·exact abh
 ·exact ac1
 ·exact ab7 Z7 rfl
 ·exact Fr.ahR
 ·exact Abs.rG
 ·exact Abs.rG
 ·exact Abs.rG
 ·exact Abs.rG
 ·exact Abs.rG
 ·exact Ig.ahj Z1 rfl
 ·exact ad5 Z7 rfl
 ·exact Id.abP Z6 rfl
)
abbrev dh(f:FuncId)(s:Abs.Spec):Prop:=Abs.gP Tryz.prog f s
def bf{β:Type}:List (Nat×β)→Nat→Option β
 | [],_=>none
 |(k,x)::r,n=>bif n==k then some x else bf r n
def bB{α β:Type}:α→Option β:=fun _=>none
def fw:Nat→Nat→Nat:=fun _ _=>0
def rT:Nat→Abs.eX:=fun _=>{}
theorem okW{l:List (FuncId×Abs.Spec)}(an:Nat→Abs.eX){f:FuncId}{sp:Abs.Spec}(hl:∀p∈l,dh p.1 p.2)(hon:(note f).on=true:=by rfl)(h:∀v,(Abs.bodyC Tryz.prog note Zc Vn (Abs.vX l) an 12 f sp.keep sp.σi sp.σo v).mean=sp.m v:=by intro v;kernel_rfl):dh f sp:=
 Abs.xY (C:=Zc) (mv:=Vn) N8 (n:=12) good Df (Abs.lV l hl) hon h
theorem dI:∀p∈([]:List (FuncId×Abs.Spec)),dh p.1 p.2:=fun _ h=>by cases h
theorem aX{f:FuncId}{sp:Abs.Spec}{l:List (FuncId×Abs.Spec)}(h:dh f sp)(t:∀p∈l,dh p.1 p.2):∀p∈(f,sp)::l,dh p.1 p.2:=List.forall_mem_cons.2 ⟨h,t⟩
def i9:Abs.Sg:=⟨[0],(.dat rIz .nil),.nil⟩
def m9(v:(EZ×Unit)):Option eF:=
some ((decide ((v.1.1.length:Int)≤500),()),())
def sp9:Abs.Spec:=⟨0,i9,⟨[2],eH,.nil⟩,m9⟩
theorem ok9:dh 9 sp9:=okW rT dI
def vW(v:acp):Option (acp⊕(eF⊕qR)):=
bif decide (v.1.1<v.1.2.2.1)then bif decide (0≤v.1.1∧v.1.1<v.1.2.1.size)then
((let b:=(decide (((((v.1.2.1[v.1.1.toNat]?.getD 0).toNat:Nat):Int):Int)<97))
bif b then let c:=(decide (((((v.1.2.1[v.1.1.toNat]?.getD 0).toNat:Nat):Int):Int)<48))
bif c then let d:=(((((v.1.2.1[v.1.1.toNat]?.getD 0).toNat:Nat):Int):Int) !=95)
some ((d,v.1.2.1,v.1.2.2.1,v.1.1,()),())
else let e:=(decide (((((v.1.2.1[v.1.1.toNat]?.getD 0).toNat:Nat):Int):Int)>57))
bif e then let f:=(((((v.1.2.1[v.1.1.toNat]?.getD 0).toNat:Nat):Int):Int) !=95)
some ((f,v.1.2.1,v.1.2.2.1,v.1.1,()),())
else some ((false,v.1.2.1,v.1.2.2.1,v.1.1,()),())
else let g:=(decide (((((v.1.2.1[v.1.1.toNat]?.getD 0).toNat:Nat):Int):Int)>122))
bif g then let h:=(decide (((((v.1.2.1[v.1.1.toNat]?.getD 0).toNat:Nat):Int):Int)<48))
bif h then let j:=(((((v.1.2.1[v.1.1.toNat]?.getD 0).toNat:Nat):Int):Int) !=95)
some ((j,v.1.2.1,v.1.2.2.1,v.1.1,()),())
else let k:=(decide (((((v.1.2.1[v.1.1.toNat]?.getD 0).toNat:Nat):Int):Int)>57))
bif k then let l:=(((((v.1.2.1[v.1.1.toNat]?.getD 0).toNat:Nat):Int):Int) !=95)
some ((l,v.1.2.1,v.1.2.2.1,v.1.1,()),())
else some ((false,v.1.2.1,v.1.2.2.1,v.1.1,()),())
else some ((false,v.1.2.1,v.1.2.2.1,v.1.1,()),())):Option agh).bind fun a=>
bif a.1.1 then some (.inr (.inl ((false,()),())))
else some (.inl ((aO (a.1.2.2.2.1+1),a.1.2.1,a.1.2.2.1,()),()))
else none
else(some (.inr (.inr ((),()))))
def Ws(v:Gj):Option eF:=
((bif v.1.1.toList==ByteArray.empty.toList then some ((true,v.1),())
else bif decide ((v.1.1.size:Int)>24)then some ((true,v.1),())
else bif decide ((0:Int)≤0∧(0:Int)<v.1.1.size)then
let b:=(decide (((((v.1.1[0]?.getD 0).toNat:Nat):Int):Int)<97))
bif b then some ((true,v.1),())
else bif decide ((0:Int)≤0∧(0:Int)<v.1.1.size)then
let c:=(decide (((((v.1.1[0]?.getD 0).toNat:Nat):Int):Int)>122))
some ((c,v.1),())
else none
else none):Option ((Bool×ByteArray×Unit)×Unit)).bind fun a=>
bif a.1.1 then some ((false,()),())
else((aC vW ((0,a.1.2.1,(a.1.2.1.size:Int),()),())).bind fun d=>
aA d (fun e=>(some e)) (fun f=>(some ((true,()),()))))
def akt:Abs.Spec:=⟨0,⟨[0],iJ,.nil⟩,⟨[2],eH,.nil⟩,Ws⟩
def ajg:Nat→Abs.eX
 |0=>.mk (bf [(7,⟨[47,0,23,24],(.dat .bool (.dat .str l9)),.nil⟩),(1,⟨[21,0],(.dat .bool iJ),.nil⟩)]) bB (bf [(4,⟨⟨[24,0,23],(.dat aQ Lf),.nil⟩,Ro2⟩)]) fw
 |_=>{}
theorem XH:dh 115 akt:=okW ajg dI
def wK(v:acp):Option (acp⊕(eF⊕Gj)):=
bif decide (v.1.1<v.1.2.2.1)then((bif decide (0≤v.1.1∧v.1.1<v.1.2.1.size)then
let b:=(decide (((((v.1.2.1[v.1.1.toNat]?.getD 0).toNat:Nat):Int):Int)<32))
bif b then some ((true,v.1.2.1,v.1.2.2.1,v.1.1,()),())
else bif decide (0≤v.1.1∧v.1.1<v.1.2.1.size)then
let c:=(decide (((((v.1.2.1[v.1.1.toNat]?.getD 0).toNat:Nat):Int):Int)>126))
some ((c,v.1.2.1,v.1.2.2.1,v.1.1,()),())
else none
else none):Option agh).bind fun a=>
bif a.1.1 then some (.inr (.inl ((false,()),())))
else some (.inl ((aO (a.1.2.2.2.1+1),a.1.2.1,a.1.2.2.1,()),()))
else(some (.inr (.inr ((v.1.2.1,()),()))))
def Yh(v:Gj):Option eF:=
(aC wK ((0,v.1.1,(v.1.1.size:Int),()),())).bind fun a=>
aA a (fun b=>(some b)) (fun c=>(some ((decide ((c.1.1.size:Int)≤64),()),())))
def alH:Abs.Spec:=⟨0,⟨[0],iJ,.nil⟩,⟨[2],eH,.nil⟩,Yh⟩
def alm:Nat→Abs.eX
 |0=>.mk (bf [(4,⟨[18,0,5,6],(.dat .bool (.dat .str l9)),.nil⟩)]) bB (bf [(2,⟨⟨[6,0,5],(.dat aQ Lf),.nil⟩,(.more .ret ⟨[2],eH,.nil⟩ aho)⟩)]) fw
 |_=>{}
theorem afK:dh 116 alH:=okW alm dI
def YF(v:Ux):Option eF:=
(((Ws ((v.1.1.1,()),())).bind fun a=>
bif a.1.1 then bif decide (v.1.1.2.1≥0)then bif decide (v.1.1.2.1≤3)then(Yh (v.1.1.2.2,())).bind fun b=>
some b
else some ((false,()),())
else some ((false,()),())
else some ((false,()),())):Option eF).bind fun c=>
some c
def aj5:Abs.Spec:=⟨0,⟨[0],PD,.nil⟩,⟨[2],eH,.nil⟩,YF⟩
def alx:Nat→Abs.eX
 |0=>.mk (bf [(1,⟨[2],eH,.nil⟩)]) bB bB fw
 |_=>{}
theorem ag0:dh 217 aj5:=okW alx (aX XH (aX afK dI))
def abA(v:Ux):Option eF:=
(YF v).bind fun a=>
some ((!a.1.1,()),())
def amc:Abs.Spec:=⟨0,⟨[0],PD,.nil⟩,⟨[2],eH,.nil⟩,abA⟩
theorem akP:dh 187 amc:=okW rT (aX ag0 dI)
def aeg(v:Gj):Option eF:=
(Ws v).bind fun a=>
some a
def aja:Abs.Spec:=⟨0,⟨[0],iJ,.nil⟩,⟨[2],eH,.nil⟩,aeg⟩
theorem alF:dh 218 aja:=okW rT (aX XH dI)
def vZ(v:agx):Option (agx⊕(eF⊕qR)):=
bif decide (v.1.1<v.1.2.2.2.1)then Abs.rowAt v.1.2.2.1 v.1.1 fun b _=>
(((aeg ((b,()),())).bind fun d=>
bif !d.1.1 then some ((true,v.1.2.1,v.1.2.2.1,v.1.2.2.2.1,v.1.1,()),())
else bif decide (v.1.1>0)then Abs.rowAt v.1.2.1 (aO (v.1.1-1)) fun c _=>
some ((Op.bytesLess b.toList c.toList||b.toList==c.toList,v.1.2.1,v.1.2.2.1,v.1.2.2.2.1,v.1.1,()),())
else some ((false,v.1.2.1,v.1.2.2.1,v.1.2.2.2.1,v.1.1,()),())):Option ((Bool×List ByteArray×List ByteArray×Int×Int×Unit)×Unit)).bind fun a=>
bif a.1.1 then some (.inr (.inl ((false,()),())))
else some (.inl ((aO (a.1.2.2.2.2.1+1),a.1.2.1,a.1.2.2.1,a.1.2.2.2.1,()),()))
else(some (.inr (.inr ((),()))))
def Zw(v:(YI×Unit)):Option eF:=
(aC vZ ((0,v.1.1,v.1.1,(v.1.1.length:Int),()),())).bind fun a=>
aA a (fun b=>(some b)) (fun c=>(some ((true,()),())))
def ana:Abs.Spec:=⟨0,⟨[0],JV,.nil⟩,⟨[2],eH,.nil⟩,Zw⟩
def ak8:Nat→Abs.eX
 |0=>.mk (bf [(4,⟨[27,0,5,6,7],(.dat .bool (.dat Jp (.dat Jp l9))),.nil⟩)]) bB (bf [(2,⟨⟨[7,0,5,6],(.dat aQ (.dat Jp (.dat Jp cZ))),.nil⟩,Ro2⟩)]) fw
 |_=>{}
theorem agp:dh 188 ana:=okW ak8 (aX alF dI)
def xk(v:QU):Option (QU⊕(uo⊕qR)):=
bif decide (v.1.1<v.1.2.2.1)then Abs.rowAt v.1.2.1 v.1.1 fun a _=>
(abA ((a,()),())).bind fun b=>
bif b.1.1 then some (.inr (.inl ((v.1.1,()),())))
else some (.inl ((aO (v.1.1+1),v.1.2),()))
else(some (.inr (.inr ((),()))))
def ab3(v:((mJ×Int×Unit)×Unit)):Option uo:=
((bif v.1.2.1==0 then bif v.1.1.1 !=(-1)then some ((true,()),(v.1.1,()),())
else bif decide (v.1.2.1>0)then bif decide (v.1.1.1<0)then some ((true,()),(v.1.1,()),())
else some ((decide (v.1.1.1≥v.1.2.1),()),(v.1.1,()),())
else some ((false,()),(v.1.1,()),())
else bif decide (v.1.2.1>0)then bif decide (v.1.1.1<0)then some ((true,()),(v.1.1,()),())
else some ((decide (v.1.1.1≥v.1.2.1),()),(v.1.1,()),())
else some ((false,()),(v.1.1,()),())):Option (mY×GY)).bind fun c=>
bif c.1.1 then some ((3,()),())
else(((let d:=(decide ((c.2.1.1.2.1.length:Int)>8))
bif d then some ((true,()),c.2)
else let e:=(decide ((c.2.1.1.2.2.2.1.length:Int)>12))
some ((e,()),c.2)):Option (mY×GY)).bind fun b=>
bif b.1.1 then some ((5,()),())
else(((((aC xk ((0,b.2.1.1.2.1,(b.2.1.1.2.1.length:Int),()),())).bind fun f=>
aA f (fun g=>(some ((decide (g.1.1≥0),()),()))) (fun o=>(some ((false,()),())))):Option eF).bind fun h=>
bif h.1.1 then some ((true,()),b.2)
else(Zw ((b.2.1.1.2.2.2.1,()),())).bind fun j=>
some ((!j.1.1,()),b.2)):Option (mY×GY)).bind fun a=>
bif a.1.1 then some ((8,()),())
else((bif decide (a.2.1.1.2.2.1<0)then some ((true,()),())
else bif decide (a.2.1.1.2.2.2.2.1<0)then some ((true,()),())
else let k:=(decide (a.2.1.1.2.2.2.2.1>a.2.1.1.2.2.2.2.2.1))
bif k then some ((true,()),())
else let l:=(decide (a.2.1.1.2.2.2.2.2.1>a.2.1.1.2.2.2.2.2.2.1))
bif l then some ((true,()),())
else let m:=(decide (a.2.1.1.2.2.2.2.2.2.1>604800))
bif m then some ((true,()),())
else some ((a.2.1.1.2.2.2.2.2.2.1==0,()),())):Option eF).bind fun n=>
bif n.1.1 then some ((1,()),())
else some ((0,()),()))
def anm:Abs.Spec:=⟨0,⟨[0,1],(.dat Z5 cZ),.nil⟩,⟨[4],cZ,.nil⟩,ab3⟩
def alT:Nat→Abs.eX
 |0=>.mk (bf [(7,⟨[49],eH,.nil⟩),(5,⟨[39,2],(.dat .bool Xv),Nk⟩),(3,⟨[28,2],(.dat .bool Xv),Nk⟩),(1,⟨[5,2],(.dat .bool Xv),Nk⟩)]) bB bB (fun
  |5,2=>1
  |_,_=>0)
 |1=>.mk (bf [(1,⟨[4],eH,.nil⟩)]) bB bB (fun
  |1,2=>2
  |_,_=>0)
 |2=>.mk bB bB (bf [(2,⟨⟨[8,0,1,7],(.dat aQ (.dat Z2 (.st (.clo 187 []) cZ))),.nil⟩,Ro3⟩)]) fw
 |_=>{}
theorem anr:dh 139 anm:=okW alT (aX akP (aX agp dI))
def Gq(v:afe):Option (afe⊕(uo⊕adZ)):=
bif decide (v.1.1<v.1.2.2.2.1)then Abs.rowAt v.1.2.1 v.1.1 fun b _=>
(ab3 ((b,v.1.1,()),())).bind fun a=>
bif a.1.1 !=0 then some (.inr (.inl a))
else some (.inl ((aO (v.1.1+1),v.1.2),()))
else(some (.inr (.inr ((v.1.2.2.1,()),()))))
def m78(v:adZ):Option uo:=
bif (v.1.1.length:Int)==0 then some ((7,()),())
else(bif decide ((v.1.1.length:Int)>24)then some ((5,()),())
else(aC Gq ((0,v.1.1,v.1.1,(v.1.1.length:Int),()),())).bind fun a=>
aA a (fun b=>(some b)) (fun c=>(Abs.rowAt c.1.1 0 fun d _=>
bif decide ((d.2.1.length:Int)>0)then some ((8,()),())
else some ((0,()),()))))
def aoW:Abs.Spec:=⟨0,⟨[0],Pt,.nil⟩,⟨[2],cZ,.nil⟩,m78⟩
def apk:Nat→Abs.eX
 |0=>.mk bB bB (bf [(6,⟨⟨[16,14,0,15],(.dat aQ (.dat Bw La)),.nil⟩,(.more .ret ⟨[2],cZ,.nil⟩ (.one (.exit 1) ⟨[0],Pt,.nil⟩))⟩)]) fw
 |_=>{}
theorem ah4:dh 78 aoW:=okW apk (aX anr dI)
def Wq(v:Ux):Option eF:=
(YF v).bind fun a=>
some ((!a.1.1,()),())
def amH:Abs.Spec:=⟨0,⟨[0],PD,.nil⟩,⟨[2],eH,.nil⟩,Wq⟩
theorem aeN:dh 189 amH:=okW rT (aX ag0 dI)
def wR(v:QU):Option (QU⊕(uo⊕qR)):=
bif decide (v.1.1<v.1.2.2.1)then Abs.rowAt v.1.2.1 v.1.1 fun a _=>
(Wq ((a,()),())).bind fun b=>
bif b.1.1 then some (.inr (.inl ((v.1.1,()),())))
else some (.inl ((aO (v.1.1+1),v.1.2),()))
else(some (.inr (.inr ((),()))))
def vY(v:QU):Option (QU⊕(uo⊕qR)):=
bif decide (v.1.1<v.1.2.2.1)then Abs.rowAt v.1.2.1 v.1.1 fun a _=>
(Wq ((a,()),())).bind fun b=>
bif b.1.1 then some (.inr (.inl ((v.1.1,()),())))
else some (.inl ((aO (v.1.1+1),v.1.2),()))
else(some (.inr (.inr ((),()))))
def adh(v:((UN×Unit)×Unit)):Option uo:=
((bif (v.1.1.1.length:Int)==0 then some ((true,()),v)
else some (((v.1.1.2.1.length:Int)==0,()),v)):Option (mY×Xi)).bind fun a=>
bif a.1.1 then some ((7,()),())
else(((let c:=(decide ((a.2.1.1.1.length:Int)>8))
bif c then some ((true,()),a.2)
else let d:=(decide ((a.2.1.1.2.1.length:Int)>8))
bif d then some ((true,()),a.2)
else let e:=(decide ((a.2.1.1.2.2.1.length:Int)>12))
some ((e,()),a.2)):Option (mY×Xi)).bind fun b=>
bif b.1.1 then some ((5,()),())
else(((((aC wR ((0,b.2.1.1.1,(b.2.1.1.1.length:Int),()),())).bind fun f=>
aA f (fun g=>(some ((decide (g.1.1≥0),()),()))) (fun o=>(some ((false,()),())))):Option eF).bind fun h=>
bif h.1.1 then some ((true,()),())
else(((aC vY ((0,b.2.1.1.2.1,(b.2.1.1.2.1.length:Int),()),())).bind fun j=>
aA j (fun k=>(some ((decide (k.1.1≥0),()),()))) (fun p=>(some ((false,()),())))):Option eF).bind fun l=>
bif l.1.1 then some ((true,()),())
else(Zw (b.2.1.1.2.2,())).bind fun m=>
some ((!m.1.1,()),())):Option eF).bind fun n=>
bif n.1.1 then some ((8,()),())
else some ((0,()),()))
def aku:Abs.Spec:=⟨0,⟨[0],(.dat LQ .nil),.nil⟩,⟨[2],cZ,.nil⟩,adh⟩
def anj:Nat→Abs.eX
 |0=>.mk (bf [(5,⟨[31],eH,.nil⟩),(3,⟨[14,1],(.dat .bool (.st Dq .nil)),Wm⟩),(1,⟨[3,1],(.dat .bool (.st Dq .nil)),Wm⟩)]) bB bB (fun
  |5,6=>3
  |5,2=>1
  |_,_=>0)
 |1=>.mk (bf [(1,⟨[4],eH,.nil⟩)]) bB bB (fun
  |1,2=>2
  |_,_=>0)
 |2=>.mk bB bB (bf [(2,⟨⟨[8,0,1,7],ahc,.nil⟩,Ro3⟩)]) fw
 |3=>.mk (bf [(1,⟨[4],eH,.nil⟩)]) bB bB (fun
  |1,2=>4
  |_,_=>0)
 |4=>.mk bB bB (bf [(2,⟨⟨[8,0,1,7],ahc,.nil⟩,Ro3⟩)]) fw
 |_=>{}
theorem aky:dh 140 aku:=okW anj (aX aeN (aX agp dI))
def Gl(v:((Int×Dp×Int×Unit)×Unit)):Option (((Int×Dp×Int×Unit)×Unit)⊕(uo⊕qR)):=
bif decide (v.1.1<v.1.2.2.1)then Abs.rowAt v.1.2.1 v.1.1 fun b _=>
(adh ((b,()),())).bind fun a=>
bif a.1.1 !=0 then some (.inr (.inl a))
else some (.inl ((aO (v.1.1+1),v.1.2),()))
else(some (.inr (.inr ((),()))))
def m79(v:((Dp×Unit)×Unit)):Option uo:=
bif decide ((v.1.1.length:Int)>12)then some ((5,()),())
else((aC Gl ((0,v.1.1,(v.1.1.length:Int),()),())).bind fun a=>
aA a (fun b=>(some b)) (fun c=>(some ((0,()),()))))
def aoh:Abs.Spec:=⟨0,⟨[0],Q6,.nil⟩,⟨[2],cZ,.nil⟩,m79⟩
def ao5:Nat→Abs.eX
 |0=>.mk bB bB (bf [(4,⟨⟨[11,9,10],(.dat aQ KM),.nil⟩,aee⟩)]) fw
 |_=>{}
theorem aqf:dh 79 aoh:=okW ao5 (aX aky dI)
def m34(v:((Y8×Unit)×Unit)):Option uo:=
(m78 ((v.1.1.1,()),())).bind fun a=>
bif a.1.1 !=0 then some a
else((m79 ((v.1.1.2.1,()),())).bind fun b=>
bif b.1.1 !=0 then some b
else((bif decide (v.1.1.2.2.1<0)then some ((true,()),())
else some ((decide (v.1.1.2.2.1>604800),()),())):Option eF).bind fun c=>
bif c.1.1 then some ((1,()),())
else some ((0,()),()))
def apT:Abs.Spec:=⟨0,⟨[0],kD,.nil⟩,⟨[2],cZ,.nil⟩,m34⟩
def apA:Nat→Abs.eX
 |0=>.mk (bf [(7,⟨[24],eH,.nil⟩)]) bB bB fw
 |_=>{}
theorem abl:dh 34 apT:=okW apA (aX ah4 (aX aqf dI))
def m26(v:qR):Option (Unit×(qC×Unit)):=
some ((),((0,1,()),()),())
def apV:Abs.Spec:=⟨0,⟨[],.nil,.nil⟩,⟨[0],SQ,S9⟩,m26⟩
theorem ah9:dh 26 apV:=okW rT dI
def F9(v:afw):Option (afw⊕Vr):=
bif decide (v.1.1<v.1.2.2.2.2.1)then((Abs.rowAt v.1.2.2.2.1 v.1.1 fun b _=>
((bif b.2.2.2.1 !=(-1)then bif !v.1.2.2.1 then some ((true,v.1.2.2.2.1,v.1.2.2.2.2.1,v.1.1,v.1.2.1,v.1.2.2.1,()),(b,()),())
else some ((decide (b.2.2.2.1<v.1.2.1),v.1.2.2.2.1,v.1.2.2.2.2.1,v.1.1,v.1.2.1,v.1.2.2.1,()),(b,()),())
else some ((false,v.1.2.2.2.1,v.1.2.2.2.2.1,v.1.1,v.1.2.1,v.1.2.2.1,()),(b,()),())):Option ((Bool×List Y3×Int×Int×Int×Bool×Unit)×MI)).bind fun a=>
bif a.1.1 then some ((a.2.1.1.2.2.2.1,true,a.1.2.1,a.1.2.2.1,a.1.2.2.2.1,()),())
else some ((a.1.2.2.2.2.1,a.1.2.2.2.2.2.1,a.1.2.1,a.1.2.2.1,a.1.2.2.2.1,()),())):Option ((Int×Bool×List Y3×Int×Int×Unit)×Unit)).bind fun c=>
some (.inl ((aO (c.1.2.2.2.2.1+1),c.1.1,c.1.2.1,c.1.2.2.1,c.1.2.2.2.1,()),()))
else(some (.inr ((v.1.2.2.1,v.1.2.1,()),())))
def m30(v:(yc×Unit)):Option Wv:=
(aC F9 ((0,0,false,v.1.1.2.1,(v.1.1.2.1.length:Int),()),())).bind fun a=>
some ((a.1.2.1,a.1.1,()),())
def ao9:Abs.Spec:=⟨0,⟨[0],kS,.nil⟩,⟨[2,3],Ic,.nil⟩,m30⟩
def apb:Nat→Abs.eX
 |0=>.mk (bf [(5,⟨[27,9,10,11,7,4,5],(.dat .bool (.dat XW (.dat aQ Yb))),yF⟩)]) (bf [(7,(⟨[4,5,9,10,11],(.dat aQ (.dat .bool (.dat XW l9))),.nil⟩,none))]) (bf [(3,⟨⟨[11,4,5,9,10],(.dat aQ (.dat aQ (.dat .bool ahq))),.nil⟩,(.one (.exit 0) ⟨[5,4],NC,.nil⟩)⟩)]) fw
 |_=>{}
theorem aik:dh 30 ao9:=okW apb dI
def acy(v:(MK×Unit)):Option YP:=
bif decide (v.1.1.length≤4294967296)then some ((),v.1)else none
def ajD:Abs.Spec:=⟨0,⟨[0],(.dat XW .nil),.nil⟩,⟨[2],VP,qL⟩,acy⟩
theorem akn:Abs.gP Tryz.prog 112 ajD:=
 Abs.xC (N:=note) (t:=Z1) Df (Abs.qU (n:=12) (an:=fun _=>{}) (T:=Abs.vX []) good Df (Abs.lV _ (fun _ h=>by cases h)) rfl (by intro v;kernel_rfl)) (by kernel_rfl) (by kernel_rfl)
def aiw(v:UZ):Option (Unit×IC):=
bif decide (v.1.1.length≤4294967296)then some ((),v.1)else none
def ajV:Abs.Spec:=⟨0,⟨[0],Oe,.nil⟩,⟨[2],(.st SI .nil),nJ⟩,aiw⟩
theorem amF:Abs.gP Tryz.prog 165 ajV:=
 Abs.xC (N:=note) (t:=Z6) Df (Abs.qU (n:=12) (an:=fun _=>{}) (T:=Abs.vX []) good Df (Abs.lV _ (fun _ h=>by cases h)) rfl (by intro v;kernel_rfl)) (by kernel_rfl) (by kernel_rfl)
def agT(v:((Y4×Unit)×Unit)):Option (Unit×(Y4×Unit)):=
bif decide (v.1.1.length≤4294967296)then some ((),v.1)else none
def amR:Abs.Spec:=⟨0,⟨[0],(.dat Z2 .nil),.nil⟩,⟨[2],(.st (.own Z33 (0,0)) .nil),aaT⟩,agT⟩
theorem ak2:Abs.gP Tryz.prog 166 amR:=
 Abs.xC (N:=note) (t:=Z33) Df (Abs.qU (n:=12) (an:=fun _=>{}) (T:=Abs.vX []) good Df (Abs.lV _ (fun _ h=>by cases h)) rfl (by intro v;kernel_rfl)) (by kernel_rfl) (by kernel_rfl)
def AY(v:(qG×IC)):Option ((qG×IC)⊕(Unit×IC)):=
bif decide (v.1.1<v.1.2.1)then bif decide (0≤v.1.1∧v.1.1<v.2.1.length)then
(v.2.1[v.1.1.toNat]?).bind fun b=>
(agT (b.2.2.2.2,())).bind fun c=>
bif decide (0≤v.1.1∧v.1.1<v.2.1.length)then
(v.2.1[v.1.1.toNat]?).bind fun a=>
some (.inl ((aO (v.1.1+1),v.1.2),v.2.1.set v.1.1.toNat (a.1,a.2.1,a.2.2.1,a.2.2.2.1,c.2),()))
else none
else none
else(some (.inr ((),v.2)))
def Rp(v:UZ):Option (Unit×IC):=
(aiw v).bind fun a=>
(aC AY ((0,((a.2.1.length:Nat):Int),()),a.2)).bind fun b=>
some ((),b.2)
def alX:Abs.Spec:=⟨0,⟨[0],Oe,.nil⟩,⟨[2],(.st SI .nil),nJ⟩,Rp⟩
def ant:Nat→Abs.eX
 |0=>.mk bB bB (bf [(3,⟨⟨[9,3,8],(.dat aQ QW),nJ⟩,(.one (.exit 0) ⟨[3],(.st SI .nil),nJ⟩)⟩)]) fw
 |_=>{}
theorem aaP:dh 111 alX:=okW ant (aX amF (aX ak2 dI))
def ai4(v:(Rx×Unit)):Option (Unit×Rx):=
bif decide (v.1.1.length≤4294967296)then some ((),v.1)else none
def alu:Abs.Spec:=⟨0,⟨[0],ajN,.nil⟩,⟨[2],(.st GV .nil),yE⟩,ai4⟩
theorem alV:Abs.gP Tryz.prog 167 alu:=
 Abs.xC (N:=note) (t:=Z7) Df (Abs.qU (n:=12) (an:=fun _=>{}) (T:=Abs.vX []) good Df (Abs.lV _ (fun _ h=>by cases h)) rfl (by intro v;kernel_rfl)) (by kernel_rfl) (by kernel_rfl)
def aaC(v:Q7):Option O1:=
bif decide (v.1.1.length≤4294967296)then some ((),v.1)else none
def amW:Abs.Spec:=⟨0,⟨[0],mF,.nil⟩,⟨[2],Ox,BN⟩,aaC⟩
theorem afl:Abs.gP Tryz.prog 103 amW:=
 Abs.xC (N:=note) (t:=Z31) Df (Abs.qU (n:=12) (an:=fun _=>{}) (T:=Abs.vX []) good Df (Abs.lV _ (fun _ h=>by cases h)) rfl (by intro v;kernel_rfl)) (by kernel_rfl) (by kernel_rfl)
def AR(v:(qG×abQ)):Option ((qG×abQ)⊕Lr):=
bif decide (v.1.1<v.1.2.1)then bif decide (0≤v.1.1∧v.1.1<v.2.2.2.1.length)then
(v.2.2.2.1[v.1.1.toNat]?).bind fun b=>
(aaC ((b.2.1,()),())).bind fun c=>
bif decide (0≤v.1.1∧v.1.1<v.2.2.2.1.length)then
(v.2.2.2.1[v.1.1.toNat]?).bind fun a=>
some (.inl ((aO (v.1.1+1),v.1.2),v.2.1,v.2.2.1,v.2.2.2.1.set v.1.1.toNat (a.1,c.2.1,a.2.2),()))
else none
else none
else(some (.inr ((),v.2.2.1,v.2.1,v.2.2.2)))
def Tw(v:Xb):Option (Unit×(qO×List mI×Unit)):=
(ai4 ((v.1.1.2.2.1,()),())).bind fun a=>
(aC AR ((0,((a.2.1.length:Nat):Int),()),((v.1.1.1,v.1.1.2.1,v.1.1.2.2.2),()),((0,ByteArray.empty,0,0,()),()),a.2)).bind fun b=>
some ((),b.2.2)
def akj:Abs.Spec:=⟨0,⟨[0],pz,.nil⟩,⟨[2],Pz,AX⟩,Tw⟩
def am6:Nat→Abs.eX
 |0=>.mk bB bB (bf [(3,⟨⟨[11,1,2,10],(.dat aQ alh),(.box 5 afX (.box 5 EN yE))⟩,(.one (.exit 0) ⟨[2,1],Pm,Rz⟩)⟩)]) fw
 |_=>{}
theorem U3:dh 113 akj:=okW am6 (aX alV (aX afl dI))
def Gf(v:afF):Option (afF⊕(Unit×(qC×qC×List Y3×kQ×Unit))):=
bif decide (v.1.1<v.1.2.1)then bif decide (0≤v.1.1∧v.1.1<v.2.2.1.length)then
(v.2.2.1[v.1.1.toNat]?).bind fun b=>
(Tw ((b,()),())).bind fun a=>
bif decide (0≤v.1.1∧v.1.1<v.2.2.1.length)then
bif decide (v.1.1.toNat<v.2.2.1.length)then
some (.inl ((aO (v.1.1+1),v.1.2),v.2.1,v.2.2.1.set v.1.1.toNat (a.2.1.1.1,a.2.1.1.2.1,a.2.2.1,a.2.1.1.2.2),v.2.2.2))
else none
else none
else none
else(some (.inr ((),v.2.2.2.1,v.2.1,v.2.2.1,v.2.2.2.2)))
def i64:Abs.Sg:=⟨[0],kS,.nil⟩
def m64(v:(yc×Unit)):Option (Unit×JU):=
(acy ((v.1.1.2.1,()),())).bind fun a=>
(Rp ((v.1.1.2.2.1,()),())).bind fun b=>
(aC Gf ((0,((a.2.1.length:Nat):Int),()),((v.1.1.1,v.1.1.2.2.2),()),a.2.1,((0,0,()),()),b.2)).bind fun c=>
some ((),c.2.2)
def aoD:Abs.Spec:=⟨0,i64,⟨[2],SQ,DT⟩,m64⟩
def aos:Nat→Abs.eX
 |0=>.mk bB bB (bf [(3,⟨⟨[16,1,14,2,15],(.dat aQ (.st fV (.st Hg (.st zF cZ)))),(.box 4 (.agg (.dat aQ (.st Hg (.st (.own Z6 (3,0)) cZ))) .nil) (.arr Z1 false (.box 4 DF nJ)))⟩,(.one (.exit 0) ⟨[2,1],(.st fV Xm),(.box 4 DF (.box 4 (.agg (.dat aQ (.st (.own Z1 (2,0)) (.st (.own Z6 (3,0)) cZ))) .nil) YB))⟩)⟩)]) fw
 |_=>{}
theorem acw:dh 64 aoD:=okW aos (aX akn (aX aaP (aX U3 dI)))
def J5(v:(J7×Unit)):Option eF:=
((bif decide (v.1.1≥v.1.2.1)then some ((decide (v.1.1≤v.1.2.2.1),()),())
else some ((false,()),())):Option eF).bind fun a=>
some a
def amg:Abs.Spec:=⟨0,⟨[0,1,2],DN,.nil⟩,⟨[6],eH,.nil⟩,J5⟩
def akO:Nat→Abs.eX
 |0=>.mk (bf [(1,⟨[6],eH,.nil⟩)]) bB bB fw
 |_=>{}
theorem P8:dh 125 amg:=okW akO dI
def Cj(v:((Int×fe×fe×Int×Unit)×Unit)):Option (((Int×fe×fe×Int×Unit)×Unit)⊕(eF⊕qR)):=
bif decide (v.1.1<v.1.2.2.2.1)then Abs.rowAt v.1.2.2.1 v.1.1 fun a _=>
(((Ws ((a.1,()),())).bind fun d=>
bif !d.1.1 then some ((true,v.1.2.1,v.1.2.2.1,v.1.2.2.2.1,v.1.1,()),())
else(Yh (a.2,())).bind fun e=>
bif !e.1.1 then some ((true,v.1.2.1,v.1.2.2.1,v.1.2.2.2.1,v.1.1,()),())
else bif a.2.1.toList==ByteArray.empty.toList then some ((true,v.1.2.1,v.1.2.2.1,v.1.2.2.2.1,v.1.1,()),())
else bif decide (v.1.1>0)then Abs.rowAt v.1.2.1 (aO (v.1.1-1)) fun c _=>
some ((Op.bytesLess a.1.toList c.1.toList||a.1.toList==c.1.toList,v.1.2.1,v.1.2.2.1,v.1.2.2.2.1,v.1.1,()),())
else some ((false,v.1.2.1,v.1.2.2.1,v.1.2.2.2.1,v.1.1,()),())):Option ((Bool×fe×fe×Int×Int×Unit)×Unit)).bind fun b=>
bif b.1.1 then some (.inr (.inl ((false,()),())))
else some (.inl ((aO (b.1.2.2.2.2.1+1),b.1.2.1,b.1.2.2.1,b.1.2.2.2.1,()),()))
else(some (.inr (.inr ((),()))))
def m66(v:Q7):Option eF:=
bif decide ((v.1.1.length:Int)>12)then some ((false,()),())
else((aC Cj ((0,v.1.1,v.1.1,(v.1.1.length:Int),()),())).bind fun a=>
aA a (fun b=>(some b)) (fun c=>(some ((true,()),()))))
def aqD:Abs.Spec:=⟨0,⟨[0],mF,.nil⟩,⟨[2],eH,.nil⟩,m66⟩
def apK:Nat→Abs.eX
 |0=>.mk (bf [(6,⟨[44,0,8,9,10],(.dat .bool (.dat jH (.dat jH l9))),.nil⟩)]) bB (bf [(4,⟨⟨[10,0,8,9],(.dat aQ (.dat jH R8)),.nil⟩,Ro2⟩)]) fw
 |_=>{}
theorem Xj:dh 66 aqD:=okW apK (aX XH (aX afK dI))
def uF(v:((Int×fe×Int×Unit)×YI)):Option (((Int×fe×Int×Unit)×YI)⊕(Unit×YI)):=
bif decide (v.1.1<v.1.2.2.1)then Abs.rowAt v.1.2.1 v.1.1 fun a _=>
bif decide (a.1.size+1≤4294967296)then
bif decide (a.2.1.size≤4294967296)then
bif decide ((a.1++(bs [61])).size+(lC a.2.1).size≤4294967296)then
bif decide (v.2.1.length+ [((a.1++(bs [61]))++(lC a.2.1))].length≤4294967296)then
let b:=(v.2.1++ [((a.1++(bs [61]))++(lC a.2.1))])
some (.inl ((aO (v.1.1+1),v.1.2),b,()))
else none
else none
else none
else none
else(some (.inr ((),v.2)))
def Xn(v:Q7):Option Gj:=
(m66 v).bind fun b=>
bif !b.1.1 then some ((ByteArray.empty,()),())
else((aC uF ((0,v.1.1,(v.1.1.length:Int),()),[],())).bind fun a=>
bif decide (List.length a.2.1≤4294967296∧(ug a.2.1 (bs [44])).size≤140737488355328)then
bif decide (1+(ug a.2.1 (bs [44])).size≤4294967296)then
bif decide (((bs [123])++(ug a.2.1 (bs [44]))).size+1≤4294967296)then
let c:=(((bs [123])++(ug a.2.1 (bs [44])))++(bs [125]))
some ((c,()),())
else none
else none
else none)
def alv:Abs.Spec:=⟨0,⟨[0],mF,.nil⟩,⟨[2],iJ,.nil⟩,Xn⟩
def alM:Nat→Abs.eX
 |0=>.mk bB bB (bf [(5,⟨⟨[11,3,9,10],(.dat aQ (.st amt R8)),Qy⟩,(.one (.exit 0) ⟨[3],(.st amt .nil),Qy⟩)⟩)]) fw
 |_=>{}
theorem aay:dh 118 alv:=okW alM (aX Xj dI)
def adT(v:ZK):Option eF:=
(((m66 ((v.1.1.2.1,()),())).bind fun a=>
bif a.1.1 then(Xn ((v.1.1.2.1,()),())).bind fun b=>
bif b.1.1.toList==v.1.1.1.toList then(J5 ((v.1.1.2.2.1,0,8589934592,()),())).bind fun c=>
bif c.1.1 then(J5 ((v.1.1.2.2.2.1,0,8589934592,()),())).bind fun d=>
bif d.1.1 then bif v.1.1.2.2.2.2.1 then some ((true,()),())
else some ((!v.1.1.2.2.2.2.2.1,()),())
else some ((false,()),())
else some ((false,()),())
else some ((false,()),())
else some ((false,()),())):Option eF).bind fun e=>
some e
def akB:Abs.Spec:=⟨0,⟨[0],(.dat Z7 .nil),.nil⟩,⟨[2],eH,.nil⟩,adT⟩
def aj0:Nat→Abs.eX
 |0=>.mk (bf [(1,⟨[2],eH,.nil⟩)]) bB bB fw
 |_=>{}
theorem aj6:dh 144 akB:=okW aj0 (aX Xj (aX aay (aX P8 dI)))
def Az(v:(aa4×MI)):Option ((aa4×MI)⊕(eF⊕qR)):=
bif decide (v.1.1<v.1.2.2.1)then Abs.rowAt v.1.2.1 v.1.1 fun b _=>
(((adT ((b,()),())).bind fun d=>
bif !d.1.1 then some ((true,v.1.2.1,v.1.2.2.1,v.1.1,()),v.2)
else bif decide (v.1.1>0)then Abs.rowAt v.2.1.1.2.2.1 (aO (v.1.1-1)) fun c _=>
some ((Op.bytesLess b.1.toList c.1.toList||b.1.toList==c.1.toList,v.1.2.1,v.1.2.2.1,v.1.1,()),v.2)
else some ((false,v.1.2.1,v.1.2.2.1,v.1.1,()),v.2)):Option ((Bool×List mI×Int×Int×Unit)×MI)).bind fun a=>
bif a.1.1 then some (.inr (.inl ((false,()),())))
else some (.inl ((aO (a.1.2.2.2.1+1),a.1.2.1,a.1.2.2.1,()),a.2))
else(some (.inr (.inr ((),()))))
def m82(v:Xb):Option eF:=
((let b:=(decide ((v.1.1.2.2.1.length:Int)>256))
bif b then some ((true,()),v)
else bif decide (v.1.1.1<0)then some ((true,()),v)
else(J5 ((v.1.1.2.2.2.1,-1,8589934592,()),())).bind fun c=>
bif !c.1.1 then some ((true,()),v)
else(J5 ((v.1.1.2.2.2.2.1,-1,8589934592,()),())).bind fun d=>
some ((!d.1.1,()),v)):Option (mY×MI)).bind fun a=>
bif a.1.1 then some ((false,()),())
else((aC Az ((0,a.2.1.1.2.2.1,(a.2.1.1.2.2.1.length:Int),()),a.2)).bind fun e=>
aA e (fun f=>(some f)) (fun g=>(some ((true,()),()))))
def aql:Abs.Spec:=⟨0,⟨[0],pz,.nil⟩,⟨[2],eH,.nil⟩,m82⟩
def ap2:Nat→Abs.eX
 |0=>.mk (bf [(6,⟨[52,1,27,28,29],(.dat .bool (.st gQ (.dat F5 l9))),yF⟩),(1,⟨[25,1],(.dat .bool Pz),yF⟩)]) bB (bf [(4,⟨⟨[29,1,27,28],(.dat aQ (.st gQ aeW)),yF⟩,Ro2⟩)]) fw
 |_=>{}
theorem ac3:dh 82 aql:=okW ap2 (aX P8 (aX aj6 dI))
def VO(v:(L9×Unit)):Option eF:=
(m78 ((([(-1,[],v.1.1.2.2)]:List mJ),()),())).bind fun a=>
some ((a.1.1==0,()),())
def amZ:Abs.Spec:=⟨0,⟨[0],wP,.nil⟩,⟨[2],eH,.nil⟩,VO⟩
theorem Y1:dh 124 amZ:=okW rT (aX ah4 dI)
def aad(v:Gj):Option eF:=
some ((!(v.1.1.toList==v.1.1.toList),()),())
def ajk:Abs.Spec:=⟨0,⟨[0],iJ,.nil⟩,⟨[2],eH,.nil⟩,aad⟩
theorem alS:dh 190 ajk:=okW rT dI
def XM(v:Ul):Option uo:=
(aad ((v.1.1,()),())).bind fun b=>
(aad (v.1.2,())).bind fun a=>
bif b.1.1 then bif a.1.1 then some ((0,()),())
else some ((-1,()),())
else(bif a.1.1 then some ((1,()),())
else bif Op.bytesLess v.1.1.toList v.1.2.1.toList then some ((-1,()),())
else bif !(Op.bytesLess v.1.1.toList v.1.2.1.toList||v.1.1.toList==v.1.2.1.toList)then some ((1,()),())
else some ((0,()),()))
def akc:Abs.Spec:=⟨0,⟨[0,1],OL,.nil⟩,⟨[4],cZ,.nil⟩,XM⟩
theorem af0:dh 146 akc:=okW rT (aX alS dI)
def Yz(v:((mI×ByteArray×Unit)×Unit)):Option uo:=
(XM ((v.1.1.1,v.1.2),())).bind fun a=>
some a
def ajH:Abs.Spec:=⟨0,⟨[0,1],(.dat Z7 iJ),.nil⟩,⟨[4],cZ,.nil⟩,Yz⟩
theorem akL:dh 175 ajH:=okW rT (aX af0 dI)
def oL(v:aeR):Option (aeR⊕((ByteArray×Int×List mI×Int×Unit)×Unit)):=
bif decide (v.1.2.2.2.1<v.1.2.2.1)then let a:=(IntKind.wrap .u64 (aO (v.1.2.2.2.1+v.1.2.2.1)))
bif decide ((0:Int)≤1)then
Abs.rowAt v.1.2.1 (aO (Cz .u64 (a) (1))) fun b _=>
(Yz ((b,v.1.1,()),())).bind fun c=>
bif decide (c.1.1<0)then some (.inl ((v.1.1,v.1.2.1,v.1.2.2.1,aO ((aO (Cz .u64 (a) (1)))+1),v.1.2.2.2.2),()))
else some (.inl ((v.1.1,v.1.2.1,aO (Cz .u64 (a) (1)),v.1.2.2.2),()))
else none
else(some (.inr ((v.1.1,v.1.2.2.2.1,v.1.2.1,v.1.2.2.2.2),())))
def QK(v:((Y3×ByteArray×Unit)×Unit)):Option Wv:=
(aC oL ((v.1.2.1,v.1.1.2.2.1,(v.1.1.2.2.1.length:Int),0,(v.1.1.2.2.1.length:Int),()),())).bind fun a=>
((bif decide (a.1.2.1<a.1.2.2.2.1)then Abs.rowAt a.1.2.2.1 a.1.2.1 fun b _=>
(Yz ((b,a.1.1,()),())).bind fun c=>
some ((a.1.2.1,c.1.1==0,()),())
else some ((a.1.2.1,false,()),())):Option Wv).bind fun d=>
some d
def aj3:Abs.Spec:=⟨0,⟨[0,1],(.dat Z1 iJ),.nil⟩,⟨[4,5],Ic,.nil⟩,QK⟩
def ak0:Nat→Abs.eX
 |0=>.mk bB bB bB (fun
  |1,3=>1
  |_,_=>0)
 |1=>.mk (bf [(8,⟨[6,7],Ic,.nil⟩)]) bB (bf [(3,⟨⟨[1,0,2,10,9,8],(.dat .str (.dat F5 (.st (.clo 175 []) DN))),.nil⟩,(.one (.exit 0) ⟨[1,9,0,2,8],(.dat .str (.dat aQ (.dat F5 (.st (.clo 175 []) cZ)))),.nil⟩)⟩)]) fw
 |_=>{}
theorem afd:dh 126 aj3:=okW ak0 (aX akL dI)
def QD(v:uo):Option uo:=
bif decide (v.1.1>8589934592)then some ((-1,()),())
else(some v)
def akF:Abs.Spec:=⟨0,⟨[0],cZ,.nil⟩,⟨[2],cZ,.nil⟩,QD⟩
theorem Z8:dh 179 akF:=okW rT dI
def ahS(v:Xb):Option eF:=
some (((v.1.1.2.2.1.length:Int)==0,()),())
def amQ:Abs.Spec:=⟨0,⟨[0],pz,.nil⟩,⟨[2],eH,.nil⟩,ahS⟩
theorem am0:dh 145 amQ:=okW rT dI
def rC(v:afV):Option (afV⊕Lr):=
bif decide (v.1.1<v.1.2.2.2.2.1)then((Abs.rowAt v.1.2.2.2.1 v.1.1 fun k _=>
(QK (((v.2.1.1.1,v.2.1.1.2.1,v.2.2.2.2.1,v.2.1.1.2.2),k.1,()),())).bind fun j=>
((bif j.1.2.1 then bif k.2.2.2.2.1 then let n:=(decide (k.2.2.2.1≤(aO (v.1.2.1-v.1.2.2.1))))
some ((n,v.1.2.1,v.1.2.2.1,v.1.2.2.2.1,v.1.2.2.2.2.1,v.1.1,j.1.1,()),v.2)
else some ((false,v.1.2.1,v.1.2.2.1,v.1.2.2.2.1,v.1.2.2.2.2.1,v.1.1,j.1.1,()),v.2)
else some ((false,v.1.2.1,v.1.2.2.1,v.1.2.2.2.1,v.1.2.2.2.2.1,v.1.1,j.1.1,()),v.2)):Option ((Bool×Int×Int×List mI×Int×Int×Int×Unit)×Y41)).bind fun a=>
bif a.1.1 then((bif decide (0≤a.1.2.2.2.2.2.2.1∧a.1.2.2.2.2.2.2.1<a.2.2.2.2.1.length)then
(a.2.2.2.2.1[a.1.2.2.2.2.2.2.1.toNat]?).bind fun o=>
bif o.2.2.2.2.1==false then bif decide (a.2.2.2.2.1.length=a.2.2.2.2.1.length)&&true then
some ((a.1.2.1,a.1.2.2.1,a.1.2.2.2.1,a.1.2.2.2.2.1,a.1.2.2.2.2.2.1,()),a.2)
else none
else(a.2.2.2.2.1[a.1.2.2.2.2.2.2.1.toNat]?).bind fun p=>
bif !p.2.2.2.2.2.1 then bif decide (0≤a.1.2.2.2.2.2.2.1∧a.1.2.2.2.2.2.2.1<(aO (a.1.2.2.2.2.2.2.1+1))∧((aO (a.1.2.2.2.2.2.2.1+1)):Int)≤a.2.2.2.2.1.length∧a.2.2.2.2.1.length≤4294967296)then
bif decide (a.2.2.2.2.1.length=a.2.2.2.2.1.length)&&true then
bif decide (a.2.2.2.2.1.length=a.2.2.2.2.1.length)&&true then
some ((a.1.2.1,a.1.2.2.1,a.1.2.2.2.1,a.1.2.2.2.2.1,a.1.2.2.2.2.2.1,()),a.2.1,a.2.2.1,a.2.2.2.1,a.2.2.2.2.1.take a.1.2.2.2.2.2.2.1.toNat++a.2.2.2.2.1.drop (aO (a.1.2.2.2.2.2.2.1+1)).toNat,())
else none
else none
else none
else(a.2.2.2.2.1[a.1.2.2.2.2.2.2.1.toNat]?).bind fun b=>
((a.2.2.2.2.1.set a.1.2.2.2.2.2.2.1.toNat (b.1,b.2.1,b.2.2.1,b.2.2.2.1,false,b.2.2.2.2.2))[a.1.2.2.2.2.2.2.1.toNat]?).bind fun c=>
(((a.2.2.2.2.1.set a.1.2.2.2.2.2.2.1.toNat (b.1,b.2.1,b.2.2.1,b.2.2.2.1,false,b.2.2.2.2.2)).set a.1.2.2.2.2.2.2.1.toNat (c.1,c.2.1,c.2.2.1,c.2.2.2.1,c.2.2.2.2.1,false,()))[a.1.2.2.2.2.2.2.1.toNat]?).bind fun e=>
((bif a.2.1.1.2.2.2.1 !=(-1)then let m:=(aO (a.2.1.1.2.2.2.1+a.2.2.1.1.2.2.2.2.2.1))
let q:=(if m>a.1.2.1 then m else a.1.2.1)
some ((q,()),a.2.1,((a.2.2.2.2.1.set a.1.2.2.2.2.2.2.1.toNat (b.1,b.2.1,b.2.2.1,b.2.2.2.1,false,b.2.2.2.2.2)).set a.1.2.2.2.2.2.2.1.toNat (c.1,c.2.1,c.2.2.1,c.2.2.2.1,c.2.2.2.2.1,false,())).set a.1.2.2.2.2.2.2.1.toNat (e.1,e.2.1,a.1.2.1,e.2.2.2),())
else some ((aO (a.1.2.1+a.2.2.1.1.2.2.2.2.1),()),a.2.1,((a.2.2.2.2.1.set a.1.2.2.2.2.2.2.1.toNat (b.1,b.2.1,b.2.2.1,b.2.2.2.1,false,b.2.2.2.2.2)).set a.1.2.2.2.2.2.2.1.toNat (c.1,c.2.1,c.2.2.1,c.2.2.2.1,c.2.2.2.2.1,false,())).set a.1.2.2.2.2.2.2.1.toNat (e.1,e.2.1,a.1.2.1,e.2.2.2),())):Option Fe).bind fun f=>
((bif f.2.1.1.2.2.1 !=(-1)then let r:=(if f.2.1.1.2.2.1<f.1.1 then f.2.1.1.2.2.1 else f.1.1)
some ((r,()),f.2)
else some f):Option Fe).bind fun g=>
(QD (g.1,())).bind fun s=>
bif decide (g.2.2.1.length=(((a.2.2.2.2.1.set a.1.2.2.2.2.2.2.1.toNat (b.1,b.2.1,b.2.2.1,b.2.2.2.1,false,b.2.2.2.2.2)).set a.1.2.2.2.2.2.2.1.toNat (c.1,c.2.1,c.2.2.1,c.2.2.2.1,c.2.2.2.2.1,false,())).set a.1.2.2.2.2.2.2.1.toNat (e.1,e.2.1,a.1.2.1,e.2.2.2)).length)&&true then
bif decide (g.2.2.1.length=a.2.2.2.2.1.length)&&true then
some ((a.1.2.1,a.1.2.2.1,a.1.2.2.2.1,a.1.2.2.2.2.1,a.1.2.2.2.2.2.1,()),((g.2.1.1.1,g.2.1.1.2.1,s.1.1,g.2.1.1.2.2.2),()),a.2.2.1,a.2.2.2.1,g.2.2)
else none
else none
else none):Option afi).bind fun d=>
((let t:=(((d.2.2.2.2.1.length:Nat):Int)==0)
bif decide (d.2.2.2.2.1.length=d.2.2.2.2.1.length)&&true then
bif t then some ((),d.2.2.2.2.1,((0,ByteArray.empty,0,0,()),()),((d.2.1.1.1,d.2.1.1.2.1,-1,d.2.1.1.2.2.2),()),())
else some ((),d.2.2.2.2.1,((0,ByteArray.empty,0,0,()),()),d.2.1,())
else none):Option NM).bind fun l=>
bif decide (l.2.1.length=d.2.2.2.2.1.length)&&true then
some (d.1,l.2.2.2.1,d.2.2.1,d.2.2.2.1,l.2.1,())
else none
else some ((a.1.2.1,a.1.2.2.1,a.1.2.2.2.1,a.1.2.2.2.2.1,a.1.2.2.2.2.2.1,()),a.2)):Option afi).bind fun h=>
some (.inl ((aO (h.1.2.2.2.2.1+1),h.1.1,h.1.2.1,h.1.2.2.1,h.1.2.2.2.1,()),h.2))
else(some (.inr ((),v.2.2.2.1,v.2.1,v.2.2.2.2)))
def acs(v:((Y3×mJ×Int×Int×Unit)×Unit)):Option Fe:=
(((m82 ((v.1.1,()),())).bind fun d=>
bif !d.1.1 then some ((true,v.1.2.2),((0,ByteArray.empty,0,0,()),()),(v.1.2.1,()),(v.1.1,()),())
else(VO ((v.1.2.1,()),())).bind fun e=>
some ((!e.1.1,v.1.2.2),((0,ByteArray.empty,0,0,()),()),(v.1.2.1,()),(v.1.1,()),())):Option (JM×XD)).bind fun b=>
bif b.1.1 then some ((8,()),((0,ByteArray.empty,0,0,()),()),[],())
else((((J5 ((b.1.2.1,0,8589934592,()),())).bind fun f=>
bif !f.1.1 then some ((true,b.1.2),b.2)
else(J5 ((b.1.2.2.1,0,604800,()),())).bind fun g=>
some ((!g.1.1,b.1.2),b.2)):Option (JM×XD)).bind fun a=>
bif a.1.1 then some ((1,()),((0,ByteArray.empty,0,0,()),()),[],())
else(Tw a.2.2.2).bind fun c=>
bif a.1.2.2.1==0 then some ((0,()),c.2)
else(aC rC ((0,a.1.2.1,a.1.2.2.1,a.2.2.2.1.1.2.2.1,(a.2.2.2.1.1.2.2.1.length:Int),()),c.2.1,a.2.2.1,a.2.1,c.2.2)).bind fun h=>
some ((0,()),h.2.2))
def aj2:Abs.Spec:=⟨0,⟨[0,1,2,3],(.dat Z1 (.dat Z5 l9)),.nil⟩,⟨[8,9],Iu,AX⟩,acs⟩
def aly:Nat→Abs.eX
 |0=>.mk (bf [(13,⟨[10,2,5,3,41,8,42,43],ajA,LJ⟩),(12,⟨[66,10,2,5,3,41,8,42,43,13],(.dat .bool (.st gQ (.dat aQ (.st SS (.dat aQ (.dat F5 (.st p8 DN))))))),LJ⟩),(3,⟨[25,8,2,5,3,4],(.dat .bool RA),XL⟩),(1,⟨[15,8,2,5,3,4],(.dat .bool RA),XL⟩)]) (bf [(15,(⟨[10,2,5,3,41,8,42,43],ajA,LJ⟩,none))]) (bf [(9,⟨⟨[43,10,2,5,3,41,8,42],(.dat aQ (.st gQ (.dat aQ (.st SS (.dat aQ (.dat F5 (.st p8 cZ))))))),LJ⟩,(.one (.exit 1) ⟨[8,10],Pm,Rz⟩)⟩)]) (fun
  |14,1=>3
  |13,3=>1
  |_,_=>0)
 |1=>.mk bB bB bB (fun
  |3,3=>2
  |_,_=>0)
 |2=>.mk bB (bf [(6,(⟨[6,0],WY,AX⟩,none)),(4,(⟨[0,6],Iu,AX⟩,none))]) bB fw
 |3=>.mk bB (bf [(3,(⟨[2,1],JL,zm⟩,none))]) bB (fun
  |1,1=>4
  |_,_=>0)
 |_=>{}
theorem alJ:dh 133 aj2:=okW aly (aX ac3 (aX Y1 (aX P8 (aX U3 (aX afd (aX Z8 dI))))))
def uD(v:aeC):Option (aeC⊕(Gj⊕qR)):=
bif decide (v.1.1<v.1.2.2.2.1)then Abs.rowAt v.1.2.2.1 v.1.1 fun a _=>
bif a.1.toList==v.1.2.1.toList then some (.inr (.inl (a.2,())))
else some (.inl ((aO (v.1.1+1),v.1.2),()))
else(some (.inr (.inr ((),()))))
def VS(v:((fe×ByteArray×Unit)×Unit)):Option Gj:=
(aC uD ((0,v.1.2.1,v.1.1,(v.1.1.length:Int),()),())).bind fun a=>
aA a (fun b=>(some b)) (fun c=>(some ((ByteArray.empty,()),())))
def amd:Abs.Spec:=⟨0,⟨[0,1],(.dat jH iJ),.nil⟩,⟨[4],iJ,.nil⟩,VS⟩
def akJ:Nat→Abs.eX
 |0=>.mk bB bB (bf [(2,⟨⟨[9,1,7,8],(.dat aQ (.dat .str R8)),.nil⟩,(.more .ret ⟨[4],iJ,.nil⟩ Ro1)⟩)]) fw
 |_=>{}
theorem aeB:dh 224 amd:=okW akJ dI
def vS(v:WR):Option (WR⊕Gj):=
((bif decide ((v.1.1.size:Int)>0)then bif decide ((0:Int)≤(aO ((v.1.1.size:Int)-1))∧((aO ((v.1.1.size:Int)-1)):Int)<v.1.1.size)then
let b:=(((((v.1.1[(aO ((v.1.1.size:Int)-1)).toNat]?.getD 0).toNat:Nat):Int):Int)==v.1.2.1)
some ((b,v.1.2.1,v.1.1,()),())
else none
else some ((false,v.1.2.1,v.1.1,()),())):Option aeG).bind fun a=>
bif a.1.1 then bif decide ((0:Int)≤(aO ((a.1.2.2.1.size:Int)-1)))then
bif decide (0≤(aO ((a.1.2.2.1.size:Int)-1)).toNat∧(aO ((a.1.2.2.1.size:Int)-1)).toNat≤a.1.2.2.1.size)then
let c:=(a.1.2.2.1.extract 0 (aO ((a.1.2.2.1.size:Int)-1)).toNat)
some (.inl ((c,a.1.2.1,()),()))
else none
else none
else(some (.inr (a.1.2.2,())))
def abm(v:WR):Option Gj:=
(aC vS v).bind fun a=>
some a
def alY:Abs.Spec:=⟨0,⟨[0,1],adR,.nil⟩,⟨[4],iJ,.nil⟩,abm⟩
def alR:Nat→Abs.eX
 |0=>.mk (bf [(1,⟨[16,1,0],(.dat .bool (.dat (.int .u8) iJ)),.nil⟩)]) bB (bf [(1,⟨⟨[0,1],adR,.nil⟩,aho⟩)]) fw
 |_=>{}
theorem ajJ:dh 237 alY:=okW alR dI
def xg(v:WR):Option (WR⊕Gj):=
((bif decide ((v.1.1.size:Int)>0)then bif decide ((0:Int)≤0∧(0:Int)<v.1.1.size)then
let b:=(((((v.1.1[0]?.getD 0).toNat:Nat):Int):Int)==v.1.2.1)
some ((b,v.1.2.1,v.1.1,()),())
else none
else some ((false,v.1.2.1,v.1.1,()),())):Option aeG).bind fun a=>
bif a.1.1 then bif decide (1≤a.1.2.2.1.size∧a.1.2.2.1.size≤a.1.2.2.1.size)then
some (.inl ((a.1.2.2.1.extract 1 a.1.2.2.1.size,a.1.2.1,()),()))
else none
else(some (.inr (a.1.2.2,())))
def adu(v:WR):Option Gj:=
(aC xg v).bind fun a=>
some a
def am9:Abs.Spec:=⟨0,⟨[0,1],adR,.nil⟩,⟨[4],iJ,.nil⟩,adu⟩
def amm:Nat→Abs.eX
 |0=>.mk (bf [(1,⟨[13,1,0],(.dat .bool (.dat (.int .u8) iJ)),.nil⟩)]) bB (bf [(1,⟨⟨[0,1],adR,.nil⟩,aho⟩)]) fw
 |_=>{}
theorem akA:dh 236 am9:=okW amm dI
def aa5(v:Ul):Option Gj:=
((bif v.1.1.toList==ByteArray.empty.toList then some ((true,v.1),())
else some ((v.1.2.1.toList==ByteArray.empty.toList,v.1),())):Option afn).bind fun a=>
bif a.1.1 then some ((a.1.2.1,()),())
else(((bif (a.1.2.2.1.size:Int)==1 then bif decide ((0:Int)≤0∧(0:Int)<a.1.2.2.1.size)then
let c:=(decide (((((a.1.2.2.1[0]?.getD 0).toNat:Nat):Int):Int)<128))
some ((c,a.1.2.2.1,a.1.2.1,()),())
else none
else some ((false,a.1.2.2.1,a.1.2.1,()),())):Option afn).bind fun b=>
bif b.1.1 then bif decide ((0:Int)≤0∧(0:Int)<b.1.2.1.size)then
(abm ((b.1.2.2.1,(((b.1.2.1[0]?.getD 0).toNat:Nat):Int),()),())).bind fun d=>
bif decide ((0:Int)≤0∧(0:Int)<b.1.2.1.size)then
(adu ((d.1.1,(((b.1.2.1[0]?.getD 0).toNat:Nat):Int),()),())).bind fun e=>
some e
else none
else none
else none)
def akS:Abs.Spec:=⟨0,⟨[0,1],OL,.nil⟩,⟨[4],iJ,.nil⟩,aa5⟩
def ajp:Nat→Abs.eX
 |0=>.mk (bf [(3,⟨[21,1,0],(.dat .bool OL),.nil⟩),(1,⟨[12,0,1],(.dat .bool OL),.nil⟩)]) bB bB fw
 |_=>{}
theorem alQ:dh 231 akS:=okW ajp (aX ajJ (aX akA dI))
def gZ(v:aeY):Option (aeY⊕(eF⊕Sl)):=
let c:=(decide (v.1.2.1<(v.1.2.2.2.2.1.size:Int)))
bif c then((let d:=(decide (v.1.1<(v.1.2.2.2.2.2.1.size:Int)))
bif d then bif decide (0≤v.1.1∧v.1.1<v.1.2.2.2.2.2.1.size)then
let e:=(((((v.1.2.2.2.2.2.1[v.1.1.toNat]?.getD 0).toNat:Nat):Int):Int)==42)
some ((e,v.1.2.1,v.1.2.2.2.2.1,v.1.2.2.2.2.2.1,v.1.1,v.1.2.2.1,v.1.2.2.2.1,()),())
else none
else some ((false,v.1.2.1,v.1.2.2.2.2.1,v.1.2.2.2.2.2.1,v.1.1,v.1.2.2.1,v.1.2.2.2.1,()),())):Option ((Bool×Int×ByteArray×ByteArray×Int×Int×Int×Unit)×Unit)).bind fun a=>
bif a.1.1 then some (.inl ((aO (a.1.2.2.2.2.1+1),a.1.2.1,a.1.2.2.2.2.1,a.1.2.1,a.1.2.2.1,a.1.2.2.2.1,()),()))
else((let f:=(decide (a.1.2.2.2.2.1<(a.1.2.2.2.1.size:Int)))
bif f then bif decide (0≤a.1.2.2.2.2.1∧a.1.2.2.2.2.1<a.1.2.2.2.1.size)then
let g:=(((((a.1.2.2.2.1[a.1.2.2.2.2.1.toNat]?.getD 0).toNat:Nat):Int):Int)==63)
bif g then some ((true,a.1.2.2.2.2.2.1,a.1.2.2.2.2.2.2.1,a.1.2.2.1,a.1.2.2.2.1,a.1.2.1,a.1.2.2.2.2.1,()),())
else bif decide (0≤a.1.2.2.2.2.1∧a.1.2.2.2.2.1<a.1.2.2.2.1.size)then
bif decide (0≤a.1.2.1∧a.1.2.1<a.1.2.2.1.size)then
let h:=(((((a.1.2.2.2.1[a.1.2.2.2.2.1.toNat]?.getD 0).toNat:Nat):Int):Int)==(((a.1.2.2.1[a.1.2.1.toNat]?.getD 0).toNat:Nat):Int))
some ((h,a.1.2.2.2.2.2.1,a.1.2.2.2.2.2.2.1,a.1.2.2.1,a.1.2.2.2.1,a.1.2.1,a.1.2.2.2.2.1,()),())
else none
else none
else none
else some ((false,a.1.2.2.2.2.2.1,a.1.2.2.2.2.2.2.1,a.1.2.2.1,a.1.2.2.2.1,a.1.2.1,a.1.2.2.2.2.1,()),())):Option ((Bool×Int×Int×ByteArray×ByteArray×Int×Int×Unit)×Unit)).bind fun b=>
bif b.1.1 then some (.inl ((aO (b.1.2.2.2.2.2.2.1+1),aO (b.1.2.2.2.2.2.1+1),b.1.2.1,b.1.2.2.1,b.1.2.2.2.1,b.1.2.2.2.2.1,()),()))
else bif decide (b.1.2.1≥0)then some (.inl ((aO (b.1.2.1+1),aO (b.1.2.2.1+1),b.1.2.1,aO (b.1.2.2.1+1),b.1.2.2.2.1,b.1.2.2.2.2.1,()),()))
else some (.inr (.inl ((false,()),())))
else(some (.inr (.inr ((v.1.1,v.1.2.2.2.2.2),()))))
def XY(v:Ul):Option eF:=
(aC gZ ((0,0,-1,0,v.1.2.1,v.1.1,()),())).bind fun b=>
aA b (fun c=>(some c)) (fun a=>(bif decide ((0:Int)≤a.1.1)then
bif decide (a.1.1.toNat≤a.1.2.1.size∧a.1.2.1.size≤a.1.2.1.size)then
(aa5 ((a.1.2.1.extract a.1.1.toNat a.1.2.1.size,bs [42],()),())).bind fun d=>
some ((d.1.1.toList==ByteArray.empty.toList,()),())
else none
else none))
def am7:Abs.Spec:=⟨0,⟨[0,1],OL,.nil⟩,⟨[4],eH,.nil⟩,XY⟩
def ala:Nat→Abs.eX
 |0=>.mk (bf [(7,⟨[28,7,8,1,0,6,5],(.dat .bool (.dat aQ (.dat aQ (.dat .str (.dat .str l9))))),.nil⟩),(4,⟨[13,6,1,0,5,7,8],(.dat .bool (.dat aQ (.dat .str (.dat .str DN)))),.nil⟩)]) bB (bf [(2,⟨⟨[5,6,7,8,1,0],(.dat aQ (.dat aQ (.dat aQ (.dat aQ OL)))),.nil⟩,(.more .ret ⟨[4],eH,.nil⟩ (.one (.exit 0) ⟨[5,0],Fw,.nil⟩))⟩)]) fw
 |_=>{}
theorem amC:dh 225 am7:=okW ala (aX alQ dI)
def acg(v:((Pv×fe×Unit)×Unit)):Option eF:=
(VS ((v.1.2.1,v.1.1.1,()),())).bind fun a=>
bif v.1.1.2.1==0 then some ((a.1.1.toList==v.1.1.2.2.1.toList,()),())
else(bif v.1.1.2.1==1 then some ((!(a.1.1.toList==v.1.1.2.2.1.toList),()),())
else bif v.1.1.2.1==2 then(XY ((v.1.1.2.2.1,a.1),())).bind fun b=>
some b
else bif v.1.1.2.1==3 then(XY ((v.1.1.2.2.1,a.1),())).bind fun c=>
some ((!c.1.1,()),())
else some ((false,()),()))
def alI:Abs.Spec:=⟨0,⟨[0,1],(.dat Z33 mF),.nil⟩,⟨[4],eH,.nil⟩,acg⟩
theorem alO:dh 206 alI:=okW rT (aX aeB (aX amC dI))
def rF(v:((Int×Y4×Int×Unit)×QN)):Option (((Int×Y4×Int×Unit)×QN)⊕((iN×QN)⊕(Unit×QN))):=
bif decide (v.1.1<v.1.2.2.1)then Abs.rowAt v.1.2.1 v.1.1 fun a _=>
(acg ((a,v.2.1),())).bind fun b=>
bif !b.1.1 then some (.inr (.inl ((v.1.1,()),v.2)))
else some (.inl ((aO (v.1.1+1),v.1.2),v.2))
else(some (.inr (.inr ((),v.2))))
def QZ(v:((Y4×fe×Unit)×Unit)):Option eF:=
(((aC rF ((0,v.1.1,(v.1.1.length:Int),()),v.1.2,())).bind fun b=>
aA b (fun a=>(some ((decide (a.1.1≥0),()),a.2))) (fun c=>(some ((false,()),c.2)))):Option (mY×QN)).bind fun d=>
some ((!d.1.1,()),())
def agv:Abs.Spec:=⟨0,⟨[0,1],(.dat Z2 mF),.nil⟩,⟨[4],eH,.nil⟩,QZ⟩
def anu:Nat→Abs.eX
 |0=>.mk bB bB bB (fun
  |1,2=>1
  |_,_=>0)
 |1=>.mk (bf [(1,⟨[4],eH,QF⟩)]) bB bB (fun
  |1,2=>2
  |_,_=>0)
 |2=>.mk bB bB (bf [(2,⟨⟨[8,0,1,7],(.dat aQ (.dat Z2 (.st (.clo 205 [((0,0),1,0,0)]) cZ))),QF⟩,(.more .ret ⟨[4],cZ,QF⟩ (.one (.exit 0) ⟨[],.nil,QF⟩))⟩)]) (fun
  |4,5=>3
  |_,_=>0)
 |_=>{}
theorem aar:dh 169 agv:=okW anu (aX alO dI)
def BA(v:agw):Option (agw⊕Vr):=
bif decide (v.1.1<v.1.2.2.2.2.2.2.1)then((Abs.rowAt v.1.2.2.2.2.2.1 v.1.1 fun b _=>
((bif decide (b.2.1≤v.1.2.2.2.2.1)then bif decide (v.1.2.2.2.2.1<b.2.2.1)then(QZ ((b.2.2.2.2.1,v.1.2.2.2.1,()),())).bind fun d=>
bif d.1.1 then bif !v.1.2.2.1 then some ((true,v.1.2.2.2.1,v.1.2.2.2.2.1,v.1.2.2.2.2.2.1,v.1.2.2.2.2.2.2.1,v.1.1,v.1.2.1,v.1.2.2.1,()),(b,()),())
else some ((decide (b.1<v.1.2.1),v.1.2.2.2.1,v.1.2.2.2.2.1,v.1.2.2.2.2.2.1,v.1.2.2.2.2.2.2.1,v.1.1,v.1.2.1,v.1.2.2.1,()),(b,()),())
else some ((false,v.1.2.2.2.1,v.1.2.2.2.2.1,v.1.2.2.2.2.2.1,v.1.2.2.2.2.2.2.1,v.1.1,v.1.2.1,v.1.2.2.1,()),(b,()),())
else some ((false,v.1.2.2.2.1,v.1.2.2.2.2.1,v.1.2.2.2.2.2.1,v.1.2.2.2.2.2.2.1,v.1.1,v.1.2.1,v.1.2.2.1,()),(b,()),())
else some ((false,v.1.2.2.2.1,v.1.2.2.2.2.1,v.1.2.2.2.2.2.1,v.1.2.2.2.2.2.2.1,v.1.1,v.1.2.1,v.1.2.2.1,()),(b,()),())):Option ((Bool×fe×Int×kQ×Int×Int×Int×Bool×Unit)×KL)).bind fun a=>
bif a.1.1 then some ((a.2.1.1.1,true,a.1.2.1,a.1.2.2.1,a.1.2.2.2.1,a.1.2.2.2.2.1,a.1.2.2.2.2.2.1,()),())
else some ((a.1.2.2.2.2.2.2.1,a.1.2.2.2.2.2.2.2.1,a.1.2.1,a.1.2.2.1,a.1.2.2.2.1,a.1.2.2.2.2.1,a.1.2.2.2.2.2.1,()),())):Option ((Int×Bool×fe×Int×kQ×Int×Int×Unit)×Unit)).bind fun c=>
some (.inl ((aO (c.1.2.2.2.2.2.2.1+1),c.1.1,c.1.2.1,c.1.2.2.1,c.1.2.2.2.1,c.1.2.2.2.2.1,c.1.2.2.2.2.2.1,()),()))
else(some (.inr ((v.1.2.2.1,v.1.2.1,()),())))
def ade(v:((kQ×fe×Int×Unit)×Unit)):Option Wv:=
(aC BA ((0,0,false,v.1.2.1,v.1.2.2.1,v.1.1,(v.1.1.length:Int),()),())).bind fun a=>
some ((a.1.2.1,a.1.1,()),())
def ajY:Abs.Spec:=⟨0,⟨[0,1,2],(.dat J9 R8),.nil⟩,⟨[6,7],Ic,.nil⟩,ade⟩
def amL:Nat→Abs.eX
 |0=>.mk (bf [(4,⟨[41,1,2,10,11,12,9,6,7],(.dat .bool (.dat jH (.dat aQ (.dat J9 (.dat aQ Yb))))),OA⟩)]) (bf [(6,(⟨[6,7,1,2,10,11,12],(.dat aQ (.dat .bool (.dat jH (.dat aQ (.dat J9 l9))))),.nil⟩,none))]) (bf [(2,⟨⟨[12,6,7,1,2,10,11],(.dat aQ afJ),.nil⟩,(.one (.exit 0) ⟨[7,6],NC,.nil⟩)⟩)]) fw
 |_=>{}
theorem akp:dh 214 ajY:=okW amL (aX aar dI)
def rJ(v:afC):Option (afC⊕((iN×acP)⊕(Unit×acP))):=
bif decide (v.1.1<v.1.2.2.1)then Abs.rowAt v.1.2.1 v.1.1 fun a _=>
(VS ((v.2.1.1,a,()),())).bind fun b=>
(VS ((v.2.2.1.1,a,()),())).bind fun c=>
bif !(b.1.1.toList==c.1.1.toList)then some (.inr (.inl ((v.1.1,()),v.2)))
else some (.inl ((aO (v.1.1+1),v.1.2),v.2))
else(some (.inr (.inr ((),v.2))))
def adg(v:((fe×fe×List ByteArray×Unit)×Unit)):Option eF:=
(((aC rJ ((0,v.1.2.2.1,(v.1.2.2.1.length:Int),()),(v.1.1,()),(v.1.2.1,()),())).bind fun b=>
aA b (fun a=>(some ((decide (a.1.1≥0),()),a.2))) (fun c=>(some ((false,()),c.2)))):Option (mY×acP)).bind fun d=>
some ((!d.1.1,()),())
def aln:Abs.Spec:=⟨0,⟨[0,1,2],(.dat jH (.dat jH JV)),.nil⟩,⟨[6],eH,.nil⟩,adg⟩
def akC:Nat→Abs.eX
 |0=>.mk bB bB bB (fun
  |1,2=>1
  |_,_=>0)
 |1=>.mk (bf [(1,⟨[4],eH,(.box 1 mF QF)⟩)]) bB bB (fun
  |1,2=>2
  |_,_=>0)
 |2=>.mk bB bB (bf [(2,⟨⟨[8,0,1,7],(.dat aQ (.dat Jp (.st (.clo 235 [((0,0),1,0,0),((1,0),1,0,0)]) cZ))),(.box 1 mF QF)⟩,(.more .ret ⟨[4],cZ,(.box 1 mF QF)⟩ (.one (.exit 0) ⟨[],.nil,(.box 1 mF QF)⟩))⟩)]) (fun
  |4,5=>3
  |_,_=>0)
 |_=>{}
theorem ajC:dh 229 aln:=okW akC (aX aeB dI)
def qQ(v:akl):Option (akl⊕(eF⊕afA)):=
bif decide (v.1.1<v.1.2.2.2.2.2.2.2.1)then Abs.rowAt v.1.2.2.1 v.1.1 fun b _=>
(((QZ ((v.2.1.1.1,b,()),())).bind fun c=>
bif c.1.1 then(QZ ((v.2.1.1.2.1,b,()),())).bind fun d=>
bif !d.1.1 then(adg ((v.1.2.1,b,v.2.1.1.2.2),())).bind fun e=>
some ((e.1.1,v.1.2.1,v.1.2.2.1,v.1.2.2.2.1,v.1.2.2.2.2.1,v.1.2.2.2.2.2.1,v.1.2.2.2.2.2.2.1,v.1.2.2.2.2.2.2.2.1,v.1.1,()),v.2)
else some ((false,v.1.2.1,v.1.2.2.1,v.1.2.2.2.1,v.1.2.2.2.2.1,v.1.2.2.2.2.2.1,v.1.2.2.2.2.2.2.1,v.1.2.2.2.2.2.2.2.1,v.1.1,()),v.2)
else some ((false,v.1.2.1,v.1.2.2.1,v.1.2.2.2.1,v.1.2.2.2.2.1,v.1.2.2.2.2.2.1,v.1.2.2.2.2.2.2.1,v.1.2.2.2.2.2.2.2.1,v.1.1,()),v.2)):Option ((Bool×fe×List fe×List fe×Dp×Int×Int×Int×Int×Unit)×Xi)).bind fun a=>
bif a.1.1 then some (.inr (.inl ((true,()),())))
else some (.inl ((aO (a.1.2.2.2.2.2.2.2.2.1+1),a.1.2.1,a.1.2.2.1,a.1.2.2.2.1,a.1.2.2.2.2.1,a.1.2.2.2.2.2.1,a.1.2.2.2.2.2.2.1,a.1.2.2.2.2.2.2.2.1,()),a.2))
else(some (.inr (.inr ((v.1.2.1,v.1.2.2.2.1,v.1.2.2.2.2.1,v.1.2.2.2.2.2.1,v.1.2.2.2.2.2.2.1,()),()))))
def wz(v:afW):Option (afW⊕(eF⊕qR)):=
bif decide (v.1.1<v.1.2.2.2.2.1)then((Abs.rowAt v.1.2.2.2.1 v.1.1 fun b _=>
(QZ ((b.2.1,v.1.2.1,()),())).bind fun c=>
bif !c.1.1 then some (.inl ((v.1.2.1,v.1.2.2.1,v.1.2.2.2.1,v.1.2.2.2.2.1,v.1.1,()),()))
else(aC qQ ((0,v.1.2.1,v.1.2.2.1,v.1.2.2.1,v.1.2.2.2.1,v.1.2.2.2.2.1,v.1.1,(v.1.2.2.1.length:Int),()),(b,()),())).bind fun d=>
aA d (fun e=>(some (.inr e))) (fun f=>(some (.inl f)))):Option (afA⊕eF)).bind fun g=>
aA g (fun a=>(some (.inl ((aO (a.1.2.2.2.2.1+1),a.1.1,a.1.2.1,a.1.2.2.1,a.1.2.2.2.1,()),())))) (fun h=>(some (.inr (.inl h))))
else(some (.inr (.inr ((),()))))
def adQ(v:agt):Option eF:=
(aC wz ((0,v.1.2.1,v.1.2.2.1,v.1.1,(v.1.1.length:Int),()),())).bind fun a=>
aA a (fun b=>(some b)) (fun c=>(some ((false,()),())))
def ano:Abs.Spec:=⟨0,⟨[0,1,2],(.dat F3 (.dat jH (.dat qw .nil))),.nil⟩,⟨[6],eH,.nil⟩,adQ⟩
def anq:Nat→Abs.eX
 |0=>.mk (bf [(8,⟨[45,8,1,22,2,11,12,13,23,24],(.dat .bool (.st Dq (.dat jH (.dat qw (.dat qw (.dat F3 (.dat aQ DN))))))),Wm⟩)]) (bf [(11,(⟨[1,2,11,12,13],(.dat jH (.dat qw (.dat F3 l9))),.nil⟩,some (.one .ret ⟨[6],eH,.nil⟩)))]) (bf [(2,⟨⟨[13,1,2,11,12],(.dat aQ (.dat jH (.dat qw KM))),.nil⟩,Zt⟩),(6,⟨⟨[24,8,1,22,2,11,12,13,23],(.dat aQ (.st Dq (.dat jH (.dat qw (.dat qw (.dat F3 DN)))))),Wm⟩,(.more .ret ⟨[6],eH,.nil⟩ (.one (.exit 2) ⟨[1,2,11,12,13],(.dat jH (.dat qw (.dat F3 l9))),.nil⟩))⟩)]) fw
 |_=>{}
theorem amM:dh 215 ano:=okW anq (aX aar (aX ajC dI))
def abS(v:afR):Option eF:=
(ade ((v.1.2.1,v.1.2.2.1,v.1.2.2.2.2),())).bind fun a=>
((bif a.1.2.1 then some ((true,()),())
else(adQ ((v.1.1,v.1.2.2.1,v.1.2.2.2.1,()),())).bind fun b=>
some b):Option eF).bind fun c=>
some c
def ann:Abs.Spec:=⟨0,⟨[0,1,2,3,4],agy,.nil⟩,⟨[10],eH,.nil⟩,abS⟩
def amI:Nat→Abs.eX
 |0=>.mk (bf [(2,⟨[10],eH,.nil⟩)]) bB bB fw
 |_=>{}
theorem akv:dh 185 ann:=okW amI (aX akp (aX amM dI))
def CP(v:afs):Option (afs⊕(uo⊕qR)):=
bif decide (v.1.1<v.1.2.2.2.1)then Abs.rowAt v.1.2.1 v.1.1 fun a _=>
bif v.1.2.2.1.toList==a.toList then some (.inr (.inl ((v.1.1,()),())))
else some (.inl ((aO (v.1.1+1),v.1.2),()))
else(some (.inr (.inr ((),()))))
def adk(v:ahg):Option uo:=
(aC CP ((0,v.1.1,v.1.2.1,(v.1.1.length:Int),()),())).bind fun a=>
aA a (fun b=>(some b)) (fun c=>(some ((-1,()),())))
def amy:Abs.Spec:=⟨0,⟨[0,1],(.dat Jp iJ),.nil⟩,⟨[4],cZ,.nil⟩,adk⟩
def ang:Nat→Abs.eX
 |0=>.mk bB bB (bf [(2,⟨⟨[8,0,1,7],(.dat aQ (.dat Jp Lf)),.nil⟩,Ro3⟩)]) fw
 |_=>{}
theorem alj:dh 211 amy:=okW ang dI
def Mk(v:ahg):Option eF:=
(adk v).bind fun a=>
some ((decide (a.1.1≥0),()),())
def ajZ:Abs.Spec:=⟨0,⟨[0,1],(.dat Jp iJ),.nil⟩,⟨[4],eH,.nil⟩,Mk⟩
theorem agm:dh 172 ajZ:=okW rT (aX alj dI)
def ahM(v:ZK):Option eF:=
some ((!v.1.1.2.2.2.2.2.1,()),())
def akm:Abs.Spec:=⟨0,⟨[0],(.dat Z7 .nil),.nil⟩,⟨[2],eH,.nil⟩,ahM⟩
theorem akw:dh 184 akm:=okW rT dI
def vk(v:aeS):Option (aeS⊕(uj×ahQ)):=
bif decide (v.1.1<v.1.2.2.2.2.1)then((bif decide (0≤v.1.1∧v.1.1<v.2.1.length)then
(v.2.1[v.1.1.toNat]?).bind fun a=>
(Mk ((v.1.2.2.1,a.1,()),())).bind fun c=>
bif c.1.1 then some ((v.1.2.1,v.1.2.2.1,v.1.2.2.2.1,v.1.2.2.2.2.1,v.1.1,()),v.2)
else bif a.2.2.2.2.1 then bif decide (v.2.2.2.2.2.2.1.length+ [a.1].length≤4294967296)then
((bif v.1.2.1 then some ((true,v.1.2.2.1,v.1.2.2.2.1,v.1.2.2.2.2.1,v.1.1,()),v.2.1,v.2.2.1,v.2.2.2.1,v.2.2.2.2.1,v.2.2.2.2.2.1,v.2.2.2.2.2.2.1++ [a.1],v.2.2.2.2.2.2.2)
else some ((!a.2.2.2.2.2.1,v.1.2.2.1,v.1.2.2.2.1,v.1.2.2.2.2.1,v.1.1,()),v.2.1,v.2.2.1,v.2.2.2.1,v.2.2.2.2.1,v.2.2.2.2.2.1,v.2.2.2.2.2.2.1++ [a.1],v.2.2.2.2.2.2.2)):Option agz).bind fun d=>
some d
else none
else bif decide (v.2.2.2.2.2.2.2.1.length+ [a.1].length≤4294967296)then
some ((v.1.2.1,v.1.2.2.1,v.1.2.2.2.1,v.1.2.2.2.2.1,v.1.1,()),v.2.1,v.2.2.1,v.2.2.2.1,v.2.2.2.2.1,v.2.2.2.2.2.1,v.2.2.2.2.2.2.1,v.2.2.2.2.2.2.2.1++ [a.1],())
else none
else none):Option agz).bind fun b=>
some (.inl ((aO (b.1.2.2.2.2.1+1),b.1.1,b.1.2.1,b.1.2.2.1,b.1.2.2.2.1,()),b.2))
else(some (.inr ((v.1.2.1,v.1.2.2.2.1,()),v.2.1,v.2.2.2.1,v.2.2.1,v.2.2.2.2)))
def kJ(v:(qG×Y38)):Option ((qG×Y38)⊕((iN×Y38)⊕(Unit×Y38))):=
bif decide (v.1.1<v.1.2.1)then bif decide (0≤v.1.1∧v.1.1<v.2.1.length)then
(v.2.1[v.1.1.toNat]?).bind fun a=>
(Mk ((v.2.2.2.2.1,a.1,()),())).bind fun b=>
bif decide (v.2.2.2.1.length=v.2.2.2.1.length)&&(decide (v.2.2.2.2.1.length=v.2.2.2.2.1.length)&&true)then
bif b.1.1 then some (.inr (.inl ((v.1.1,()),v.2)))
else some (.inl ((aO (v.1.1+1),v.1.2),v.2))
else none
else none
else(some (.inr (.inr ((),v.2))))
def oK(v:(qG×Y38)):Option ((qG×Y38)⊕(iN×Y38)):=
let c:=(decide (v.1.1<((v.2.1.length:Nat):Int)))
bif c then((bif decide (0≤v.1.1∧v.1.1<v.2.1.length)then
(v.2.1[v.1.1.toNat]?).bind fun b=>
(Mk ((v.2.2.2.2.1,b.1,()),())).bind fun d=>
bif decide (v.2.2.2.1.length=v.2.2.2.1.length)&&(decide (v.2.2.2.2.1.length=v.2.2.2.2.1.length)&&true)then
bif !d.1.1 then bif decide (0≤v.1.2.1∧v.1.2.1<v.2.1.length)then
bif decide (v.1.2.1.toNat<v.2.1.length)then
some ((aO (v.1.2.1+1),v.1.1,()),v.2.1.set v.1.2.1.toNat b,v.2.2)
else none
else none
else some ((v.1.2.1,v.1.1,()),v.2)
else none
else none):Option (qG×Y38)).bind fun a=>
some (.inl ((aO (a.1.2.1+1),a.1.1,()),a.2))
else(some (.inr (v.1.2,v.2)))
def qX(v:afk):Option (afk⊕(uj×ahD)):=
bif decide (v.1.1<v.1.2.2.2.2.1)then bif decide (0≤v.1.1∧v.1.1<v.1.2.1.2)then
(v.2.2.2.1[(v.1.2.1.1+v.1.1.toNat)]?).bind fun d=>
((bif d.2.2.2.2.2.1 then bif decide (0≤v.1.1∧v.1.1<v.2.2.1.1.2.2.1.2)then
(v.2.2.2.1[(v.2.2.1.1.2.2.1.1+v.1.1.toNat)]?).bind fun b=>
some ((v.1.2.1,v.1.2.2.1,v.1.2.2.2.1,v.1.2.2.2.2.1,v.1.1,()),v.2.1,v.2.2.1,v.2.2.2.1.set (v.2.2.1.1.2.2.1.1+v.1.1.toNat) (b.1,b.2.1,b.2.2.1,b.2.2.2.1,b.2.2.2.2.1,true,()),v.2.2.2.2)
else none
else(Mk ((v.2.2.2.2.2.2.2.1,d.1,()),())).bind fun e=>
bif decide (0≤v.1.1∧v.1.1<v.2.2.1.1.2.2.1.2)then
(v.2.2.2.1[(v.2.2.1.1.2.2.1.1+v.1.1.toNat)]?).bind fun c=>
some ((v.1.2.1,v.1.2.2.1,v.1.2.2.2.1,v.1.2.2.2.2.1,v.1.1,()),v.2.1,v.2.2.1,v.2.2.2.1.set (v.2.2.1.1.2.2.1.1+v.1.1.toNat) (c.1,c.2.1,c.2.2.1,c.2.2.2.1,c.2.2.2.2.1,e.1),v.2.2.2.2)
else none):Option (((Nat×Nat)×Bool×Int×Int×Int×Unit)×ak4)).bind fun a=>
some (.inl ((aO (a.1.2.2.2.2.1+1),a.1.1,a.1.2.1,a.1.2.2.1,a.1.2.2.2.1,()),a.2))
else none
else(some (.inr ((v.1.2.2.1,v.1.2.2.2.1,()),v.2.2.2.2.1,v.2.2.2.2.2.1,v.2.1,v.2.2.1,v.2.2.2.2.2.2.1,v.2.2.2.2.2.2.2.1,v.2.2.2.2.2.2.2.2.1,v.2.2.2.1,())))
def uJ(v:VU):Option (VU⊕(uo⊕qR)):=
bif decide (v.1.1<v.1.2.2.1)then Abs.rowAt v.1.2.1 v.1.1 fun a _=>
(ahM ((a,()),())).bind fun b=>
bif b.1.1 then some (.inr (.inl ((v.1.1,()),())))
else some (.inl ((aO (v.1.1+1),v.1.2),()))
else(some (.inr (.inr ((),()))))
def abN(v:al6):Option (uj×(Yq7×zB×List mI×List ByteArray×List ByteArray×Unit)):=
(((m82 ((v.1.1,()),())).bind fun s=>
bif !s.1.1 then some ((true,v.1.2.2),((0,ByteArray.empty,0,0,()),()),((0,0,0,ByteArray.empty,()),()),(v.1.1,()),(v.1.2.1,()),())
else(VO ((v.1.2.1,()),())).bind fun t=>
some ((!t.1.1,v.1.2.2),((0,ByteArray.empty,0,0,()),()),((0,0,0,ByteArray.empty,()),()),(v.1.1,()),(v.1.2.1,()),())):Option ((Bool×Int×List ByteArray×Unit)×(qO×zB×(Y3×Unit)×L9×Unit))).bind fun h=>
bif h.1.1 then some ((false,8,()),((0,ByteArray.empty,(0,0),0,0,()),()),((0,0,0,ByteArray.empty,()),()),[],[],[],())
else((J5 ((h.1.2.1,0,8589934592,()),())).bind fun u=>
bif !u.1.1 then some ((false,1,()),((0,ByteArray.empty,(0,0),0,0,()),()),((0,0,0,ByteArray.empty,()),()),[],[],[],())
else(Tw (h.2.2.2.1,())).bind fun m=>
((bif m.2.1.1.2.2.1==(-1)then some ((true,h.1.2),h.2.1,h.2.2.1,m.2.1,h.2.2.2.2.1,m.2.2)
else some ((decide (m.2.1.1.2.2.1>h.1.2.1),h.1.2),h.2.1,h.2.2.1,m.2.1,h.2.2.2.2.1,m.2.2)):Option ((Bool×Int×List ByteArray×Unit)×(qO×zB×qO×L9×List mI×Unit))).bind fun a=>
bif a.1.1 then some ((false,0,()),((a.2.2.2.1.1.1,a.2.2.2.1.1.2.1,(0,a.2.2.2.2.2.1.length),a.2.2.2.1.1.2.2),()),((0,0,0,ByteArray.empty,()),()),a.2.2.2.2.2.1,[],[],())
else(aC vk ((0,false,a.1.2.2.1,a.1.2.1,((a.2.2.2.2.2.1.length:Nat):Int),()),a.2.2.2.2.2.1,((a.1.2.1,a.2.2.2.1.1.1,a.2.2.2.2.1.1.2.2.1,a.2.2.2.1.1.2.1,()),()),((0,0,0,ByteArray.empty,()),()),a.2.2.2.2.1,a.2.2.2.1,[],[],())).bind fun e=>
((let w:=(decide (((e.2.2.2.2.2.2.1.length:Nat):Int)>0))
bif w then bif e.2.2.2.2.2.1.1.2.2.2.1 !=(-1)then let x:=(aO (e.2.2.2.2.2.1.1.2.2.2.1+e.2.2.2.2.1.1.2.2.2.2.2.2.1))
some ((decide (x≤e.1.2.1),e.1.1,()),e.2.1,e.2.2.1,e.2.2.2.1,e.2.2.2.2.2.2)
else some ((false,e.1.1,()),e.2.1,e.2.2.1,e.2.2.2.1,e.2.2.2.2.2.2)
else some ((false,e.1.1,()),e.2.1,e.2.2.1,e.2.2.2.1,e.2.2.2.2.2.2)):Option ((Bool×Bool×Unit)×(List mI×zB×zB×List ByteArray×List ByteArray×Unit))).bind fun l=>
((bif l.1.2.1 then some ((true,()),l.2.1,l.2.2.2)
else bif l.1.1 then some ((true,()),l.2.1,l.2.2.2)
else let y:=(decide (((l.2.2.2.2.2.1.length:Nat):Int)>0))
some ((y,()),l.2.1,l.2.2.2)):Option (mY×Y38)).bind fun d=>
bif decide (d.2.1.length=a.2.2.2.2.2.1.length)&&true then
((bif d.1.1 then(((((aC kJ ((0,((d.2.1.length:Nat):Int),()),d.2)).bind fun z=>
aA z (fun n=>(bif decide (n.2.1.length=d.2.1.length)&&(decide (n.2.2.2.1.length=d.2.2.2.1.length)&&(decide (n.2.2.2.2.1.length=d.2.2.2.2.1.length)&&true))then
some n
else none)) (fun o=>(bif decide (o.2.1.length=d.2.1.length)&&(decide (o.2.2.2.1.length=d.2.2.2.1.length)&&(decide (o.2.2.2.2.1.length=d.2.2.2.2.1.length)&&true))then
some ((-1,()),o.2)
else none))):Option (iN×Y38)).bind fun j=>
bif j.1.1==(-1)then bif decide (j.2.1.length=d.2.1.length)&&(decide (j.2.2.2.1.length=d.2.2.2.1.length)&&(decide (j.2.2.2.2.1.length=d.2.2.2.2.1.length)&&true))then
some ((d.1.1,a.1.2.1,()),j.2.2.1,((a.2.2.2.1.1.1,a.2.2.2.1.1.2.1,(0,j.2.1.length),a.2.2.2.1.1.2.2.1,a.1.2.1,()),()),a.2.1,a.2.2.1,a.2.2.2.2.1,j.2.2.2.1,j.2.2.2.2.1,j.2.1,())
else none
else(aC oK ((aO (j.1.1+1),j.1),j.2)).bind fun b=>
bif decide ((0:Int)≤b.1.1)then
bif decide (b.1.1.toNat≤b.2.1.length∧b.2.1.length≤b.2.1.length)then
bif decide (b.1.1.toNat+(b.2.1.length-b.1.1.toNat)≤b.2.1.length)then
let p:=(bK b.2.1 b.1.1.toNat (List.replicate (b.2.1.length-b.1.1.toNat) ((ByteArray.empty,[],0,0,false,false,()):mI)))
bif decide ((0:Int)≤b.1.1)then
bif decide (0≤b.1.1.toNat∧b.1.1.toNat≤p.length)then
bif decide (p.length=d.2.1.length)&&(decide (b.2.2.2.1.length=d.2.2.2.1.length)&&(decide (b.2.2.2.2.1.length=d.2.2.2.2.1.length)&&true))then
some ((d.1.1,a.1.2.1,()),b.2.2.1,((a.2.2.2.1.1.1,a.2.2.2.1.1.2.1,(0,b.1.1.toNat),a.2.2.2.1.1.2.2.1,a.1.2.1,()),()),a.2.1,a.2.2.1,a.2.2.2.2.1,b.2.2.2.1,b.2.2.2.2.1,p,())
else none
else none
else none
else none
else none
else none):Option (uj×(zB×Yq7×qO×zB×L9×List ByteArray×List ByteArray×List mI×Unit))).bind fun k=>
(aC qX ((0,k.2.2.1.1.2.2.1,k.1.1,k.1.2.1,((k.2.2.1.1.2.2.1.2:Nat):Int),()),k.2.1,k.2.2.1,k.2.2.2.2.2.2.2.2.1,k.2.2.2.1,k.2.2.2.2.1,k.2.2.2.2.2.1,k.2.2.2.2.2.2.1,k.2.2.2.2.2.2.2.1,())).bind fun aa=>
some aa
else some ((d.1.1,a.1.2.1,()),a.2.1,a.2.2.1,((0,0,0,ByteArray.empty,()),()),((a.2.2.2.1.1.1,a.2.2.2.1.1.2.1,(0,d.2.1.length),a.2.2.2.1.1.2.2),()),a.2.2.2.2.1,[],[],d.2.1,())):Option (uj×ahD)).bind fun f=>
bif decide (f.2.2.2.2.1.1.2.2.1.1+f.2.2.2.2.1.1.2.2.1.2≤f.2.2.2.2.2.2.2.2.1.length)then
(((aC uJ ((0,(f.2.2.2.2.2.2.2.2.1.drop f.2.2.2.2.1.1.2.2.1.1).take f.2.2.2.2.1.1.2.2.1.2,(((f.2.2.2.2.2.2.2.2.1.drop f.2.2.2.2.1.1.2.2.1.1).take f.2.2.2.2.1.1.2.2.1.2).length:Int),()),())).bind fun ab=>
aA ab (fun ac=>(some ((decide (ac.1.1≥0),()),()))) (fun ai=>(some ((false,()),())))):Option eF).bind fun ad=>
let q:=(aO (f.2.2.2.2.1.1.2.2.2.2.1+f.2.2.2.2.2.1.1.2.2.2.2.2.2.1))
((((bif ad.1.1 then some ((true,f.1.1,f.1.2.1,q,()),f.2)
else some ((decide (q≤f.1.2.1),f.1.1,f.1.2.1,q,()),f.2)):Option (XQ×ahD)).bind fun g=>
bif g.1.1 then let ae:=(aO (g.1.2.2.1+g.2.2.2.2.2.1.1.2.2.2.2.2.1))
some ((g.1.2.1,g.1.2.2.1,ae,()),g.2.1,g.2.2.1,g.2.2.2.1,g.2.2.2.2.1,g.2.2.2.2.2.2)
else some (g.1.2,g.2.1,g.2.2.1,g.2.2.2.1,g.2.2.2.2.1,g.2.2.2.2.2.2)):Option (JM×(qO×zB×zB×Yq7×List ByteArray×List ByteArray×List mI×Unit))).bind fun c=>
let af:=(if((aO (c.1.2.1+1)):Int)>c.1.2.2.1 then aO (c.1.2.1+1)else c.1.2.2.1)
(QD ((af,()),())).bind fun ag=>
((let ah:=(((c.2.2.2.2.1.1.2.2.1.2:Nat):Int)==0)
bif decide (c.2.2.2.2.2.2.2.1.length=c.2.2.2.2.2.2.2.1.length)&&true then
bif ah then some ((),c.2.2.2.2.2.2.2.1,((0,ByteArray.empty,0,0,()),()),((c.2.2.2.2.1.1.1,c.2.2.2.2.1.1.2.1,c.2.2.2.2.1.1.2.2.1,-1,c.2.2.2.2.1.1.2.2.2.2),()),())
else some ((),c.2.2.2.2.2.2.2.1,((0,ByteArray.empty,0,0,()),()),((c.2.2.2.2.1.1.1,c.2.2.2.2.1.1.2.1,c.2.2.2.2.1.1.2.2.1,ag.1.1,c.2.2.2.2.1.1.2.2.2.2),()),())
else none):Option (Unit×(List mI×qO×Yq7×Unit))).bind fun r=>
bif decide (r.2.1.length=c.2.2.2.2.2.2.2.1.length)&&true then
some ((c.1.1,0,()),r.2.2.2.1,c.2.2.2.1,r.2.1,c.2.2.2.2.2.1,c.2.2.2.2.2.2.1,())
else none
else none
else none)
def ale:Abs.Spec:=⟨0,⟨[0,1,2,3],amP,.nil⟩,⟨[8,9,10,11],(.st gQ (.st sK NC)),(.box 5 (.agg (.dat aQ (.dat .str (.part Z7 (2,0) l9))) .nil) (.box 6 agM (.arr Z7 false Oi)))⟩,abN⟩
def akW:Nat→Abs.eX
 |0=>.mk (bf [(20,⟨[101,8,9,13,12,4,2,5,17],amr,aiE⟩),(15,⟨[12,4,65,8,9,13,2,5,66,67],(.st Xc (.st rW (.part Z7 (2,0) (.st CF (.st MG (.dat .bool (.dat aQ (.st Ho l9)))))))),akx⟩),(11,⟨[12,4,8,9,13,2,5],(.st Xc (.st rW (.st p8 (.st (.ptr (3,0) 6 0 0) (.dat .bool aec))))),(.box 6 ZV (.box 5 (.agg (.dat aQ (.dat .str (.part Z7 (7,0) l9))) .nil) (.box 5 EN (.box 6 Qq acF))))⟩),(6,⟨[45,8,9,4,2,5,3],akN,(.box 5 EN (.box 6 Qq (.box 5 (.agg (.dat aQ (.dat .str (.st (.own Z7 (4,0)) l9))) .nil) (.box 8 wP yE))))⟩),(1,⟨[18,8,9,4,2,5,3],akN,(.box 5 EN (.box 6 Qq (.box 5 pz Nk)))⟩)]) (bf [(22,(⟨[8,9,13,12,4,2,17],ae9,(.box 5 EN (.box 6 Qq (.box 6 amV (.box 5 (.agg (.dat aQ (.dat .str (.part Z7 (6,0) l9))) .nil) (.arr .str false (.arr .str false yE))))))⟩,none)),(18,(⟨[8,9,13,12,4,2,5],afx,aiE⟩,none))]) (bf [(13,⟨⟨[67,12,4,65,8,9,13,2,5,66],(.dat aQ (.st Xc (.st rW (.part Z7 (2,0) aew)))),akx⟩,(.one (.exit 1) ⟨[8,9,13,12,4,2,5],afx,aiE⟩)⟩)]) (fun
  |23,1=>8
  |18,2=>6
  |11,3=>2
  |8,4=>1
  |_,_=>0)
 |1=>.mk (bf [(13,⟨[8,9],(.st sK eH),Qr⟩),(12,⟨[8,10,14,11],(.st sK (.st JB (.dat .bool eH))),(.arr Z7 false (.box 6 Qq (.box 6 agM Oi)))⟩),(10,⟨[11,10,3,24,8,2,5,4,25,26],ak3,ahN⟩)]) (bf [(11,(⟨[11,10,3,24,8,2,5,4,25,26],ak3,ahN⟩,none))]) (bf [(4,⟨⟨[26,11,10,3,24,8,2,5,4,25],(.dat aQ (.dat .bool (.st sK (.dat Jp (.st GV (.st JB (.dat aQ (.st (.ptr (3,0) 8 0 0) (.st (.ptr (4,0) 5 0 0) cZ))))))))),ahN⟩,(.one (.exit 0) ⟨[8,10,11,2,5,4],(.st sK (.st JB (.dat .bool (.dat aQ (.st (.ptr (3,0) 8 0 0) (.st (.ptr (4,0) 5 0 0) .nil)))))),(.arr Z7 false (.box 6 Qq (.box 6 ZV amO)))⟩)⟩)]) fw
 |2=>.mk (bf [(1,⟨[0,5,1],(.st GV (.dat aQ (.st aed .nil))),Qr⟩)]) (bf [(6,(⟨[5,0,1,6],(.dat aQ (.st GV (.st aed cZ))),Qr⟩,none))]) (bf [(5,⟨⟨[6,5,0,1],(.dat aQ (.dat aQ (.st GV (.st aed .nil)))),Qr⟩,(.one (.exit 0) ⟨[5,0],(.dat aQ (.st GV .nil)),Qr⟩)⟩)]) (fun
  |8,2=>5
  |1,2=>3
  |_,_=>0)
 |3=>.mk bB bB (bf [(2,⟨⟨[8,0,1,7],(.dat aQ (.st GV (.st aed cZ))),Qr⟩,(.more .ret ⟨[4],cZ,Qr⟩ (.one (.exit 0) ⟨[],.nil,Qr⟩))⟩)]) (fun
  |4,5=>4
  |_,_=>0)
 |6=>.mk (bf [(1,⟨[4],eH,.nil⟩)]) bB bB (fun
  |1,2=>7
  |_,_=>0)
 |7=>.mk bB bB (bf [(2,⟨⟨[8,0,1,7],(.dat aQ (.dat F5 (.st (.clo 184 []) cZ))),.nil⟩,Ro3⟩)]) fw
 |8=>.mk bB (bf [(3,(⟨[2,1],JL,(.arr Z7 false (.box 5 EN (.box 5 (.agg (.dat aQ (.dat .str (.part Z7 (0,0) l9))) .nil) .nil)))⟩,none))]) bB (fun
  |1,1=>9
  |_,_=>0)
 |_=>{}
theorem amJ:dh 134 ale:=okW akW (aX ac3 (aX Y1 (aX P8 (aX U3 (aX agm (aX akw (aX Z8 dI)))))))
def m83(v:((Y8×Y3×Int×Unit)×Unit)):Option eF:=
(((ahS ((v.1.2.1,()),())).bind fun a=>
bif a.1.1 then bif v.1.2.1.2.2.2.2.1==(-1)then some ((true,()),())
else Abs.rowAt v.1.1.1 v.1.2.1.1 fun b _=>
let c:=(decide (((aO (v.1.2.1.2.2.2.2.1+b.2.2.2.2.2.1)):Int)≤v.1.2.2.1))
some ((c,()),())
else some ((false,()),())):Option eF).bind fun d=>
some d
def apt:Abs.Spec:=⟨0,⟨[0,1,2],(.dat Z9 (.dat Z1 cZ)),.nil⟩,⟨[6],eH,.nil⟩,m83⟩
def aoy:Nat→Abs.eX
 |0=>.mk (bf [(1,⟨[6],eH,.nil⟩)]) bB bB fw
 |_=>{}
theorem ahT:dh 83 apt:=okW aoy (aX am0 dI)
def BX(v:aey):Option (aey⊕(iN×(qC×(Y8×Unit)×qC×List Y3×kQ×Unit))):=
bif decide (v.1.1<v.1.2.2.1)then bif decide (0≤v.1.1∧v.1.1<v.2.2.2.1.length)then
(v.2.2.2.1[v.1.1.toNat]?).bind fun b=>
Abs.rowAt v.2.1.1.1 b.1 fun c _=>
(acs ((b,c,v.1.2.1,v.2.1.1.2.2),())).bind fun a=>
bif decide (0≤v.1.1∧v.1.1<v.2.2.2.1.length)then
bif decide (v.1.1.toNat<v.2.2.2.1.length)then
some (.inl ((aO (v.1.1+1),v.1.2),v.2.1,v.2.2.1,v.2.2.2.1.set v.1.1.toNat (a.2.1.1.1,a.2.1.1.2.1,a.2.2.1,a.2.1.1.2.2),v.2.2.2.2))
else none
else none
else none
else(some (.inr ((v.1.2.1,()),v.2.2.1,v.2.1,v.2.2.2.2.1,v.2.2.2.1,v.2.2.2.2.2)))
def Cn(v:(ajo×ahG)):Option ((ajo×ahG)⊕(Unit×(List Y3×kQ×List ByteArray×Unit))):=
bif decide (v.1.1<v.1.2.2.2.1)then((Abs.rowAt v.1.2.2.1 v.1.1 fun b _=>
(abS ((v.2.2.2.2.2.1.1.2.1,v.2.2.1,b.2.1,v.1.2.1,v.2.2.2.2.1.1.1,()),())).bind fun c=>
bif c.1.1 then bif decide (v.2.2.2.1.length+ [b.1].length≤4294967296)then
some ((v.1.2.1,v.1.2.2.1,v.1.2.2.2.1,v.1.1,()),v.2.1,v.2.2.1,v.2.2.2.1++ [b.1],v.2.2.2.2)
else none
else some ((v.1.2.1,v.1.2.2.1,v.1.2.2.2.1,v.1.1,()),v.2)):Option (alq×ahG)).bind fun a=>
some (.inl ((aO (a.1.2.2.2.1+1),a.1.1,a.1.2.1,a.1.2.2.1,()),a.2))
else(some (.inr ((),v.2.1,v.2.2.1,v.2.2.2.1,())))
def vB(v:ae4):Option (ae4⊕(Unit×(qC×List Gr×qC×(Y8×Unit)×List Y3×kQ×Unit))):=
bif decide (v.1.1<v.1.2.2.2.1)then((bif decide (0≤v.1.1∧v.1.1<v.2.2.2.2.1.length)then
(v.2.2.2.2.1[v.1.1.toNat]?).bind fun d=>
Abs.rowAt v.2.2.2.1.1.1 d.1 fun e _=>
(aC Cn ((0,v.1.2.1,d.2.2.1,(d.2.2.1.length:Int),()),v.2.2.2.2.1,v.2.2.2.2.2.2.1,[],v.2.2.1,v.2.2.2.1,())).bind fun b=>
bif decide (b.2.1.length=v.2.2.2.2.1.length)&&(decide (b.2.2.1.length=v.2.2.2.2.2.2.1.length)&&true)then
(abN ((d,e,v.1.2.2.1,b.2.2.2),())).bind fun a=>
bif decide (0≤v.1.1∧v.1.1<b.2.1.length)then
bif decide (a.2.1.1.2.2.1.1+a.2.1.1.2.2.1.2≤a.2.2.2.1.length)then
bif decide (v.1.1.toNat<b.2.1.length)then
bif a.1.1 then bif decide (v.2.1.length+([(a.2.2.1.1.1,a.2.2.1.1.2.1,a.2.2.1.1.2.2.1,a.2.2.1.1.2.2.2.1,a.2.2.2.2)]:List Gr).length≤4294967296)then
let f:=(v.2.1++([(a.2.2.1.1.1,a.2.2.1.1.2.1,a.2.2.1.1.2.2.1,a.2.2.1.1.2.2.2.1,a.2.2.2.2)]:List Gr))
some ((v.1.2.1,v.1.2.2.1,v.1.2.2.2.1,v.1.1,()),f,v.2.2.1,v.2.2.2.1,b.2.1.set v.1.1.toNat (a.2.1.1.1,a.2.1.1.2.1,(a.2.2.2.1.drop a.2.1.1.2.2.1.1).take a.2.1.1.2.2.1.2,a.2.1.1.2.2.2),v.2.2.2.2.2.1,b.2.2.1,())
else none
else some ((v.1.2.1,v.1.2.2.1,v.1.2.2.2.1,v.1.1,()),v.2.1,v.2.2.1,v.2.2.2.1,b.2.1.set v.1.1.toNat (a.2.1.1.1,a.2.1.1.2.1,(a.2.2.2.1.drop a.2.1.1.2.2.1.1).take a.2.1.1.2.2.1.2,a.2.1.1.2.2.2),v.2.2.2.2.2.1,b.2.2.1,())
else none
else none
else none
else none
else none):Option ((List fe×Int×Int×Int×Unit)×akM)).bind fun c=>
some (.inl ((aO (c.1.2.2.2.1+1),c.1.1,c.1.2.1,c.1.2.2.1,()),c.2))
else(some (.inr ((),v.2.2.2.2.2.1,v.2.1,v.2.2.1,v.2.2.2.1,v.2.2.2.2.1,v.2.2.2.2.2.2)))
def sO(v:(qG×Sc)):Option af3:=
bif decide (v.1.1<v.1.2.1)then bif decide (0≤v.1.1∧v.1.1<v.2.1.length)then
(v.2.1[v.1.1.toNat]?).bind fun a=>
(m83 ((v.2.2.1.1,a,v.2.2.2.1.1.1,()),())).bind fun b=>
bif decide (v.2.1.length=v.2.1.length)&&(decide (v.2.2.2.2.1.length=v.2.2.2.2.1.length)&&true)then
bif b.1.1 then some (.inr (.inl ((v.1.1,()),v.2)))
else some (.inl ((aO (v.1.1+1),v.1.2),v.2))
else none
else none
else(some (.inr (.inr ((),v.2))))
def yx(v:(qG×Sc)):Option ((qG×Sc)⊕(iN×Sc)):=
let c:=(decide (v.1.1<((v.2.1.length:Nat):Int)))
bif c then((bif decide (0≤v.1.1∧v.1.1<v.2.1.length)then
(v.2.1[v.1.1.toNat]?).bind fun b=>
(m83 ((v.2.2.1.1,b,v.2.2.2.1.1.1,()),())).bind fun d=>
bif decide (v.2.1.length=v.2.1.length)&&(decide (v.2.2.2.2.1.length=v.2.2.2.2.1.length)&&true)then
bif !d.1.1 then bif decide (0≤v.1.2.1∧v.1.2.1<v.2.1.length)then
bif decide (v.1.2.1.toNat<v.2.1.length)then
some ((aO (v.1.2.1+1),v.1.1,()),v.2.1.set v.1.2.1.toNat b,v.2.2)
else none
else none
else some ((v.1.2.1,v.1.1,()),v.2)
else none
else none):Option (qG×Sc)).bind fun a=>
some (.inl ((aO (a.1.2.1+1),a.1.1,()),a.2))
else(some (.inr (v.1.2,v.2)))
def m75(v:YL):Option (Unit×aiL):=
(m64 ((v.1.2.1,()),())).bind fun f=>
(aC BX ((0,v.1.2.2.1,((f.2.2.1.length:Nat):Int),()),(v.1.1,()),((v.1.2.2.1,f.2.1.1.2),()),f.2.2.1,((0,0,()),()),f.2.2.2)).bind fun c=>
bif wE c.2.2.2.2.1 then
bif decide (c.2.2.2.2.1.length=c.2.2.2.2.1.length)&&(decide (c.2.2.2.2.2.1.length=c.2.2.2.2.2.1.length)&&true)then
(aC vB ((0,jD c.2.2.2.2.1,c.1.1,((c.2.2.2.2.1.length:Nat):Int),()),[],c.2.1,c.2.2.1,c.2.2.2.2.1,c.2.2.2.1,c.2.2.2.2.2)).bind fun b=>
(((((aC sO ((0,((b.2.2.2.2.2.1.length:Nat):Int),()),b.2.2.2.2.2.1,b.2.2.2.2.1,b.2.2.2.1,b.2.2.2.2.2.2)).bind fun k=>
aA k (fun g=>(bif decide (g.2.1.length=b.2.2.2.2.2.1.length)&&(decide (g.2.2.2.2.1.length=b.2.2.2.2.2.2.1.length)&&true)then
some g
else none)) (fun h=>(bif decide (h.2.1.length=b.2.2.2.2.2.1.length)&&(decide (h.2.2.2.2.1.length=b.2.2.2.2.2.2.1.length)&&true)then
some ((-1,()),h.2)
else none))):Option (iN×Sc)).bind fun d=>
bif d.1.1==(-1)then bif decide (d.2.1.length=b.2.2.2.2.2.1.length)&&(decide (d.2.2.2.2.1.length=b.2.2.2.2.2.2.1.length)&&true)then
some ((),d.2.1,d.2.2.2.2.1,((0,0,()),()),((d.2.2.2.1.1.1,(0,d.2.1.length),d.2.2.2.1.1.2),()),())
else none
else(aC yx ((aO (d.1.1+1),d.1),d.2)).bind fun a=>
bif decide ((0:Int)≤a.1.1)then
bif decide (a.1.1.toNat≤a.2.1.length∧a.2.1.length≤a.2.1.length)then
bif decide (a.1.1.toNat+(a.2.1.length-a.1.1.toNat)≤a.2.1.length)then
let j:=(bK a.2.1 a.1.1.toNat (List.replicate (a.2.1.length-a.1.1.toNat) ((0,ByteArray.empty,[],0,0,()):Y3)))
bif decide ((0:Int)≤a.1.1)then
bif decide (0≤a.1.1.toNat∧a.1.1.toNat≤j.length)then
bif decide (j.length=b.2.2.2.2.2.1.length)&&(decide (a.2.2.2.2.1.length=b.2.2.2.2.2.2.1.length)&&true)then
some ((),j,a.2.2.2.2.1,((0,0,()),()),((a.2.2.2.1.1.1,(0,a.1.1.toNat),a.2.2.2.1.1.2),()),())
else none
else none
else none
else none
else none
else none):Option afG).bind fun e=>
bif decide (e.2.1.length=b.2.2.2.2.2.1.length)&&(decide (e.2.2.1.length=b.2.2.2.2.2.2.1.length)&&true)then
some ((),e.2.2.2.2.1,b.2.2.1,e.2.1,e.2.2.1,())
else none
else none
else none
def aq8:Abs.Spec:=⟨0,⟨[0,1,2],YO,.nil⟩,⟨[6,7],(.st fV (.st (.own yJ (1,0)) .nil)),agU⟩,m75⟩
def aoa:Nat→Abs.eX
 |0=>.mk bB (bf [(17,(⟨[11,4,10,3,2,52,6,53,54],(.st (.own yJ (0,0)) (.st kU (.dat qw (.st kT (.dat aQ (.st (.own Z1 (3,0)) (.st G9 l9))))))),alr⟩,none))]) (bf [(11,⟨⟨[54,11,4,10,3,2,52,6,53],(.dat aQ (.st (.own yJ (0,0)) (.st kU (.dat qw (.st kT (.dat aQ (.st (.own Z1 (3,0)) (.st G9 cZ)))))))),alr⟩,(.one (.exit 2) ⟨[6,11,4,3],(.st fV (.st (.own yJ (1,0)) (.st zF (.st Oh .nil)))),(.box 4 DF (.arr yJ false (.box 4 (.agg (.dat aQ (.st (.own Z1 (4,0)) (.st (.own Z6 (5,0)) cZ))) .nil) (.box 3 kD YB))))⟩)⟩),(4,⟨⟨[25,3,2,4,23,6,24],(.dat aQ (.st Dq (.dat aQ (.st kU (.st (.own Z1 (2,0)) (.st yM cZ)))))),(.box 3 kD (.box 4 (.agg (.dat aQ (.st (.own Z1 (2,0)) (.st (.own Z6 (4,0)) cZ))) .nil) (.arr Z1 false (.box 4 DF nJ))))⟩,(.one (.exit 0) ⟨[4,3,2,6],(.st fV (.st qi aaB)),(.box 4 akD (.box 3 kD (.box 4 DF YB)))⟩)⟩)]) (fun
  |18,2=>2
  |13,12=>1
  |_,_=>0)
 |1=>.mk bB (bf [(7,(⟨[9,5,3,4,13,14,15],(.st N7 (.st yM (.dat qw (.st F4 (.dat F5 l9))))),ajB⟩,none))]) (bf [(3,⟨⟨[15,9,5,3,4,13,14],(.dat aQ (.st N7 (.st yM (.dat qw (.st F4 aeW))))),ajB⟩,(.one (.exit 0) ⟨[9],(.st N7 .nil),(.arr Z1 false (.arr Z6 false Qy))⟩)⟩)]) fw
 |2=>.mk (bf [(1,⟨[4,3],(.st zF PI),ajz⟩)]) bB bB (fun
  |1,3=>3
  |_,_=>0)
 |3=>.mk (bf [(1,⟨[0,5,1],(.st yC (.dat aQ acL)),Yo⟩)]) (bf [(6,(⟨[5,0,1,6],acK,Yo⟩,none))]) (bf [(5,⟨⟨[6,5,0,1],(.dat aQ (.dat aQ (.st yC acL))),Yo⟩,afg⟩)]) (fun
  |8,2=>6
  |1,2=>4
  |_,_=>0)
 |4=>.mk bB bB (bf [(2,⟨⟨[8,0,1,7],acK,Yo⟩,aeE⟩)]) (fun
  |4,5=>5
  |_,_=>0)
 |_=>{}
theorem al4:dh 75 aq8:=okW aoa (aX acw (aX alJ (aX akv (aX amJ (aX ahT dI)))))
def wG(v:QU):Option (QU⊕(uo⊕qR)):=
bif decide (v.1.1<v.1.2.2.1)then Abs.rowAt v.1.2.1 v.1.1 fun a _=>
(Wq ((a,()),())).bind fun b=>
bif b.1.1 then some (.inr (.inl ((v.1.1,()),())))
else some (.inl ((aO (v.1.1+1),v.1.2),()))
else(some (.inr (.inr ((),()))))
def acf(v:((Ol×Int×Unit)×Unit)):Option uo:=
((bif decide (v.1.1.1<1)then some ((true,()),(v.1.1,()),())
else some ((decide (v.1.1.1≤v.1.2.1),()),(v.1.1,()),())):Option (mY×KL)).bind fun a=>
bif a.1.1 then some ((6,()),())
else(((bif decide (a.2.1.1.2.1<0)then some ((true,()),a.2)
else let c:=(decide (a.2.1.1.2.1≥a.2.1.1.2.2.1))
bif c then some ((true,()),a.2)
else bif decide (a.2.1.1.2.2.1>8589934592)then some ((true,()),a.2)
else some ((decide (a.2.1.1.2.2.2.1<0),()),a.2)):Option (mY×KL)).bind fun b=>
bif b.1.1 then some ((1,()),())
else let d:=((b.2.1.1.2.2.2.2.1.length:Int)==0)
bif d then some ((7,()),())
else let e:=(decide ((b.2.1.1.2.2.2.2.1.length:Int)>8))
bif e then some ((5,()),())
else(((aC wG ((0,b.2.1.1.2.2.2.2.1,(b.2.1.1.2.2.2.2.1.length:Int),()),())).bind fun f=>
aA f (fun g=>(some ((decide (g.1.1≥0),()),()))) (fun j=>(some ((false,()),())))):Option eF).bind fun h=>
bif h.1.1 then some ((8,()),())
else some ((0,()),()))
def amU:Abs.Spec:=⟨0,⟨[0,1],(.dat Z6 cZ),.nil⟩,⟨[4],cZ,.nil⟩,acf⟩
def alo:Nat→Abs.eX
 |0=>.mk (bf [(3,⟨[15,2],(.dat .bool Pz),OA⟩),(1,⟨[5,2],(.dat .bool Pz),OA⟩)]) bB bB (fun
  |9,2=>1
  |_,_=>0)
 |1=>.mk (bf [(1,⟨[4],eH,.nil⟩)]) bB bB (fun
  |1,2=>2
  |_,_=>0)
 |2=>.mk bB bB (bf [(2,⟨⟨[8,0,1,7],ahc,.nil⟩,Ro3⟩)]) fw
 |_=>{}
theorem amo:dh 143 amU:=okW alo (aX aeN dI)
def FM(v:((Int×Int×kQ×Int×Unit)×Unit)):Option (((Int×Int×kQ×Int×Unit)×Unit)⊕(uo⊕qR)):=
bif decide (v.1.1<v.1.2.2.2.1)then Abs.rowAt v.1.2.2.1 v.1.1 fun a _=>
(acf ((a,v.1.2.1,()),())).bind fun b=>
bif b.1.1 !=0 then some (.inr (.inl b))
else some (.inl ((aO (v.1.1+1),a.1,v.1.2.2),()))
else(some (.inr (.inr ((),()))))
def m81(v:UZ):Option uo:=
bif decide ((v.1.1.length:Int)>24)then some ((5,()),())
else((aC FM ((0,0,v.1.1,(v.1.1.length:Int),()),())).bind fun a=>
aA a (fun b=>(some b)) (fun c=>(some ((0,()),()))))
def aqn:Abs.Spec:=⟨0,⟨[0],Oe,.nil⟩,⟨[2],cZ,.nil⟩,m81⟩
def aq4:Nat→Abs.eX
 |0=>.mk bB bB (bf [(5,⟨⟨[12,3,10,11],(.dat aQ (.dat aQ Aa)),.nil⟩,aee⟩)]) fw
 |_=>{}
theorem ahC:dh 81 aqn:=okW aq4 (aX amo dI)
def m84(v:((Y3×Int×ByteArray×Unit)×Unit)):Option uo:=
bif v.1.1.1 !=v.1.2.1 then some ((aO (v.1.1.1-v.1.2.1),()),())
else((XM ((v.1.1.2.1,v.1.2.2),())).bind fun a=>
some a)
def apu:Abs.Spec:=⟨0,⟨[0,1,2],(.dat Z1 Fw),.nil⟩,⟨[6],cZ,.nil⟩,m84⟩
theorem alp:dh 84 apu:=okW rT (aX af0 dI)
def vJ(v:aeI):Option (aeI⊕O1):=
bif decide (v.1.1<v.1.2.2.2.1)then((Abs.rowAt v.1.2.2.1 v.1.1 fun b _=>
(Mk ((v.1.2.1,b.1,()),())).bind fun c=>
bif c.1.1 then bif decide (v.2.1.length+([b]:List Nr).length≤4294967296)then
let d:=(v.2.1++([b]:List Nr))
some ((v.1.2.1,v.1.2.2.1,v.1.2.2.2.1,v.1.1,()),d,())
else none
else some ((v.1.2.1,v.1.2.2.1,v.1.2.2.2.1,v.1.1,()),v.2)):Option ((List ByteArray×fe×Int×Int×Unit)×JG)).bind fun a=>
some (.inl ((aO (a.1.2.2.2.1+1),a.1.1,a.1.2.1,a.1.2.2.1,()),a.2))
else(some (.inr ((),v.2)))
def adz(v:afT):Option O1:=
(aC vJ ((0,v.1.2.1,v.1.1,(v.1.1.length:Int),()),[],())).bind fun a=>
some ((),a.2)
def ajM:Abs.Spec:=⟨0,⟨[0,1],(.dat jH JV),.nil⟩,⟨[4],Ox,BN⟩,adz⟩
def als:Nat→Abs.eX
 |0=>.mk bB (bf [(7,(⟨[5,1,8,9,10],(.st Xx (.dat Jp (.dat jH l9))),BN⟩,none))]) (bf [(3,⟨⟨[10,5,1,8,9],(.dat aQ (.st Xx (.dat Jp R8))),BN⟩,(.one (.exit 0) ⟨[5],Ox,BN⟩)⟩)]) fw
 |_=>{}
theorem ako:dh 119 ajM:=okW als (aX agm dI)
def m69(v:((mJ×fe×Unit)×Unit)):Option Gj:=
(m66 (v.1.2,())).bind fun a=>
bif !a.1.1 then some ((ByteArray.empty,()),())
else((adz ((v.1.2.1,v.1.1.2.2.2.1,()),())).bind fun b=>
(Xn (b.2,())).bind fun c=>
some c)
def ap6:Abs.Spec:=⟨0,⟨[0,1],(.dat Z5 mF),.nil⟩,⟨[4],iJ,.nil⟩,m69⟩
theorem ajX:dh 69 ap6:=okW rT (aX Xj (aX ako (aX aay dI)))
def BK(v:(aa4×ZM)):Option ((aa4×ZM)⊕((iN×ZM)⊕(Unit×ZM))):=
bif decide (v.1.1<v.1.2.2.1)then Abs.rowAt v.1.2.1 v.1.1 fun a _=>
Abs.rowAt v.2.1.1.1 v.2.2.1.1.1 fun b _=>
(m69 ((b,a.2.1,()),())).bind fun c=>
bif !(c.1.1.toList==v.2.2.1.1.2.1.toList)then some (.inr (.inl ((v.1.1,()),v.2)))
else some (.inl ((aO (v.1.1+1),v.1.2),v.2))
else(some (.inr (.inr ((),v.2))))
def rX(v:(alB×Y40)):Option ((alB×Y40)⊕(eF⊕qR)):=
bif decide (v.1.1<v.1.2.2.1)then Abs.rowAt v.1.2.1 v.1.1 fun a _=>
(((m82 ((a,()),())).bind fun e=>
bif !e.1.1 then some ((true,v.1.2.1,v.1.2.2.1,v.1.1,()),v.2.1,v.2.2.1,(a,()),())
else let f:=(decide (a.1≥(v.2.1.1.1.length:Int)))
bif f then some ((true,v.1.2.1,v.1.2.2.1,v.1.1,()),v.2.1,v.2.2.1,(a,()),())
else(m83 ((v.2.1.1,a,v.2.2.1.1.1,()),())).bind fun g=>
bif g.1.1 then some ((true,v.1.2.1,v.1.2.2.1,v.1.1,()),v.2.1,v.2.2.1,(a,()),())
else bif decide (v.1.1>0)then Abs.rowAt v.2.2.1.1.2.1 (aO (v.1.1-1)) fun h _=>
(m84 ((h,a.1,a.2.1,()),())).bind fun j=>
some ((decide (j.1.1≥0),v.1.2.1,v.1.2.2.1,v.1.1,()),v.2.1,v.2.2.1,(a,()),())
else some ((false,v.1.2.1,v.1.2.2.1,v.1.1,()),v.2.1,v.2.2.1,(a,()),())):Option ((Bool×List Y3×Int×Int×Unit)×((Y8×Unit)×yc×(Y3×Unit)×Unit))).bind fun b=>
bif b.1.1 then some (.inr (.inl ((false,()),())))
else(((aC BK ((0,b.2.2.2.1.1.2.2.1,(b.2.2.2.1.1.2.2.1.length:Int),()),b.2.1,b.2.2.2)).bind fun k=>
aA k (fun c=>(some ((decide (c.1.1≥0),()),c.2))) (fun l=>(some ((false,()),l.2)))):Option (mY×ZM)).bind fun d=>
bif d.1.1 then some (.inr (.inl ((false,()),())))
else some (.inl ((aO (b.1.2.2.2.1+1),b.1.2.1,b.1.2.2.1,()),d.2.1,b.2.2.1,()))
else(some (.inr (.inr ((),()))))
def m36(v:afZ):Option eF:=
(((m34 ((v.1.1,()),())).bind fun c=>
bif c.1.1 !=0 then some ((true,()),(v.1.1,()),v.1.2,())
else bif decide (v.1.2.1.1<0)then some ((true,()),(v.1.1,()),v.1.2,())
else bif decide (v.1.2.1.1>8589934592)then some ((true,()),(v.1.1,()),v.1.2,())
else let d:=(decide ((v.1.2.1.2.1.length:Int)>64))
bif d then some ((true,()),(v.1.1,()),v.1.2,())
else(m81 ((v.1.2.1.2.2.1,()),())).bind fun e=>
bif e.1.1 !=0 then some ((true,()),(v.1.1,()),v.1.2,())
else some ((decide (v.1.2.1.2.2.2.1<1),()),(v.1.1,()),v.1.2,())):Option (mY×Y40)).bind fun a=>
bif a.1.1 then some ((false,()),())
else(((let f:=(decide ((a.2.2.1.1.2.2.1.length:Int)>0))
bif f then Abs.rowAt a.2.2.1.1.2.2.1 (aO ((a.2.2.1.1.2.2.1.length:Int)-1)) fun g _=>
some ((decide (g.1≥a.2.2.1.1.2.2.2.1),()),a.2)
else some ((false,()),a.2)):Option (mY×Y40)).bind fun b=>
bif b.1.1 then some ((false,()),())
else(aC rX ((0,b.2.2.1.1.2.1,(b.2.2.1.1.2.1.length:Int),()),b.2)).bind fun h=>
aA h (fun j=>(some j)) (fun k=>(some ((true,()),()))))
def ao7:Abs.Spec:=⟨0,⟨[0,1],(.dat Z9 kS),.nil⟩,⟨[4],eH,.nil⟩,m36⟩
def ao4:Nat→Abs.eX
 |0=>.mk (bf [(9,⟨[98,2,3,56,57,58,7],(.dat .bool (.st Dq (.st kU (.dat XW (.dat aQ (.dat aQ (.st p8 .nil))))))),(.box 3 kD (.box 4 kS yF))⟩),(4,⟨[54,2,3],ZR,LZ⟩),(1,⟨[37,2,3],ZR,LZ⟩)]) bB (bf [(7,⟨⟨[58,2,3,56,57],(.dat aQ (.st Dq (.st kU ahq))),LZ⟩,Ro4⟩)]) (fun
  |11,3=>1
  |_,_=>0)
 |1=>.mk (bf [(1,⟨[4],eH,(.box 3 kD yF)⟩)]) bB bB (fun
  |1,2=>2
  |_,_=>0)
 |2=>.mk bB bB (bf [(2,⟨⟨[8,0,1,7],(.dat aQ (.dat F5 (.st (.clo 86 [((0,0),3,0,0),((1,0),5,0,0)]) cZ))),(.box 3 kD yF)⟩,(.more .ret ⟨[4],cZ,(.box 3 kD yF)⟩ (.one (.exit 0) ⟨[],.nil,(.box 3 kD yF)⟩))⟩)]) (fun
  |4,5=>3
  |_,_=>0)
 |_=>{}
theorem VN:dh 36 ao7:=okW ao4 (aX abl (aX ahC (aX ac3 (aX ahT (aX alp (aX ajX dI))))))
def m67(v:((TI×Int×Unit)×Unit)):Option uo:=
bif decide (v.1.2.1<v.1.1.1)then some ((6,()),())
else(bif decide (v.1.2.1>8589934592)then some ((1,()),())
else some ((0,()),()))
def aoC:Abs.Spec:=⟨0,⟨[0,1],(.dat Rj cZ),.nil⟩,⟨[4],cZ,.nil⟩,m67⟩
theorem ajU:dh 67 aoC:=okW rT dI
def vU(v:agf):Option (agf⊕Oo):=
bif decide (v.1.1<v.1.2.2.2.1)then((Abs.rowAt v.1.2.2.1 v.1.1 fun b _=>
bif b.1==v.1.2.1 then bif decide (v.2.1.length+ [v.1.1].length≤4294967296)then
some ((v.1.2.1,v.1.2.2.1,v.1.2.2.2.1,v.1.1,()),v.2.1++ [v.1.1],())
else none
else some ((v.1.2.1,v.1.2.2.1,v.1.2.2.2.1,v.1.1,()),v.2)):Option ((Int×List mJ×Int×Int×Unit)×EZ)).bind fun a=>
some (.inl ((aO (a.1.2.2.2.1+1),a.1.1,a.1.2.1,a.1.2.2.1,()),a.2))
else(some (.inr ((),v.2)))
def abw(v:((List mJ×Int×Unit)×Unit)):Option Oo:=
(aC vU ((0,v.1.2.1,v.1.1,(v.1.1.length:Int),()),[],())).bind fun a=>
some ((),a.2)
def afI:Abs.Spec:=⟨0,⟨[0,1],La,.nil⟩,⟨[4],Nv,Cq⟩,abw⟩
def alU:Nat→Abs.eX
 |0=>.mk bB (bf [(7,(⟨[5,1,8,9,10],(.st NU (.dat aQ (.dat Bw l9))),Cq⟩,none))]) (bf [(3,⟨⟨[10,5,1,8,9],(.dat aQ (.st NU (.dat aQ La))),Cq⟩,(.one (.exit 0) ⟨[5],Nv,Cq⟩)⟩)]) fw
 |_=>{}
theorem ajE:dh 168 afI:=okW alU dI
def pu(rc:X6→Option Oo)(v:ae6):Option (ae6⊕(iN×EZ)):=
bif decide (v.1.1<v.1.2.2.2.2.1)then((bif decide (0≤v.1.1∧v.1.1<v.2.2.1.length)then
(v.2.2.1[v.1.1.toNat]?).bind fun e47=>
Abs.rowAt v.1.2.2.1 e47 fun e48 _=>
(QZ ((e48.2.1,v.1.2.2.2.1,()),())).bind fun u49=>
bif !u49.1.1 then some (.inl ((v.1.2.1,v.1.2.2.1,v.1.2.2.2.1,v.1.2.2.2.2.1,v.1.1,()),v.2.1,v.2.2.1,()))
else(rc ((v.1.2.2.1,e47,v.1.2.2.2.1,()),())).bind fun u50=>
bif decide (v.2.1.length+u50.2.1.length≤4294967296)then
Abs.rowAt v.1.2.2.1 e47 fun e51 _=>
bif !e51.2.2.2.2.2.2.2.1 then some (.inr ((v.1.2.1,()),v.2.1++u50.2.1,()))
else some (.inl ((v.1.2.1,v.1.2.2.1,v.1.2.2.2.1,v.1.2.2.2.2.1,v.1.1,()),v.2.1++u50.2.1,v.2.2.1,()))
else none
else none):Option (((Int×List mJ×fe×Int×Int×Unit)×aci)⊕(iN×EZ))).bind fun r54=>
aA r54 (fun v52=>(some (.inl ((aO (v52.1.2.2.2.2.1+1),v52.1.1,v52.1.2.1,v52.1.2.2.1,v52.1.2.2.2.1,()),v52.2.1,v52.2.2.1,())))) (fun d53=>(some (.inr ((d53.1.1,()),d53.2.1,()))))
else(some (.inr ((v.1.2.1,()),v.2.1,())))
def i117:Abs.Sg:=⟨[0,1,2],(.dat Bw (.dat aQ mF)),.nil⟩
def ajI:Abs.Sg:=⟨[6],Nv,Cq⟩
def XC(rc:X6→Option Oo)(v:X6):Option Oo:=
(abw ((v.1.1,(v.1.2.1,())),())).bind fun u46=>
(aC (pu rc) ((0,(v.1.2.1,(v.1.1,(v.1.2.2.1,(((u46.2.1.length:Nat):Int),()))))),([],(u46.2.1,())))).bind fun d55=>
bif ((((d55.2.1.length:Nat):Int):Int)==0)then(some ((),([d55.1.1],())))
else(some ((),(d55.2.1,())))
def Lb(n:Nat):X6→Option Oo:=Nat.rec (motive:=fun _=>X6→Option Oo) (fun _=>none) (fun _ rc=>XC rc) n
def ajy:X6→Option Oo:=Lb 400
def aae(n:Nat):Abs.Spec:=⟨0,i117,ajI,Lb n⟩
def akQ:Abs.Spec:=⟨0,i117,ajI,ajy⟩
def al2:Nat→Abs.eX
 |0=>.mk bB (bf [(8,(⟨[1,0,2,7,12,13,14],(.dat aQ (.dat Bw (.dat jH (.st NU (.st (.own aQ (1,0)) l9))))),TY⟩,some Ro7))]) (bf [(3,⟨⟨[14,1,0,2,7,12,13],(.dat aQ (.dat aQ (.dat Bw (.dat jH (.st NU (.st (.own aQ (1,0)) cZ)))))),TY⟩,Ro7⟩)]) fw
 |_=>{}
theorem aaG:∀n,Abs.gP Tryz.prog 117 (aae n)
 |0=>fun _ _ _ _ _ _ h=>by cases h
 |n+1=>Abs.xY (C:=Zc) (mv:=Vn) N8 (n:=12) (an:=al2) (T:=Abs.vX [(117,aae n),(168,afI),(169,agv)]) good Df (Abs.lV _ (by simp only[List.forall_mem_cons];exact⟨aaG n,ajE,aar,fun _ h=>by cases h⟩)) rfl (by intro v;kernel_rfl)
theorem akT:Abs.gP Tryz.prog 117 akQ:=aaG 400
def m68(v:((List mJ×fe×Unit)×Unit)):Option Oo:=
(((m78 ((v.1.1,()),())).bind fun b=>
bif b.1.1 !=0 then some ((true,v.1.2.1,v.1.1,()),())
else(m66 (v.1.2,())).bind fun c=>
some ((!c.1.1,v.1.2.1,v.1.1,()),())):Option ae2).bind fun a=>
bif a.1.1 then some ((),[],())
else((ajy ((a.1.2.2.1,0,a.1.2.1,()),())).bind fun d=>
some ((),d.2.1,()))
def apf:Abs.Spec:=⟨0,⟨[0,1],(.dat Bw mF),.nil⟩,⟨[4],Nv,Cq⟩,m68⟩
def aok:Nat→Abs.eX
 |0=>.mk (bf [(1,⟨[12,1,0],(.dat .bool (.dat jH Pt)),.nil⟩)]) bB bB fw
 |_=>{}
theorem aqs:dh 68 apf:=okW aok (aX ah4 (aX Xj (aX akT dI)))
def m72(v:Sl):Option (Unit×(qO×Unit)):=
some ((),((v.1.1,v.1.2.1,-1,-1,()),()),())
def aod:Abs.Spec:=⟨0,⟨[0,1],Fw,.nil⟩,⟨[4],Pz,(.box 5 EN .nil)⟩,m72⟩
theorem ap9:dh 72 aod:=okW rT dI
def m73(v:ae7):Option Fe:=
(((m82 ((v.1.1,()),())).bind fun y=>
bif !y.1.1 then some ((true,v.1.2.2.2.2.1,v.1.2.2.2.1,v.1.2.2.1,()),((0,ByteArray.empty,0,0,()),()),(v.1.1,()),(v.1.2.1,()),())
else(VO ((v.1.2.1,()),())).bind fun z=>
bif !z.1.1 then some ((true,v.1.2.2.2.2.1,v.1.2.2.2.1,v.1.2.2.1,()),((0,ByteArray.empty,0,0,()),()),(v.1.1,()),(v.1.2.1,()),())
else(m66 ((v.1.2.2.1,()),())).bind fun aa=>
some ((!aa.1.1,v.1.2.2.2.2.1,v.1.2.2.2.1,v.1.2.2.1,()),((0,ByteArray.empty,0,0,()),()),(v.1.1,()),(v.1.2.1,()),())):Option ((Bool×Int×Bool×fe×Unit)×(qO×(Y3×Unit)×L9×Unit))).bind fun c=>
bif c.1.1 then some ((8,()),((0,ByteArray.empty,0,0,()),()),[],())
else((J5 ((c.1.2.1,0,8589934592,()),())).bind fun ab=>
bif !ab.1.1 then some ((1,()),((0,ByteArray.empty,0,0,()),()),[],())
else(Xn (c.1.2.2.2,())).bind fun s=>
(QK ((c.2.2.1.1,s.1),())).bind fun b=>
(Tw (c.2.2.1,())).bind fun e=>
((bif b.1.2.1 then bif decide (0≤b.1.1∧b.1.1<e.2.2.1.length)then
(e.2.2.1[b.1.1.toNat]?).bind fun a=>
((bif decide (0≤b.1.1∧b.1.1<(e.2.2.1.set b.1.1.toNat (a.1,a.2.1,a.2.2.1,c.1.2.1,a.2.2.2.2)).length)then
((e.2.2.1.set b.1.1.toNat (a.1,a.2.1,a.2.2.1,c.1.2.1,a.2.2.2.2))[b.1.1.toNat]?).bind fun ac=>
bif ac.2.2.2.2.1==c.1.2.2.1 then bif decide ((e.2.2.1.set b.1.1.toNat (a.1,a.2.1,a.2.2.1,c.1.2.1,a.2.2.2.2)).length=(e.2.2.1.set b.1.1.toNat (a.1,a.2.1,a.2.2.1,c.1.2.1,a.2.2.2.2)).length)&&true then
some ((),c.2.1,e.2.1,e.2.2.1.set b.1.1.toNat (a.1,a.2.1,a.2.2.1,c.1.2.1,a.2.2.2.2),())
else none
else bif c.1.2.2.1 then((e.2.2.1.set b.1.1.toNat (a.1,a.2.1,a.2.2.1,c.1.2.1,a.2.2.2.2))[b.1.1.toNat]?).bind fun g=>
(((e.2.2.1.set b.1.1.toNat (a.1,a.2.1,a.2.2.1,c.1.2.1,a.2.2.2.2)).set b.1.1.toNat (g.1,g.2.1,g.2.2.1,g.2.2.2.1,true,g.2.2.2.2.2))[b.1.1.toNat]?).bind fun j=>
((((e.2.2.1.set b.1.1.toNat (a.1,a.2.1,a.2.2.1,c.1.2.1,a.2.2.2.2)).set b.1.1.toNat (g.1,g.2.1,g.2.2.1,g.2.2.2.1,true,g.2.2.2.2.2)).set b.1.1.toNat (j.1,j.2.1,j.2.2.1,j.2.2.2.1,j.2.2.2.2.1,true,()))[b.1.1.toNat]?).bind fun p=>
bif decide (((((e.2.2.1.set b.1.1.toNat (a.1,a.2.1,a.2.2.1,c.1.2.1,a.2.2.2.2)).set b.1.1.toNat (g.1,g.2.1,g.2.2.1,g.2.2.2.1,true,g.2.2.2.2.2)).set b.1.1.toNat (j.1,j.2.1,j.2.2.1,j.2.2.2.1,j.2.2.2.2.1,true,())).set b.1.1.toNat (p.1,p.2.1,c.1.2.1,p.2.2.2)).length=(e.2.2.1.set b.1.1.toNat (a.1,a.2.1,a.2.2.1,c.1.2.1,a.2.2.2.2)).length)&&true then
some ((),c.2.1,e.2.1,(((e.2.2.1.set b.1.1.toNat (a.1,a.2.1,a.2.2.1,c.1.2.1,a.2.2.2.2)).set b.1.1.toNat (g.1,g.2.1,g.2.2.1,g.2.2.2.1,true,g.2.2.2.2.2)).set b.1.1.toNat (j.1,j.2.1,j.2.2.1,j.2.2.2.1,j.2.2.2.2.1,true,())).set b.1.1.toNat (p.1,p.2.1,c.1.2.1,p.2.2.2),())
else none
else((e.2.2.1.set b.1.1.toNat (a.1,a.2.1,a.2.2.1,c.1.2.1,a.2.2.2.2))[b.1.1.toNat]?).bind fun ad=>
bif !ad.2.2.2.2.2.1 then bif decide (0≤b.1.1∧b.1.1<(aO (b.1.1+1))∧((aO (b.1.1+1)):Int)≤(e.2.2.1.set b.1.1.toNat (a.1,a.2.1,a.2.2.1,c.1.2.1,a.2.2.2.2)).length∧(e.2.2.1.set b.1.1.toNat (a.1,a.2.1,a.2.2.1,c.1.2.1,a.2.2.2.2)).length≤4294967296)then
bif decide ((e.2.2.1.set b.1.1.toNat (a.1,a.2.1,a.2.2.1,c.1.2.1,a.2.2.2.2)).length=(e.2.2.1.set b.1.1.toNat (a.1,a.2.1,a.2.2.1,c.1.2.1,a.2.2.2.2)).length)&&true then
bif decide ((e.2.2.1.set b.1.1.toNat (a.1,a.2.1,a.2.2.1,c.1.2.1,a.2.2.2.2)).length=(e.2.2.1.set b.1.1.toNat (a.1,a.2.1,a.2.2.1,c.1.2.1,a.2.2.2.2)).length)&&true then
some ((),c.2.1,e.2.1,(e.2.2.1.set b.1.1.toNat (a.1,a.2.1,a.2.2.1,c.1.2.1,a.2.2.2.2)).take b.1.1.toNat++(e.2.2.1.set b.1.1.toNat (a.1,a.2.1,a.2.2.1,c.1.2.1,a.2.2.2.2)).drop (aO (b.1.1+1)).toNat,())
else none
else none
else none
else((e.2.2.1.set b.1.1.toNat (a.1,a.2.1,a.2.2.1,c.1.2.1,a.2.2.2.2))[b.1.1.toNat]?).bind fun f=>
(((e.2.2.1.set b.1.1.toNat (a.1,a.2.1,a.2.2.1,c.1.2.1,a.2.2.2.2)).set b.1.1.toNat (f.1,f.2.1,f.2.2.1,f.2.2.2.1,false,f.2.2.2.2.2))[b.1.1.toNat]?).bind fun h=>
((((e.2.2.1.set b.1.1.toNat (a.1,a.2.1,a.2.2.1,c.1.2.1,a.2.2.2.2)).set b.1.1.toNat (f.1,f.2.1,f.2.2.1,f.2.2.2.1,false,f.2.2.2.2.2)).set b.1.1.toNat (h.1,h.2.1,h.2.2.1,h.2.2.2.1,h.2.2.2.2.1,false,()))[b.1.1.toNat]?).bind fun l=>
((bif e.2.1.1.2.2.2.1 !=(-1)then let u:=(aO (e.2.1.1.2.2.2.1+c.2.2.2.1.1.2.2.2.2.2.1))
let ae:=(if u>c.1.2.1 then u else c.1.2.1)
some ((ae,()),e.2.1,(((e.2.2.1.set b.1.1.toNat (a.1,a.2.1,a.2.2.1,c.1.2.1,a.2.2.2.2)).set b.1.1.toNat (f.1,f.2.1,f.2.2.1,f.2.2.2.1,false,f.2.2.2.2.2)).set b.1.1.toNat (h.1,h.2.1,h.2.2.1,h.2.2.2.1,h.2.2.2.2.1,false,())).set b.1.1.toNat (l.1,l.2.1,c.1.2.1,l.2.2.2),())
else some ((aO (c.1.2.1+c.2.2.2.1.1.2.2.2.2.1),()),e.2.1,(((e.2.2.1.set b.1.1.toNat (a.1,a.2.1,a.2.2.1,c.1.2.1,a.2.2.2.2)).set b.1.1.toNat (f.1,f.2.1,f.2.2.1,f.2.2.2.1,false,f.2.2.2.2.2)).set b.1.1.toNat (h.1,h.2.1,h.2.2.1,h.2.2.2.1,h.2.2.2.2.1,false,())).set b.1.1.toNat (l.1,l.2.1,c.1.2.1,l.2.2.2),())):Option Fe).bind fun m=>
((bif m.2.1.1.2.2.1 !=(-1)then let af:=(if m.2.1.1.2.2.1<m.1.1 then m.2.1.1.2.2.1 else m.1.1)
some ((af,()),m.2)
else some m):Option Fe).bind fun n=>
(QD (n.1,())).bind fun ag=>
bif decide (n.2.2.1.length=((((e.2.2.1.set b.1.1.toNat (a.1,a.2.1,a.2.2.1,c.1.2.1,a.2.2.2.2)).set b.1.1.toNat (f.1,f.2.1,f.2.2.1,f.2.2.2.1,false,f.2.2.2.2.2)).set b.1.1.toNat (h.1,h.2.1,h.2.2.1,h.2.2.2.1,h.2.2.2.2.1,false,())).set b.1.1.toNat (l.1,l.2.1,c.1.2.1,l.2.2.2)).length)&&true then
bif decide (n.2.2.1.length=(e.2.2.1.set b.1.1.toNat (a.1,a.2.1,a.2.2.1,c.1.2.1,a.2.2.2.2)).length)&&true then
some ((),c.2.1,((n.2.1.1.1,n.2.1.1.2.1,ag.1.1,n.2.1.1.2.2.2),()),n.2.2)
else none
else none
else none):Option Lr).bind fun ah=>
some (.inl ((),ah.2))
else none
else((bif c.1.2.2.1 then let ai:=(((e.2.2.1.length:Nat):Int)==256)
some ((ai,c.1.2.1,b.1.1,c.1.2.2.2.1,s.1.1,c.1.2.2.1,()),c.2.1,e.2.1,c.2.2.2.1,e.2.2)
else some ((false,c.1.2.1,b.1.1,c.1.2.2.2.1,s.1.1,c.1.2.2.1,()),c.2.1,e.2.1,c.2.2.2.1,e.2.2)):Option ((Bool×Int×Int×fe×ByteArray×Bool×Unit)×(qO×qO×L9×List mI×Unit))).bind fun d=>
bif d.1.1 then some (.inr ((5,()),((0,ByteArray.empty,0,0,()),()),()))
else bif d.1.2.2.2.2.2.1 then(aaC ((d.1.2.2.2.1,()),())).bind fun q=>
bif decide (0≤d.1.2.2.1∧d.1.2.2.1≤d.2.2.2.2.1.length∧d.2.2.2.2.1.length≤4294967295∧([(d.1.2.2.2.2.1,q.2.1,d.1.2.1,d.1.2.1,true,false,())]:List mI).length=1)then
bif decide (d.2.2.2.2.1.length=d.2.2.2.2.1.length)&&(decide (([(d.1.2.2.2.2.1,q.2.1,d.1.2.1,d.1.2.1,true,false,())]:List mI).length=([(d.1.2.2.2.2.1,q.2.1,d.1.2.1,d.1.2.1,true,false,())]:List mI).length)&&true)then
((bif d.2.2.1.1.2.2.2.1 !=(-1)then let w:=(aO (d.2.2.1.1.2.2.2.1+d.2.2.2.1.1.2.2.2.2.2.1))
let aj:=(if w>d.1.2.1 then w else d.1.2.1)
some ((aj,()),d.2.2.1,d.2.2.2.2.1.take d.1.2.2.1.toNat++([(d.1.2.2.2.2.1,q.2.1,d.1.2.1,d.1.2.1,true,false,())]:List mI)++d.2.2.2.2.1.drop d.1.2.2.1.toNat,())
else some ((aO (d.1.2.1+d.2.2.2.1.1.2.2.2.2.1),()),d.2.2.1,d.2.2.2.2.1.take d.1.2.2.1.toNat++([(d.1.2.2.2.2.1,q.2.1,d.1.2.1,d.1.2.1,true,false,())]:List mI)++d.2.2.2.2.1.drop d.1.2.2.1.toNat,())):Option Fe).bind fun o=>
((bif o.2.1.1.2.2.1 !=(-1)then let ak:=(if o.2.1.1.2.2.1<o.1.1 then o.2.1.1.2.2.1 else o.1.1)
some ((ak,()),o.2)
else some o):Option Fe).bind fun r=>
(QD (r.1,())).bind fun al=>
bif decide (r.2.2.1.length=(d.2.2.2.2.1.take d.1.2.2.1.toNat++([(d.1.2.2.2.2.1,q.2.1,d.1.2.1,d.1.2.1,true,false,())]:List mI)++d.2.2.2.2.1.drop d.1.2.2.1.toNat).length)&&true then
some (.inl ((),d.2.1,((r.2.1.1.1,r.2.1.1.2.1,al.1.1,r.2.1.1.2.2.2),()),r.2.2))
else none
else none
else none
else some (.inl ((),d.2.1,d.2.2.1,d.2.2.2.2))):Option (Lr⊕(iN×(qO×Unit)))).bind fun am=>
aA am (fun k=>(((let an:=(((k.2.2.2.1.length:Nat):Int)==0)
bif decide (k.2.2.2.1.length=k.2.2.2.1.length)&&true then
bif an then some ((),k.2.2.2.1,((0,ByteArray.empty,0,0,()),()),((k.2.2.1.1.1,k.2.2.1.1.2.1,-1,k.2.2.1.1.2.2.2),()),())
else some ((),k.2.2.2.1,((0,ByteArray.empty,0,0,()),()),k.2.2.1,())
else none):Option NM).bind fun t=>
bif decide (t.2.1.length=k.2.2.2.1.length)&&true then
some ((0,()),t.2.2.2.1,t.2.1,())
else none)) (fun x=>(some (x.1,x.2.1,[],()))))
def apw:Abs.Spec:=⟨0,⟨[0,1,2,3,4],(.dat Z1 (.dat Z5 (.dat jH NC))),.nil⟩,⟨[10,11],Iu,AX⟩,m73⟩
def ao8:Nat→Abs.eX
 |0=>.mk (bf [(11,⟨[59,10,5,4,6,13,2,12,3],(.dat .bool (.st gQ (.st rW (.dat aQ (.st aft (.dat aQ (.dat jH (.dat .str eH)))))))),(.box 5 EN (.box 5 agu (.box 8 wP yE)))⟩),(10,⟨[10,5],Pm,Rz⟩),(1,⟨[16,10,5,4,3,6,2],(.dat .bool (.st gQ (.st rW (.dat aQ (.dat .bool (.st aft mF)))))),(.box 5 EN (.box 5 pz Nk))⟩)]) (bf [(17,(⟨[10,5],Pm,Rz⟩,some (.one .ret ⟨[10,11],Iu,(.box 5 EN .nil)⟩)))]) bB (fun
  |17,1=>4
  |16,2=>3
  |10,4=>1
  |_,_=>0)
 |1=>.mk bB bB bB (fun
  |3,3=>2
  |_,_=>0)
 |2=>.mk bB (bf [(6,(⟨[6,0],WY,AX⟩,none)),(4,(⟨[0,6],Iu,AX⟩,none))]) bB fw
 |3=>.mk bB (bf [(6,(⟨[6,0],WY,AX⟩,none)),(4,(⟨[0,6],Iu,AX⟩,none))]) bB fw
 |4=>.mk bB (bf [(3,(⟨[2,1],JL,zm⟩,none))]) bB (fun
  |1,1=>5
  |_,_=>0)
 |_=>{}
theorem aob:dh 73 apw:=okW ao8 (aX ac3 (aX Y1 (aX Xj (aX P8 (aX aay (aX afd (aX U3 (aX Z8 (aX afl dI)))))))))
def sQ(v:agq):Option (agq⊕((ByteArray×Int×Int×Unit)×ZB)):=
bif decide (v.1.2.2.1<v.1.2.1)then let a:=(IntKind.wrap .u64 (aO (v.1.2.2.1+v.1.2.1)))
bif decide ((0:Int)≤1)then
bif decide ((0:Int)≤(aO (Cz .u64 (a) (1)))∧((aO (Cz .u64 (a) (1))):Int)<v.2.1.length)then
(v.2.1[(aO (Cz .u64 (a) (1))).toNat]?).bind fun b=>
(m84 ((b,v.2.2.1.1,v.1.1,()),())).bind fun c=>
bif decide (c.1.1<0)then some (.inl ((v.1.1,v.1.2.1,aO ((aO (Cz .u64 (a) (1)))+1),v.1.2.2.2),v.2))
else some (.inl ((v.1.1,aO (Cz .u64 (a) (1)),v.1.2.2),v.2))
else none
else none
else(some (.inr ((v.1.1,v.1.2.2),v.2)))
def y5(v:(qG×YG)):Option ((qG×YG)⊕(Ug⊕(Unit×(qC×qC×(Y8×Unit)×List Y3×kQ×Unit)))):=
bif decide (v.1.1<v.1.2.1)then((bif decide (0≤v.1.1∧v.1.1<v.2.2.2.2.2.1.length)then
(v.2.2.2.2.2.1[v.1.1.toNat]?).bind fun g=>
Abs.rowAt v.2.2.2.2.1.1.1 g fun k _=>
(m69 ((k,v.2.2.2.1.1.2.1,()),())).bind fun h=>
(aC sQ ((h.1.1,((v.2.2.2.2.2.2.1.length:Nat):Int),0,((v.2.2.2.2.2.2.1.length:Nat):Int),()),v.2.2.2.2.2.2.1,(g,()),())).bind fun c=>
((bif decide (c.1.2.1<c.1.2.2.1)then bif decide (0≤c.1.2.1∧c.1.2.1<c.2.1.length)then
(c.2.1[c.1.2.1.toNat]?).bind fun l=>
(m84 ((l,c.2.2.1.1,c.1.1,()),())).bind fun m=>
some ((c.1.2.1,m.1.1==0,()),c.2)
else none
else some ((c.1.2.1,false,()),c.2)):Option (Uf×ZB)).bind fun e=>
bif decide (e.2.1.length=v.2.2.2.2.2.2.1.length)&&true then
bif decide (e.2.1.length=v.2.2.2.2.2.2.1.length)&&true then
((bif !e.1.2.1 then some ((!v.2.2.2.1.1.2.2.1,v.1.2.1,v.1.1,e.1.1,g,h.1.1,e.1.2),v.2.1,v.2.2.1,v.2.2.2.1,v.2.2.2.2.1,v.2.2.2.2.2.1,e.2.1,v.2.2.2.2.2.2.2)
else some ((false,v.1.2.1,v.1.1,e.1.1,g,h.1.1,e.1.2),v.2.1,v.2.2.1,v.2.2.2.1,v.2.2.2.2.1,v.2.2.2.2.2.1,e.2.1,v.2.2.2.2.2.2.2)):Option ((Bool×Int×Int×Int×Int×ByteArray×Bool×Unit)×YG)).bind fun a=>
bif a.1.1 then some (.inl ((a.1.2.1,a.1.2.2.1,()),a.2))
else((bif !a.1.2.2.2.2.2.2.1 then(m72 ((a.1.2.2.2.2.1,a.1.2.2.2.2.2.1,()),())).bind fun d=>
bif decide (0≤a.1.2.2.2.1∧a.1.2.2.2.1≤a.2.2.2.2.2.2.1.length∧a.2.2.2.2.2.2.1.length≤4294967295∧([(d.2.1.1.1,d.2.1.1.2.1,[],d.2.1.1.2.2)]:List Y3).length=1)then
bif decide (a.2.2.2.2.2.2.1.length=a.2.2.2.2.2.2.1.length)&&(decide (([(d.2.1.1.1,d.2.1.1.2.1,[],d.2.1.1.2.2)]:List Y3).length=([(d.2.1.1.1,d.2.1.1.2.1,[],d.2.1.1.2.2)]:List Y3).length)&&true)then
some ((a.1.2.1,a.1.2.2.1,a.1.2.2.2.1,a.1.2.2.2.2.1,()),a.2.1,a.2.2.1,a.2.2.2.1,a.2.2.2.2.1,a.2.2.2.2.2.1,a.2.2.2.2.2.2.1.take a.1.2.2.2.1.toNat++([(d.2.1.1.1,d.2.1.1.2.1,[],d.2.1.1.2.2)]:List Y3)++a.2.2.2.2.2.2.1.drop a.1.2.2.2.1.toNat,a.2.2.2.2.2.2.2)
else none
else none
else some ((a.1.2.1,a.1.2.2.1,a.1.2.2.2.1,a.1.2.2.2.2.1,()),a.2)):Option (Zb×YG)).bind fun b=>
bif decide (0≤b.1.2.2.1∧b.1.2.2.1<b.2.2.2.2.2.2.1.length)then
(b.2.2.2.2.2.2.1[b.1.2.2.1.toNat]?).bind fun n=>
Abs.rowAt b.2.2.2.2.1.1.1 b.1.2.2.2.1 fun o _=>
(m73 ((n,o,b.2.2.2.1.1.2.1,b.2.2.2.1.1.2.2.1,b.2.2.2.1.1.1,()),())).bind fun f=>
bif f.1.1 !=0 then some (.inr ((5,()),((0,0,()),()),()))
else bif decide (0≤b.1.2.2.1∧b.1.2.2.1<b.2.2.2.2.2.2.1.length)then
bif decide (b.1.2.2.1.toNat<b.2.2.2.2.2.2.1.length)then
some (.inl ((b.1.1,b.1.2.1,()),b.2.1,b.2.2.1,b.2.2.2.1,b.2.2.2.2.1,b.2.2.2.2.2.1,b.2.2.2.2.2.2.1.set b.1.2.2.1.toNat (f.2.1.1.1,f.2.1.1.2.1,f.2.2.1,f.2.1.1.2.2),b.2.2.2.2.2.2.2))
else none
else none
else none
else none
else none
else none):Option ((qG×YG)⊕Ug)).bind fun p=>
aA p (fun j=>(some (.inl ((aO (j.1.2.1+1),j.1.1,()),j.2)))) (fun q=>(some (.inr (.inl q))))
else(some (.inr (.inr ((),v.2.1,v.2.2.1,v.2.2.2.2.1,v.2.2.2.2.2.2))))
def UW(v:(qG×Sc)):Option af3:=
bif decide (v.1.1<v.1.2.1)then bif decide (0≤v.1.1∧v.1.1<v.2.1.length)then
(v.2.1[v.1.1.toNat]?).bind fun a=>
(m83 ((v.2.2.1.1,a,v.2.2.2.1.1.1,()),())).bind fun b=>
bif decide (v.2.1.length=v.2.1.length)&&(decide (v.2.2.2.2.1.length=v.2.2.2.2.1.length)&&true)then
bif b.1.1 then some (.inr (.inl ((v.1.1,()),v.2)))
else some (.inl ((aO (v.1.1+1),v.1.2),v.2))
else none
else none
else(some (.inr (.inr ((),v.2))))
def UB(v:(qG×Sc)):Option ((qG×Sc)⊕(iN×Sc)):=
let c:=(decide (v.1.1<((v.2.1.length:Nat):Int)))
bif c then((bif decide (0≤v.1.1∧v.1.1<v.2.1.length)then
(v.2.1[v.1.1.toNat]?).bind fun b=>
(m83 ((v.2.2.1.1,b,v.2.2.2.1.1.1,()),())).bind fun d=>
bif decide (v.2.1.length=v.2.1.length)&&(decide (v.2.2.2.2.1.length=v.2.2.2.2.1.length)&&true)then
bif !d.1.1 then bif decide (0≤v.1.2.1∧v.1.2.1<v.2.1.length)then
bif decide (v.1.2.1.toNat<v.2.1.length)then
some ((aO (v.1.2.1+1),v.1.1,()),v.2.1.set v.1.2.1.toNat b,v.2.2)
else none
else none
else some ((v.1.2.1,v.1.1,()),v.2)
else none
else none):Option (qG×Sc)).bind fun a=>
some (.inl ((aO (a.1.2.1+1),a.1.1,()),a.2))
else(some (.inr (v.1.2,v.2)))
def m27(v:((Y8×TI×Jc×Unit)×Unit)):Option (iN×(ahH×List Y3×kQ×Unit)):=
(((m36 ((v.1.1,v.1.2.1,()),())).bind fun n=>
bif !n.1.1 then some ((true,()),((0,0,()),()),(v.1.2.1,()),v.1.2.2,(v.1.1,()),())
else(m66 ((v.1.2.2.1.2.1,()),())).bind fun o=>
some ((!o.1.1,()),((0,0,()),()),(v.1.2.1,()),v.1.2.2,(v.1.1,()),())):Option (mY×(qC×yc×(Jc×Unit)×(Y8×Unit)×Unit))).bind fun d=>
bif d.1.1 then some ((8,()),((0,(0,0),0,()),()),[],[],())
else((m67 ((d.2.2.1.1,d.2.2.2.1.1.1,()),())).bind fun k=>
bif k.1.1 !=0 then some (k.1,((0,(0,0),0,()),()),[],[],())
else(m64 (d.2.2.1,())).bind fun l=>
(m68 ((d.2.2.2.2.1.1.1,d.2.2.2.1.1.2.1,()),())).bind fun m=>
(aC y5 ((0,((m.2.1.length:Nat):Int),()),d.2.1,((d.2.2.2.1.1.1,l.2.1.1.2),()),d.2.2.2.1,d.2.2.2.2.1,m.2.1,l.2.2)).bind fun p=>
aA p (fun f=>(some (f.1,((f.2.1.1.1,(0,0),f.2.1.1.2),()),[],[],()))) (fun b=>((((((aC UW ((0,((b.2.2.2.2.1.length:Nat):Int),()),b.2.2.2.2.1,b.2.2.2.1,b.2.2.1,b.2.2.2.2.2)).bind fun q=>
aA q (fun g=>(bif decide (g.2.1.length=b.2.2.2.2.1.length)&&(decide (g.2.2.2.2.1.length=b.2.2.2.2.2.1.length)&&true)then
some g
else none)) (fun h=>(bif decide (h.2.1.length=b.2.2.2.2.1.length)&&(decide (h.2.2.2.2.1.length=b.2.2.2.2.2.1.length)&&true)then
some ((-1,()),h.2)
else none))):Option (iN×Sc)).bind fun c=>
bif c.1.1==(-1)then bif decide (c.2.1.length=b.2.2.2.2.1.length)&&(decide (c.2.2.2.2.1.length=b.2.2.2.2.2.1.length)&&true)then
some ((),c.2.1,c.2.2.2.2.1,((0,0,()),()),((c.2.2.2.1.1.1,(0,c.2.1.length),c.2.2.2.1.1.2),()),())
else none
else(aC UB ((aO (c.1.1+1),c.1),c.2)).bind fun a=>
bif decide ((0:Int)≤a.1.1)then
bif decide (a.1.1.toNat≤a.2.1.length∧a.2.1.length≤a.2.1.length)then
bif decide (a.1.1.toNat+(a.2.1.length-a.1.1.toNat)≤a.2.1.length)then
let j:=(bK a.2.1 a.1.1.toNat (List.replicate (a.2.1.length-a.1.1.toNat) ((0,ByteArray.empty,[],0,0,()):Y3)))
bif decide ((0:Int)≤a.1.1)then
bif decide (0≤a.1.1.toNat∧a.1.1.toNat≤j.length)then
bif decide (j.length=b.2.2.2.2.1.length)&&(decide (a.2.2.2.2.1.length=b.2.2.2.2.2.1.length)&&true)then
some ((),j,a.2.2.2.2.1,((0,0,()),()),((a.2.2.2.1.1.1,(0,a.1.1.toNat),a.2.2.2.1.1.2),()),())
else none
else none
else none
else none
else none
else none):Option afG).bind fun e=>
bif decide (e.2.1.length=b.2.2.2.2.1.length)&&(decide (e.2.2.1.length=b.2.2.2.2.2.1.length)&&true)then
let r:=(decide (((e.2.2.2.2.1.1.2.1.2:Nat):Int)>64))
bif r then some ((5,()),((0,(0,0),0,()),()),[],[],())
else some ((0,()),e.2.2.2.2.1,e.2.1,e.2.2.1,())
else none)))
def apH:Abs.Spec:=⟨0,⟨[0,1,2],(.dat Z9 (.dat Rj GX)),.nil⟩,⟨[6,7],Ng,(.box 4 (.agg (.dat aQ (.part Z1 (1,0) (.st (.own Z6 (2,0)) cZ))) .nil) YB)⟩,m27⟩
def apj:Nat→Abs.eX
 |0=>.mk (bf [(13,⟨[72,6,4,5,3,44,45,46,12,10,11,13],(.dat .bool (.st fV (.st kU (.st kT (.st Oh (.st (.own aQ (4,0)) (.dat aQ (.dat aQ (.dat aQ (.dat aQ (.dat .str eH))))))))))),acZ⟩),(1,⟨[25,6,4,5,3],(.dat .bool (.st fV (.st kU (.st kT (.st Oh .nil))))),(.box 4 DF (.box 4 kS (.box 3 GX adv)))⟩)]) (bf [(20,(⟨[6,4,5,3,44,45,46],(.st fV (.st kU (.st kT (.st Oh (.st (.own aQ (4,0)) l9))))),acZ⟩,some (.one .ret ⟨[6,7],Ng,S9⟩))),(16,(⟨[6,4,5,3,44,45,46,12,10],(.st fV (.st kU (.st kT (.st Oh (.st (.own aQ (4,0)) (.dat aQ DN)))))),acZ⟩,none))]) (bf [(9,⟨⟨[46,6,4,5,3,44,45],(.dat aQ (.st fV (.st kU (.st kT (.st Oh (.st (.own aQ (4,0)) cZ)))))),acZ⟩,(.more .ret ⟨[6,7],Ng,S9⟩ (.one (.exit 0) ⟨[6,4,3],(.st fV (.st kU (.st kT .nil))),(.box 4 DF (.box 4 akD (.box 3 kD YB)))⟩))⟩)]) (fun
  |21,2=>5
  |12,4=>1
  |_,_=>0)
 |1=>.mk bB bB bB (fun
  |1,3=>2
  |_,_=>0)
 |2=>.mk (bf [(8,⟨[6,7],Ic,(.arr Z1 false Wy)⟩)]) bB (bf [(3,⟨⟨[1,0,2,10,9,8],(.dat .str (.st yC (.st (.clo 121 [((1,0),1,0,0)]) DN))),(.arr Z1 false Wy)⟩,(.one (.exit 0) ⟨[1,9,0,2,8],(.dat .str (.dat aQ (.st yC (.st (.clo 121 [((1,0),1,0,0)]) cZ)))),(.arr Z1 false Wy)⟩)⟩)]) (fun
  |8,11=>4
  |5,6=>3
  |_,_=>0)
 |5=>.mk (bf [(1,⟨[4,3],(.st zF PI),ajz⟩)]) bB bB (fun
  |1,3=>6
  |_,_=>0)
 |6=>.mk (bf [(1,⟨[0,5,1],(.st yC (.dat aQ acL)),Yo⟩)]) (bf [(6,(⟨[5,0,1,6],acK,Yo⟩,none))]) (bf [(5,⟨⟨[6,5,0,1],(.dat aQ (.dat aQ (.st yC acL))),Yo⟩,afg⟩)]) (fun
  |8,2=>9
  |1,2=>7
  |_,_=>0)
 |7=>.mk bB bB (bf [(2,⟨⟨[8,0,1,7],acK,Yo⟩,aeE⟩)]) (fun
  |4,5=>8
  |_,_=>0)
 |_=>{}
theorem aiJ:dh 27 apH:=okW apj (aX VN (aX Xj (aX ajU (aX acw (aX aqs (aX ajX (aX alp (aX ap9 (aX aob (aX ahT dI))))))))))
def aek(v:(iN×Yq5)):Option ((iN×Yq5)⊕(iN×Yq5)):=
bif decide (v.2.1.1.2.2.2.2.1.1+v.2.1.1.2.2.2.2.1.2≤v.2.2.1.length)then
(m30 (((v.2.1.1.2.2.2.1,(v.2.2.1.drop v.2.1.1.2.2.2.2.1.1).take v.2.1.1.2.2.2.2.1.2,v.2.2.2.1,v.2.1.1.2.2.2.2.2.1,()),()),())).bind fun c=>
((bif !c.1.2.1 then some ((true,v.1.1,c.1.1,()),v.2)
else some ((decide (c.1.1≥v.1.1),v.1.1,c.1.1,()),v.2)):Option (JM×Yq5)).bind fun a=>
bif a.1.1 then some (.inr ((0,()),a.2))
else let d:=(decide (((aO (a.2.1.1.2.2.2.2.2.2.1+1)):Int)>1000))
bif d then some (.inr ((5,()),((a.2.1.1.1,a.2.1.1.2.1,a.2.1.1.2.2.1,a.2.1.1.2.2.2.1,a.2.1.1.2.2.2.2.1,a.2.1.1.2.2.2.2.2.1,aO (a.2.1.1.2.2.2.2.2.2.1+1),()),()),a.2.2))
else let e:=(if a.2.1.1.2.2.2.1>a.1.2.2.1 then a.2.1.1.2.2.2.1 else a.1.2.2.1)
bif decide (a.2.1.1.2.2.2.2.1.1+a.2.1.1.2.2.2.2.1.2≤a.2.2.1.length)then
(m75 (((a.2.1.1.1,a.2.1.1.2.1,a.2.1.1.2.2.1,()),(a.2.1.1.2.2.2.1,(a.2.2.1.drop a.2.1.1.2.2.2.2.1.1).take a.2.1.1.2.2.2.2.1.2,a.2.2.2.1,a.2.1.1.2.2.2.2.2.1,()),e,()),())).bind fun b=>
bif decide (a.2.2.2.2.1.length+b.2.2.1.length≤4294967296)then
some (.inl ((a.1.2.1,()),((a.2.1.1.1,a.2.1.1.2.1,a.2.1.1.2.2.1,b.2.1.1.1,b.2.1.1.2.1,b.2.1.1.2.2.1,aO (a.2.1.1.2.2.2.2.2.2.1+1),()),()),b.2.2.2.1,b.2.2.2.2.1,a.2.2.2.2.1++b.2.2.1,()))
else none
else none
else none
def Y9(v:ald):Option (ald⊕((iN×(qC×List Gr×Unit))⊕(iN×(qC×((List mJ×Dp×Int×Int×(Nat×Nat)×Int×Int×Unit)×Unit)×List Y3×kQ×List Gr×Unit)))):=
bif decide (v.1.1<v.1.2.2.2.1)then Abs.rowAt v.1.2.1 v.1.1 fun c _=>
(aC aek ((c.1,()),v.2.2.1,v.2.2.2.2)).bind fun a=>
bif decide (v.2.2.2.2.1.length=v.2.2.2.2.1.length)&&(decide (v.2.2.2.2.2.1.length=v.2.2.2.2.2.1.length)&&(decide (v.2.2.2.2.2.2.1.length=v.2.2.2.2.2.2.1.length)&&true))then
bif a.1.1 !=0 then some (.inr (.inl (a.1,((0,0,()),()),[],())))
else bif decide (a.2.1.1.2.2.2.2.1.1+a.2.1.1.2.2.2.2.1.2≤a.2.2.1.length)then
(m27 ((v.2.2.2.1.1,(a.2.1.1.2.2.2.1,(a.2.2.1.drop a.2.1.1.2.2.2.2.1.1).take a.2.1.1.2.2.2.2.1.2,a.2.2.2.1,a.2.1.1.2.2.2.2.2.1,()),c,()),())).bind fun b=>
bif b.1.1 !=0 then some (.inr (.inl (b.1,((0,0,()),()),[],())))
else some (.inl ((aO (v.1.1+1),v.1.2),v.2.1,((a.2.1.1.1,a.2.1.1.2.1,a.2.1.1.2.2.1,b.2.1.1.1,b.2.1.1.2.1,b.2.1.1.2.2.1,a.2.1.1.2.2.2.2.2.2),()),v.2.2.2.1,b.2.2.1,b.2.2.2.1,a.2.2.2.2))
else none
else none
else(some (.inr (.inr ((v.1.2.2.1,()),v.2.1,v.2.2.1,v.2.2.2.2))))
def acu(v:(iN×Yq5)):Option ((iN×Yq5)⊕(iN×Yq5)):=
bif decide (v.2.1.1.2.2.2.2.1.1+v.2.1.1.2.2.2.2.1.2≤v.2.2.1.length)then
(m30 (((v.2.1.1.2.2.2.1,(v.2.2.1.drop v.2.1.1.2.2.2.2.1.1).take v.2.1.1.2.2.2.2.1.2,v.2.2.2.1,v.2.1.1.2.2.2.2.2.1,()),()),())).bind fun c=>
((bif !c.1.2.1 then some ((true,v.1.1,c.1.1,()),v.2)
else some ((decide (c.1.1≥v.1.1),v.1.1,c.1.1,()),v.2)):Option (JM×Yq5)).bind fun a=>
bif a.1.1 then some (.inr ((0,()),a.2))
else let d:=(decide (((aO (a.2.1.1.2.2.2.2.2.2.1+1)):Int)>1000))
bif d then some (.inr ((5,()),((a.2.1.1.1,a.2.1.1.2.1,a.2.1.1.2.2.1,a.2.1.1.2.2.2.1,a.2.1.1.2.2.2.2.1,a.2.1.1.2.2.2.2.2.1,aO (a.2.1.1.2.2.2.2.2.2.1+1),()),()),a.2.2))
else let e:=(if a.2.1.1.2.2.2.1>a.1.2.2.1 then a.2.1.1.2.2.2.1 else a.1.2.2.1)
bif decide (a.2.1.1.2.2.2.2.1.1+a.2.1.1.2.2.2.2.1.2≤a.2.2.1.length)then
(m75 (((a.2.1.1.1,a.2.1.1.2.1,a.2.1.1.2.2.1,()),(a.2.1.1.2.2.2.1,(a.2.2.1.drop a.2.1.1.2.2.2.2.1.1).take a.2.1.1.2.2.2.2.1.2,a.2.2.2.1,a.2.1.1.2.2.2.2.2.1,()),e,()),())).bind fun b=>
bif decide (a.2.2.2.2.1.length+b.2.2.1.length≤4294967296)then
some (.inl ((a.1.2.1,()),((a.2.1.1.1,a.2.1.1.2.1,a.2.1.1.2.2.1,b.2.1.1.1,b.2.1.1.2.1,b.2.1.1.2.2.1,aO (a.2.1.1.2.2.2.2.2.2.1+1),()),()),b.2.2.2.1,b.2.2.2.2.1,a.2.2.2.2.1++b.2.2.1,()))
else none
else none
else none
def m15(v:((Y8×List Jc×Int×Unit)×Unit)):Option (iN×aiL):=
(m34 ((v.1.1,()),())).bind fun e=>
bif e.1.1 !=0 then some (e.1,((0,(0,0),0,()),()),[],[],[],())
else(bif decide ((v.1.2.1.length:Int)>256)then some ((5,()),((0,(0,0),0,()),()),[],[],[],())
else((bif decide (v.1.2.2.1<0)then some ((true,v.1.2.2.1,v.1.2.1,()),((0,0,()),()),(v.1.1,()),())
else some ((decide (v.1.2.2.1>8589934592),v.1.2.2.1,v.1.2.1,()),((0,0,()),()),(v.1.1,()),())):Option ((Bool×Int×List Jc×Unit)×(qC×(Y8×Unit)×Unit))).bind fun a=>
bif a.1.1 then some ((1,()),((0,(0,0),0,()),()),[],[],[],())
else(m26 ((),())).bind fun f=>
(aC Y9 ((0,a.1.2.2.1,a.1.2.1,(a.1.2.2.1.length:Int),()),a.2.1,((a.2.2.1.1.1,a.2.2.1.1.2.1,a.2.2.1.1.2.2.1,f.2.1.1.1,(0,0),f.2.1.1.2.1,0,()),()),a.2.2.1,[],[],[],())).bind fun g=>
aA g (fun d=>(some (d.1,((d.2.1.1.1,(0,0),d.2.1.1.2),()),d.2.2.1,[],[],()))) (fun b=>((aC acu ((aO (b.1.1+1),()),b.2.2)).bind fun c=>
bif decide (b.2.2.2.1.length=b.2.2.2.1.length)&&(decide (b.2.2.2.2.1.length=b.2.2.2.2.1.length)&&(decide (b.2.2.2.2.2.1.length=b.2.2.2.2.2.1.length)&&true))then
bif c.1.1 !=0 then some (c.1,((0,(0,0),0,()),()),[],[],[],())
else some ((0,()),((c.2.1.1.2.2.2.1,c.2.1.1.2.2.2.2.1,c.2.1.1.2.2.2.2.2.1,()),()),c.2.2.2.2.1,c.2.2.1,c.2.2.2.1,())
else none)))
def ap3:Abs.Spec:=⟨0,⟨[0,1,2],(.dat Z9 (.dat (.row Rh) cZ)),.nil⟩,⟨[6,7,8],ad1,agU⟩,m15⟩
def apW:Nat→Abs.eX
 |0=>.mk (bf [(6,⟨[27,6,3,2,1],(.dat .bool (.st fV (.st qi (.dat aQ (.dat (.row Rh) .nil))))),(.box 4 DF adv)⟩)]) bB (bf [(10,⟨⟨[6,41,10,3,39,2,40],(.st fV (.dat aQ (.st (.ptr (1,0) 9 0 0) (.st kT (.dat (.row Rh) l9))))),(.box 4 DF (.box 9 (.agg (.dat Bw (.dat F3 (.dat aQ (.dat aQ (.part Z1 (3,0) (.st (.own Z6 (4,0)) (.dat aQ (.st (.own yJ (5,0)) cZ)))))))) .nil) (.box 3 kD aeF)))⟩,(.more .ret ⟨[6,7,8],ad1,(.box 4 DF (.arr yJ false .nil))⟩ (.one (.exit 1) ⟨[6,10,2],(.st fV (.st (.ptr (1,0) 9 0 0) cZ)),(.box 4 DF (.box 9 (.agg (.dat Bw (.dat F3 (.dat aQ (.dat aQ (.part Z1 (2,0) (.st (.own Z6 (3,0)) (.dat aQ (.st (.own yJ (4,0)) cZ)))))))) .nil) aeF))⟩))⟩)]) (fun
  |19,3=>3
  |12,3=>2
  |_,_=>0)
 |1=>.mk (bf [(2,⟨[23,0,1,5],Zn,Qb8⟩)]) bB (bf [(1,⟨⟨[0,1],(.st aej cZ),Qb8⟩,YD⟩)]) fw
 |2=>.mk (bf [(2,⟨[23,0,1,5],Zn,Qb8⟩)]) bB (bf [(1,⟨⟨[0,1],(.st aej cZ),Qb8⟩,YD⟩)]) fw
 |3=>.mk (bf [(2,⟨[23,0,1,5],Zn,Qb8⟩)]) bB (bf [(1,⟨⟨[0,1],(.st aej cZ),Qb8⟩,YD⟩)]) fw
 |_=>{}
theorem aqd:dh 15 ap3:=okW apW (aX abl (aX ah9 (aX aik (aX al4 (aX aiJ dI)))))
def m63(v:((kQ×Ol×Unit)×Unit)):Option IY:=
(Rp ((v.1.1,()),())).bind fun a=>
(Rp ((([v.1.2.1]:List Ol),()),())).bind fun b=>
bif decide (a.2.1.length+b.2.1.length≤4294967296)then
(m81 ((a.2.1++b.2.1,()),())).bind fun c=>
bif c.1.1 !=0 then some (c.1,[],())
else some ((0,()),a.2.1++b.2.1,())
else none
def anN:Abs.Spec:=⟨0,⟨[0,1],(.dat J9 Fq),.nil⟩,⟨[4,5],QW,nJ⟩,m63⟩
theorem aqi:dh 63 anN:=okW rT (aX aaP (aX ahC dI))
def aeh(v:ZK):Option eF:=
some ((!v.1.1.2.2.2.2.2.1,()),())
def amk:Abs.Spec:=⟨0,⟨[0],(.dat Z7 .nil),.nil⟩,⟨[2],eH,.nil⟩,aeh⟩
theorem aeQ:dh 114 amk:=okW rT dI
def Ap(v:VU):Option (VU⊕(uo⊕qR)):=
bif decide (v.1.1<v.1.2.2.1)then Abs.rowAt v.1.2.1 v.1.1 fun a _=>
(aeh ((a,()),())).bind fun b=>
bif b.1.1 then some (.inr (.inl ((v.1.1,()),())))
else some (.inl ((aO (v.1.1+1),v.1.2),()))
else(some (.inr (.inr ((),()))))
def yw(v:KQ):Option (KQ⊕(Unit×JU)):=
bif decide (v.1.1<v.1.2.2.1)then((bif decide (0≤v.1.1∧v.1.1<v.2.2.1.length)then
(v.2.2.1[v.1.1.toNat]?).bind fun b=>
(((((aC Ap ((0,b.2.2.1,(b.2.2.1.length:Int),()),())).bind fun e=>
aA e (fun f=>(some ((decide (f.1.1≥0),()),()))) (fun h=>(some ((false,()),())))):Option eF).bind fun g=>
bif g.1.1 then bif b.2.2.2.1==(-1)then some ((true,v.1.2.1,v.1.2.2.1,v.1.1,v.1.1,()),v.2)
else some ((decide (b.2.2.2.1>v.1.2.1),v.1.2.1,v.1.2.2.1,v.1.1,v.1.1,()),v.2)
else some ((false,v.1.2.1,v.1.2.2.1,v.1.1,v.1.1,()),v.2)):Option (aal×JU)).bind fun a=>
bif a.1.1 then bif decide (0≤a.1.2.2.2.2.1∧a.1.2.2.2.2.1<a.2.2.1.length)then
(a.2.2.1[a.1.2.2.2.2.1.toNat]?).bind fun c=>
some ((a.1.2.1,a.1.2.2.1,a.1.2.2.2.1,()),a.2.1,a.2.2.1.set a.1.2.2.2.2.1.toNat (c.1,c.2.1,c.2.2.1,a.1.2.1,c.2.2.2.2),a.2.2.2)
else none
else some ((a.1.2.1,a.1.2.2.1,a.1.2.2.2.1,()),a.2)
else none):Option KQ).bind fun d=>
some (.inl ((aO (d.1.2.2.1+1),d.1.1,d.1.2.1,()),d.2))
else(some (.inr ((),v.2)))
def m25(v:((Y8×TI×Ol×Unit)×Unit)):Option (qG×JU):=
(m36 ((v.1.1,v.1.2.1,()),())).bind fun d=>
bif !d.1.1 then some ((0,8,()),((0,0,()),()),[],[],())
else(bif decide (v.1.2.1.2.2.2.1≥8589934592)then some ((0,5,()),((0,0,()),()),[],[],())
else(m63 ((v.1.2.1.2.2.1,(v.1.2.1.2.2.2.1,v.1.2.2.1.2),()),())).bind fun b=>
bif b.1.1 !=0 then some ((0,b.1),((0,0,()),()),[],[],())
else(m64 ((v.1.2.1,()),())).bind fun a=>
(aC yw ((0,v.1.2.2.1.2.2.1,((a.2.2.1.length:Nat):Int),()),((a.2.1.1.1,aO (a.2.1.1.2.1+1),()),()),a.2.2.1,b.2)).bind fun c=>
bif decide (c.2.2.1.length=a.2.2.1.length)&&(decide (c.2.2.2.1.length=b.2.1.length)&&true)then
some ((v.1.2.1.2.2.2.1,0,()),c.2)
else none)
def anX:Abs.Spec:=⟨0,⟨[0,1,2],(.dat Z9 (.dat Rj Fq)),.nil⟩,⟨[6,7,8],(.st fV l9),DT⟩,m25⟩
def apQ:Nat→Abs.eX
 |0=>.mk bB bB bB (fun
  |12,2=>1
  |_,_=>0)
 |1=>.mk (bf [(3,⟨[29,1,0,9,10,11,4],afh,DT⟩)]) (bf [(5,(⟨[1,0,9,10,11],(.dat aQ (.st fV (.st Hg l9))),DT⟩,none))]) (bf [(1,⟨⟨[11,1,0,9,10],aev,DT⟩,(.one (.exit 0) ⟨[],.nil,DT⟩)⟩)]) (fun
  |3,2=>2
  |_,_=>0)
 |2=>.mk (bf [(1,⟨[4],eH,.nil⟩)]) bB bB (fun
  |1,2=>3
  |_,_=>0)
 |3=>.mk bB bB (bf [(2,⟨⟨[8,0,1,7],amK,.nil⟩,Ro3⟩)]) fw
 |_=>{}
theorem ajG:dh 25 anX:=okW apQ (aX VN (aX aqi (aX acw (aX aeQ dI))))
def m28(v:YL):Option (iN×aiL):=
(m36 ((v.1.1,v.1.2.1,()),())).bind fun b=>
bif !b.1.1 then some ((8,()),((0,(0,0),0,()),()),[],[],[],())
else((m67 (v.1.2,())).bind fun a=>
bif a.1.1 !=0 then some (a.1,((0,(0,0),0,()),()),[],[],[],())
else(m75 v).bind fun c=>
some ((0,()),c.2))
def apy:Abs.Spec:=⟨0,⟨[0,1,2],YO,.nil⟩,⟨[6,7,8],ad1,agU⟩,m28⟩
theorem amD:dh 28 apy:=okW rT (aX VN (aX ajU (aX al4 dI)))
def m10(v:qR):Option eF:=
(m15 (((([(-1,[],0,[],30,300,3600,false,())]:List mJ),[],0,()),([(100,([(bs [97],bs [120],())]:List Nr),true,())]:List Jc),200,()),())).bind fun d=>
(m26 ((),())).bind fun e=>
(m25 (((([(-1,[],0,[],30,300,3600,false,())]:List mJ),[],0,()),(e.2.1.1.1,[],[],e.2.1.1.2),(0,0,1000,0,([(bs [97],0,bs [120],())]:List Pv),()),()),())).bind fun c=>
(m27 (((([(-1,[],0,[],30,300,3600,false,())]:List mJ),[],0,()),(c.2.1.1.1,c.2.2.1,c.2.2.2.1,c.2.1.1.2),(100,([(bs [97],bs [120],())]:List Nr),true,()),()),())).bind fun b=>
bif decide (b.2.1.1.2.1.1+b.2.1.1.2.1.2≤b.2.2.1.length)then
(m28 (((([(-1,[],0,[],30,300,3600,false,())]:List mJ),[],0,()),(b.2.1.1.1,(b.2.2.1.drop b.2.1.1.2.1.1).take b.2.1.1.2.1.2,b.2.2.2.1,b.2.1.1.2.2),130,()),())).bind fun a=>
bif decide (a.2.1.1.2.1.1+a.2.1.1.2.1.2≤a.2.2.2.1.length)then
(m30 (((a.2.1.1.1,(a.2.2.2.1.drop a.2.1.1.2.1.1).take a.2.1.1.2.1.2,a.2.2.2.2.1,a.2.1.1.2.2),()),())).bind fun f=>
((bif d.1.1==0 then bif c.1.2.1==0 then bif b.1.1==0 then bif a.1.1==0 then bif ((d.2.2.1.length:Nat):Int)==1 then bif decide ((0:Int)≤0∧(0:Int)<d.2.2.1.length)then
(d.2.2.1[0]?).bind fun g=>
bif g.1==130 then bif c.1.1==1 then bif ((a.2.2.1.length:Nat):Int)==0 then bif f.1.2.1 then bif f.1.1==430 then bif decide (a.2.1.1.2.1.1+a.2.1.1.2.1.2≤a.2.2.2.1.length)then
bif wE ((a.2.2.2.1.drop a.2.1.1.2.1.1).take a.2.1.1.2.1.2)then
bif decide (a.2.2.2.1.length=a.2.2.2.1.length)&&(decide (a.2.2.2.2.1.length=a.2.2.2.2.1.length)&&true)then
let h:=((((jD ((a.2.2.2.1.drop a.2.1.1.2.1.1).take a.2.1.1.2.1.2)).length:Int):Int)==1)
bif h then(m34 (((([(-1,[],0,[],30,300,3600,false,())]:List mJ),[],0,()),()),())).bind fun j=>
bif j.1.1==0 then bif decide (a.2.1.1.2.1.1+a.2.1.1.2.1.2≤a.2.2.2.1.length)then
(m36 (((([(-1,[],0,[],30,300,3600,false,())]:List mJ),[],0,()),(a.2.1.1.1,(a.2.2.2.1.drop a.2.1.1.2.1.1).take a.2.1.1.2.1.2,a.2.2.2.2.1,a.2.1.1.2.2),()),())).bind fun k=>
some k
else none
else some ((false,()),())
else some ((false,()),())
else none
else none
else none
else some ((false,()),())
else some ((false,()),())
else some ((false,()),())
else some ((false,()),())
else some ((false,()),())
else none
else some ((false,()),())
else some ((false,()),())
else some ((false,()),())
else some ((false,()),())
else some ((false,()),())):Option eF).bind fun l=>
some l
else none
else none
def ap1:Abs.Spec:=⟨0,⟨[],.nil,.nil⟩,⟨[0],eH,.nil⟩,m10⟩
def aoG:Nat→Abs.eX
 |0=>.mk (bf [(8,⟨[0],eH,.nil⟩)]) bB bB fw
 |_=>{}
theorem aoR:dh 10 ap1:=okW aoG (aX aqd (aX ah9 (aX ajG (aX aiJ (aX amD (aX aik (aX abl (aX VN dI))))))))
def m11(v:(EZ×Unit)):Option RJ:=
some ((),((v.1.1,0,()),()),())
def aoz:Abs.Spec:=⟨0,⟨[0],(.dat rIz .nil),.nil⟩,⟨[2],JY,ql⟩,m11⟩
theorem aqE:dh 11 aoz:=okW rT dI
def GA(v:Mf):Option Mf:=
((let c:=(decide (v.2.1.1.2.1≥(v.2.1.1.1.length:Int)))
bif c then some ((true,v.1),v.2)
else some ((decide (v.1.1<1),v.1),v.2)):Option (uj×Rl)).bind fun a=>
bif a.1.1 then some ((0,()),a.2)
else(Abs.rowAt a.2.1.1.1 a.2.1.1.2.1 fun b _=>
bif decide (a.1.2.1≠(0:Int))then
((let d:=(decide ((((b:Int).tmod a.1.2.1):Int)<0))
bif d then some ((aO (((b:Int).tmod a.1.2.1)+a.1.2.1),()),((a.2.1.1.1,aO (a.2.1.1.2.1+1),()),()),())
else some (((b:Int).tmod a.1.2.1,()),((a.2.1.1.1,aO (a.2.1.1.2.1+1),()),()),())):Option Mf).bind fun e=>
some e
else none)
def aqt:Abs.Spec:=⟨1,⟨[0,1],KE,ql⟩,⟨[4],cZ,ql⟩,GA⟩
def aoJ:Nat→Abs.eX
 |0=>.mk (bf [(1,⟨[19,1,0],(.dat .bool (.dat aQ JY)),ql⟩)]) (bf [(7,(⟨[5],cZ,ql⟩,none))]) bB fw
 |_=>{}
theorem IU:dh 38 aqt:=okW aoJ dI
def m32(v:(EZ×Rl)):Option Mf:=
(GA (((v.1.1.length:Int),()),v.2)).bind fun a=>
Abs.rowAt v.1.1 a.1.1 fun b _=>
some ((b,()),a.2)
def aqI:Abs.Spec:=⟨1,⟨[0,1],(.st zi (.dat rIz .nil)),ql⟩,⟨[4],cZ,ql⟩,m32⟩
theorem ok32:dh 32 aqI:=okW rT (aX IU dI)
def m40(v:Mf):Option (mY×Rl):=
(GA v).bind fun a=>
some ((a.1.1==(aO (v.1.1-1)),()),a.2)
def aph:Abs.Spec:=⟨1,⟨[0,1],KE,ql⟩,⟨[4],eH,ql⟩,m40⟩
theorem ag5:dh 40 aph:=okW rT (aX IU dI)
def CX(v:(Vp×aaI)):Option ((Vp×aaI)⊕(Unit×aaI)):=
bif decide (v.1.1<4)then((Abs.rowAt ([v.1.2.1.1,v.1.2.1.2.1,v.1.2.1.2.2.1,v.1.2.1.2.2.2.1]:List ByteArray) v.1.1 fun c _=>
(m40 ((3,()),v.2.1,())).bind fun a=>
bif a.1.1 then bif decide (v.2.2.1.length+ [c].length≤4294967296)then
some ((v.1.2.1,v.1.1,()),a.2.1,v.2.2.1++ [c],())
else none
else some ((v.1.2.1,v.1.1,()),a.2.1,v.2.2)):Option ((aid×Int×Unit)×aaI)).bind fun b=>
some (.inl ((aO (b.1.2.1+1),b.1.1,()),b.2))
else(some (.inr ((),v.2)))
def m62(v:RJ):Option (Unit×aaI):=
(aC CX ((0,(bs [97,112,112],bs [104,111,115,116],bs [115,101,118],bs [116,101,97,109],()),()),v.2.1,[],())).bind fun a=>
some ((),a.2)
def aoP:Abs.Spec:=⟨1,⟨[0],JY,ql⟩,⟨[2],(.st Fa .nil),(.box 2 mZ Qy)⟩,m62⟩
def aps:Nat→Abs.eX
 |0=>.mk bB (bf [(7,(⟨[3,0,6,7],(.st Fa (.st zi (.dat acU cZ))),(.box 2 mZ Qy)⟩,none))]) (bf [(3,⟨⟨[7,3,0,6],(.dat aQ (.st Fa (.st zi (.dat acU .nil)))),(.box 2 mZ Qy)⟩,(.one (.exit 0) ⟨[3],(.st Fa .nil),(.box 2 mZ Qy)⟩)⟩)]) fw
 |_=>{}
theorem aj7:dh 62 aoP:=okW aps (aX ag5 dI)
def m24(v:RJ):Option (Unit×(Om×((Int×Int×Int×Int×Int×Bool×Unit)×Unit)×List ByteArray×Unit)):=
(m32 (([0,30,10,60],()),v.2)).bind fun a=>
(m32 (([20,300,40],()),a.2)).bind fun b=>
(GA ((3,()),b.2)).bind fun c=>
(m62 ((),c.2)).bind fun d=>
(m32 (([0,3600,100],()),d.2.1,())).bind fun e=>
(m40 ((2,()),e.2)).bind fun f=>
some ((),f.2.1,((-1,c.1.1,a.1.1,aO (a.1.1+b.1.1),aO ((aO (a.1.1+b.1.1))+e.1.1),f.1),()),d.2.2)
def anP:Abs.Spec:=⟨1,⟨[0],JY,ql⟩,⟨[2],(.st SS .nil),(.box 2 mZ (.box 8 (.agg (.dat aQ (.st .nil (.dat aQ (.st N7 (.dat aQ (.dat aQ Ic)))))) .nil) Qy))⟩,m24⟩
theorem aqz:dh 24 anP:=okW rT (aX ok32 (aX IU (aX aj7 (aX ag5 dI))))
def m98(v:RJ):Option (Unit×(Om×(Pv×Unit)×Unit)):=
(GA ((5,()),v.2)).bind fun a=>
bif decide (0≤a.1.1∧a.1.1< [(bs [97,112,112]),bs [104,111,115,116],bs [115,101,118],bs [116,101,97,109],(bs [122,111,110,101])].length)then
([(bs [97,112,112]),bs [104,111,115,116],bs [115,101,118],bs [116,101,97,109],(bs [122,111,110,101])][a.1.1.toNat]?).bind fun d=>
(GA ((4,()),a.2)).bind fun c=>
(GA ((8,()),c.2)).bind fun b=>
bif decide (0≤b.1.1∧b.1.1< [(bs [97]),bs [98],ByteArray.empty,bs [42],bs [99,114,105,116],bs [63],bs [119,101,98,45,42],(bs [97,34,98,92])].length)then
([(bs [97]),bs [98],ByteArray.empty,bs [42],bs [99,114,105,116],bs [63],bs [119,101,98,45,42],(bs [97,34,98,92])][b.1.1.toNat]?).bind fun e=>
some ((),b.2.1,((d,c.1.1,e,()),()),())
else none
else none
def aqy:Abs.Spec:=⟨1,⟨[0],JY,ql⟩,⟨[2],(.st qi .nil),(.box 2 mZ (.box 3 PD .nil))⟩,m98⟩
theorem aia:dh 98 aqy:=okW rT (aX IU dI)
def Gn(v:(iN×U6)):Option ((iN×U6)⊕(Unit×U6)):=
bif decide (v.1.1>0)then(m98 ((),v.2.1,())).bind fun a=>
bif decide (v.2.2.1.length+([a.2.2.1.1]:List Pv).length≤4294967296)then
let b:=(v.2.2.1++([a.2.2.1.1]:List Pv))
some (.inl ((aO (v.1.1-1),()),a.2.1,b,()))
else none
else(some (.inr ((),v.2)))
def m97(v:Mf):Option (Unit×U6):=
(GA ((aO (v.1.1+1),()),v.2)).bind fun a=>
(aC Gn (a.1,a.2.1,[],())).bind fun b=>
some ((),b.2)
def apn:Abs.Spec:=⟨1,⟨[0,1],KE,ql⟩,⟨[4],aaY,(.box 2 mZ aaT)⟩,m97⟩
def aoi:Nat→Abs.eX
 |0=>.mk bB bB (bf [(3,⟨⟨[6,0,5],(.dat aQ (.st zi aaY)),(.box 2 mZ aaT)⟩,(.one (.exit 0) ⟨[5],aaY,(.box 2 mZ aaT)⟩)⟩)]) fw
 |_=>{}
theorem agG:dh 97 apn:=okW aoi (aX IU (aX aia dI))
def FU(v:(iN×aco)):Option ((iN×aco)⊕(Unit×aco)):=
bif decide (v.1.1>0)then(m24 ((),v.2.1,())).bind fun a=>
(GA ((((v.2.2.1.length:Nat):Int),()),a.2.1,())).bind fun b=>
(m97 ((2,()),b.2)).bind fun c=>
bif decide (v.2.2.1.length+([(b.1.1,c.2.2.1,a.2.2.1.1.2.1,a.2.2.2.1,a.2.2.1.1.2.2)]:List mJ).length≤4294967296)then
let d:=(v.2.2.1++([(b.1.1,c.2.2.1,a.2.2.1.1.2.1,a.2.2.2.1,a.2.2.1.1.2.2)]:List mJ))
some (.inl ((aO (v.1.1-1),()),c.2.1,d,()))
else none
else(some (.inr ((),v.2)))
def m50(v:Mf):Option (Unit×aco):=
(m24 ((),v.2)).bind fun a=>
(GA ((aO (v.1.1+1),()),a.2.1,())).bind fun b=>
(aC FU (b.1,b.2.1,([(a.2.2.1.1.1,[],a.2.2.1.1.2.1,a.2.2.2.1,a.2.2.1.1.2.2)]:List mJ),())).bind fun c=>
some ((),c.2)
def aoF:Abs.Spec:=⟨1,⟨[0,1],KE,ql⟩,⟨[4],(.st (.own Z5 (1,0)) .nil),YE⟩,m50⟩
def aqx:Nat→Abs.eX
 |0=>.mk bB bB (bf [(3,⟨⟨[6,5,0],(.dat aQ (.st (.own Z5 (1,0)) JY)),YE⟩,(.one (.exit 0) ⟨[5],(.st (.own Z5 (1,0)) .nil),YE⟩)⟩)]) fw
 |_=>{}
theorem aoS:dh 50 aoF:=okW aqx (aX aqz (aX IU (aX agG dI)))
def Gt(v:(iN×UY)):Option ((iN×UY)⊕(Unit×UY)):=
bif decide (v.1.1>0)then(m97 ((1,()),v.2.1,())).bind fun a=>
bif decide (a.2.2.1.length+([(bs [115,101,118],0,bs [99,114,105,116],())]:List Pv).length≤4294967296)then
let e:=(a.2.2.1++([(bs [115,101,118],0,bs [99,114,105,116],())]:List Pv))
(m97 ((1,()),a.2.1,())).bind fun b=>
(m98 ((),b.2.1,())).bind fun c=>
bif decide (b.2.2.1.length+([c.2.2.1.1]:List Pv).length≤4294967296)then
let f:=(b.2.2.1++([c.2.2.1.1]:List Pv))
(m62 ((),c.2.1,())).bind fun d=>
bif decide (v.2.2.1.length+([(e,f,d.2.2)]:List UN).length≤4294967296)then
let g:=(v.2.2.1++([(e,f,d.2.2)]:List UN))
some (.inl ((aO (v.1.1-1),()),d.2.1,g,()))
else none
else none
else none
else(some (.inr ((),v.2)))
def i51:Abs.Sg:=⟨[0],JY,ql⟩
def m51(v:RJ):Option (Unit×UY):=
(GA ((3,()),v.2)).bind fun a=>
(aC Gt (a.1,a.2.1,[],())).bind fun b=>
some ((),b.2)
def aoA:Abs.Spec:=⟨1,i51,⟨[2],(.st (.own LQ (1,0)) .nil),aha⟩,m51⟩
def aor:Nat→Abs.eX
 |0=>.mk bB bB (bf [(3,⟨⟨[4,3,0],(.dat aQ (.st (.own LQ (1,0)) JY)),aha⟩,(.one (.exit 0) ⟨[3],(.st (.own LQ (1,0)) .nil),aha⟩)⟩)]) fw
 |_=>{}
theorem aqc:dh 51 aoA:=okW aor (aX IU (aX agG (aX aia (aX aj7 dI))))
def m12(v:Mf):Option (Unit×(Om×Ra×List mJ×Dp×Unit)):=
(m50 v).bind fun a=>
(m51 ((),a.2.1,())).bind fun b=>
(m32 (([0,0,200,1000],()),b.2.1,())).bind fun c=>
some ((),c.2.1,(c.1,()),a.2.2.1,b.2.2)
def ao2:Abs.Spec:=⟨1,⟨[0,1],KE,ql⟩,⟨[4],(.st qi .nil),(.box 2 mZ (.box 3 (.agg (.st (.own Z5 (2,0)) (.st (.own LQ (3,0)) cZ)) .nil) (.arr Z5 false (.arr LQ false .nil))))⟩,m12⟩
theorem aoV:dh 12 ao2:=okW rT (aX aoS (aX aqc (aX ok32 dI)))
def m33(v:qR):Option (Unit×(qC×Unit)):=
some ((),((0,1,()),()),())
def anL:Abs.Spec:=⟨0,⟨[],.nil,.nil⟩,⟨[0],SQ,S9⟩,m33⟩
theorem amG:dh 33 anL:=okW rT dI
def m77(v:RJ):Option (mY×Rl):=
let a:=(decide (v.2.1.1.2.1<(v.2.1.1.1.length:Int)))
some ((a,()),v.2)
def aon:Abs.Spec:=⟨1,⟨[0],JY,ql⟩,⟨[2],eH,ql⟩,m77⟩
theorem aqj:dh 77 aon:=okW rT dI
def Ar(v:(Vp×OP)):Option ((Vp×OP)⊕(Unit×OP)):=
bif decide (v.1.1<4)then((Abs.rowAt ([v.1.2.1.1,v.1.2.1.2.1,v.1.2.1.2.2.1,v.1.2.1.2.2.2.1]:List ByteArray) v.1.1 fun d _=>
(GA ((6,()),v.2.1,())).bind fun a=>
bif decide (0≤a.1.1∧a.1.1< [ByteArray.empty,bs [97],bs [98],bs [99,114,105,116],bs [97,34,98,92],(bs [119,101,98,45,49])].length)then
([ByteArray.empty,bs [97],bs [98],bs [99,114,105,116],bs [97,34,98,92],(bs [119,101,98,45,49])][a.1.1.toNat]?).bind fun b=>
bif !(b.toList==ByteArray.empty.toList)then bif decide (v.2.2.1.length+([(d,b,())]:List Nr).length≤4294967296)then
let e:=(v.2.2.1++([(d,b,())]:List Nr))
some ((v.1.2.1,v.1.1,()),a.2.1,e,())
else none
else some ((v.1.2.1,v.1.1,()),a.2.1,v.2.2)
else none):Option ((aid×Int×Unit)×OP)).bind fun c=>
some (.inl ((aO (c.1.2.1+1),c.1.1,()),c.2))
else(some (.inr ((),v.2)))
end
end Go.Proofs.YtchnmpafhfjimaaGreatDoor
