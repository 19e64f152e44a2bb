/- Lemmas for the statement of the last text of this claim. -/
import Derived.Test.YtchnmpafhfjimaaGreatDoorV3C
set_option linter.unusedSimpArgs false
set_option linter.unusedVariables false
namespace Go.Proofs.YtchnmpafhfjimaaGreatDoor.Fr
open Go Go.Abs Go.RowKit Go.Maps
theorem ag4:Maps.Keyed Tryz.prog 9:=string_keyed Tryz.underlying9
set_option maxHeartbeats 6400000 in
set_option maxRecDepth 1000000 in
theorem VJ(w:World)(a b:Int)(gs sl:Value)(l:List lT)(hsl:sl.oneCell'=true)(hv:PR w Jf gs (bW LH l false))(hb:yH l=true):Calls Tryz.prog 47 #[.agg #[.int .i64 a,gs,sl,.int .i64 b]] w (Da l w):=by
 have hmm:= @run_makeMap Tryz.prog;obtain⟨ga,gb,go,gcap,rfl,ha,hc⟩:=UG hv
 have H:Hid ((l≠ []→ga=some ⟨gb,go,none⟩)∧∀(p:Nat) (g:lT),l[p]?=some g→∃mv,w.cell? ⟨gb,go+p*5,none⟩=some (.int .i64 g.1)∧w.cell? ⟨gb,go+p*5+1,none⟩=some (.string g.2.1)∧
   w.cell? ⟨gb,go+p*5+2,none⟩=some mv∧w.cell? ⟨gb,go+p*5+3,none⟩=some (.int .i64 g.2.2.2.1)∧w.cell? ⟨gb,go+p*5+4,none⟩=some (.int .i64 g.2.2.2.2.1)∧mv.oneCell'=true∧PR w Jf mv (bW WR g.2.2.1 false)):=⟨ha,hc⟩
 have HB:Hid (yH l=true):=hb;have hpb:=(ae7 hb).len;clear ha hc hv hb;obtain⟨i9,hi9,hz9,hs9,hb9⟩:=info_parts (P:=Tryz.prog) (e:=9) (z:=.string ⟨#[]⟩) (size:=1) (bytes:=16) (by kernel_rfl);obtain⟨i51,hi51,hz51,hs51,hb51⟩:=info_parts (P:=Tryz.prog) (e:=51) (z:=.slice none 0 0) (size:=1) (bytes:=24) (by kernel_rfl)
 go_enter Tryz.func47,Tryz.ntmps47
 go_wp2
 go_loopg [4,18] l.length (fun g kv i wr=>∃(p:Nat) (kv':Value),p≤l.length∧g=l.length-p∧i= .int .i64 p∧kv'=kv∧Hid (FI w wr kv' (bZ (l.take p))))
 case atStart=>
  refine⟨0,_,ap5 _,rfl,rfl,rfl,?_⟩;have h1:=World.ownsMap_made (H:=Value) (w.alloc (.cells #[.int .i64 a,.slice ga l.length gcap,sl,.int .i64 b] 40)) Tryz.prog 9 RV;simp only[World.size_alloc]at h1;exact FI.start ((gG (gG (World.Since.refl _ w) (ape _) (World.grownBy_alloc _ _ none) (fun k e=>by cases e)) (by simp) (World.grownBy_alloc _ _ none) (fun k e=>by cases e))) (by simp) h1
 case round=>
  obtain⟨p,kv,hp,rfl,rfl,rfl,HF⟩:=hrel;by_cases hlt:p<l.length
  ·obtain⟨g,hg⟩:∃g,l[p]?=some g:=⟨_,apc hlt⟩
   have hne:l≠ []:=fun e=>by rw[e]at hlt;simp at hlt
   have:=H.out.1 hne;subst this;obtain⟨mv,c0,c1,c2,c3,c4,om,hmv⟩:=H.out.2 p g hg;have hgb:gb<w.heap.size:=World.block_lt_of_cell? _ _ c0;obtain⟨ma,mb,mo,mcap,rfl,hma,hmc⟩:=Un hmv;have hs:=HF.out.since;have k0:wr.cell? ⟨gb,go+p*5,none⟩=some (.int .i64 g.1):=by rw[hs.cell (a:=⟨gb,go+p*5,none⟩) hgb];exact c0
   have k1:wr.cell? ⟨gb,go+p*5+1,none⟩=some (.string g.2.1):=by rw[hs.cell (a:=⟨gb,go+p*5+1,none⟩) hgb];exact c1
   have k2:wr.cell? ⟨gb,go+p*5+2,none⟩=some (.slice ma g.2.2.1.length mcap):=by rw[hs.cell (a:=⟨gb,go+p*5+2,none⟩) hgb];exact c2
   have k3:wr.cell? ⟨gb,go+p*5+3,none⟩=some (.int .i64 g.2.2.2.1):=by rw[hs.cell (a:=⟨gb,go+p*5+3,none⟩) hgb];exact c3
   have k4:wr.cell? ⟨gb,go+p*5+4,none⟩=some (.int .i64 g.2.2.2.2.1):=by rw[hs.cell (a:=⟨gb,go+p*5+4,none⟩) hgb];exact c4
   have HM:Hid ((g.2.2.1≠ []→ma=some ⟨mb,mo,none⟩)∧∀(q:Nat) (m:kG),g.2.2.1[q]?=some m→∃lv,w.cell? ⟨mb,mo+q*6,none⟩=some (.string m.1)∧w.cell? ⟨mb,mo+q*6+1,none⟩=some lv∧
    w.cell? ⟨mb,mo+q*6+2,none⟩=some (.int .i64 m.2.2.1)∧w.cell? ⟨mb,mo+q*6+3,none⟩=some (.int .i64 m.2.2.2.1)∧w.cell? ⟨mb,mo+q*6+4,none⟩=some (.bool m.2.2.2.2.1)∧w.cell? ⟨mb,mo+q*6+5,none⟩=some (.bool m.2.2.2.2.2.1)∧lv.oneCell'=true∧PR w Jf lv (bW jF m.2.1 false)):=⟨hma,hmc⟩
   clear c0 c1 c2 c3 c4 om hmv hma hmc hs
   go_wp2
   have HG:Hid (FI w (wr.alloc (.cells #[.int .i64 g.1,.string g.2.1,.slice ma g.2.2.1.length mcap,.int .i64 g.2.2.2.1,.int .i64 g.2.2.2.2.1] 110)) kv (bZ (l.take p))):=HF.out.same (World.grownBy_alloc _ _ none);have HT:Hid (l[p]?=some g):=hg;clear HF k0 k1 k2 k3 k4 hg
   go_loopg [4,25] g.2.2.1.length (fun c kx j wi=>∃(q:Nat) (kv':Value),q≤g.2.2.1.length∧c=g.2.2.1.length-q∧j= .int .i64 q∧kv'=kx∧Hid (FI w wi kv' (bZ (l.take p)++(g.2.2.1.take q).filter fun m=>m.2.2.2.2.1)))
   case atStart=>exact⟨0,_,ap5 _,rfl,rfl,rfl,by rw[aq6,List.filter_nil,ap6];exact HG.out⟩
   case round=>
    clear HG;obtain⟨q,kx,hq,rfl,rfl,rfl,HI⟩:=hrel;by_cases hqt:q<g.2.2.1.length
    ·obtain⟨m,hm⟩:∃m,g.2.2.1[q]?=some m:=⟨_,apc hqt⟩
     have hne2:g.2.2.1≠ []:=fun e=>by rw[e]at hqt;simp at hqt
     have:=HM.out.1 hne2;subst this;obtain⟨lv,c0,c1,c2,c3,c4,c5,olv,hlv⟩:=HM.out.2 q m hm;obtain⟨la,lb,lo,lcap,rfl,_,_⟩:=xw hlv;have hmb:mb<w.heap.size:=World.block_lt_of_cell? _ _ c0;have hs:=HI.out.since;have k0:wr.cell? ⟨mb,mo+q*6,none⟩=some (.string m.1):=by rw[hs.cell (a:=⟨mb,mo+q*6,none⟩) hmb];exact c0
     have k1:wr.cell? ⟨mb,mo+q*6+1,none⟩=some (.slice la m.2.1.length lcap):=by rw[hs.cell (a:=⟨mb,mo+q*6+1,none⟩) hmb];exact c1
     have k2:wr.cell? ⟨mb,mo+q*6+2,none⟩=some (.int .i64 m.2.2.1):=by rw[hs.cell (a:=⟨mb,mo+q*6+2,none⟩) hmb];exact c2
     have k3:wr.cell? ⟨mb,mo+q*6+3,none⟩=some (.int .i64 m.2.2.2.1):=by rw[hs.cell (a:=⟨mb,mo+q*6+3,none⟩) hmb];exact c3
     have k4:wr.cell? ⟨mb,mo+q*6+4,none⟩=some (.bool m.2.2.2.2.1):=by rw[hs.cell (a:=⟨mb,mo+q*6+4,none⟩) hmb];exact c4
     have k5:wr.cell? ⟨mb,mo+q*6+5,none⟩=some (.bool m.2.2.2.2.2.1):=by rw[hs.cell (a:=⟨mb,mo+q*6+5,none⟩) hmb];exact c5
     clear c0 c1 c2 c3 c4 c5 hs;have hB:=ae7 HB.out;have hbm:=hB.mem g (aoX HT.out) m (aoX hm);have hql:g.2.2.1.length≤4294967296:=by exact apI (abq HT.out) hB.all
     have hpl:=apI (TI HT.out q) hB.all;have hkl:=P9 (bZ (l.take p)++(g.2.2.1.take q).filter fun m=>m.2.2.2.2.1) [];simp only[List.length_nil,aq2]at hkl;have hkey:keyOf Tryz.prog 9 (.string m.1)=some (kl m.1):=WideMaps.keyOf_string_mk (P:=Tryz.prog) Tryz.underlying9 (by unfold maxLen;omega);obtain⟨D,d1,d2,d3⟩:=HI.out.map;have hx:=HI.out.keys;have hsz:=HI.out.size;have HR:Hid (PR w Jf (.slice la m.2.1.length lcap) (bW jF m.2.1 false)):=hlv;have HMm:Hid (g.2.2.1[q]?=some m):=hm;have HD2:Hid (∀k,Maps.has D (kl k)=(bY (bZ (l.take p)++(g.2.2.1.take q).filter fun m=>m.2.2.2.2.1) []).any fun x=>decide (x=k)):=d2;have HD3:Hid (∀k∈bY (bZ (l.take p)++(g.2.2.1.take q).filter fun m=>m.2.2.2.2.1) [],∃lv,D.atKey (kl k) zS= .held lv∧PR w Jf lv (bW jF (jC (bZ (l.take p)++(g.2.2.1.take q).filter fun m=>m.2.2.2.2.1) k) false)):=d3
     obtain⟨pre,hpre⟩:∃pre,pre=bZ (l.take p)++(g.2.2.1.take q).filter fun m=>m.2.2.2.2.1:=⟨_,rfl⟩
     rw[←hpre]at d1 hx hkl HD2 HD3 HI hpl;have HP:Hid (pre=bZ (l.take p)++(g.2.2.1.take q).filter fun m=>m.2.2.2.2.1):=hpre;clear hlv hm d2 d3 hB hpre;generalize hhas:Maps.has D (kl m.1)=seen
     go_wp2_with (first
      |(at_lookup;refine wpList_lookup_own_ok _ rfl _ _ 154 rfl 9 51 ag4 Tryz.underlying154 RV (Tryz.zeroValue51 _) zS [] rfl (w.heap.size+1) _ D rfl (d1.alloc _) _ _ rfl hkey ?_;intro v ps hv;rw[hhas])
      | (at_mapUpdate;refine wpList_mapUpdate_own _ rfl _ _ _ 154 rfl 9 51 ag4 Tryz.underlying154 RV (w.heap.size+1) _ D rfl (d1.alloc _) (by unfold maxLen;omega) _ _ _ rfl rfl hkey (.held (.slice la m.2.1.length lcap)) [] rfl ?_;intro w1 hown1 hgrow1
         have k6:w1.cell? ⟨wr.heap.size,0,none⟩=some (.string m.1):=l6 hgrow1 (by simp) (by intro e;have:=Option.some.inj e;omega) (Vr _ _ _ _);have hs1:=hgrow1.size)
      |(at_builtin;refine wpList_append_lies _ rfl _ _ 50 rfl (w.heap.size+2) 9 i9 (.string ⟨#[]⟩) 1 16 Tryz.underlying50 hi9 hz9 hs9 hb9 rfl (by decide) kx _ _ rfl (((hx.alloc _).kept hgrow1 (by cases hkb:kx.ownBlock with|none=>exact .inl rfl|some k=>exact .inr (by have:=(hx.lt k hkb).1;simp;omega))).alloc _) ⟨w1.heap.size,0,none⟩ 1 1 [.string m.1] rfl rfl O5 (by intro u hu;simp at hu;subst hu;rfl) (by decide) (by unfold maxLen;omega) (by omega) (by simp at hs1 ⊢;omega) _ rfl ?_;intro g2 cap2 w2 hown2 hgrow2 hat2 hlt2))
     ·have hf:m.2.2.2.2.1=true:=by assumption
      have hno:m.1∉bY pre []:=fun c=>by
       have h1:=HD2.out m.1;rw[Fg.2 c,hhas]at h1;have h2:(!seen)=true:=by assumption
       rw[h1]at h2;cases h2
      go_roundg (g.2.2.1.length-(q+1))
      case measure=>omega
      case rel=>
       refine⟨q+1,_,by omega,rfl,by go_num,rfl,?_⟩;rw[uj HMm.out,if_pos hf,←ap0,←HP.out];exact HI.out.new hno d1 HD2.out HD3.out HR.out (World.grownBy_alloc _ _ none) hown1 hgrow1 (World.grownBy_alloc _ _ none) hgrow2 hown2
     ·have hf:m.2.2.2.2.1=true:=by assumption
      have hyes:m.1∈bY pre []:=by
       have h1:=HD2.out m.1;have h2:(!seen)=false:=by assumption
       rw[hhas]at h1;cases seen
       ·cases h2
       ·exact Fg.1 h1.symm
      go_roundg (g.2.2.1.length-(q+1))
      case measure=>omega
      case rel=>
       refine⟨q+1,_,by omega,rfl,by go_num,rfl,?_⟩;rw[uj HMm.out,if_pos hf,←ap0,←HP.out];exact(HI.out.same (World.grownBy_alloc _ _ none)).seen hyes
     ·have hf:m.2.2.2.2.1=false:=by
       have h:¬ m.2.2.2.2.1=true:=by assumption
       simpa using h
      go_roundg (g.2.2.1.length-(q+1))
      case measure=>omega
      case rel=>
       refine⟨q+1,_,by omega,rfl,by go_num,rfl,?_⟩;rw[uj HMm.out,if_neg (by rw[hf];simp),ap6,←HP.out];exact HI.out.same (World.grownBy_alloc _ _ none)
    ·have hqe:q=g.2.2.1.length:=by omega
     have HE:Hid (FI w wr kx (bZ (l.take (p+1)))):=by
      have:=HI.out;rw[hqe,apT,←Wq HT.out]at this;exact this
     clear HI
     go_wp2
     go_roundg (l.length-(p+1))
     case measure=>omega
     case rel=>exact⟨p+1,_,by omega,rfl,by go_num,rfl,HE.out⟩
  ·have hpe:p=l.length:=by omega
   have HE:Hid (FI w wr kv (bZ l)):=by
    have:=HF.out;rw[hpe,apT]at this;exact this
   have hB:=ae7 HB.out
   have hkl:(kF l).length≤4294967296:=by
    have h1:=P9 (bZ l) [];have h2:=SA l;have h3:=hB.all;simp only[List.length_nil,aq2]at h1;exact apI h1 (apI h2 h3)
   clear HF;have hsort:=Rl HE.out.keys hkl;obtain⟨ka,kg,kcap,rfl,hka⟩:=WI HE.out.keys;have HK:Hid ((kF l).length≠0→ka=some ⟨kg,0,none⟩):=hka;clear hka;obtain⟨N,hN⟩:∃N,N=(kF l).length:=⟨_,rfl⟩
   go_wp2_with (go_at_call 102;refine hsort.mono ?_;rintro e w1 ⟨rfl,hown1,hgrow1⟩)
   have HS:Hid (w.Since w.heap.size w1∧w1.ownsRow (w.heap.size+2) 9 1 (.slice ka (kF l).length kcap) (kF l).length ((sorted (kF l)).map encStr)∧∃D,w1.ownsMap Tryz.prog 9 RV (w.heap.size+1) (bZ l).length D∧
     ∀k∈kF l,∃lv,D.atKey (kl k) zS= .held lv∧PR w Jf lv (bW jF (jC (bZ l) k) false)):=by
    obtain⟨D,d1,d2,d3⟩:=HE.out.map;have hlt:=HE.out.keys.lt;have hsz:=HE.out.size;refine⟨gG HE.out.since (by omega) hgrow1 (fun k e=>by have:=(hlt k e).1;omega),hown1,D,d1.kept hgrow1 ?_,d3⟩;intro e;have:=(hlt _ e.symm).1;omega
   clear HE hsort hown1 hgrow1
   go_loopg [11,58] (kF l).length (fun c ov i wo=>∃(q:Nat) (ov':Value),q≤(kF l).length∧c=(kF l).length-q∧i= .int .i64 q∧ov'=ov∧Hid (OI l w1 wo ov' q))
   case atStart=>exact⟨0,_,ap5 _,rfl,rfl,rfl,OI.start l w1⟩
   case round=>
    obtain⟨q,ov,hq,rfl,rfl,rfl,HO⟩:=hrel;by_cases hqt:q<(kF l).length
    ·have hkq:q<(sorted (kF l)).length:=by rw[yO];exact hqt
     obtain⟨k,hk⟩:∃k,(sorted (kF l))[q]?=some k:=⟨_,apc hkq⟩
     have hmem:=Ry (aoX hk);obtain⟨gx,hgx,mx,hmx,emx⟩:=abY hmem;have hkb:=(hB.mem gx hgx mx hmx).1;rw[emx]at hkb;have:=HK.out (by omega);subst this;obtain⟨s1,s2,D,s3,s4⟩:=HS.out
     have k0:wr.cell? ⟨kg,q,none⟩=some (.string ⟨k.toArray⟩):=by
      have h1:w1.cell? ⟨kg,q,none⟩=((sorted (kF l)).map encStr)[q]?:=s2.cellAt q (by omega);rw[aoZ,hk]at h1;exact l6 HO.out.grown (s2.lt kg rfl).2 (by simp) h1
     have hkey:keyOf Tryz.prog 9 (.string ⟨k.toArray⟩)=some (kl ⟨k.toArray⟩):=WideMaps.keyOf_string_mk (P:=Tryz.prog) Tryz.underlying9 (by unfold maxLen;omega);obtain⟨v,ps,hrun,hv⟩:=(s3.kept HO.out.grown (by simp)).lookup ag4 Tryz.underlying154 (Tryz.zeroValue51 _) (zd:=zS) (zp:=[]) rfl hkey;obtain⟨lv,e1,e2⟩:=s4 _ hmem;rw[e1]at hv;have hve:v=lv:=(show v=lv∧ps=[] by simpa[RV]using hv).1;subst hve;obtain⟨la,lb,lo,lcap,rfl,_,_⟩:=xw e2;have hsw:w.Since w.heap.size wr:=gG s1 s1.size HO.out.grown (fun k e=>by cases e);have hclone:=NR (Wh e2 hsw) (abb hB k);obtain⟨xs,hx,hr⟩:=HO.out.rows;have HR:Hid (∀(p:Nat) (y:Value),xs[p]?=some y→∃k,(sorted (kF l))[p]?=some k∧mK wr w1.heap.size ov.ownBlock y (yM l k)):=hr;have HKQ:Hid ((sorted (kF l))[q]?=some k):=hk;have hsz:=HO.out.grown.size;clear s1 s2 s3 s4 hv e2 hsw hr hk hmem emx hgx hmx
     go_wp2_with (first
      | (go_at_call 103;refine hclone.mono ?_;rintro e w2 ⟨v',rfl,hpr,ho,hbel⟩
         obtain⟨va,vb,vo,vcap,rfl,_,_⟩:=xw hpr;have hg2:=MU hbel;have HL:Hid (mK w2 wr.heap.size none (.slice va (jC (bZ l) ⟨k.toArray⟩).length vcap) (yM l k)):=afU hpr;have hsz2:=hg2.size)
      |(at_builtin;refine wpList_append_lies _ rfl _ _ 94 rfl w1.heap.size 51 i51 (.slice none 0 0) 1 24 Tryz.underlying94 hi51 hz51 hs51 hb51 rfl (by decide) ov q xs rfl ((hx.kept hg2 (by cases ov.ownBlock with|none=>exact .inl rfl|some k=>exact .inr (by simp))).alloc _) ⟨w2.heap.size,0,none⟩ 1 1 [.slice va (jC (bZ l) ⟨k.toArray⟩).length vcap] rfl rfl O5 (by intro u hu;simp at hu;subst hu;rfl) (by decide) (by unfold maxLen;omega) (by omega) (by simp;omega) _ rfl ?_;intro g3 cap3 w3 hown3 hgrow3 hat3 hlt3))
     go_roundg ((kF l).length-(q+1))
     case measure=>omega
     case rel=>exact⟨q+1,_,by omega,rfl,by go_num,rfl,HO.out.step hx HR.out HKQ.out HL.out hg2 hgrow3 hown3 hat3⟩
    ·have hqe:q=(kF l).length:=by omega
     have HD:Hid (OI l w1 wr ov (sorted (kF l)).length):=by rw[yO,←hqe];exact HO.out
     clear HO
     go_wp2
     go_ret
     exact HD.out.done HS.out.1
theorem afP:fD Tryz.prog 47 Tq:=ZP (entered Tryz.func47 rfl (by decide)) VJ
end Go.Proofs.YtchnmpafhfjimaaGreatDoor.Fr
namespace Go.Proofs.YtchnmpafhfjimaaGreatDoor
open Go Go.Abs
noncomputable section
abbrev aR:Abs.Ty:=.int .i64
abbrev rIz:Abs.Ty:=.row aR
abbrev Hq:Abs.Ty:=.row .str
abbrev Y9:Type:=(List (ByteArray×ByteArray×Unit))
abbrev zR:Abs.Ty:=(.cons aR (.cons aR (.cons aR (.cons .str (.cons (.row .str) (.cons (.row .str) .unit))))))
abbrev mq:Type:=(ByteArray×Y9×Int×Int×Bool×Bool×Unit)
abbrev Y3:Type:=(Int×ByteArray×(List mq)×Int×Int×Unit)
abbrev r9:Type:=((Int×ByteArray×Int×Int×Unit)×Unit)
abbrev Eo:Type:=(Int×Int×Int×ByteArray×(List ByteArray)×(List ByteArray)×Unit)
abbrev zT:Type:=((Int×Int×Int×ByteArray×Unit)×Unit)
abbrev rA:Type:=((Int×Int×Unit)×Unit)
abbrev eT:Type:=((Bool×Unit)×(Unit))
abbrev Z24:Abs.Ty:=(.cons (.row aR) (.cons aR .unit))
abbrev ZF:Type:=(((List Int)×Int×Unit)×Unit)
abbrev CO:Type:=(Int×Y9×Bool×Unit)
abbrev MC:Abs.Ty:=(.cons .str (.cons aR (.cons .str .unit)))
abbrev Z2:Abs.Ty:=(.cons aR (.cons (.row MC) (.cons aR (.cons (.row .str) (.cons aR (.cons aR (.cons aR (.cons .bool .unit))))))))
abbrev Z4:Abs.Ty:=(.cons aR (.cons aR (.cons aR (.cons aR (.cons (.row MC) .unit)))))
abbrev Z7:Abs.Ty:=(.cons (.row MC) (.cons (.row MC) (.cons (.row .str) .unit)))
abbrev Ug:Abs.Ty:=(.cons (.row Z2) (.cons (.row Z7) (.cons aR .unit)))
abbrev Z30:Abs.Ty:=(.cons .str (.cons .str .unit))
abbrev jE:Abs.Ty:=(.row Z30)
abbrev Z6:Abs.Ty:=(.cons .str (.cons jE (.cons aR (.cons aR (.cons .bool (.cons .bool .unit))))))
abbrev Z1:Abs.Ty:=(.cons aR (.cons .str (.cons (.row Z6) (.cons aR (.cons aR .unit)))))
abbrev Z17:Abs.Ty:=(.cons aR (.cons (.row Z1) (.cons (.row Z4) (.cons aR .unit))))
abbrev Vo:Abs.Ty:=(.cons aR (.cons jE (.cons .bool .unit)))
abbrev Fx:Type:=((ByteArray×Unit)×(Unit))
abbrev ZC:Type:=((List mq)×zT×(List ByteArray)×(List ByteArray)×Unit)
abbrev Rv:Type:=(ByteArray×Int×ByteArray×Unit)
abbrev Y5:Type:=(List Rv)
abbrev Y8:Type:=(Int×Y5×Int×(List ByteArray)×Int×Int×Int×Bool×Unit)
abbrev ED:Type:=(List (Y5×Y5×(List ByteArray)×Unit))
abbrev ZE:Type:=((List Y8)×ED×Int×Unit)
abbrev Y34:Type:=(r9×zT×(Y3×Unit)×r9×zT×(Y8×Unit)×(List mq)×(List ByteArray)×(List ByteArray)×Unit)
abbrev Y36:Type:=(Int×Int×Int×Int×Y5×Unit)
abbrev mM:Type:=(List Y36)
abbrev JL:Type:=((Int×(List Y3)×mM×Int×Unit)×Unit)
abbrev Tw:Type:=((Int×mM×Int×Unit)×Unit)
abbrev QI:Type:=((List Y3)×(ZE×Unit)×rA×mM×Unit)
abbrev ZH:Type:=(r9×(Y8×Unit)×r9×(List mq)×Unit)
abbrev M8:Type:=((Unit)×((List Int)×Unit))
abbrev dx:Abs.Sh:=(.dat aR .nil)
abbrev Nz:Abs.Sh:=(.agg (.dat aR (.dat aR (.dat aR (.dat .str (.st .nil (.st .nil .nil)))))) .nil)
abbrev Co:Abs.Sh:=(.agg (.dat aR (.st .nil (.st .nil dx))) .nil)
abbrev lX:Abs.Sh:=(.dat aR dx)
abbrev DU:Abs.Sh:=(.agg (.dat aR (.dat .str (.st .nil lX))) .nil)
abbrev Qb7:Abs.gD:=(.box 9 (.agg (.dat (.row Z2) (.dat (.row Z7) (.dat aR (.dat aR (.part Z1 (1,0) (.st (.own Z4 (2,0)) (.dat aR (.st (.own zR (3,0)) dx)))))))) .nil) (.arr Z1 false (.arr Z4 false (.arr zR false .nil))))
abbrev fu:Abs.Sh:=(.dat .bool .nil)
abbrev P8:Abs.gD:=(.arr Z6 false (.box 5 DU (.box 5 (.agg (.dat aR (.dat .str (.st (.own Z6 (0,0)) lX))) .nil) .nil)))
abbrev ig:Abs.mg:=(.ptr (0,0) 5 0 0)
abbrev Y2:Abs.Sh:=(.agg (.dat aR (.dat aR (.dat aR (.dat .str (.st (.own .str (5,0)) (.st (.own .str (6,0)) .nil)))))) .nil)
abbrev ag8:Abs.Sh:=(.agg (.dat aR (.dat aR (.dat aR (.dat .str (.st (.own .str (6,0)) (.st (.own .str (7,0)) .nil)))))) .nil)
abbrev gX:Abs.mg:=(.ptr (0,0) 4 0 0)
abbrev iF:Abs.Sh:=(.dat .str .nil)
abbrev KP:Abs.gD:=(.arr .str false (.arr .str false .nil))
abbrev an6:Abs.gD:=(.box 6 (.agg (.dat aR (.dat aR (.dat aR (.dat .str (.st (.own .str (2,0)) (.st (.own .str (3,0)) .nil)))))) .nil) KP)
abbrev akM:Abs.Sh:=(.agg (.dat aR (.dat aR (.dat aR (.dat .str (.st (.own .str (4,0)) (.st (.own .str (5,0)) .nil)))))) .nil)
abbrev yg:Abs.mg:=(.ptr (1,0) 5 0 0)
abbrev qK:Abs.mg:=(.ptr (2,0) 5 0 0)
abbrev lN:Abs.Sh:=(.dat Ug .nil)
abbrev QS:Abs.Sh:=(.st ig (.dat aR (.st (.ptr (1,0) 8 0 0) (.dat aR (.st qK .nil)))))
abbrev sG:Abs.mg:=(.ptr (1,0) 6 0 0)
abbrev Ak:Abs.gD:=(.arr aR false .nil)
abbrev oD:Abs.mg:=(.ptr (1,0) 4 0 0)
abbrev Lj:Abs.mg:=(.own aR (0,0))
abbrev oO:Abs.mg:=(.ptr (2,0) 3 0 0)
abbrev zf:Abs.mg:=(.ptr (2,0) 4 0 0)
abbrev lJ:Abs.Sh:=(.dat jE .nil)
abbrev EH:Abs.mg:=(.ptr (3,0) 5 0 0)
abbrev aaN:Abs.gD:=(.box 3 (.agg (.st (.own Z2 (1,0)) (.st (.own Z7 (2,0)) dx)) .nil) (.arr Z2 true (.arr Z7 true .nil)))
abbrev Li:Abs.mg:=(.ptr (0,0) 2 0 0)
abbrev FH:Abs.Sh:=(.dat aR fu)
abbrev ZL:Abs.Sh:=(.dat aR (.st (.ptr (4,0) 8 0 0) .nil))
abbrev agf:Abs.Sh:=(.agg (.dat aR (.dat aR (.dat aR (.dat .str (.st (.own .str (3,0)) (.st (.own .str (4,0)) .nil)))))) .nil)
abbrev y5:Abs.Sh:=(.dat (.row Z4) dx)
abbrev uo:Abs.Sh:=(.dat Z2 .nil)
abbrev aa0:Abs.gD:=(.box 5 (.agg (.dat aR (.dat .str (.st (.own Z6 (5,0)) lX))) .nil) (.box 5 DU (.box 6 Nz (.box 6 ag8 (.box 8 uo (.arr Z6 false KP))))))
abbrev ahf:Abs.gD:=(.box 8 uo (.box 5 (.agg (.dat aR (.dat .str (.st (.own Z6 (0,0)) lX))) .nil) KP))
abbrev Cg:Abs.gD:=(.arr Z1 false .nil)
abbrev Ye:Abs.gD:=(.box 4 Co (.box 4 (.agg (.dat aR (.st (.own Z1 (6,0)) y5)) .nil) (.box 3 (.dat Vo .nil) (.arr aR false (.box 3 lN (.box 8 uo Cg))))))
abbrev VA:Abs.gD:=(.box 4 Co (.arr zR false (.box 4 (.agg (.dat aR (.st (.own Z1 (4,0)) y5)) .nil) (.box 3 lN Cg))))
abbrev agk:Abs.gD:=(.box 4 Co (.box 4 (.agg (.dat aR (.st (.own Z1 (5,0)) y5)) .nil) (.box 3 (.dat Vo .nil) (.arr aR false (.box 3 lN Cg)))))
abbrev yP:Abs.mg:=(.ptr (0,0) 3 0 0)
abbrev EA:Abs.Sh:=(.dat aR lX)
abbrev oN:Abs.Sh:=(.dat Z1 .nil)
abbrev Xo:Abs.gD:=(.box 5 (.agg (.dat aR (.dat .str (.st (.own Z6 (6,0)) lX))) .nil) (.box 6 (.agg (.dat aR (.dat aR (.dat aR (.dat .str (.st (.own .str (7,0)) (.st (.own .str (8,0)) .nil)))))) .nil) (.box 5 oN (.box 5 DU (.box 6 Nz (.box 8 uo (.arr Z6 false KP)))))))
abbrev y9:Abs.gD:=(.box 5 oN .nil)
abbrev Vp:Abs.mg:=(.ptr (0,0) 6 0 0)
abbrev yo:Abs.Sh:=(.dat Z24 .nil)
abbrev tN:Abs.gD:=(.box 2 yo .nil)
abbrev Iy:Abs.Sh:=(.dat Hq .nil)
abbrev EC:Abs.Sh:=(.dat aR iF)
abbrev MF:Abs.Sh:=(.st ig (.st yg .nil))
abbrev IZ:Abs.mg:=(.ptr (2,0) 6 0 0)
abbrev Ia:Abs.mg:=(.ptr (5,0) 8 0 0)
abbrev HV:Abs.mg:=(.ptr (3,0) 4 0 0)
abbrev BJ:Abs.gD:=(.arr Z30 false .nil)
abbrev yh:Abs.Sh:=(.dat Z17 .nil)
abbrev Oh:Abs.gD:=(.box 4 yh .nil)
abbrev AP:Abs.mg:=(.own Z1 (0,0))
abbrev akl:Abs.Sh:=(.agg (.dat aR (.st AP y5)) .nil)
abbrev ZT:Abs.Sh:=(.dat aR (.st AP (.st (.clo 132 [((1,0),3,0,0),((2,0),4,0,0)]) dx)))
abbrev aaY:Abs.gD:=(.arr Z1 false (.arr jE false (.arr .str false (.box 4 akl (.box 6 (.dat Z6 .nil) .nil)))))
abbrev UH:Abs.Sh:=(.st gX (.st (.own zR (1,0)) dx))
abbrev CZ:Abs.gD:=(.arr Z4 false .nil)
abbrev XD:Abs.gD:=(.arr Z1 false (.box 3 lN (.box 4 (.agg (.dat aR (.st AP (.st (.own Z4 (3,0)) dx))) .nil) CZ)))
abbrev ZO:Abs.gD:=(.box 4 Co (.box 4 (.agg (.dat aR (.st (.own Z1 (5,0)) (.st (.own Z4 (6,0)) dx))) .nil) (.box 3 (.dat Vo .nil) (.box 3 lN (.arr aR false (.arr Z1 false CZ))))))
abbrev Vx:Abs.gD:=(.box 4 (.agg (.dat aR (.st (.own Z1 (1,0)) (.st (.own Z4 (2,0)) dx))) .nil) (.arr Z1 false CZ))
abbrev afD:Abs.gD:=(.box 4 (.agg (.dat aR (.part Z1 (2,0) (.st (.own Z4 (3,0)) dx))) .nil) (.arr zR false (.arr Z1 false CZ)))
abbrev aaA:Abs.gD:=(.arr Z1 false (.arr jE false (.arr .str false (.box 4 akl .nil))))
abbrev I7:Abs.Sh:=(.st yg (.st qK .nil))
abbrev aeU:Abs.Sh:=(.st (.own .bool (0,0)) (.st (.own .bool (1,0)) (.dat .str (.dat aR (.dat .str dx)))))
abbrev K6:Abs.gD:=(.box 3 lN Oh)
abbrev VK:Abs.Sh:=(.dat aR (.st ig .nil))
abbrev yA:Abs.gD:=(.arr Z6 false .nil)
abbrev Bt:Abs.gD:=(.box 5 (.agg (.dat aR (.dat .str (.st (.own Z6 (1,0)) lX))) .nil) yA)
abbrev K8:Abs.gD:=(.box 5 (.agg (.dat aR (.dat .str (.st (.own Z6 (3,0)) lX))) .nil) (.box 8 uo (.box 5 DU yA)))
abbrev PD:Abs.gD:=(.box 5 DU (.box 5 (.agg (.dat aR (.dat .str (.st (.own Z6 (2,0)) lX))) .nil) yA))
abbrev aau:Abs.gD:=(.box 8 uo (.arr .str false (.arr .str false yA)))
abbrev ag5:Abs.gD:=(.box 6 ag8 (.box 5 oN (.box 5 (.agg (.dat aR (.dat .str (.st (.own Z6 (8,0)) lX))) .nil) (.box 5 DU (.box 6 Nz aau)))))
abbrev ae8:Abs.gD:=(.box 5 DU (.box 6 Nz (.box 6 Y2 (.box 5 (.agg (.dat aR (.dat .str (.part Z6 (7,0) lX))) .nil) aau))))
abbrev abo:Abs.Sh:=(.st (.clo 132 [((1,0),3,0,0),((2,0),4,0,0)]) .nil)
abbrev Nt:Abs.gD:=(.box 5 (.dat Z4 .nil) .nil)
abbrev YE:Abs.gD:=(.box 3 lN .nil)
abbrev V9:Abs.mg:=(.own .str (1,0))
abbrev Md:Abs.mg:=(.ptr (4,0) 6 0 0)
abbrev afp:Abs.Sh:=(.st (.own jE (1,0)) (.st (.own .str (2,0)) (.dat aR (.st HV (.dat aR (.st Md dx))))))
abbrev Gh:Abs.mg:=(.ptr (3,0) 3 0 0)
abbrev IV:Abs.mg:=(.ptr (1,0) 3 0 0)
abbrev IX:Abs.mg:=(.ptr (4,0) 3 0 0)
abbrev jq:Type:=(Int×Unit)
abbrev Cn:Type:=(ZE×Unit)
abbrev rz:Type:=((Unit)×(Unit))
abbrev sZ:Type:=(Int×Int×Unit)
abbrev Yq5:Type:=((((List Y8)×ED×Int×Int×(Nat×Nat)×Int×Int×Unit)×Unit)×(List Y3)×mM×(List Eo)×Unit)
abbrev Yq6:Type:=((Int×ByteArray×(Nat×Nat)×Int×Int×Unit)×Unit)
abbrev tL:Type:=(jq×(Unit))
abbrev VT:Type:=(((List Y8)×Int×Y9×Unit)×(Unit))
abbrev Yq9:Type:=((List mq)×r9×r9×Unit)
abbrev Pd:Type:=(Int×(List Y3)×mM×Int×Unit)
abbrev Yw:Type:=(r9×r9×zT×zT×(Y8×Unit)×(List mq)×(List ByteArray)×(List ByteArray)×Unit)
abbrev abV:Type:=(rA×Tw×(CO×Unit)×(List Int)×Cn×(Y8×Unit)×(List Y3)×Unit)
abbrev Cy:Type:=(Int×Int×Int×Unit)
abbrev agz:Type:=((List mq)×zT×zT×(Y8×Unit)×r9×(List ByteArray)×(List ByteArray)×Unit)
abbrev Er:Type:=(jq×(r9×(List mq)×Unit))
abbrev wI:Type:=(Bool×Int×Unit)
abbrev LY:Type:=(ByteArray×ByteArray×Unit)
abbrev Y1:Type:=(rA×(List Eo)×Tw×Cn×(List Y3)×Unit)
abbrev akN:Type:=(zT×(Y3×Unit)×r9×r9×zT×(Y8×Unit)×(List ByteArray)×(List ByteArray)×(List mq)×Unit)
abbrev LA:Type:=((Y3×Unit)×Unit)
abbrev UQ:Type:=((List Y3)×(List Y9)×(List ByteArray)×Tw×Unit)
abbrev YI:Type:=((List Y3)×(List Y9)×(List ByteArray)×Tw×(mq×Unit)×Unit)
abbrev aeS:Type:=(ByteArray×ByteArray×ByteArray×ByteArray×Unit)
abbrev nW:Type:=(Bool×Unit)
abbrev YF:Type:=(rA×rA×(CO×Unit)×Cn×(List Int)×(List Y3)×mM×Unit)
abbrev YT:Type:=(Int×(List mq)×Int×Unit)
abbrev Wl:Type:=((List CO)×(List CO)×(List CO)×Unit)
abbrev aad:Type:=(r9×r9×(List mq)×Unit)
abbrev E5:Type:=((List Int)×Unit)
abbrev Nk:Type:=(Cn×JL×Unit)
abbrev XG:Type:=(sZ×((List Y3)×(List Y3)×Cn×Unit))
abbrev aeI:Type:=(Cy×((Y3×Unit)×(List ByteArray)×(List Y9)×JL×Cn×Tw×rA×(List Eo)×(List Y3)×Unit))
abbrev Ol:Type:=((Int×Y5×Int×Unit)×(Unit))
abbrev Q9:Type:=((Int×ByteArray×Unit)×(Unit))
abbrev acf:Type:=(jq×(rA×Tw×(CO×Unit)×(List Int)×Cn×(List Y3)×Unit))
abbrev IW:Type:=(Bool×Int×Int×Unit)
abbrev ai0:Type:=(zT×Yq6×(List mq)×r9×zT×(Y8×Unit)×(List ByteArray)×(List ByteArray)×Unit)
abbrev afN:Type:=(r9×zT×zT×Yq6×(Y8×Unit)×(List ByteArray)×(List ByteArray)×(List mq)×Unit)
abbrev af7:Type:=((Int×(Nat×Nat)×Int×Unit)×Unit)
abbrev Xn:Type:=((jq×Unit)×(List Y8)×ED×Unit)
abbrev Zm:Type:=(ZF×Unit)
abbrev U8:Type:=((ByteArray×Int×Unit)×(Unit))
abbrev Qt:Type:=(rA×(List Y3)×mM×Unit)
abbrev aby:Type:=((List Int)×(List Int)×Unit)
abbrev aeV:Type:=((ByteArray×Int×ByteArray×Int×Unit)×((List Bool)×(List Bool)×Unit))
abbrev UZ:Type:=((Eo×Unit)×(Eo×Unit)×Unit)
abbrev X8:Type:=((List ByteArray)×Unit)
abbrev ajz:Type:=((Int×(List CO)×Int×Int×Unit)×(rA×(((List Y8)×ED×Int×Int×(Nat×Nat)×Int×Int×Unit)×Unit)×Cn×(List Y3)×mM×(List Eo)×Unit))
abbrev ag7:Type:=(sZ×((List Y9)×JL×Cn×(List Eo)×Tw×rA×(List Y3)×Unit))
abbrev VP:Type:=((Y3×Unit)×(Unit))
abbrev WB:Type:=(r9×(Y8×Unit)×(Y3×Unit)×Unit)
abbrev aki:Type:=(Int×(List Y3)×Int×Unit)
abbrev Ri:Type:=((List mq)×Unit)
abbrev Q5:Type:=(JL×Unit)
abbrev VY:Type:=(ZF×(List ByteArray)×Unit)
abbrev akP:Type:=(Int×(List Y9)×(List mq)×Int×Unit)
abbrev acr:Type:=((Y9×Unit)×(Y9×Unit)×Unit)
abbrev aal:Type:=((Int×ByteArray×Int×Unit)×(Unit))
abbrev ab6:Type:=((Int×Y9×ByteArray×Unit)×(Unit))
abbrev YV:Type:=(Y36×Unit)
abbrev aeX:Type:=((List Y3)×mM×(List ByteArray)×rA×Cn×Unit)
abbrev Qe:Type:=((Y8×Unit)×Unit)
abbrev afL:Type:=(Bool×Int×Int×Int×Unit)
abbrev ahN:Type:=((List Eo)×rA×Cn×(List Y3)×rA×mM×Unit)
abbrev afv:Type:=(((List ByteArray)×ByteArray×Unit)×(Unit))
abbrev aiK:Type:=((Y3×Y8×Int×(List ByteArray)×Unit)×(Unit))
abbrev KW:Type:=((Unit)×Yq9)
abbrev aeZ:Type:=(((List CO)×Int×Int×Int×Int×Unit)×Y1)
abbrev akO:Type:=(r9×zT×zT×r9×(Y8×Unit)×(List ByteArray)×(List ByteArray)×(List mq)×Unit)
abbrev QM:Type:=(mM×Unit)
abbrev abf:Type:=((Y3×Unit)×(Y3×Unit)×Unit)
abbrev X7:Type:=(Cn×(Y3×Unit)×Unit)
abbrev aam:Type:=(((List Y8)×Unit)×(Unit))
abbrev aeK:Type:=(af7×(List Eo)×(List Y3)×mM×Unit)
abbrev ajX:Type:=((Int×ByteArray×Int×ByteArray×Unit)×((List Bool)×(List Bool)×Unit))
abbrev Zl:Type:=((Y9×Unit)×(Unit))
abbrev WN:Type:=((Unit)×(Y9×Unit))
abbrev Ma:Type:=(jq×Zm)
abbrev aeA:Type:=(Bool×(List ByteArray)×Int×Unit)
abbrev aeH:Type:=((Int×Int×ByteArray×Unit)×abV)
abbrev aa9:Type:=(ZF×(List CO)×Unit)
abbrev aiE:Type:=((List Y3)×Unit)
abbrev Xt:Type:=((Y9×Unit)×Unit)
abbrev akx:Type:=((Int×(List ByteArray)×(List ByteArray)×Int×Unit)×(Unit))
abbrev abW:Type:=(YT×(Unit))
abbrev Vj:Type:=((Unit)×aad)
abbrev V5:Type:=((Unit)×Zm)
abbrev aas:Type:=(Y5×Y5×(List ByteArray)×Unit)
abbrev Vd:Type:=((aas×Unit)×Unit)
abbrev aat:Type:=(ZF×(List Y8)×Unit)
abbrev Xk:Type:=((List Y3)×jq×Unit)
abbrev aew:Type:=((Int×Y9×(List Y9)×(List Y9)×ED×Int×Int×Int×Unit)×Vd)
abbrev Y0:Type:=((ZE×Pd×Int×Unit)×(Unit))
abbrev Te:Type:=((Rv×Unit)×(Unit))
abbrev Z0:Type:=(jq×(rA×(List Eo)×Unit))
abbrev adZ:Type:=((Int×Int×Int×Int×ByteArray×ByteArray×Unit)×(Unit))
abbrev aek:Type:=((Int×(List ByteArray)×ByteArray×Int×Unit)×(Unit))
abbrev SG:Type:=((List Bool)×Unit)
abbrev adJ:Type:=((ByteArray×(List mq)×Int×Int×Int×Unit)×(Unit))
abbrev YH:Type:=(Bool×ByteArray×Int×Unit)
abbrev adi:Type:=((Int×Bool×(List ByteArray)×Int×Int×Unit)×agz)
abbrev ado:Type:=((Bool×(List ByteArray)×Int×Int×Int×Unit)×agz)
abbrev Jw:Type:=(YV×Unit)
abbrev WK:Type:=(Bool×Bool×Int×Int×Unit)
abbrev aeo:Type:=((Int×(List ByteArray)×Y9×Int×Unit)×(Y9×Unit))
abbrev NE:Type:=(ZF×Y9×Unit)
abbrev aei:Type:=((Y9×(List ByteArray)×Int×Int×Unit)×(Y9×Unit))
abbrev adj:Type:=((Int×ByteArray×(List ByteArray)×Unit)×(Unit))
abbrev YC:Type:=((Y3×Unit)×Cn×JL×Unit)
abbrev adW:Type:=((ZE×Pd×Unit)×(Unit))
abbrev ads:Type:=((Int×(List CO)×sZ×Int×Wl×Int×Unit)×Xn)
abbrev TK:Type:=(jq×(rA×Unit))
abbrev ae2:Type:=((Int×(List Y8)×(List Y8)×Int×Unit)×(Unit))
abbrev adU:Type:=((Int×Int×Bool×Y9×Int×mM×Int×Unit)×(Unit))
abbrev adD:Type:=((Int×Bool×(List ByteArray)×Int×Unit)×akN)
abbrev ada:Type:=((Bool×(List ByteArray)×Int×Int×Unit)×akN)
abbrev acW:Type:=((Int×Int×Bool×(List Y3)×Int×Unit)×(Unit))
abbrev acI:Type:=((Int×Y9×(List ByteArray)×Unit)×(Y9×Unit))
abbrev ad7:Type:=((Int×(List ByteArray)×Y9×Y9×Unit)×(Unit))
abbrev adE:Type:=(XG⊕((Unit)×((List Y3)×(List Y3)×Unit)))
abbrev TQ:Type:=(Int×Bool×Unit)
abbrev U5:Type:=(TQ×(Unit))
abbrev adg:Type:=((Int×(List Eo)×(List Eo)×Unit)×(Unit))
abbrev TR:Type:=(Int×aeS×Unit)
abbrev acZ:Type:=((Int×mM×mM×Int×Unit)×(YV×YV×Unit))
abbrev adh:Type:=((Bool×ByteArray×ByteArray×Unit)×(Unit))
abbrev acP:Type:=((Y9×(List Y9)×ED×Int×Int×Unit)×(Unit))
abbrev ad9:Type:=((Int×Y9×(List Y9)×ED×Int×Unit)×(Unit))
abbrev adH:Type:=((ED×mM×Y9×(List Y9)×Int×Unit)×(Unit))
abbrev aeu:Type:=((Int×(List Y9)×Y9×Int×ED×Unit)×(Unit))
abbrev adl:Type:=((Int×(Nat×Nat)×Bool×Int×Int×Unit)×ai0)
abbrev acY:Type:=((Int×Int×Int×(List mq)×Int×Unit)×ZH)
abbrev aeh:Type:=((Int×Int×(List mq)×Int×Int×Unit)×ZH)
abbrev adG:Type:=((Int×ByteArray×ByteArray×Unit)×(Unit))
abbrev adY:Type:=((Int×Int×Bool×Y9×Int×mM×Unit)×(Unit))
abbrev ae6:Type:=(Cy×(Cn×rA×(List Y3)×rA×mM×Unit))
abbrev ad1:Type:=((Bool×ByteArray×Int×Int×Unit)×(Unit))
abbrev RX:Type:=(ZF×ED×Unit)
abbrev adz:Type:=(sZ×(Tw×Cn×JL×rA×(List Y3)×Unit))
abbrev ae0:Type:=((Unit)×((List Y3)×mM×rA×af7×Unit))
abbrev adu:Type:=((Int×Int×(List Y8)×Y9×Int×Unit)×aby)
abbrev aev:Type:=((Int×(List ByteArray)×Int×Unit)×acr)
abbrev ae1:Type:=(jq×(Tw×(List Eo)×(List Y3)×Unit))
abbrev YL:Type:=((mq×Unit)×(Unit))
abbrev adr:Type:=((Int×ByteArray×Y9×Int×Unit)×(Unit))
abbrev ae5:Type:=((Int×(List ByteArray)×Unit)×(Unit))
abbrev VZ:Type:=(Bool×ED×Int×Unit)
abbrev Y4:Type:=(Int×Bool×Int×Unit)
abbrev acL:Type:=(((List Y9)×Y9×ED×Int×Unit)×(Unit))
abbrev adC:Type:=((Int×(List Y9)×Y9×ED×Unit)×(Unit))
abbrev adA:Type:=((sZ×QI)⊕((jq×QI)⊕((Unit)×QI)))
abbrev acT:Type:=((Int×(List CO)×Int×Int×Unit)×Y1)
abbrev adN:Type:=((ByteArray×Int×Int×Int×Unit)×Xk)
abbrev aiX:Type:=((List Y9)×(List mq)×Int×Int×Unit)
abbrev adn:Type:=((Y9×(List ByteArray)×Unit)×(Unit))
abbrev RJ:Type:=(ZF×Y5×Unit)
abbrev SS:Type:=(wI×(Unit))
abbrev RQ:Type:=(LY×(Unit))
abbrev adb:Type:=((Int×Int×(List Y8)×Int×Unit)×E5)
abbrev ah6:Type:=((Unit)×Q5)
abbrev adT:Type:=((Int×(List Y9)×Int×Int×Unit)×ahN)
abbrev TN:Type:=(QM×(Unit))
abbrev Wz:Type:=((Y8×Unit)×(Unit))
abbrev aez:Type:=((Bool×Int×ByteArray×Unit)×(Unit))
abbrev ad2:Type:=(r9×zT×(Y3×Unit)×(Y8×Unit)×Unit)
abbrev adt:Type:=((ZE×(List CO)×Int×Unit)×(Unit))
abbrev adp:Type:=(sZ×(rA×(List Y3)×rA×mM×Unit))
abbrev aec:Type:=((Int×Int×(List Y8)×Y9×Unit)×aby)
abbrev Ro1:Abs.jY:=(.one (.exit 0) ⟨[],.nil,.nil⟩)
abbrev ZJ:Abs.jY:=(.more .ret ⟨[2],fu,.nil⟩ Ro1)
abbrev Ro3:Abs.jY:=(.more .ret ⟨[4],dx,.nil⟩ Ro1)
abbrev Ro4:Abs.jY:=(.more .ret ⟨[4],fu,.nil⟩ Ro1)
abbrev Rb7:Abs.gD:=(.box 5 oN (.arr .str false (.arr jE false (.box 4 yh (.box 3 lN (.box 4 (.agg (.dat aR (.st (.own Z1 (8,0)) y5)) .nil) (.box 4 Co (.arr zR false Cg))))))))
abbrev Rb8:Abs.gD:=(.arr .str false .nil)
abbrev Rb9:Abs.gD:=(.box 6 (.dat zR .nil) (.box 6 (.dat zR .nil) .nil))
abbrev EG:Abs.Ty:=(.row Z6)
abbrev akK:Abs.gD:=(.arr zR false (.box 4 (.agg (.dat aR (.st (.own Z1 (3,0)) (.st (.own Z4 (5,0)) dx))) .nil) (.box 3 lN (.arr Z1 false (.box 4 Co CZ)))))
abbrev rC:Abs.Ty:=(.row jE)
abbrev Ll:Abs.mg:=(.own .str (2,0))
abbrev aiB:Abs.gD:=(.box 6 ag8 (.box 5 (.agg (.dat aR (.dat .str (.part Z6 (2,0) lX))) .nil) (.arr Z6 false (.box 5 DU (.box 6 Nz (.box 8 uo KP))))))
abbrev aiJ:Abs.gD:=(.arr jE false (.box 4 yh (.box 3 lN (.arr zR false (.box 4 (.agg (.dat aR (.st (.own Z1 (6,0)) y5)) .nil) (.box 4 Co Cg))))))
abbrev BX:Abs.Ty:=(.row Z2)
abbrev LP:Abs.mg:=(.own Z1 (1,0))
abbrev U1:Abs.Sh:=(.st (.ptr (0,0) 8 0 0) .nil)
abbrev Uj:Abs.gD:=(.box 3 (.dat Z7 .nil) .nil)
abbrev aiH:Abs.gD:=(.arr Z1 false (.arr Z4 false (.box 4 Co (.box 4 (.agg (.dat aR (.part Z1 (0,0) (.st (.own Z4 (1,0)) dx))) .nil) .nil))))
abbrev afs:Abs.Sh:=(.st yg (.st IZ (.dat .bool (.st (.ptr (3,0) 6 0 0) ZL))))
abbrev ak0:Abs.gD:=(.arr Z1 false (.arr Z4 false (.arr .str false (.box 4 (.agg (.dat aR (.st AP (.st (.own Z4 (1,0)) dx))) .nil) YE))))
abbrev Qi:Abs.mg:=(.ptr (1,0) 8 0 0)
abbrev En:Abs.Ty:=(.row Z7)
abbrev Oi:Abs.Sh:=(.st ig .nil)
abbrev FV:Abs.Sh:=(.st ig dx)
abbrev VH:Abs.mg:=(.own Z30 (0,0))
abbrev afE:Abs.mg:=(.own jE (0,0))
abbrev aa7:Abs.gD:=(.arr .bool false .nil)
abbrev ak1:Abs.Sh:=(.agg (.dat aR (.dat .str (.st (.own Z6 (7,0)) lX))) .nil)
abbrev Xr:Abs.Ty:=(.row Z1)
abbrev Oz:Abs.gD:=(.arr Z6 false an6)
abbrev KT:Abs.gD:=(.box 8 uo .nil)
abbrev Zc:Abs.gD:=(.box 5 DU (.box 8 uo y9))
abbrev U6:Abs.Sh:=(.st yg (.st qK dx))
abbrev Io:Abs.mg:=(.own Z6 (0,0))
abbrev ah5:Abs.Sh:=(.dat .bool (.st sG (.dat Hq (.st Io (.st IZ (.dat aR (.st (.ptr (3,0) 8 0 0) (.st (.ptr (4,0) 5 0 0) lX))))))))
abbrev aht:Abs.Sh:=(.dat .bool (.st ig (.st sG (.dat .bool (.st IZ (.st EH (.dat aR (.st (.ptr (4,0) 8 0 0) dx))))))))
abbrev MK:Abs.Sh:=(.dat .bool dx)
abbrev MX:Abs.mg:=(.own zR (1,0))
abbrev ajL:Abs.Sh:=(.st gX (.st oD (.st oO (.st (.own aR (3,0)) (.st IX (.dat aR (.dat aR (.st Ia iF))))))))
abbrev ahF:Abs.Sh:=(.dat .bool (.st Vp (.dat Hq (.st yg (.st qK (.st EH (.st Md (.dat aR (.st Ia dx)))))))))
abbrev NQ:Abs.gD:=(.box 1 lJ .nil)
abbrev aeN:Abs.Sh:=(.dat aR (.dat (.row MC) (.st (.clo 189 []) dx)))
abbrev abE:Abs.gD:=(.arr Z1 false (.arr Z1 false YE))
abbrev Kw:Abs.Sh:=(.st Li .nil)
abbrev aaq:Abs.Sh:=(.dat .str (.dat (.int .u8) .nil))
abbrev akv:Abs.Sh:=(.st ig (.st sG (.st qK (.st EH (.st Md (.dat .bool (.dat aR (.st Ia .nil))))))))
abbrev Oc:Abs.Sh:=(.dat .str iF)
abbrev abI:Abs.jY:=(.more .ret ⟨[2],dx,.nil⟩ Ro1)
abbrev aaU:Abs.jY:=(.more .ret ⟨[6],fu,.nil⟩ Ro1)
abbrev Oa:Abs.Sh:=(.dat BX .nil)
abbrev afn:Abs.gD:=(.arr Z6 false (.box 6 Y2 (.box 6 Nz ahf)))
abbrev ajO:Abs.Sh:=(.dat .bool (.st ig (.st sG (.st qK (.dat aR (.st (.ptr (3,0) 8 0 0) Iy))))))
abbrev yc:Abs.Ty:=(.row Vo)
abbrev Rt5:Abs.Ty:=(.cons yc (.cons yc (.cons yc .unit)))
abbrev Mk:Abs.Sh:=(.st Lj .nil)
abbrev Ro6:Abs.jY:=(.one (.exit 0) ⟨[1,7],(.dat aR Mk),Ak⟩)
abbrev abD:Abs.mg:=(.clo 183 [((1,0),6,0,0)])
abbrev acp:Abs.Ty:=(.cons .str (.cons .str Z30))
abbrev ahp:Abs.Sh:=(.st ig (.st sG (.st qK (.st EH (.st Md (.dat aR (.st Ia fu)))))))
abbrev aiv:Abs.gD:=(.box 4 (.agg (.dat aR (.st (.own Z1 (2,0)) y5)) .nil) (.arr zR false Cg))
abbrev zk:Abs.Ty:=(.row Z4)
abbrev NS:Abs.Sh:=(.dat zk .nil)
abbrev R3:Abs.Sh:=(.st gX dx)
abbrev abe:Abs.mg:=(.ptr (0,0) 9 0 0)
abbrev V3:Abs.Sh:=(.st gX .nil)
abbrev WE:Abs.Sh:=(.st oD .nil)
abbrev PK:Abs.Sh:=(.st HV .nil)
abbrev ahd:Abs.mg:=(.own .str (0,0))
abbrev ajd:Abs.Sh:=(.agg (.dat aR (.st (.own Z1 (3,0)) (.st (.own Z4 (4,0)) dx))) .nil)
abbrev ab3:Abs.gD:=(.arr zR false .nil)
abbrev ajy:Abs.Sh:=(.st gX (.st oD (.st oO (.st (.own aR (3,0)) (.st IX dx)))))
abbrev abn:Abs.Sh:=(.st Vp (.st sG .nil))
abbrev ajE:Abs.Sh:=(.st gX (.st MX (.st zf (.dat yc (.st Gh (.dat aR EA))))))
abbrev akn:Abs.Sh:=(.st ig (.dat aR (.st Qi (.dat aR (.dat EG (.st qK lX))))))
abbrev Vh:Abs.gD:=(.box 4 Co .nil)
abbrev ahe:Abs.Sh:=(.st ig (.st yg dx))
abbrev WV:Abs.gD:=(.arr Z1 false CZ)
abbrev Qg:Abs.Sh:=(.dat jE dx)
abbrev afh:Abs.gD:=(.box 1 dx .nil)
abbrev U7:Abs.mg:=(.own jE (1,0))
abbrev afx:Abs.jY:=(.one (.exit 0) ⟨[0],iF,.nil⟩)
abbrev aiU:Abs.Sh:=(.dat Z1 (.dat Z2 (.dat aR Iy)))
abbrev af5:Abs.gD:=(.box 2 yo (.arr MC false .nil))
abbrev af8:Abs.gD:=(.box 2 yo (.arr Vo false .nil))
abbrev Wy:Abs.mg:=(.ptr (4,0) 4 0 0)
abbrev agu:Abs.gD:=(.box 2 yo (.arr Z2 false .nil))
abbrev aeT:Abs.gD:=(.box 2 yo (.arr Z7 false .nil))
abbrev VD:Abs.Sh:=(.dat .str dx)
abbrev aid:Abs.Sh:=(.dat EG dx)
abbrev V8:Abs.Sh:=(.dat BX dx)
abbrev Ud:Abs.Sh:=(.dat En dx)
abbrev akD:Abs.Sh:=(.dat Xr dx)
abbrev aiO:Abs.Sh:=(.agg (.dat aR (.dat .str (.st (.own Z6 (2,0)) lX))) .nil)
abbrev ajq:Abs.Sh:=(.st ig (.st sG (.dat .bool (.st IZ (.st EH ZL)))))
abbrev acO:Abs.jY:=(.more .ret ⟨[4],dx,XD⟩ (.one (.exit 0) ⟨[],.nil,XD⟩))
abbrev acJ:Abs.Sh:=(.agg (.dat aR (.dat .str (.st (.own Z6 (3,0)) lX))) .nil)
abbrev acV:Abs.jY:=(.one (.exit 0) ⟨[7],(.st LP .nil),(.arr Z1 false Cg)⟩)
abbrev SH:Abs.gD:=(.arr .bool false aa7)
abbrev acM:Abs.Sh:=(.st ig (.st sG (.dat .bool (.st IZ (.st EH lX)))))
abbrev adF:Abs.Sh:=(.st EH (.st Md (.dat .bool (.dat aR (.st Ia dx)))))
abbrev ael:Abs.Sh:=(.dat aR (.st AP (.st LP (.dat aR (.st oO .nil)))))
abbrev RH:Abs.Sh:=(.dat (.row MC) .nil)
abbrev adR:Abs.jY:=(.one (.exit 0) ⟨[5,0],(.dat aR (.st AP .nil)),XD⟩)
abbrev acS:Abs.Sh:=(.st ig (.dat aR (.st Qi (.dat aR (.st qK dx)))))
abbrev JX:Abs.Sh:=(.st Li dx)
abbrev ae4:Abs.gD:=(.box 5 DU (.box 6 Nz (.box 6 Y2 (.box 5 ak1 aau))))
abbrev Sb:Abs.gD:=(.arr aR false Ak)
abbrev ahO:Abs.Sh:=(.dat EG .nil)
abbrev NM:Abs.Sh:=(.dat En .nil)
abbrev Yt:Abs.Sh:=(.st (.own MC (1,0)) .nil)
abbrev YZ:Abs.Sh:=(.dat .bool (.st yP WE))
abbrev adx:Abs.Sh:=(.dat .bool (.dat En (.dat aR (.st yP .nil))))
abbrev Np:Abs.Sh:=(.dat MC .nil)
abbrev Pf:Abs.mg:=(.own Z4 (0,0))
abbrev adO:Abs.Sh:=(.dat aR (.dat .bool (.dat jE (.dat aR y5))))
abbrev Wj:Abs.jY:=(.one .ret ⟨[4],dx,Qb7⟩)
abbrev Pw:Abs.Sh:=(.st VH .nil)
abbrev ade:Abs.Sh:=(.dat En (.dat zk (.dat jE (.dat rC dx))))
abbrev Yz:Abs.Sh:=(.dat .bool (.st abe lX))
abbrev aeb:Abs.Sh:=(.agg (.dat aR (.st (.own Z1 (4,0)) y5)) .nil)
abbrev aes:Abs.Sh:=(.agg (.dat aR (.st (.own Z1 (3,0)) y5)) .nil)
abbrev YW:Abs.Sh:=(.dat aR (.st ig FH))
abbrev adX:Abs.mg:=(.ptr (2,0) 8 0 0)
abbrev ahY:Abs.Sh:=(.dat aR (.st zf .nil))
abbrev Tv:Abs.mg:=(.own .bool (0,0))
abbrev Tt:Abs.mg:=(.ptr (5,0) 4 0 0)
abbrev acQ:Abs.Sh:=(.st AP (.st LP (.dat aR (.st oO dx))))
abbrev adq:Abs.jY:=(.one .ret ⟨[6,7,8],UH,(.box 4 Co ab3)⟩)
def note:FuncId→Abs.Note
 |3=>⟨true,[0,1,2,6,7,8,9,11,13,14,15,16,17,18,19,27,41,42,43,47,48,49,81],false,fun _=> []⟩
 |9=>⟨true,[0,2],false,fun _=> []⟩
 |10=>⟨true,[0,1,2,4,5,6,7,8,9,10,11,12,13],false,fun|4=> [(0,1),(0,3),(1,3),(0,10),(1,10),(3,10),(5,10)]|_=> []⟩
 |11=>⟨true,[0,2],false,fun _=> []⟩
 |12=>⟨true,[0,1,4],false,fun _=> []⟩
 |13=>⟨true,[0,1,4,5,6,7,13],false,fun _=> []⟩
 |14=>⟨true,[0,1,4],false,fun _=> []⟩
 |15=>⟨true,[0,1,2,3,6,7,8,9,10,12,13,14,17,22,27,39,40,41,42,50,67,76],false,fun|8=> [(0,1)]|22=> [(7,8)]|_=> []⟩
 |16=>⟨true,[0,1,2,3,6,7,8,9,10,11,12,13,14,15,16,17,18,19,20,21,25,30,37,43,51,68,70,86,96,108],false,fun|25=> [(0,3)]|27=> [(0,10),(1,10),(5,10),(6,10)]|_=> []⟩
 |17=>⟨true,[0,1,2,3,4,5,34,39,53],false,fun _=> []⟩
 |18=>⟨true,[0,1,4,5,10,14,26],false,fun _=> []⟩
 |19=>⟨true,[0,1,4,12],false,fun _=> []⟩
 |20=>⟨true,[0,1,2,4,7],false,fun _=> []⟩
 |24=>⟨true,[0,2,3,4],false,fun _=> []⟩
 |25=>⟨true,[0,1,2,3,4,5,6,7,8,9,10,11,17,33],false,fun|13=> [(2,3)]|_=> []⟩
 |26=>⟨true,[0],false,fun _=> []⟩
 |27=>⟨true,[0,1,2,3,4,5,6,7,8,10,11,12,13,14,15,25,32,44,45,46,47,72,74,105,119],false,fun|15=> [(1,5),(1,6)]|16=> [(1,20),(4,20),(6,20),(9,20),(11,20),(13,20),(15,20),(16,20)]|_=> []⟩
 |28=>⟨true,[0,1,2,3,4,6,7,8,9,10,14,20],false,fun _=> []⟩
 |30=>⟨true,[0,1,2,3,4,5,7,9,10,11,12,27],false,fun _=> []⟩
 |32=>⟨true,[0,1,4],false,fun _=> []⟩
 |33=>⟨true,[0],false,fun _=> []⟩
 |34=>⟨true,[0,1,2,3,4,9,15,24],false,fun _=> []⟩
 |35=>⟨true,[0,1,2,3,4,9,15,24],false,fun _=> []⟩
 |36=>⟨true,[0,1,2,3,4,5,6,7,37,54,56,57,58,59,98,102],false,fun _=> []⟩
 |37=>⟨true,[0,1,2,3,4,5,6,7,8,38,43,86,91,109,114,125],false,fun|12=> [(12,14)]|_=> []⟩
 |38=>⟨true,[0,1,4,5,19,40],false,fun _=> []⟩
 |39=>⟨true,[0,2,3,5,6,7,8,9,17],false,fun _=> []⟩
 |40=>⟨true,[0,1,4],false,fun _=> []⟩
 |41=>⟨true,[0,1,2,3,4,5,6,7,8,9,10,11,12,13,14,15,16,28,35,56,88,118,121,165,182],false,fun|14=> [(1,8),(5,8),(7,8)]|23=> [(1,8)]|24=> [(1,16),(4,16),(5,16),(7,16),(9,16),(11,16),(12,16)]|_=> []⟩
 |42=>⟨true,[0,1,2,3,4,6,7,8,9,10,11,13,14,15,16,17,18,19,20,21,23,29,35,47,84,96,111,141],false,fun|13=> [(1,22),(4,22),(6,22),(8,22),(12,22),(14,22),(17,22),(18,22)]|27=> [(0,15),(2,15),(4,15),(6,15),(9,15),(0,16),(2,16),(4,16),(6,16),(9,16),(15,16)]|_=> []⟩
 |46=>⟨true,[0,1,2,3,4,5,6,7,12,31],false,fun _=> []⟩
 |47=>⟨true,[0,1,2,3,4,6,8,10,11,13,16,17,18,19,23,24,25,26,41,56,57,58,59],true,fun _=> []⟩
 |48=>⟨true,[0,1,2,3,4,5,6,7,8,13,24,48,68],true,fun _=> []⟩
 |49=>⟨true,[0,1,4,5,10,14,25],false,fun _=> []⟩
 |50=>⟨true,[0,1,4,5,6,7,16],false,fun _=> []⟩
 |51=>⟨true,[0,2,3,4,5,9],false,fun _=> []⟩
 |52=>⟨true,[0,1,4,5,6,7,8,23,35],false,fun|7=> [(3,19),(7,19),(13,19),(15,19)]|_=> []⟩
 |53=>⟨true,[0,1,4,5,6,7,8,13,17,62,67,80],false,fun|6=> [(3,8),(7,8),(3,9),(7,9),(8,9),(7,10)]|_=> []⟩
 |54=>⟨true,[0,1,2,3,4,5,6,7,42,47,100],false,fun|6=> [(1,10),(4,10),(6,10),(9,10),(1,11),(4,11),(6,11),(9,11),(10,11),(6,12),(9,12)]|_=> []⟩
 |55=>⟨true,[0,1,2,3,4,5,6,50,55,68,73,86],false,fun _=> []⟩
 |56=>⟨true,[0,2,3,4,7,10,14,47,54,61],false,fun _=> []⟩
 |57=>⟨true,[0,2,3,6,10,54],false,fun _=> []⟩
 |58=>⟨true,[0,1,2,6,7,8,9,16,29,47,50],false,fun _=> []⟩
 |59=>⟨true,[0,2,3,4,7,11,15],false,fun|9=> [(5,12)]|_=> []⟩
 |60=>⟨true,[0,1,4,5,6,7,11,17,29],false,fun _=> []⟩
 |62=>⟨true,[0,2,3,5,6,7,8,11],false,fun _=> []⟩
 |63=>⟨true,[0,1,3,4,5,6,7,17],false,fun|1=> [(1,2),(1,3)]|_=> []⟩
 |64=>⟨true,[0,1,2,3,4,14,15,16,17],true,fun|1=> [(2,4)]|5=> [(1,4)]|_=> []⟩
 |65=>⟨true,[0,1,4,5,9,10,11,12,29],true,fun _=> []⟩
 |66=>⟨true,[0,2,3,4,7,8,9,10,11,44],false,fun _=> []⟩
 |67=>⟨true,[0,1,2,4,5,10],false,fun _=> []⟩
 |68=>⟨true,[0,1,4,12],false,fun _=> []⟩
 |69=>⟨true,[0,1,2,4,7],false,fun _=> []⟩
 |70=>⟨true,[0,1,2,4,6,7],true,fun _=> []⟩
 |71=>⟨true,[0,1,2,6,7,8,9,16,22,31,68],true,fun _=> []⟩
 |72=>⟨true,[0,1,4],false,fun _=> []⟩
 |73=>⟨true,[0,1,2,3,4,5,6,10,11,12,13,14,15,16,31,46,59,68],false,fun _=> []⟩
 |74=>⟨true,[0,1,2,3,4],true,fun _=> []⟩
 |75=>⟨true,[0,1,2,3,4,6,7,8,9,10,11,12,13,14,15,16,23,24,25,26,52,53,54,55,83],false,fun|6=> [(1,13)]|13=> [(0,12),(2,12),(4,12),(6,12),(0,19),(2,19),(4,19),(6,19),(8,19),(9,19),(10,19),(12,19),(13,19),(0,20),(2,20),(4,20),(6,20),(8,20),(9,20),(10,20),(12,20),(13,20),(19,20)]|_=> []⟩
 |78=>⟨true,[0,2,3,4,5,6,10,14,15,16,17,25,33],false,fun _=> []⟩
 |79=>⟨true,[0,2,4,5,8,9,10,11,12,18],false,fun _=> []⟩
 |80=>⟨true,[0,2,3,4,7,11,18,29,46],false,fun _=> []⟩
 |81=>⟨true,[0,2,3,5,6,9,10,11,12,13,20],false,fun _=> []⟩
 |82=>⟨true,[0,1,2,3,4,25,27,28,29,30,52],false,fun _=> []⟩
 |83=>⟨true,[0,1,2,3,4,6],true,fun _=> []⟩
 |84=>⟨true,[0,1,2,3,6,10],false,fun _=> []⟩
 |85=>⟨true,[0,1,4],false,fun _=> []⟩
 |86=>⟨true,[0,1,2,3,4],true,fun|1=> [(8,10)]|_=> []⟩
 |87=>⟨true,[0,2,3,4,7,11,18,37,58,63,68],false,fun _=> []⟩
 |88=>⟨true,[0,1,2,3,4,35,40,96],false,fun|7=> [(7,9)]|_=> []⟩
 |89=>⟨true,[0,1,2,3,4,6],true,fun _=> []⟩
 |90=>⟨true,[0,1,2,3,6],false,fun _=> []⟩
 |91=>⟨true,[0,1,4],false,fun _=> []⟩
 |92=>⟨true,[0,1,2,3,4,5,6,10,11,12,13,14,15,16,29,33,47,49,55,95,109],false,fun|15=> [(1,5)]|_=> []⟩
 |93=>⟨true,[0,1,2,3,6,7,8,12,22],true,fun _=> []⟩
 |94=>⟨true,[0,1,2,3,4,5,8,9,10,11,12,13,21,33,41,60,73],false,fun _=> []⟩
 |95=>⟨true,[0,1,2,3,4,10,12],false,fun _=> []⟩
 |96=>⟨true,[0,1,2,3,4,5,8,9,10,11,12,13,14,15,16,17,18,19,20,21,29,34,47,62,77,82,115,116,124,136,158,181],false,fun|41=> [(1,2),(2,4)]|_=> []⟩
 |97=>⟨true,[0,1,4,5,6,12],false,fun _=> []⟩
 |98=>⟨true,[0,2],false,fun|1=> [(0,2),(0,6),(4,6),(0,7),(2,7),(4,7),(6,7),(0,9),(4,9),(7,9),(0,11)]|_=> []⟩
 |102=>⟨true,[0,2],false,fun _=> []⟩
 |103=>⟨true,[0,2,4],false,fun _=> []⟩
 |104=>⟨true,[0,1,2,3,13,18,27,28,33],false,fun _=> []⟩
 |105=>⟨true,[0,2,3,21,25,55],false,fun _=> []⟩
 |106=>⟨true,[0,2,3,6,10,22],false,fun _=> []⟩
 |107=>⟨true,[0,1,4,5,6,10,19],false,fun _=> []⟩
 |108=>⟨true,[0,1,4,5,9,18],false,fun _=> []⟩
 |109=>⟨true,[0,2,3,4,8,20],false,fun _=> []⟩
 |111=>⟨true,[0,2,3,4,8,9,10],false,fun _=> []⟩
 |112=>⟨true,[0,2,4],false,fun _=> []⟩
 |113=>⟨true,[0,1,2,3,10,11,12],true,fun|5=> [(1,9)]|_=> []⟩
 |114=>⟨true,[0,1,2],true,fun _=> []⟩
 |115=>⟨true,[0,2,3,4,21,23,24,25,47],false,fun _=> []⟩
 |116=>⟨true,[0,2,3,5,6,7,18],false,fun _=> []⟩
 |117=>⟨true,[0,1,2,6,7,9,12,13,14,15,25,37,41],false,fun _=> []⟩
 |118=>⟨true,[0,2,3,5,8,9,10,11,12],false,fun|7=> [(2,6)]|_=> []⟩
 |119=>⟨true,[0,1,4,5,7,8,9,10,11,17],false,fun _=> []⟩
 |120=>⟨true,[0,1,2,6,7,8,9,10,11,17,31],true,fun _=> []⟩
 |121=>⟨true,[0,1,2,3,5],true,fun _=> []⟩
 |123=>⟨true,[0,1],false,fun _=> []⟩
 |124=>⟨true,[0,1,2],false,fun _=> []⟩
 |125=>⟨true,[0,1,2,6],false,fun _=> []⟩
 |126=>⟨true,[0,1,2,4,5],false,fun _=> []⟩
 |127=>⟨true,[0,1,2,3,4,6,10,31,38,50],true,fun _=> []⟩
 |128=>⟨true,[0,1,2,6,7,8,9,16,22,31,68],true,fun _=> []⟩
 |129=>⟨true,[0,1,2,4,6,15,29],false,fun _=> []⟩
 |130=>⟨true,[0,1,2,4],true,fun _=> []⟩
 |131=>⟨true,[0,1,4,5,6,7,12,19,29],true,fun _=> []⟩
 |132=>⟨true,[0,1,2,3,4],true,fun _=> []⟩
 |133=>⟨true,[0,1,2,3,4,5,8,9,10,12,13,14,15,25,38,41,42,43,44,66],false,fun _=> []⟩
 |134=>⟨true,[0,1,2,3,4,5,8,9,10,11,12,13,14,15,16,17,18,29,45,56,65,66,67,68,101],false,fun|15=> [(1,10)]|23=> [(1,2),(2,4)]|_=> []⟩
 |135=>⟨true,[0,1,2,3,4,5,6,8,9,11,13,14,15,16,28],true,fun _=> []⟩
 |139=>⟨true,[0,1,2,4,5,28,39,49],false,fun _=> []⟩
 |140=>⟨true,[0,1,2,3,14,31],false,fun _=> []⟩
 |141=>⟨true,[0,2,3,7,15],false,fun _=> []⟩
 |142=>⟨true,[0,2,3,7,31],false,fun _=> []⟩
 |143=>⟨true,[0,1,2,4,5,15,36,41,46],false,fun _=> []⟩
 |144=>⟨true,[0,1,2],false,fun|1=> [(6,8)]|_=> []⟩
 |145=>⟨true,[0,1,2],true,fun _=> []⟩
 |146=>⟨true,[0,1,4,5,6,11,12,13,16,19],false,fun _=> []⟩
 |147=>⟨true,[0,1,4,5,7,8,9,16],true,fun _=> []⟩
 |148=>⟨true,[0,2],false,fun _=> []⟩
 |149=>⟨true,[0,1,2],false,fun _=> []⟩
 |150=>⟨true,[0,1,2],false,fun _=> []⟩
 |151=>⟨true,[0,1,2],true,fun _=> []⟩
 |152=>⟨true,[0,1,4,5,6,19],true,fun _=> []⟩
 |153=>⟨true,[0,1,2,6],true,fun _=> []⟩
 |154=>⟨true,[0,1,2,3,4,6,7,14,30],true,fun _=> []⟩
 |155=>⟨true,[0,1,2,3,4,5,8,9,18],true,fun _=> []⟩
 |156=>⟨true,[0,1,2,6,7,8,9,10,11,15,47],false,fun _=> []⟩
 |157=>⟨true,[0,1,2,6,7,8,12,22,26,64],false,fun _=> []⟩
 |158=>⟨true,[0,1,4,5,9,17],false,fun _=> []⟩
 |159=>⟨true,[0,2,4],false,fun _=> []⟩
 |160=>⟨true,[0,1,2,3,8,9,10,11,12,13,14,15,16,17,18,23,29,35,50,68,72,87,113],false,fun _=> []⟩
 |161=>⟨true,[0,2],false,fun _=> []⟩
 |162=>⟨true,[0,1,2],false,fun _=> []⟩
 |163=>⟨true,[0,1,2,4,5,11,12,18,24,30],false,fun _=> []⟩
 |165=>⟨true,[0,2,4],false,fun _=> []⟩
 |166=>⟨true,[0,2,4],false,fun _=> []⟩
 |167=>⟨true,[0,2,4],false,fun _=> []⟩
 |168=>⟨true,[0,1,4,5,6,7,8,9,10,11,18],false,fun _=> []⟩
 |169=>⟨true,[0,1,3,4],false,fun _=> []⟩
 |170=>⟨true,[0,2,3,4,7,8,9,20],false,fun _=> []⟩
 |171=>⟨true,[0,1,4,5,7,8,10,12,13,15,22,29,39,40,41,42,49,63,64,65,66],false,fun _=> []⟩
 |172=>⟨true,[0,1,4],false,fun _=> []⟩
 |173=>⟨true,[0,1],false,fun _=> []⟩
 |174=>⟨true,[0,1,2,6,7,8,9,10,11,17,31],false,fun _=> []⟩
 |175=>⟨true,[0,1,2,4],true,fun _=> []⟩
 |176=>⟨true,[0,1,2,6,7,16],true,fun _=> []⟩
 |178=>⟨true,[0,1],false,fun _=> []⟩
 |179=>⟨true,[0,2,4],false,fun _=> []⟩
 |180=>⟨true,[0,1,4,5,7,8,9,16],true,fun _=> []⟩
 |181=>⟨true,[0,1,2,3,4,5,8,9,10,11,13,14,24,25,26,27,37,42],true,fun|13=> [(7,11)]|_=> []⟩
 |182=>⟨true,[0,1,4,5,6,7,12,19,29],true,fun _=> []⟩
 |183=>⟨true,[0,1,2,3],true,fun _=> []⟩
 |184=>⟨true,[0,1,2],false,fun _=> []⟩
 |185=>⟨true,[0,1,2,3,4,10,12],false,fun _=> []⟩
 |186=>⟨true,[0,1,4],false,fun _=> []⟩
 |187=>⟨true,[0,1,2],false,fun _=> []⟩
 |188=>⟨true,[0,2,3,4,5,6,7,8,27],false,fun _=> []⟩
 |189=>⟨true,[0,1,2],false,fun _=> []⟩
 |190=>⟨true,[0,2],false,fun _=> []⟩
 |191=>⟨true,[0,1,2,6,7,11,26],false,fun|4=> [(5,10)]|_=> []⟩
 |192=>⟨true,[0,1,2,6,7,12,30],false,fun _=> []⟩
 |193=>⟨true,[0,1,2,6,7,8,9,10,19,30],false,fun _=> []⟩
 |194=>⟨true,[0,1,2,6,7,8,9,10,15,33,43],false,fun _=> []⟩
 |195=>⟨true,[0,1,2,6,7,8,9,10,11,12,32,34,49,51,54],false,fun _=> []⟩
 |196=>⟨true,[0,1,2,6,7,13],false,fun _=> []⟩
 |197=>⟨true,[0,1,2,6,7,8,9,10,14,32,37,41,61,65,78,98,103,116],false,fun _=> []⟩
 |198=>⟨true,[0,1,4],false,fun _=> []⟩
 |199=>⟨true,[0,1,2,3,8,9,10,43,59,64],false,fun _=> []⟩
 |200=>⟨true,[0,1,2,3,8,9,10,11,43,60,65,112,129,134],false,fun _=> []⟩
 |201=>⟨true,[0,2,4,8],false,fun _=> []⟩
 |202=>⟨true,[0,2,4,8,14],false,fun _=> []⟩
 |203=>⟨true,[0,1,4,5,9,18],false,fun _=> []⟩
 |204=>⟨true,[0,1,4,5,6,7,8,18,28,34,54],false,fun _=> []⟩
 |205=>⟨true,[0,1,2,3],true,fun _=> []⟩
 |206=>⟨true,[0,1,2,4,5,11,12,18,24,30],false,fun _=> []⟩
 |207=>⟨true,[0,1,4],false,fun _=> []⟩
 |208=>⟨true,[0,2],false,fun _=> []⟩
 |209=>⟨true,[0,1,7,21],false,fun _=> []⟩
 |210=>⟨true,[0,1,4,5],false,fun _=> []⟩
 |211=>⟨true,[0,1,4,5,7,8,9,16],false,fun _=> []⟩
 |212=>⟨true,[0,2,3,9],true,fun _=> []⟩
 |213=>⟨true,[0,1],false,fun _=> []⟩
 |214=>⟨true,[0,1,2,6,7,9,10,11,12,13,41],false,fun _=> []⟩
 |215=>⟨true,[0,1,2,6,8,10,11,12,13,14,21,22,23,24,25,45],false,fun _=> []⟩
 |216=>⟨true,[0,1,4,5,7,8,9,16],false,fun _=> []⟩
 |217=>⟨true,[0,1,2],false,fun _=> []⟩
 |218=>⟨true,[0,2],false,fun _=> []⟩
 |219=>⟨true,[0,1,2,3,8,9,16,36,52],false,fun _=> []⟩
 |220=>⟨true,[0,2],false,fun _=> []⟩
 |221=>⟨true,[0,2],false,fun _=> []⟩
 |222=>⟨true,[0,1,2,6],false,fun _=> []⟩
 |223=>⟨true,[0,1,2,3,4,10],false,fun _=> []⟩
 |224=>⟨true,[0,1,4,6,7,8,9,10,16],false,fun _=> []⟩
 |225=>⟨true,[0,1,4,5,6,7,8,12,13,28,52],false,fun _=> []⟩
 |226=>⟨true,[0,6,19],false,fun _=> []⟩
 |227=>⟨true,[0,1,4],false,fun|0=> [(8,12)]|_=> []⟩
 |228=>⟨true,[0,2,3,9],true,fun _=> []⟩
 |229=>⟨true,[0,1,2,3,4,6],false,fun _=> []⟩
 |230=>⟨true,[0,1,2,3,8,9,18],false,fun _=> []⟩
 |231=>⟨true,[0,1,4,5,6,12,21,34],false,fun _=> []⟩
 |234=>⟨true,[0,1,4],false,fun _=> []⟩
 |235=>⟨true,[0,1,2,4],true,fun|1=> [(2,3)]|_=> []⟩
 |236=>⟨true,[0,1,4,13],false,fun _=> []⟩
 |237=>⟨true,[0,1,4,16],false,fun _=> []⟩
 |238=>⟨true,[0,2,3,4,5,9,16],false,fun _=> []⟩
 |239=>⟨true,[0,1,4,7,12],false,fun _=> []⟩
 |240=>⟨true,[0,1,4,7,15],false,fun _=> []⟩
 |241=>⟨true,[0,1,4,5,6,9,18],false,fun _=> []⟩
 |242=>⟨true,[0,1,4,5,6,9,17,26],false,fun _=> []⟩
 |243=>⟨true,[0,1,4,5,7,8,9,16],false,fun _=> []⟩
 |244=>⟨true,[0,1,4],false,fun _=> []⟩
 |245=>⟨true,[0,2,3,10],false,fun _=> []⟩
 |246=>⟨true,[0,1,4],false,fun _=> []⟩
 |247=>⟨true,[0,2,3,4,5,6,10,18,27,33,35,48],false,fun _=> []⟩
 |248=>⟨true,[0,2,3,4,5,6,7,8,9,10,11,12,16,23,45,57,59,75,77,98],false,fun _=> []⟩
 |249=>⟨true,[0,1,4,5,6,7,8,9,10,11,12,13,14,15,16,26,33,43,51,64,98,108,124,139,143,156,160,171,175,176,177,181,183],false,fun _=> []⟩
 |250=>⟨true,[0,2],false,fun _=> []⟩
 |251=>⟨true,[0,1,4],false,fun _=> []⟩
 |252=>⟨true,[0,2,3,10],false,fun _=> []⟩
 |253=>⟨true,[0,2],false,fun _=> []⟩
 |255=>⟨true,[0,1,4],false,fun _=> []⟩
 |_=>⟨false,[],false,fun _=> []⟩
theorem good:Abs.Good Tryz.prog note:=Abs.acs (by kernel_rfl)
theorem C9:(Tryz.prog).follows .mixedOrders=true:=by kernel_rfl
def T9:FuncId→Option Nat:=Abs.ahk [(52,1)]
def XC:FuncId→Option Abs.gQ:=Abs.Mg [(170,Abs.D8 Abs.K5),(171,Abs.D8 Abs.Qa),(176,Abs.abd Z6),(47,Abs.Tq),(238,Abs.Cz),(240,Abs.Cz),(239,Abs.Cz),(242,Abs.Cz),(241,Abs.Cz),(71,Abs.xW Z1),(128,Abs.xW Z6)]
theorem KY:∀f q,XC f=some q→Abs.fD Tryz.prog f q:=Abs.U4 _ (by
 intro p hp;simp only[apD,List.not_mem_nil,or_false]at hp;rcases hp with rfl|rfl|rfl|rfl|rfl|rfl|rfl|rfl|rfl|rfl|rfl
 ·exact acw
 ·exact abx
 ·exact aaG Z6 rfl
 ·exact Fr.afP
 ·exact Abs.qM
 ·exact Abs.qM
 ·exact Abs.qM
 ·exact Abs.qM
 ·exact Abs.qM
 ·exact Ig.agj Z1 rfl
 ·exact aax Z6 rfl
)
abbrev dz(f:FuncId)(s:Abs.Spec):Prop:=Abs.gN Tryz.prog f s
def bA{β:Type}:List (Nat×β)→Nat→Option β
 | [],_=>none
 |(k,x)::r,n=>bif n==k then some x else bA r n
def bE{α β:Type}:α→Option β:=fun _=>none
def fq:Nat→Nat→Nat:=fun _ _=>0
def tT:Nat→Abs.fo:=fun _=>{}
theorem okW{l:List (FuncId×Abs.Spec)}(an:Nat→Abs.fo){f:FuncId}{sp:Abs.Spec}(hl:∀p∈l,dz p.1 p.2)(hon:(note f).on=true:=by rfl)(h:∀v,(Abs.bodyC Tryz.prog note XC T9 (Abs.wH l) an 12 f sp.keep sp.σi sp.σo v).mean=sp.m v:=by intro v;kernel_rfl):dz f sp:=
 Abs.xR (C:=XC) (mv:=T9) KY (n:=12) good C9 (Abs.l9 l hl) hon h
theorem dQ:∀p∈([]:List (FuncId×Abs.Spec)),dz p.1 p.2:=fun _ h=>by cases h
theorem bq{f:FuncId}{sp:Abs.Spec}{l:List (FuncId×Abs.Spec)}(h:dz f sp)(t:∀p∈l,dz p.1 p.2):∀p∈(f,sp)::l,dz p.1 p.2:=List.forall_mem_cons.2 ⟨h,t⟩
def i9:Abs.Sg:=⟨[0],(.dat rIz .nil),.nil⟩
def m9(v:(E5×Unit)):Option eT:=
some ((decide ((v.1.1.length:Int)≤500),()),())
def sp9:Abs.Spec:=⟨0,i9,⟨[2],fu,.nil⟩,m9⟩
theorem ok9:dz 9 sp9:=okW tT dQ
def uh(v:aal):Option (aal⊕(eT⊕rz)):=
bif decide (v.1.1<v.1.2.2.1)then bif decide (0≤v.1.1∧v.1.1<v.1.2.1.size)then
((let b:=(decide (((((v.1.2.1[v.1.1.toNat]?.getD 0).toNat:Nat):Int):Int)<97))
bif b then let c:=(decide (((((v.1.2.1[v.1.1.toNat]?.getD 0).toNat:Nat):Int):Int)<48))
bif c then let d:=(((((v.1.2.1[v.1.1.toNat]?.getD 0).toNat:Nat):Int):Int) !=95)
some ((d,v.1.2.1,v.1.2.2.1,v.1.1,()),())
else let e:=(decide (((((v.1.2.1[v.1.1.toNat]?.getD 0).toNat:Nat):Int):Int)>57))
bif e then let f:=(((((v.1.2.1[v.1.1.toNat]?.getD 0).toNat:Nat):Int):Int) !=95)
some ((f,v.1.2.1,v.1.2.2.1,v.1.1,()),())
else some ((false,v.1.2.1,v.1.2.2.1,v.1.1,()),())
else let g:=(decide (((((v.1.2.1[v.1.1.toNat]?.getD 0).toNat:Nat):Int):Int)>122))
bif g then let h:=(decide (((((v.1.2.1[v.1.1.toNat]?.getD 0).toNat:Nat):Int):Int)<48))
bif h then let j:=(((((v.1.2.1[v.1.1.toNat]?.getD 0).toNat:Nat):Int):Int) !=95)
some ((j,v.1.2.1,v.1.2.2.1,v.1.1,()),())
else let k:=(decide (((((v.1.2.1[v.1.1.toNat]?.getD 0).toNat:Nat):Int):Int)>57))
bif k then let l:=(((((v.1.2.1[v.1.1.toNat]?.getD 0).toNat:Nat):Int):Int) !=95)
some ((l,v.1.2.1,v.1.2.2.1,v.1.1,()),())
else some ((false,v.1.2.1,v.1.2.2.1,v.1.1,()),())
else some ((false,v.1.2.1,v.1.2.2.1,v.1.1,()),())):Option ad1).bind fun a=>
bif a.1.1 then some (.inr (.inl ((false,()),())))
else some (.inl ((aP (a.1.2.2.2.1+1),a.1.2.1,a.1.2.2.1,()),()))
else none
else(some (.inr (.inr ((),()))))
def UO(v:Fx):Option eT:=
((bif v.1.1.toList==ByteArray.empty.toList then some ((true,v.1),())
else bif decide ((v.1.1.size:Int)>24)then some ((true,v.1),())
else bif decide ((0:Int)≤0∧(0:Int)<v.1.1.size)then
let b:=(decide (((((v.1.1[0]?.getD 0).toNat:Nat):Int):Int)<97))
bif b then some ((true,v.1),())
else bif decide ((0:Int)≤0∧(0:Int)<v.1.1.size)then
let c:=(decide (((((v.1.1[0]?.getD 0).toNat:Nat):Int):Int)>122))
some ((c,v.1),())
else none
else none):Option ((Bool×ByteArray×Unit)×Unit)).bind fun a=>
bif a.1.1 then some ((false,()),())
else((aC uh ((0,a.1.2.1,(a.1.2.1.size:Int),()),())).bind fun d=>
aA d (fun e=>(some e)) (fun f=>(some ((true,()),()))))
def aiF:Abs.Spec:=⟨0,⟨[0],iF,.nil⟩,⟨[2],fu,.nil⟩,UO⟩
def ais:Nat→Abs.fo
 |0=>.mk (bA [(7,⟨[47,0,23,24],(.dat .bool (.dat .str lX)),.nil⟩),(1,⟨[21,0],(.dat .bool iF),.nil⟩)]) bE (bA [(4,⟨⟨[24,0,23],(.dat aR VD),.nil⟩,ZJ⟩)]) fq
 |_=>{}
theorem Xh:dz 115 aiF:=okW ais dQ
def tV(v:aal):Option (aal⊕(eT⊕Fx)):=
bif decide (v.1.1<v.1.2.2.1)then((bif decide (0≤v.1.1∧v.1.1<v.1.2.1.size)then
let b:=(decide (((((v.1.2.1[v.1.1.toNat]?.getD 0).toNat:Nat):Int):Int)<32))
bif b then some ((true,v.1.2.1,v.1.2.2.1,v.1.1,()),())
else bif decide (0≤v.1.1∧v.1.1<v.1.2.1.size)then
let c:=(decide (((((v.1.2.1[v.1.1.toNat]?.getD 0).toNat:Nat):Int):Int)>126))
some ((c,v.1.2.1,v.1.2.2.1,v.1.1,()),())
else none
else none):Option ad1).bind fun a=>
bif a.1.1 then some (.inr (.inl ((false,()),())))
else some (.inl ((aP (a.1.2.2.2.1+1),a.1.2.1,a.1.2.2.1,()),()))
else(some (.inr (.inr ((v.1.2.1,()),()))))
def YD(v:Fx):Option eT:=
(aC tV ((0,v.1.1,(v.1.1.size:Int),()),())).bind fun a=>
aA a (fun b=>(some b)) (fun c=>(some ((decide ((c.1.1.size:Int)≤64),()),())))
def ajU:Abs.Spec:=⟨0,⟨[0],iF,.nil⟩,⟨[2],fu,.nil⟩,YD⟩
def ah0:Nat→Abs.fo
 |0=>.mk (bA [(4,⟨[18,0,5,6],(.dat .bool (.dat .str lX)),.nil⟩)]) bE (bA [(2,⟨⟨[6,0,5],(.dat aR VD),.nil⟩,(.more .ret ⟨[2],fu,.nil⟩ afx)⟩)]) fq
 |_=>{}
theorem acN:dz 116 ajU:=okW ah0 dQ
def WM(v:Te):Option eT:=
(((UO ((v.1.1.1,()),())).bind fun a=>
bif a.1.1 then bif decide (v.1.1.2.1≥0)then bif decide (v.1.1.2.1≤3)then(YD (v.1.1.2.2,())).bind fun b=>
some b
else some ((false,()),())
else some ((false,()),())
else some ((false,()),())):Option eT).bind fun c=>
some c
def ail:Abs.Spec:=⟨0,⟨[0],Np,.nil⟩,⟨[2],fu,.nil⟩,WM⟩
def ai8:Nat→Abs.fo
 |0=>.mk (bA [(1,⟨[2],fu,.nil⟩)]) bE bE fq
 |_=>{}
theorem ad8:dz 217 ail:=okW ai8 (bq Xh (bq acN dQ))
def ab8(v:Te):Option eT:=
(WM v).bind fun a=>
some ((!a.1.1,()),())
def aiR:Abs.Spec:=⟨0,⟨[0],Np,.nil⟩,⟨[2],fu,.nil⟩,ab8⟩
theorem ali:dz 187 aiR:=okW tT (bq ad8 dQ)
def aaP(v:Fx):Option eT:=
(UO v).bind fun a=>
some a
def akF:Abs.Spec:=⟨0,⟨[0],iF,.nil⟩,⟨[2],fu,.nil⟩,aaP⟩
theorem akL:dz 218 akF:=okW tT (bq Xh dQ)
def vI(v:akx):Option (akx⊕(eT⊕rz)):=
bif decide (v.1.1<v.1.2.2.2.1)then Abs.rowAt v.1.2.2.1 v.1.1 fun b _=>
(((aaP ((b,()),())).bind fun d=>
bif !d.1.1 then some ((true,v.1.2.1,v.1.2.2.1,v.1.2.2.2.1,v.1.1,()),())
else bif decide (v.1.1>0)then Abs.rowAt v.1.2.1 (aP (v.1.1-1)) fun c _=>
some ((Op.bytesLess b.toList c.toList||b.toList==c.toList,v.1.2.1,v.1.2.2.1,v.1.2.2.2.1,v.1.1,()),())
else some ((false,v.1.2.1,v.1.2.2.1,v.1.2.2.2.1,v.1.1,()),())):Option ((Bool×List ByteArray×List ByteArray×Int×Int×Unit)×Unit)).bind fun a=>
bif a.1.1 then some (.inr (.inl ((false,()),())))
else some (.inl ((aP (a.1.2.2.2.2.1+1),a.1.2.1,a.1.2.2.1,a.1.2.2.2.1,()),()))
else(some (.inr (.inr ((),()))))
def WL(v:(X8×Unit)):Option eT:=
(aC vI ((0,v.1.1,v.1.1,(v.1.1.length:Int),()),())).bind fun a=>
aA a (fun b=>(some b)) (fun c=>(some ((true,()),())))
def ahm:Abs.Spec:=⟨0,⟨[0],Iy,.nil⟩,⟨[2],fu,.nil⟩,WL⟩
def aj7:Nat→Abs.fo
 |0=>.mk (bA [(4,⟨[27,0,5,6,7],(.dat .bool (.dat Hq (.dat Hq lX))),.nil⟩)]) bE (bA [(2,⟨⟨[7,0,5,6],(.dat aR (.dat Hq (.dat Hq dx))),.nil⟩,ZJ⟩)]) fq
 |_=>{}
theorem aex:dz 188 ahm:=okW aj7 (bq akL dQ)
def vP(v:Ol):Option (Ol⊕(tL⊕rz)):=
bif decide (v.1.1<v.1.2.2.1)then Abs.rowAt v.1.2.1 v.1.1 fun a _=>
(ab8 ((a,()),())).bind fun b=>
bif b.1.1 then some (.inr (.inl ((v.1.1,()),())))
else some (.inl ((aP (v.1.1+1),v.1.2),()))
else(some (.inr (.inr ((),()))))
def aac(v:((Y8×Int×Unit)×Unit)):Option tL:=
((bif v.1.2.1==0 then bif v.1.1.1 !=(-1)then some ((true,()),(v.1.1,()),())
else bif decide (v.1.2.1>0)then bif decide (v.1.1.1<0)then some ((true,()),(v.1.1,()),())
else some ((decide (v.1.1.1≥v.1.2.1),()),(v.1.1,()),())
else some ((false,()),(v.1.1,()),())
else bif decide (v.1.2.1>0)then bif decide (v.1.1.1<0)then some ((true,()),(v.1.1,()),())
else some ((decide (v.1.1.1≥v.1.2.1),()),(v.1.1,()),())
else some ((false,()),(v.1.1,()),())):Option (nW×Qe)).bind fun c=>
bif c.1.1 then some ((3,()),())
else(((let d:=(decide ((c.2.1.1.2.1.length:Int)>8))
bif d then some ((true,()),c.2)
else let e:=(decide ((c.2.1.1.2.2.2.1.length:Int)>12))
some ((e,()),c.2)):Option (nW×Qe)).bind fun b=>
bif b.1.1 then some ((5,()),())
else(((((aC vP ((0,b.2.1.1.2.1,(b.2.1.1.2.1.length:Int),()),())).bind fun f=>
aA f (fun g=>(some ((decide (g.1.1≥0),()),()))) (fun o=>(some ((false,()),())))):Option eT).bind fun h=>
bif h.1.1 then some ((true,()),b.2)
else(WL ((b.2.1.1.2.2.2.1,()),())).bind fun j=>
some ((!j.1.1,()),b.2)):Option (nW×Qe)).bind fun a=>
bif a.1.1 then some ((8,()),())
else((bif decide (a.2.1.1.2.2.1<0)then some ((true,()),())
else bif decide (a.2.1.1.2.2.2.2.1<0)then some ((true,()),())
else let k:=(decide (a.2.1.1.2.2.2.2.1>a.2.1.1.2.2.2.2.2.1))
bif k then some ((true,()),())
else let l:=(decide (a.2.1.1.2.2.2.2.2.1>a.2.1.1.2.2.2.2.2.2.1))
bif l then some ((true,()),())
else let m:=(decide (a.2.1.1.2.2.2.2.2.2.1>604800))
bif m then some ((true,()),())
else some ((a.2.1.1.2.2.2.2.2.2.1==0,()),())):Option eT).bind fun n=>
bif n.1.1 then some ((1,()),())
else some ((0,()),()))
def ahx:Abs.Spec:=⟨0,⟨[0,1],(.dat Z2 dx),.nil⟩,⟨[4],dx,.nil⟩,aac⟩
def ajg:Nat→Abs.fo
 |0=>.mk (bA [(7,⟨[49],fu,.nil⟩),(5,⟨[39,2],(.dat .bool U1),KT⟩),(3,⟨[28,2],(.dat .bool U1),KT⟩),(1,⟨[5,2],(.dat .bool U1),KT⟩)]) bE bE (fun
  |5,2=>1
  |_,_=>0)
 |1=>.mk (bA [(1,⟨[4],fu,.nil⟩)]) bE bE (fun
  |1,2=>2
  |_,_=>0)
 |2=>.mk bE bE (bA [(2,⟨⟨[8,0,1,7],(.dat aR (.dat (.row MC) (.st (.clo 187 []) dx))),.nil⟩,Ro3⟩)]) fq
 |_=>{}
theorem ak9:dz 139 ahx:=okW ajg (bq ali (bq aex dQ))
def Fv(v:ae2):Option (ae2⊕(tL⊕aam)):=
bif decide (v.1.1<v.1.2.2.2.1)then Abs.rowAt v.1.2.1 v.1.1 fun b _=>
(aac ((b,v.1.1,()),())).bind fun a=>
bif a.1.1 !=0 then some (.inr (.inl a))
else some (.inl ((aP (v.1.1+1),v.1.2),()))
else(some (.inr (.inr ((v.1.2.2.1,()),()))))
def m78(v:aam):Option tL:=
bif (v.1.1.length:Int)==0 then some ((7,()),())
else(bif decide ((v.1.1.length:Int)>24)then some ((5,()),())
else(aC Fv ((0,v.1.1,v.1.1,(v.1.1.length:Int),()),())).bind fun a=>
aA a (fun b=>(some b)) (fun c=>(Abs.rowAt c.1.1 0 fun d _=>
bif decide ((d.2.1.length:Int)>0)then some ((8,()),())
else some ((0,()),()))))
def amN:Abs.Spec:=⟨0,⟨[0],Oa,.nil⟩,⟨[2],dx,.nil⟩,m78⟩
def amU:Nat→Abs.fo
 |0=>.mk bE bE (bA [(6,⟨⟨[16,14,0,15],(.dat aR (.dat BX V8)),.nil⟩,(.more .ret ⟨[2],dx,.nil⟩ (.one (.exit 1) ⟨[0],Oa,.nil⟩))⟩)]) fq
 |_=>{}
theorem afX:dz 78 amN:=okW amU (bq ak9 dQ)
def TW(v:Te):Option eT:=
(WM v).bind fun a=>
some ((!a.1.1,()),())
def ai6:Abs.Spec:=⟨0,⟨[0],Np,.nil⟩,⟨[2],fu,.nil⟩,TW⟩
theorem adw:dz 189 ai6:=okW tT (bq ad8 dQ)
def wB(v:Ol):Option (Ol⊕(tL⊕rz)):=
bif decide (v.1.1<v.1.2.2.1)then Abs.rowAt v.1.2.1 v.1.1 fun a _=>
(TW ((a,()),())).bind fun b=>
bif b.1.1 then some (.inr (.inl ((v.1.1,()),())))
else some (.inl ((aP (v.1.1+1),v.1.2),()))
else(some (.inr (.inr ((),()))))
def vX(v:Ol):Option (Ol⊕(tL⊕rz)):=
bif decide (v.1.1<v.1.2.2.1)then Abs.rowAt v.1.2.1 v.1.1 fun a _=>
(TW ((a,()),())).bind fun b=>
bif b.1.1 then some (.inr (.inl ((v.1.1,()),())))
else some (.inl ((aP (v.1.1+1),v.1.2),()))
else(some (.inr (.inr ((),()))))
def ac5(v:((aas×Unit)×Unit)):Option tL:=
((bif (v.1.1.1.length:Int)==0 then some ((true,()),v)
else some (((v.1.1.2.1.length:Int)==0,()),v)):Option (nW×Vd)).bind fun a=>
bif a.1.1 then some ((7,()),())
else(((let c:=(decide ((a.2.1.1.1.length:Int)>8))
bif c then some ((true,()),a.2)
else let d:=(decide ((a.2.1.1.2.1.length:Int)>8))
bif d then some ((true,()),a.2)
else let e:=(decide ((a.2.1.1.2.2.1.length:Int)>12))
some ((e,()),a.2)):Option (nW×Vd)).bind fun b=>
bif b.1.1 then some ((5,()),())
else(((((aC wB ((0,b.2.1.1.1,(b.2.1.1.1.length:Int),()),())).bind fun f=>
aA f (fun g=>(some ((decide (g.1.1≥0),()),()))) (fun o=>(some ((false,()),())))):Option eT).bind fun h=>
bif h.1.1 then some ((true,()),())
else(((aC vX ((0,b.2.1.1.2.1,(b.2.1.1.2.1.length:Int),()),())).bind fun j=>
aA j (fun k=>(some ((decide (k.1.1≥0),()),()))) (fun p=>(some ((false,()),())))):Option eT).bind fun l=>
bif l.1.1 then some ((true,()),())
else(WL (b.2.1.1.2.2,())).bind fun m=>
some ((!m.1.1,()),())):Option eT).bind fun n=>
bif n.1.1 then some ((8,()),())
else some ((0,()),()))
def ajp:Abs.Spec:=⟨0,⟨[0],(.dat Z7 .nil),.nil⟩,⟨[2],dx,.nil⟩,ac5⟩
def ahq:Nat→Abs.fo
 |0=>.mk (bA [(5,⟨[31],fu,.nil⟩),(3,⟨[14,1],(.dat .bool (.st yP .nil)),Uj⟩),(1,⟨[3,1],(.dat .bool (.st yP .nil)),Uj⟩)]) bE bE (fun
  |5,6=>3
  |5,2=>1
  |_,_=>0)
 |1=>.mk (bA [(1,⟨[4],fu,.nil⟩)]) bE bE (fun
  |1,2=>2
  |_,_=>0)
 |2=>.mk bE bE (bA [(2,⟨⟨[8,0,1,7],aeN,.nil⟩,Ro3⟩)]) fq
 |3=>.mk (bA [(1,⟨[4],fu,.nil⟩)]) bE bE (fun
  |1,2=>4
  |_,_=>0)
 |4=>.mk bE bE (bA [(2,⟨⟨[8,0,1,7],aeN,.nil⟩,Ro3⟩)]) fq
 |_=>{}
theorem ak5:dz 140 ajp:=okW ahq (bq adw (bq aex dQ))
def F9(v:((Int×ED×Int×Unit)×Unit)):Option (((Int×ED×Int×Unit)×Unit)⊕(tL⊕rz)):=
bif decide (v.1.1<v.1.2.2.1)then Abs.rowAt v.1.2.1 v.1.1 fun b _=>
(ac5 ((b,()),())).bind fun a=>
bif a.1.1 !=0 then some (.inr (.inl a))
else some (.inl ((aP (v.1.1+1),v.1.2),()))
else(some (.inr (.inr ((),()))))
def m79(v:((ED×Unit)×Unit)):Option tL:=
bif decide ((v.1.1.length:Int)>12)then some ((5,()),())
else((aC F9 ((0,v.1.1,(v.1.1.length:Int),()),())).bind fun a=>
aA a (fun b=>(some b)) (fun c=>(some ((0,()),()))))
def amC:Abs.Spec:=⟨0,⟨[0],NM,.nil⟩,⟨[2],dx,.nil⟩,m79⟩
def ann:Nat→Abs.fo
 |0=>.mk bE bE (bA [(4,⟨⟨[11,9,10],(.dat aR Ud),.nil⟩,abI⟩)]) fq
 |_=>{}
theorem ams:dz 79 amC:=okW ann (bq ak5 dQ)
def m34(v:(Cn×Unit)):Option tL:=
(m78 ((v.1.1.1,()),())).bind fun a=>
bif a.1.1 !=0 then some a
else((m79 ((v.1.1.2.1,()),())).bind fun b=>
bif b.1.1 !=0 then some b
else((bif decide (v.1.1.2.2.1<0)then some ((true,()),())
else some ((decide (v.1.1.2.2.1>604800),()),())):Option eT).bind fun c=>
bif c.1.1 then some ((1,()),())
else some ((0,()),()))
def aos:Abs.Spec:=⟨0,⟨[0],lN,.nil⟩,⟨[2],dx,.nil⟩,m34⟩
def anX:Nat→Abs.fo
 |0=>.mk (bA [(7,⟨[24],fu,.nil⟩)]) bE bE fq
 |_=>{}
theorem afy:dz 34 aos:=okW anX (bq afX (bq ams dQ))
def m26(v:rz):Option (Unit×(rA×Unit)):=
some ((),((0,1,()),()),())
def amI:Abs.Spec:=⟨0,⟨[],.nil,.nil⟩,⟨[0],V3,Vh⟩,m26⟩
theorem ahs:dz 26 amI:=okW tT dQ
def EP(v:acW):Option (acW⊕SS):=
bif decide (v.1.1<v.1.2.2.2.2.1)then((Abs.rowAt v.1.2.2.2.1 v.1.1 fun b _=>
((bif b.2.2.2.1 !=(-1)then bif !v.1.2.2.1 then some ((true,v.1.2.2.2.1,v.1.2.2.2.2.1,v.1.1,v.1.2.1,v.1.2.2.1,()),(b,()),())
else some ((decide (b.2.2.2.1<v.1.2.1),v.1.2.2.2.1,v.1.2.2.2.2.1,v.1.1,v.1.2.1,v.1.2.2.1,()),(b,()),())
else some ((false,v.1.2.2.2.1,v.1.2.2.2.2.1,v.1.1,v.1.2.1,v.1.2.2.1,()),(b,()),())):Option ((Bool×List Y3×Int×Int×Int×Bool×Unit)×LA)).bind fun a=>
bif a.1.1 then some ((a.2.1.1.2.2.2.1,true,a.1.2.1,a.1.2.2.1,a.1.2.2.2.1,()),())
else some ((a.1.2.2.2.2.1,a.1.2.2.2.2.2.1,a.1.2.1,a.1.2.2.1,a.1.2.2.2.1,()),())):Option ((Int×Bool×List Y3×Int×Int×Unit)×Unit)).bind fun c=>
some (.inl ((aP (c.1.2.2.2.2.1+1),c.1.1,c.1.2.1,c.1.2.2.1,c.1.2.2.2.1,()),()))
else(some (.inr ((v.1.2.2.1,v.1.2.1,()),())))
def m30(v:(JL×Unit)):Option U5:=
(aC EP ((0,0,false,v.1.1.2.1,(v.1.1.2.1.length:Int),()),())).bind fun a=>
some ((a.1.2.1,a.1.1,()),())
def anB:Abs.Spec:=⟨0,⟨[0],yh,.nil⟩,⟨[2,3],FH,.nil⟩,m30⟩
def amg:Nat→Abs.fo
 |0=>.mk (bA [(5,⟨[27,9,10,11,7,4,5],(.dat .bool (.dat Xr (.dat aR YW))),y9⟩)]) (bA [(7,(⟨[4,5,9,10,11],(.dat aR (.dat .bool (.dat Xr lX))),.nil⟩,none))]) (bA [(3,⟨⟨[11,4,5,9,10],(.dat aR (.dat aR (.dat .bool akD))),.nil⟩,(.one (.exit 0) ⟨[5,4],MK,.nil⟩)⟩)]) fq
 |_=>{}
theorem aic:dz 30 anB:=okW amg dQ
def ab7(v:(aiE×Unit)):Option (Unit×aiE):=
bif decide (v.1.1.length≤4294967296)then some ((),v.1)else none
def aj3:Abs.Spec:=⟨0,⟨[0],(.dat Xr .nil),.nil⟩,⟨[2],(.st AP .nil),Cg⟩,ab7⟩
theorem ai1:Abs.gN Tryz.prog 112 aj3:=
 Abs.uM (N:=note) (t:=Z1) C9 (Abs.qI (n:=12) (an:=fun _=>{}) (T:=Abs.wH []) good C9 (Abs.l9 _ (fun _ h=>by cases h)) rfl (by intro v;kernel_rfl)) (by kernel_rfl) (by kernel_rfl)
def afB(v:TN):Option (Unit×QM):=
bif decide (v.1.1.length≤4294967296)then some ((),v.1)else none
def ahS:Abs.Spec:=⟨0,⟨[0],NS,.nil⟩,⟨[2],(.st Pf .nil),CZ⟩,afB⟩
theorem aiS:Abs.gN Tryz.prog 165 ahS:=
 Abs.uM (N:=note) (t:=Z4) C9 (Abs.qI (n:=12) (an:=fun _=>{}) (T:=Abs.wH []) good C9 (Abs.l9 _ (fun _ h=>by cases h)) rfl (by intro v;kernel_rfl)) (by kernel_rfl) (by kernel_rfl)
def afg(v:((Y5×Unit)×Unit)):Option (Unit×(Y5×Unit)):=
bif decide (v.1.1.length≤4294967296)then some ((),v.1)else none
def aif:Abs.Spec:=⟨0,⟨[0],RH,.nil⟩,⟨[2],(.st (.own MC (0,0)) .nil),(.arr MC false .nil)⟩,afg⟩
theorem akS:Abs.gN Tryz.prog 166 aif:=
 Abs.uM (N:=note) (t:=MC) C9 (Abs.qI (n:=12) (an:=fun _=>{}) (T:=Abs.wH []) good C9 (Abs.l9 _ (fun _ h=>by cases h)) rfl (by intro v;kernel_rfl)) (by kernel_rfl) (by kernel_rfl)
def BK(v:(sZ×QM)):Option ((sZ×QM)⊕(Unit×QM)):=
bif decide (v.1.1<v.1.2.1)then bif decide (0≤v.1.1∧v.1.1<v.2.1.length)then
(v.2.1[v.1.1.toNat]?).bind fun b=>
(afg (b.2.2.2.2,())).bind fun c=>
bif decide (0≤v.1.1∧v.1.1<v.2.1.length)then
(v.2.1[v.1.1.toNat]?).bind fun a=>
some (.inl ((aP (v.1.1+1),v.1.2),v.2.1.set v.1.1.toNat (a.1,a.2.1,a.2.2.1,a.2.2.2.1,c.2),()))
else none
else none
else(some (.inr ((),v.2)))
def Vu(v:TN):Option (Unit×QM):=
(afB v).bind fun a=>
(aC BK ((0,((a.2.1.length:Nat):Int),()),a.2)).bind fun b=>
some ((),b.2)
def alg:Abs.Spec:=⟨0,⟨[0],NS,.nil⟩,⟨[2],(.st Pf .nil),CZ⟩,Vu⟩
def aii:Nat→Abs.fo
 |0=>.mk bE bE (bA [(3,⟨⟨[9,3,8],(.dat aR (.st Pf dx)),CZ⟩,(.one (.exit 0) ⟨[3],(.st Pf .nil),CZ⟩)⟩)]) fq
 |_=>{}
theorem adS:dz 111 alg:=okW aii (bq aiS (bq akS dQ))
def afu(v:(Ri×Unit)):Option (Unit×Ri):=
bif decide (v.1.1.length≤4294967296)then some ((),v.1)else none
def ajA:Abs.Spec:=⟨0,⟨[0],ahO,.nil⟩,⟨[2],(.st Io .nil),yA⟩,afu⟩
theorem aj1:Abs.gN Tryz.prog 167 ajA:=
 Abs.uM (N:=note) (t:=Z6) C9 (Abs.qI (n:=12) (an:=fun _=>{}) (T:=Abs.wH []) good C9 (Abs.l9 _ (fun _ h=>by cases h)) rfl (by intro v;kernel_rfl)) (by kernel_rfl) (by kernel_rfl)
def X6(v:Zl):Option WN:=
bif decide (v.1.1.length≤4294967296)then some ((),v.1)else none
def ajc:Abs.Spec:=⟨0,⟨[0],lJ,.nil⟩,⟨[2],Pw,BJ⟩,X6⟩
theorem ad5:Abs.gN Tryz.prog 103 ajc:=
 Abs.uM (N:=note) (t:=Z30) C9 (Abs.qI (n:=12) (an:=fun _=>{}) (T:=Abs.wH []) good C9 (Abs.l9 _ (fun _ h=>by cases h)) rfl (by intro v;kernel_rfl)) (by kernel_rfl) (by kernel_rfl)
def zW(v:(sZ×aad)):Option ((sZ×aad)⊕Vj):=
bif decide (v.1.1<v.1.2.1)then bif decide (0≤v.1.1∧v.1.1<v.2.2.2.1.length)then
(v.2.2.2.1[v.1.1.toNat]?).bind fun b=>
(X6 ((b.2.1,()),())).bind fun c=>
bif decide (0≤v.1.1∧v.1.1<v.2.2.2.1.length)then
(v.2.2.2.1[v.1.1.toNat]?).bind fun a=>
some (.inl ((aP (v.1.1+1),v.1.2),v.2.1,v.2.2.1,v.2.2.2.1.set v.1.1.toNat (a.1,c.2.1,a.2.2),()))
else none
else none
else(some (.inr ((),v.2.2.1,v.2.1,v.2.2.2)))
def Qs(v:VP):Option (Unit×(r9×List mq×Unit)):=
(afu ((v.1.1.2.2.1,()),())).bind fun a=>
(aC zW ((0,((a.2.1.length:Nat):Int),()),((v.1.1.1,v.1.1.2.1,v.1.1.2.2.2),()),((0,ByteArray.empty,0,0,()),()),a.2)).bind fun b=>
some ((),b.2.2)
def ajK:Abs.Spec:=⟨0,⟨[0],oN,.nil⟩,⟨[2],Oi,Bt⟩,Qs⟩
def akE:Nat→Abs.fo
 |0=>.mk bE bE (bA [(3,⟨⟨[11,1,2,10],(.dat aR ahe),(.box 5 aiO (.box 5 DU yA))⟩,(.one (.exit 0) ⟨[2,1],MF,PD⟩)⟩)]) fq
 |_=>{}
theorem TT:dz 113 ajK:=okW akE (bq aj1 (bq ad5 dQ))
def Fy(v:adp):Option (adp⊕(Unit×(rA×rA×List Y3×mM×Unit))):=
bif decide (v.1.1<v.1.2.1)then bif decide (0≤v.1.1∧v.1.1<v.2.2.1.length)then
(v.2.2.1[v.1.1.toNat]?).bind fun b=>
(Qs ((b,()),())).bind fun a=>
bif decide (0≤v.1.1∧v.1.1<v.2.2.1.length)then
bif decide (v.1.1.toNat<v.2.2.1.length)then
some (.inl ((aP (v.1.1+1),v.1.2),v.2.1,v.2.2.1.set v.1.1.toNat (a.2.1.1.1,a.2.1.1.2.1,a.2.2.1,a.2.1.1.2.2),v.2.2.2))
else none
else none
else none
else(some (.inr ((),v.2.2.2.1,v.2.1,v.2.2.1,v.2.2.2.2)))
def i64:Abs.Sg:=⟨[0],yh,.nil⟩
def m64(v:(JL×Unit)):Option (Unit×Qt):=
(ab7 ((v.1.1.2.1,()),())).bind fun a=>
(Vu ((v.1.1.2.2.1,()),())).bind fun b=>
(aC Fy ((0,((a.2.1.length:Nat):Int),()),((v.1.1.1,v.1.1.2.2.2),()),a.2.1,((0,0,()),()),b.2)).bind fun c=>
some ((),c.2.2)
def alW:Abs.Spec:=⟨0,i64,⟨[2],V3,Vx⟩,m64⟩
def anx:Nat→Abs.fo
 |0=>.mk bE bE (bA [(3,⟨⟨[16,1,14,2,15],(.dat aR (.st gX (.st LP (.st zf dx)))),(.box 4 (.agg (.dat aR (.st LP (.st (.own Z4 (3,0)) dx))) .nil) (.arr Z1 false (.box 4 Co CZ)))⟩,(.one (.exit 0) ⟨[2,1],(.st gX WE),(.box 4 Co (.box 4 (.agg (.dat aR (.st (.own Z1 (2,0)) (.st (.own Z4 (3,0)) dx))) .nil) WV))⟩)⟩)]) fq
 |_=>{}
theorem aeP:dz 64 alW:=okW anx (bq ai1 (bq adS (bq TT dQ)))
def Hw(v:(Cy×Unit)):Option eT:=
((bif decide (v.1.1≥v.1.2.1)then some ((decide (v.1.1≤v.1.2.2.1),()),())
else some ((false,()),())):Option eT).bind fun a=>
some a
def ah9:Abs.Spec:=⟨0,⟨[0,1,2],EA,.nil⟩,⟨[6],fu,.nil⟩,Hw⟩
def akc:Nat→Abs.fo
 |0=>.mk (bA [(1,⟨[6],fu,.nil⟩)]) bE bE fq
 |_=>{}
theorem OT:dz 125 ah9:=okW akc dQ
def Af(v:((Int×Y9×Y9×Int×Unit)×Unit)):Option (((Int×Y9×Y9×Int×Unit)×Unit)⊕(eT⊕rz)):=
bif decide (v.1.1<v.1.2.2.2.1)then Abs.rowAt v.1.2.2.1 v.1.1 fun a _=>
(((UO ((a.1,()),())).bind fun d=>
bif !d.1.1 then some ((true,v.1.2.1,v.1.2.2.1,v.1.2.2.2.1,v.1.1,()),())
else(YD (a.2,())).bind fun e=>
bif !e.1.1 then some ((true,v.1.2.1,v.1.2.2.1,v.1.2.2.2.1,v.1.1,()),())
else bif a.2.1.toList==ByteArray.empty.toList then some ((true,v.1.2.1,v.1.2.2.1,v.1.2.2.2.1,v.1.1,()),())
else bif decide (v.1.1>0)then Abs.rowAt v.1.2.1 (aP (v.1.1-1)) fun c _=>
some ((Op.bytesLess a.1.toList c.1.toList||a.1.toList==c.1.toList,v.1.2.1,v.1.2.2.1,v.1.2.2.2.1,v.1.1,()),())
else some ((false,v.1.2.1,v.1.2.2.1,v.1.2.2.2.1,v.1.1,()),())):Option ((Bool×Y9×Y9×Int×Int×Unit)×Unit)).bind fun b=>
bif b.1.1 then some (.inr (.inl ((false,()),())))
else some (.inl ((aP (b.1.2.2.2.2.1+1),b.1.2.1,b.1.2.2.1,b.1.2.2.2.1,()),()))
else(some (.inr (.inr ((),()))))
def m66(v:Zl):Option eT:=
bif decide ((v.1.1.length:Int)>12)then some ((false,()),())
else((aC Af ((0,v.1.1,v.1.1,(v.1.1.length:Int),()),())).bind fun a=>
aA a (fun b=>(some b)) (fun c=>(some ((true,()),()))))
def alE:Abs.Spec:=⟨0,⟨[0],lJ,.nil⟩,⟨[2],fu,.nil⟩,m66⟩
def alR:Nat→Abs.fo
 |0=>.mk (bA [(6,⟨[44,0,8,9,10],(.dat .bool (.dat jE (.dat jE lX))),.nil⟩)]) bE (bA [(4,⟨⟨[10,0,8,9],(.dat aR (.dat jE Qg)),.nil⟩,ZJ⟩)]) fq
 |_=>{}
theorem Vv:dz 66 alE:=okW alR (bq Xh (bq acN dQ))
def vL(v:((Int×Y9×Int×Unit)×X8)):Option (((Int×Y9×Int×Unit)×X8)⊕(Unit×X8)):=
bif decide (v.1.1<v.1.2.2.1)then Abs.rowAt v.1.2.1 v.1.1 fun a _=>
bif decide (a.1.size+1≤4294967296)then
bif decide (a.2.1.size≤4294967296)then
bif decide ((a.1++(bs [61])).size+(kV a.2.1).size≤4294967296)then
bif decide (v.2.1.length+ [((a.1++(bs [61]))++(kV a.2.1))].length≤4294967296)then
let b:=(v.2.1++ [((a.1++(bs [61]))++(kV a.2.1))])
some (.inl ((aP (v.1.1+1),v.1.2),b,()))
else none
else none
else none
else none
else(some (.inr ((),v.2)))
def Ve(v:Zl):Option Fx:=
(m66 v).bind fun b=>
bif !b.1.1 then some ((ByteArray.empty,()),())
else((aC vL ((0,v.1.1,(v.1.1.length:Int),()),[],())).bind fun a=>
bif decide (List.length a.2.1≤4294967296∧(tC a.2.1 (bs [44])).size≤140737488355328)then
bif decide (1+(tC a.2.1 (bs [44])).size≤4294967296)then
bif decide (((bs [123])++(tC a.2.1 (bs [44]))).size+1≤4294967296)then
let c:=(((bs [123])++(tC a.2.1 (bs [44])))++(bs [125]))
some ((c,()),())
else none
else none
else none)
def ah3:Abs.Spec:=⟨0,⟨[0],lJ,.nil⟩,⟨[2],iF,.nil⟩,Ve⟩
def aiC:Nat→Abs.fo
 |0=>.mk bE bE (bA [(5,⟨⟨[11,3,9,10],(.dat aR (.st ahd Qg)),Rb8⟩,(.one (.exit 0) ⟨[3],(.st ahd .nil),Rb8⟩)⟩)]) fq
 |_=>{}
theorem Yf:dz 118 ah3:=okW aiC (bq Vv dQ)
def aaF(v:YL):Option eT:=
(((m66 ((v.1.1.2.1,()),())).bind fun a=>
bif a.1.1 then(Ve ((v.1.1.2.1,()),())).bind fun b=>
bif b.1.1.toList==v.1.1.1.toList then(Hw ((v.1.1.2.2.1,0,8589934592,()),())).bind fun c=>
bif c.1.1 then(Hw ((v.1.1.2.2.2.1,0,8589934592,()),())).bind fun d=>
bif d.1.1 then bif v.1.1.2.2.2.2.1 then some ((true,()),())
else some ((!v.1.1.2.2.2.2.2.1,()),())
else some ((false,()),())
else some ((false,()),())
else some ((false,()),())
else some ((false,()),())):Option eT).bind fun e=>
some e
def ak7:Abs.Spec:=⟨0,⟨[0],(.dat Z6 .nil),.nil⟩,⟨[2],fu,.nil⟩,aaF⟩
def ahc:Nat→Abs.fo
 |0=>.mk (bA [(1,⟨[2],fu,.nil⟩)]) bE bE fq
 |_=>{}
theorem ahI:dz 144 ak7:=okW ahc (bq Vv (bq Yf (bq OT dQ)))
def Ci(v:(YT×LA)):Option ((YT×LA)⊕(eT⊕rz)):=
bif decide (v.1.1<v.1.2.2.1)then Abs.rowAt v.1.2.1 v.1.1 fun b _=>
(((aaF ((b,()),())).bind fun d=>
bif !d.1.1 then some ((true,v.1.2.1,v.1.2.2.1,v.1.1,()),v.2)
else bif decide (v.1.1>0)then Abs.rowAt v.2.1.1.2.2.1 (aP (v.1.1-1)) fun c _=>
some ((Op.bytesLess b.1.toList c.1.toList||b.1.toList==c.1.toList,v.1.2.1,v.1.2.2.1,v.1.1,()),v.2)
else some ((false,v.1.2.1,v.1.2.2.1,v.1.1,()),v.2)):Option ((Bool×List mq×Int×Int×Unit)×LA)).bind fun a=>
bif a.1.1 then some (.inr (.inl ((false,()),())))
else some (.inl ((aP (a.1.2.2.2.1+1),a.1.2.1,a.1.2.2.1,()),a.2))
else(some (.inr (.inr ((),()))))
def m82(v:VP):Option eT:=
((let b:=(decide ((v.1.1.2.2.1.length:Int)>256))
bif b then some ((true,()),v)
else bif decide (v.1.1.1<0)then some ((true,()),v)
else(Hw ((v.1.1.2.2.2.1,-1,8589934592,()),())).bind fun c=>
bif !c.1.1 then some ((true,()),v)
else(Hw ((v.1.1.2.2.2.2.1,-1,8589934592,()),())).bind fun d=>
some ((!d.1.1,()),v)):Option (nW×LA)).bind fun a=>
bif a.1.1 then some ((false,()),())
else((aC Ci ((0,a.2.1.1.2.2.1,(a.2.1.1.2.2.1.length:Int),()),a.2)).bind fun e=>
aA e (fun f=>(some f)) (fun g=>(some ((true,()),()))))
def am5:Abs.Spec:=⟨0,⟨[0],oN,.nil⟩,⟨[2],fu,.nil⟩,m82⟩
def aow:Nat→Abs.fo
 |0=>.mk (bA [(6,⟨[52,1,27,28,29],(.dat .bool (.st ig (.dat EG lX))),y9⟩),(1,⟨[25,1],(.dat .bool Oi),y9⟩)]) bE (bA [(4,⟨⟨[29,1,27,28],(.dat aR (.st ig aid)),y9⟩,ZJ⟩)]) fq
 |_=>{}
theorem ab9:dz 82 am5:=okW aow (bq OT (bq ahI dQ))
def Va(v:Wz):Option eT:=
(m78 ((([(-1,[],v.1.1.2.2)]:List Y8),()),())).bind fun a=>
some ((a.1.1==0,()),())
def aiL:Abs.Spec:=⟨0,⟨[0],uo,.nil⟩,⟨[2],fu,.nil⟩,Va⟩
theorem WW:dz 124 aiL:=okW tT (bq afX dQ)
def XQ(v:Fx):Option eT:=
some ((!(v.1.1.toList==v.1.1.toList),()),())
def ahr:Abs.Spec:=⟨0,⟨[0],iF,.nil⟩,⟨[2],fu,.nil⟩,XQ⟩
theorem aj2:dz 190 ahr:=okW tT dQ
def WJ(v:RQ):Option tL:=
(XQ ((v.1.1,()),())).bind fun b=>
(XQ (v.1.2,())).bind fun a=>
bif b.1.1 then bif a.1.1 then some ((0,()),())
else some ((-1,()),())
else(bif a.1.1 then some ((1,()),())
else bif Op.bytesLess v.1.1.toList v.1.2.1.toList then some ((-1,()),())
else bif !(Op.bytesLess v.1.1.toList v.1.2.1.toList||v.1.1.toList==v.1.2.1.toList)then some ((1,()),())
else some ((0,()),()))
def ajT:Abs.Spec:=⟨0,⟨[0,1],Oc,.nil⟩,⟨[4],dx,.nil⟩,WJ⟩
theorem adf:dz 146 ajT:=okW tT (bq aj2 dQ)
def WZ(v:((mq×ByteArray×Unit)×Unit)):Option tL:=
(WJ ((v.1.1.1,v.1.2),())).bind fun a=>
some a
def ajk:Abs.Spec:=⟨0,⟨[0,1],(.dat Z6 iF),.nil⟩,⟨[4],dx,.nil⟩,WZ⟩
theorem ajf:dz 175 ajk:=okW tT (bq adf dQ)
def nY(v:adJ):Option (adJ⊕((ByteArray×Int×List mq×Int×Unit)×Unit)):=
bif decide (v.1.2.2.2.1<v.1.2.2.1)then let a:=(IntKind.wrap .u64 (aP (v.1.2.2.2.1+v.1.2.2.1)))
bif decide ((0:Int)≤1)then
Abs.rowAt v.1.2.1 (aP (Ck .u64 (a) (1))) fun b _=>
(WZ ((b,v.1.1,()),())).bind fun c=>
bif decide (c.1.1<0)then some (.inl ((v.1.1,v.1.2.1,v.1.2.2.1,aP ((aP (Ck .u64 (a) (1)))+1),v.1.2.2.2.2),()))
else some (.inl ((v.1.1,v.1.2.1,aP (Ck .u64 (a) (1)),v.1.2.2.2),()))
else none
else(some (.inr ((v.1.1,v.1.2.2.2.1,v.1.2.1,v.1.2.2.2.2),())))
def Nn(v:((Y3×ByteArray×Unit)×Unit)):Option U5:=
(aC nY ((v.1.2.1,v.1.1.2.2.1,(v.1.1.2.2.1.length:Int),0,(v.1.1.2.2.1.length:Int),()),())).bind fun a=>
((bif decide (a.1.2.1<a.1.2.2.2.1)then Abs.rowAt a.1.2.2.1 a.1.2.1 fun b _=>
(WZ ((b,a.1.1,()),())).bind fun c=>
some ((a.1.2.1,c.1.1==0,()),())
else some ((a.1.2.1,false,()),())):Option U5).bind fun d=>
some d
def aiN:Abs.Spec:=⟨0,⟨[0,1],(.dat Z1 iF),.nil⟩,⟨[4,5],FH,.nil⟩,Nn⟩
def ak3:Nat→Abs.fo
 |0=>.mk bE bE bE (fun
  |1,3=>1
  |_,_=>0)
 |1=>.mk (bA [(8,⟨[6,7],FH,.nil⟩)]) bE (bA [(3,⟨⟨[1,0,2,10,9,8],(.dat .str (.dat EG (.st (.clo 175 []) EA))),.nil⟩,(.one (.exit 0) ⟨[1,9,0,2,8],(.dat .str (.dat aR (.dat EG (.st (.clo 175 []) dx)))),.nil⟩)⟩)]) fq
 |_=>{}
theorem adL:dz 126 aiN:=okW ak3 (bq ajf dQ)
def O7(v:tL):Option tL:=
bif decide (v.1.1>8589934592)then some ((-1,()),())
else(some v)
def aiQ:Abs.Spec:=⟨0,⟨[0],dx,.nil⟩,⟨[2],dx,.nil⟩,O7⟩
theorem Yc:dz 179 aiQ:=okW tT dQ
def af6(v:VP):Option eT:=
some (((v.1.1.2.2.1.length:Int)==0,()),())
def akp:Abs.Spec:=⟨0,⟨[0],oN,.nil⟩,⟨[2],fu,.nil⟩,af6⟩
theorem akH:dz 145 akp:=okW tT dQ
def qE(v:acY):Option (acY⊕Vj):=
bif decide (v.1.1<v.1.2.2.2.2.1)then((Abs.rowAt v.1.2.2.2.1 v.1.1 fun k _=>
(Nn (((v.2.1.1.1,v.2.1.1.2.1,v.2.2.2.2.1,v.2.1.1.2.2),k.1,()),())).bind fun j=>
((bif j.1.2.1 then bif k.2.2.2.2.1 then let n:=(decide (k.2.2.2.1≤(aP (v.1.2.1-v.1.2.2.1))))
some ((n,v.1.2.1,v.1.2.2.1,v.1.2.2.2.1,v.1.2.2.2.2.1,v.1.1,j.1.1,()),v.2)
else some ((false,v.1.2.1,v.1.2.2.1,v.1.2.2.2.1,v.1.2.2.2.2.1,v.1.1,j.1.1,()),v.2)
else some ((false,v.1.2.1,v.1.2.2.1,v.1.2.2.2.1,v.1.2.2.2.2.1,v.1.1,j.1.1,()),v.2)):Option ((Bool×Int×Int×List mq×Int×Int×Int×Unit)×ZH)).bind fun a=>
bif a.1.1 then((bif decide (0≤a.1.2.2.2.2.2.2.1∧a.1.2.2.2.2.2.2.1<a.2.2.2.2.1.length)then
(a.2.2.2.2.1[a.1.2.2.2.2.2.2.1.toNat]?).bind fun o=>
bif o.2.2.2.2.1==false then bif decide (a.2.2.2.2.1.length=a.2.2.2.2.1.length)&&true then
some ((a.1.2.1,a.1.2.2.1,a.1.2.2.2.1,a.1.2.2.2.2.1,a.1.2.2.2.2.2.1,()),a.2)
else none
else(a.2.2.2.2.1[a.1.2.2.2.2.2.2.1.toNat]?).bind fun p=>
bif !p.2.2.2.2.2.1 then bif decide (0≤a.1.2.2.2.2.2.2.1∧a.1.2.2.2.2.2.2.1<(aP (a.1.2.2.2.2.2.2.1+1))∧((aP (a.1.2.2.2.2.2.2.1+1)):Int)≤a.2.2.2.2.1.length∧a.2.2.2.2.1.length≤4294967296)then
bif decide (a.2.2.2.2.1.length=a.2.2.2.2.1.length)&&true then
bif decide (a.2.2.2.2.1.length=a.2.2.2.2.1.length)&&true then
some ((a.1.2.1,a.1.2.2.1,a.1.2.2.2.1,a.1.2.2.2.2.1,a.1.2.2.2.2.2.1,()),a.2.1,a.2.2.1,a.2.2.2.1,a.2.2.2.2.1.take a.1.2.2.2.2.2.2.1.toNat++a.2.2.2.2.1.drop (aP (a.1.2.2.2.2.2.2.1+1)).toNat,())
else none
else none
else none
else(a.2.2.2.2.1[a.1.2.2.2.2.2.2.1.toNat]?).bind fun b=>
((a.2.2.2.2.1.set a.1.2.2.2.2.2.2.1.toNat (b.1,b.2.1,b.2.2.1,b.2.2.2.1,false,b.2.2.2.2.2))[a.1.2.2.2.2.2.2.1.toNat]?).bind fun c=>
(((a.2.2.2.2.1.set a.1.2.2.2.2.2.2.1.toNat (b.1,b.2.1,b.2.2.1,b.2.2.2.1,false,b.2.2.2.2.2)).set a.1.2.2.2.2.2.2.1.toNat (c.1,c.2.1,c.2.2.1,c.2.2.2.1,c.2.2.2.2.1,false,()))[a.1.2.2.2.2.2.2.1.toNat]?).bind fun e=>
((bif a.2.1.1.2.2.2.1 !=(-1)then let m:=(aP (a.2.1.1.2.2.2.1+a.2.2.1.1.2.2.2.2.2.1))
let q:=(if m>a.1.2.1 then m else a.1.2.1)
some ((q,()),a.2.1,((a.2.2.2.2.1.set a.1.2.2.2.2.2.2.1.toNat (b.1,b.2.1,b.2.2.1,b.2.2.2.1,false,b.2.2.2.2.2)).set a.1.2.2.2.2.2.2.1.toNat (c.1,c.2.1,c.2.2.1,c.2.2.2.1,c.2.2.2.2.1,false,())).set a.1.2.2.2.2.2.2.1.toNat (e.1,e.2.1,a.1.2.1,e.2.2.2),())
else some ((aP (a.1.2.1+a.2.2.1.1.2.2.2.2.1),()),a.2.1,((a.2.2.2.2.1.set a.1.2.2.2.2.2.2.1.toNat (b.1,b.2.1,b.2.2.1,b.2.2.2.1,false,b.2.2.2.2.2)).set a.1.2.2.2.2.2.2.1.toNat (c.1,c.2.1,c.2.2.1,c.2.2.2.1,c.2.2.2.2.1,false,())).set a.1.2.2.2.2.2.2.1.toNat (e.1,e.2.1,a.1.2.1,e.2.2.2),())):Option Er).bind fun f=>
((bif f.2.1.1.2.2.1 !=(-1)then let r:=(if f.2.1.1.2.2.1<f.1.1 then f.2.1.1.2.2.1 else f.1.1)
some ((r,()),f.2)
else some f):Option Er).bind fun g=>
(O7 (g.1,())).bind fun s=>
bif decide (g.2.2.1.length=(((a.2.2.2.2.1.set a.1.2.2.2.2.2.2.1.toNat (b.1,b.2.1,b.2.2.1,b.2.2.2.1,false,b.2.2.2.2.2)).set a.1.2.2.2.2.2.2.1.toNat (c.1,c.2.1,c.2.2.1,c.2.2.2.1,c.2.2.2.2.1,false,())).set a.1.2.2.2.2.2.2.1.toNat (e.1,e.2.1,a.1.2.1,e.2.2.2)).length)&&true then
bif decide (g.2.2.1.length=a.2.2.2.2.1.length)&&true then
some ((a.1.2.1,a.1.2.2.1,a.1.2.2.2.1,a.1.2.2.2.2.1,a.1.2.2.2.2.2.1,()),((g.2.1.1.1,g.2.1.1.2.1,s.1.1,g.2.1.1.2.2.2),()),a.2.2.1,a.2.2.2.1,g.2.2)
else none
else none
else none):Option aeh).bind fun d=>
((let t:=(((d.2.2.2.2.1.length:Nat):Int)==0)
bif decide (d.2.2.2.2.1.length=d.2.2.2.2.1.length)&&true then
bif t then some ((),d.2.2.2.2.1,((0,ByteArray.empty,0,0,()),()),((d.2.1.1.1,d.2.1.1.2.1,-1,d.2.1.1.2.2.2),()),())
else some ((),d.2.2.2.2.1,((0,ByteArray.empty,0,0,()),()),d.2.1,())
else none):Option KW).bind fun l=>
bif decide (l.2.1.length=d.2.2.2.2.1.length)&&true then
some (d.1,l.2.2.2.1,d.2.2.1,d.2.2.2.1,l.2.1,())
else none
else some ((a.1.2.1,a.1.2.2.1,a.1.2.2.2.1,a.1.2.2.2.2.1,a.1.2.2.2.2.2.1,()),a.2)):Option aeh).bind fun h=>
some (.inl ((aP (h.1.2.2.2.2.1+1),h.1.1,h.1.2.1,h.1.2.2.1,h.1.2.2.2.1,()),h.2))
else(some (.inr ((),v.2.2.2.1,v.2.1,v.2.2.2.2)))
def ac3(v:((Y3×Y8×Int×Int×Unit)×Unit)):Option Er:=
(((m82 ((v.1.1,()),())).bind fun d=>
bif !d.1.1 then some ((true,v.1.2.2),((0,ByteArray.empty,0,0,()),()),(v.1.2.1,()),(v.1.1,()),())
else(Va ((v.1.2.1,()),())).bind fun e=>
some ((!e.1.1,v.1.2.2),((0,ByteArray.empty,0,0,()),()),(v.1.2.1,()),(v.1.1,()),())):Option (IW×WB)).bind fun b=>
bif b.1.1 then some ((8,()),((0,ByteArray.empty,0,0,()),()),[],())
else((((Hw ((b.1.2.1,0,8589934592,()),())).bind fun f=>
bif !f.1.1 then some ((true,b.1.2),b.2)
else(Hw ((b.1.2.2.1,0,604800,()),())).bind fun g=>
some ((!g.1.1,b.1.2),b.2)):Option (IW×WB)).bind fun a=>
bif a.1.1 then some ((1,()),((0,ByteArray.empty,0,0,()),()),[],())
else(Qs a.2.2.2).bind fun c=>
bif a.1.2.2.1==0 then some ((0,()),c.2)
else(aC qE ((0,a.1.2.1,a.1.2.2.1,a.2.2.2.1.1.2.2.1,(a.2.2.2.1.1.2.2.1.length:Int),()),c.2.1,a.2.2.1,a.2.1,c.2.2)).bind fun h=>
some ((0,()),h.2.2))
def akJ:Abs.Spec:=⟨0,⟨[0,1,2,3],(.dat Z1 (.dat Z2 lX)),.nil⟩,⟨[8,9],FV,Bt⟩,ac3⟩
def ahM:Nat→Abs.fo
 |0=>.mk (bA [(13,⟨[10,2,5,3,41,8,42,43],akn,K8⟩),(12,⟨[66,10,2,5,3,41,8,42,43,13],(.dat .bool (.st ig (.dat aR (.st Qi (.dat aR (.dat EG (.st qK EA))))))),K8⟩),(3,⟨[25,8,2,5,3,4],(.dat .bool QS),Zc⟩),(1,⟨[15,8,2,5,3,4],(.dat .bool QS),Zc⟩)]) (bA [(15,(⟨[10,2,5,3,41,8,42,43],akn,K8⟩,none))]) (bA [(9,⟨⟨[43,10,2,5,3,41,8,42],(.dat aR (.st ig (.dat aR (.st Qi (.dat aR (.dat EG (.st qK dx))))))),K8⟩,(.one (.exit 1) ⟨[8,10],MF,PD⟩)⟩)]) (fun
  |14,1=>3
  |13,3=>1
  |_,_=>0)
 |1=>.mk bE bE bE (fun
  |3,3=>2
  |_,_=>0)
 |2=>.mk bE (bA [(6,(⟨[6,0],VK,Bt⟩,none)),(4,(⟨[0,6],FV,Bt⟩,none))]) bE fq
 |3=>.mk bE (bA [(3,(⟨[2,1],I7,P8⟩,none))]) bE (fun
  |1,1=>4
  |_,_=>0)
 |_=>{}
theorem aiY:dz 133 akJ:=okW ahM (bq ab9 (bq WW (bq OT (bq TT (bq adL (bq Yc dQ))))))
def wP(v:adr):Option (adr⊕(Fx⊕rz)):=
bif decide (v.1.1<v.1.2.2.2.1)then Abs.rowAt v.1.2.2.1 v.1.1 fun a _=>
bif a.1.toList==v.1.2.1.toList then some (.inr (.inl (a.2,())))
else some (.inl ((aP (v.1.1+1),v.1.2),()))
else(some (.inr (.inr ((),()))))
def VE(v:((Y9×ByteArray×Unit)×Unit)):Option Fx:=
(aC wP ((0,v.1.2.1,v.1.1,(v.1.1.length:Int),()),())).bind fun a=>
aA a (fun b=>(some b)) (fun c=>(some ((ByteArray.empty,()),())))
def ak8:Abs.Spec:=⟨0,⟨[0,1],(.dat jE iF),.nil⟩,⟨[4],iF,.nil⟩,VE⟩
def aiV:Nat→Abs.fo
 |0=>.mk bE bE (bA [(2,⟨⟨[9,1,7,8],(.dat aR (.dat .str Qg)),.nil⟩,(.more .ret ⟨[4],iF,.nil⟩ Ro1)⟩)]) fq
 |_=>{}
theorem ad3:dz 224 ak8:=okW aiV dQ
def vG(v:U8):Option (U8⊕Fx):=
((bif decide ((v.1.1.size:Int)>0)then bif decide ((0:Int)≤(aP ((v.1.1.size:Int)-1))∧((aP ((v.1.1.size:Int)-1)):Int)<v.1.1.size)then
let b:=(((((v.1.1[(aP ((v.1.1.size:Int)-1)).toNat]?.getD 0).toNat:Nat):Int):Int)==v.1.2.1)
some ((b,v.1.2.1,v.1.1,()),())
else none
else some ((false,v.1.2.1,v.1.1,()),())):Option aez).bind fun a=>
bif a.1.1 then bif decide ((0:Int)≤(aP ((a.1.2.2.1.size:Int)-1)))then
bif decide (0≤(aP ((a.1.2.2.1.size:Int)-1)).toNat∧(aP ((a.1.2.2.1.size:Int)-1)).toNat≤a.1.2.2.1.size)then
let c:=(a.1.2.2.1.extract 0 (aP ((a.1.2.2.1.size:Int)-1)).toNat)
some (.inl ((c,a.1.2.1,()),()))
else none
else none
else(some (.inr (a.1.2.2,())))
def ZU(v:U8):Option Fx:=
(aC vG v).bind fun a=>
some a
def aj6:Abs.Spec:=⟨0,⟨[0,1],aaq,.nil⟩,⟨[4],iF,.nil⟩,ZU⟩
def ahE:Nat→Abs.fo
 |0=>.mk (bA [(1,⟨[16,1,0],(.dat .bool (.dat (.int .u8) iF)),.nil⟩)]) bE (bA [(1,⟨⟨[0,1],aaq,.nil⟩,afx⟩)]) fq
 |_=>{}
theorem ahV:dz 237 aj6:=okW ahE dQ
def uG(v:U8):Option (U8⊕Fx):=
((bif decide ((v.1.1.size:Int)>0)then bif decide ((0:Int)≤0∧(0:Int)<v.1.1.size)then
let b:=(((((v.1.1[0]?.getD 0).toNat:Nat):Int):Int)==v.1.2.1)
some ((b,v.1.2.1,v.1.1,()),())
else none
else some ((false,v.1.2.1,v.1.1,()),())):Option aez).bind fun a=>
bif a.1.1 then bif decide (1≤a.1.2.2.1.size∧a.1.2.2.1.size≤a.1.2.2.1.size)then
some (.inl ((a.1.2.2.1.extract 1 a.1.2.2.1.size,a.1.2.1,()),()))
else none
else(some (.inr (a.1.2.2,())))
def acu(v:U8):Option Fx:=
(aC uG v).bind fun a=>
some a
def aiu:Abs.Spec:=⟨0,⟨[0,1],aaq,.nil⟩,⟨[4],iF,.nil⟩,acu⟩
def ahR:Nat→Abs.fo
 |0=>.mk (bA [(1,⟨[13,1,0],(.dat .bool (.dat (.int .u8) iF)),.nil⟩)]) bE (bA [(1,⟨⟨[0,1],aaq,.nil⟩,afx⟩)]) fq
 |_=>{}
theorem aiG:dz 236 aiu:=okW ahR dQ
def YR(v:RQ):Option Fx:=
((bif v.1.1.toList==ByteArray.empty.toList then some ((true,v.1),())
else some ((v.1.2.1.toList==ByteArray.empty.toList,v.1),())):Option adh).bind fun a=>
bif a.1.1 then some ((a.1.2.1,()),())
else(((bif (a.1.2.2.1.size:Int)==1 then bif decide ((0:Int)≤0∧(0:Int)<a.1.2.2.1.size)then
let c:=(decide (((((a.1.2.2.1[0]?.getD 0).toNat:Nat):Int):Int)<128))
some ((c,a.1.2.2.1,a.1.2.1,()),())
else none
else some ((false,a.1.2.2.1,a.1.2.1,()),())):Option adh).bind fun b=>
bif b.1.1 then bif decide ((0:Int)≤0∧(0:Int)<b.1.2.1.size)then
(ZU ((b.1.2.2.1,(((b.1.2.1[0]?.getD 0).toNat:Nat):Int),()),())).bind fun d=>
bif decide ((0:Int)≤0∧(0:Int)<b.1.2.1.size)then
(acu ((d.1.1,(((b.1.2.1[0]?.getD 0).toNat:Nat):Int),()),())).bind fun e=>
some e
else none
else none
else none)
def ahn:Abs.Spec:=⟨0,⟨[0,1],Oc,.nil⟩,⟨[4],iF,.nil⟩,YR⟩
def akR:Nat→Abs.fo
 |0=>.mk (bA [(3,⟨[21,1,0],(.dat .bool Oc),.nil⟩),(1,⟨[12,0,1],(.dat .bool Oc),.nil⟩)]) bE bE fq
 |_=>{}
theorem ajm:dz 231 ahn:=okW akR (bq ahV (bq aiG dQ))
def ic(v:adZ):Option (adZ⊕(eT⊕Q9)):=
let c:=(decide (v.1.2.1<(v.1.2.2.2.2.1.size:Int)))
bif c then((let d:=(decide (v.1.1<(v.1.2.2.2.2.2.1.size:Int)))
bif d then bif decide (0≤v.1.1∧v.1.1<v.1.2.2.2.2.2.1.size)then
let e:=(((((v.1.2.2.2.2.2.1[v.1.1.toNat]?.getD 0).toNat:Nat):Int):Int)==42)
some ((e,v.1.2.1,v.1.2.2.2.2.1,v.1.2.2.2.2.2.1,v.1.1,v.1.2.2.1,v.1.2.2.2.1,()),())
else none
else some ((false,v.1.2.1,v.1.2.2.2.2.1,v.1.2.2.2.2.2.1,v.1.1,v.1.2.2.1,v.1.2.2.2.1,()),())):Option ((Bool×Int×ByteArray×ByteArray×Int×Int×Int×Unit)×Unit)).bind fun a=>
bif a.1.1 then some (.inl ((aP (a.1.2.2.2.2.1+1),a.1.2.1,a.1.2.2.2.2.1,a.1.2.1,a.1.2.2.1,a.1.2.2.2.1,()),()))
else((let f:=(decide (a.1.2.2.2.2.1<(a.1.2.2.2.1.size:Int)))
bif f then bif decide (0≤a.1.2.2.2.2.1∧a.1.2.2.2.2.1<a.1.2.2.2.1.size)then
let g:=(((((a.1.2.2.2.1[a.1.2.2.2.2.1.toNat]?.getD 0).toNat:Nat):Int):Int)==63)
bif g then some ((true,a.1.2.2.2.2.2.1,a.1.2.2.2.2.2.2.1,a.1.2.2.1,a.1.2.2.2.1,a.1.2.1,a.1.2.2.2.2.1,()),())
else bif decide (0≤a.1.2.2.2.2.1∧a.1.2.2.2.2.1<a.1.2.2.2.1.size)then
bif decide (0≤a.1.2.1∧a.1.2.1<a.1.2.2.1.size)then
let h:=(((((a.1.2.2.2.1[a.1.2.2.2.2.1.toNat]?.getD 0).toNat:Nat):Int):Int)==(((a.1.2.2.1[a.1.2.1.toNat]?.getD 0).toNat:Nat):Int))
some ((h,a.1.2.2.2.2.2.1,a.1.2.2.2.2.2.2.1,a.1.2.2.1,a.1.2.2.2.1,a.1.2.1,a.1.2.2.2.2.1,()),())
else none
else none
else none
else some ((false,a.1.2.2.2.2.2.1,a.1.2.2.2.2.2.2.1,a.1.2.2.1,a.1.2.2.2.1,a.1.2.1,a.1.2.2.2.2.1,()),())):Option ((Bool×Int×Int×ByteArray×ByteArray×Int×Int×Unit)×Unit)).bind fun b=>
bif b.1.1 then some (.inl ((aP (b.1.2.2.2.2.2.2.1+1),aP (b.1.2.2.2.2.2.1+1),b.1.2.1,b.1.2.2.1,b.1.2.2.2.1,b.1.2.2.2.2.1,()),()))
else bif decide (b.1.2.1≥0)then some (.inl ((aP (b.1.2.1+1),aP (b.1.2.2.1+1),b.1.2.1,aP (b.1.2.2.1+1),b.1.2.2.2.1,b.1.2.2.2.2.1,()),()))
else some (.inr (.inl ((false,()),())))
else(some (.inr (.inr ((v.1.1,v.1.2.2.2.2.2),()))))
def WA(v:RQ):Option eT:=
(aC ic ((0,0,-1,0,v.1.2.1,v.1.1,()),())).bind fun b=>
aA b (fun c=>(some c)) (fun a=>(bif decide ((0:Int)≤a.1.1)then
bif decide (a.1.1.toNat≤a.1.2.1.size∧a.1.2.1.size≤a.1.2.1.size)then
(YR ((a.1.2.1.extract a.1.1.toNat a.1.2.1.size,bs [42],()),())).bind fun d=>
some ((d.1.1.toList==ByteArray.empty.toList,()),())
else none
else none))
def alf:Abs.Spec:=⟨0,⟨[0,1],Oc,.nil⟩,⟨[4],fu,.nil⟩,WA⟩
def aip:Nat→Abs.fo
 |0=>.mk (bA [(7,⟨[28,7,8,1,0,6,5],(.dat .bool (.dat aR (.dat aR (.dat .str (.dat .str lX))))),.nil⟩),(4,⟨[13,6,1,0,5,7,8],(.dat .bool (.dat aR (.dat .str (.dat .str EA)))),.nil⟩)]) bE (bA [(2,⟨⟨[5,6,7,8,1,0],(.dat aR (.dat aR (.dat aR (.dat aR Oc)))),.nil⟩,(.more .ret ⟨[4],fu,.nil⟩ (.one (.exit 0) ⟨[5,0],EC,.nil⟩))⟩)]) fq
 |_=>{}
theorem ahw:dz 225 alf:=okW aip (bq ajm dQ)
def aai(v:((Rv×Y9×Unit)×Unit)):Option eT:=
(VE ((v.1.2.1,v.1.1.1,()),())).bind fun a=>
bif v.1.1.2.1==0 then some ((a.1.1.toList==v.1.1.2.2.1.toList,()),())
else(bif v.1.1.2.1==1 then some ((!(a.1.1.toList==v.1.1.2.2.1.toList),()),())
else bif v.1.1.2.1==2 then(WA ((v.1.1.2.2.1,a.1),())).bind fun b=>
some b
else bif v.1.1.2.1==3 then(WA ((v.1.1.2.2.1,a.1),())).bind fun c=>
some ((!c.1.1,()),())
else some ((false,()),()))
def agY:Abs.Spec:=⟨0,⟨[0,1],(.dat MC lJ),.nil⟩,⟨[4],fu,.nil⟩,aai⟩
theorem ajD:dz 206 agY:=okW tT (bq ad3 (bq ahw dQ))
def qC(v:((Int×Y5×Int×Unit)×Xt)):Option (((Int×Y5×Int×Unit)×Xt)⊕((jq×Xt)⊕(Unit×Xt))):=
bif decide (v.1.1<v.1.2.2.1)then Abs.rowAt v.1.2.1 v.1.1 fun a _=>
(aai ((a,v.2.1),())).bind fun b=>
bif !b.1.1 then some (.inr (.inl ((v.1.1,()),v.2)))
else some (.inl ((aP (v.1.1+1),v.1.2),v.2))
else(some (.inr (.inr ((),v.2))))
def OA(v:((Y5×Y9×Unit)×Unit)):Option eT:=
(((aC qC ((0,v.1.1,(v.1.1.length:Int),()),v.1.2,())).bind fun b=>
aA b (fun a=>(some ((decide (a.1.1≥0),()),a.2))) (fun c=>(some ((false,()),c.2)))):Option (nW×Xt)).bind fun d=>
some ((!d.1.1,()),())
def acX:Abs.Spec:=⟨0,⟨[0,1],(.dat (.row MC) lJ),.nil⟩,⟨[4],fu,.nil⟩,OA⟩
def akQ:Nat→Abs.fo
 |0=>.mk bE bE bE (fun
  |1,2=>1
  |_,_=>0)
 |1=>.mk (bA [(1,⟨[4],fu,NQ⟩)]) bE bE (fun
  |1,2=>2
  |_,_=>0)
 |2=>.mk bE bE (bA [(2,⟨⟨[8,0,1,7],(.dat aR (.dat (.row MC) (.st (.clo 205 [((0,0),1,0,0)]) dx))),NQ⟩,(.more .ret ⟨[4],dx,NQ⟩ (.one (.exit 0) ⟨[],.nil,NQ⟩))⟩)]) (fun
  |4,5=>3
  |_,_=>0)
 |_=>{}
theorem Zk:dz 169 acX:=okW akQ (bq ajD dQ)
def BA(v:adU):Option (adU⊕SS):=
bif decide (v.1.1<v.1.2.2.2.2.2.2.1)then((Abs.rowAt v.1.2.2.2.2.2.1 v.1.1 fun b _=>
((bif decide (b.2.1≤v.1.2.2.2.2.1)then bif decide (v.1.2.2.2.2.1<b.2.2.1)then(OA ((b.2.2.2.2.1,v.1.2.2.2.1,()),())).bind fun d=>
bif d.1.1 then bif !v.1.2.2.1 then some ((true,v.1.2.2.2.1,v.1.2.2.2.2.1,v.1.2.2.2.2.2.1,v.1.2.2.2.2.2.2.1,v.1.1,v.1.2.1,v.1.2.2.1,()),(b,()),())
else some ((decide (b.1<v.1.2.1),v.1.2.2.2.1,v.1.2.2.2.2.1,v.1.2.2.2.2.2.1,v.1.2.2.2.2.2.2.1,v.1.1,v.1.2.1,v.1.2.2.1,()),(b,()),())
else some ((false,v.1.2.2.2.1,v.1.2.2.2.2.1,v.1.2.2.2.2.2.1,v.1.2.2.2.2.2.2.1,v.1.1,v.1.2.1,v.1.2.2.1,()),(b,()),())
else some ((false,v.1.2.2.2.1,v.1.2.2.2.2.1,v.1.2.2.2.2.2.1,v.1.2.2.2.2.2.2.1,v.1.1,v.1.2.1,v.1.2.2.1,()),(b,()),())
else some ((false,v.1.2.2.2.1,v.1.2.2.2.2.1,v.1.2.2.2.2.2.1,v.1.2.2.2.2.2.2.1,v.1.1,v.1.2.1,v.1.2.2.1,()),(b,()),())):Option ((Bool×Y9×Int×mM×Int×Int×Int×Bool×Unit)×Jw)).bind fun a=>
bif a.1.1 then some ((a.2.1.1.1,true,a.1.2.1,a.1.2.2.1,a.1.2.2.2.1,a.1.2.2.2.2.1,a.1.2.2.2.2.2.1,()),())
else some ((a.1.2.2.2.2.2.2.1,a.1.2.2.2.2.2.2.2.1,a.1.2.1,a.1.2.2.1,a.1.2.2.2.1,a.1.2.2.2.2.1,a.1.2.2.2.2.2.1,()),())):Option ((Int×Bool×Y9×Int×mM×Int×Int×Unit)×Unit)).bind fun c=>
some (.inl ((aP (c.1.2.2.2.2.2.2.1+1),c.1.1,c.1.2.1,c.1.2.2.1,c.1.2.2.2.1,c.1.2.2.2.2.1,c.1.2.2.2.2.2.1,()),()))
else(some (.inr ((v.1.2.2.1,v.1.2.1,()),())))
def abS(v:((mM×Y9×Int×Unit)×Unit)):Option U5:=
(aC BA ((0,0,false,v.1.2.1,v.1.2.2.1,v.1.1,(v.1.1.length:Int),()),())).bind fun a=>
some ((a.1.2.1,a.1.1,()),())
def akf:Abs.Spec:=⟨0,⟨[0,1,2],(.dat zk Qg),.nil⟩,⟨[6,7],FH,.nil⟩,abS⟩
def aiD:Nat→Abs.fo
 |0=>.mk (bA [(4,⟨[41,1,2,10,11,12,9,6,7],(.dat .bool (.dat jE (.dat aR (.dat zk (.dat aR YW))))),Nt⟩)]) (bA [(6,(⟨[6,7,1,2,10,11,12],(.dat aR (.dat .bool (.dat jE (.dat aR (.dat zk lX))))),.nil⟩,none))]) (bA [(2,⟨⟨[12,6,7,1,2,10,11],(.dat aR adO),.nil⟩,(.one (.exit 0) ⟨[7,6],MK,.nil⟩)⟩)]) fq
 |_=>{}
theorem akB:dz 214 akf:=okW aiD (bq Zk dQ)
def qN(v:aev):Option (aev⊕((jq×acr)⊕(Unit×acr))):=
bif decide (v.1.1<v.1.2.2.1)then Abs.rowAt v.1.2.1 v.1.1 fun a _=>
(VE ((v.2.1.1,a,()),())).bind fun b=>
(VE ((v.2.2.1.1,a,()),())).bind fun c=>
bif !(b.1.1.toList==c.1.1.toList)then some (.inr (.inl ((v.1.1,()),v.2)))
else some (.inl ((aP (v.1.1+1),v.1.2),v.2))
else(some (.inr (.inr ((),v.2))))
def abj(v:((Y9×Y9×List ByteArray×Unit)×Unit)):Option eT:=
(((aC qN ((0,v.1.2.2.1,(v.1.2.2.1.length:Int),()),(v.1.1,()),(v.1.2.1,()),())).bind fun b=>
aA b (fun a=>(some ((decide (a.1.1≥0),()),a.2))) (fun c=>(some ((false,()),c.2)))):Option (nW×acr)).bind fun d=>
some ((!d.1.1,()),())
def ajF:Abs.Spec:=⟨0,⟨[0,1,2],(.dat jE (.dat jE Iy)),.nil⟩,⟨[6],fu,.nil⟩,abj⟩
def ahT:Nat→Abs.fo
 |0=>.mk bE bE bE (fun
  |1,2=>1
  |_,_=>0)
 |1=>.mk (bA [(1,⟨[4],fu,(.box 1 lJ NQ)⟩)]) bE bE (fun
  |1,2=>2
  |_,_=>0)
 |2=>.mk bE bE (bA [(2,⟨⟨[8,0,1,7],(.dat aR (.dat Hq (.st (.clo 235 [((0,0),1,0,0),((1,0),1,0,0)]) dx))),(.box 1 lJ NQ)⟩,(.more .ret ⟨[4],dx,(.box 1 lJ NQ)⟩ (.one (.exit 0) ⟨[],.nil,(.box 1 lJ NQ)⟩))⟩)]) (fun
  |4,5=>3
  |_,_=>0)
 |_=>{}
theorem agZ:dz 229 ajF:=okW ahT (bq ad3 dQ)
def rq(v:aew):Option (aew⊕(eT⊕acP)):=
bif decide (v.1.1<v.1.2.2.2.2.2.2.2.1)then Abs.rowAt v.1.2.2.1 v.1.1 fun b _=>
(((OA ((v.2.1.1.1,b,()),())).bind fun c=>
bif c.1.1 then(OA ((v.2.1.1.2.1,b,()),())).bind fun d=>
bif !d.1.1 then(abj ((v.1.2.1,b,v.2.1.1.2.2),())).bind fun e=>
some ((e.1.1,v.1.2.1,v.1.2.2.1,v.1.2.2.2.1,v.1.2.2.2.2.1,v.1.2.2.2.2.2.1,v.1.2.2.2.2.2.2.1,v.1.2.2.2.2.2.2.2.1,v.1.1,()),v.2)
else some ((false,v.1.2.1,v.1.2.2.1,v.1.2.2.2.1,v.1.2.2.2.2.1,v.1.2.2.2.2.2.1,v.1.2.2.2.2.2.2.1,v.1.2.2.2.2.2.2.2.1,v.1.1,()),v.2)
else some ((false,v.1.2.1,v.1.2.2.1,v.1.2.2.2.1,v.1.2.2.2.2.1,v.1.2.2.2.2.2.1,v.1.2.2.2.2.2.2.1,v.1.2.2.2.2.2.2.2.1,v.1.1,()),v.2)):Option ((Bool×Y9×List Y9×List Y9×ED×Int×Int×Int×Int×Unit)×Vd)).bind fun a=>
bif a.1.1 then some (.inr (.inl ((true,()),())))
else some (.inl ((aP (a.1.2.2.2.2.2.2.2.2.1+1),a.1.2.1,a.1.2.2.1,a.1.2.2.2.1,a.1.2.2.2.2.1,a.1.2.2.2.2.2.1,a.1.2.2.2.2.2.2.1,a.1.2.2.2.2.2.2.2.1,()),a.2))
else(some (.inr (.inr ((v.1.2.1,v.1.2.2.2.1,v.1.2.2.2.2.1,v.1.2.2.2.2.2.1,v.1.2.2.2.2.2.2.1,()),()))))
def vg(v:ad9):Option (ad9⊕(eT⊕rz)):=
bif decide (v.1.1<v.1.2.2.2.2.1)then((Abs.rowAt v.1.2.2.2.1 v.1.1 fun b _=>
(OA ((b.2.1,v.1.2.1,()),())).bind fun c=>
bif !c.1.1 then some (.inl ((v.1.2.1,v.1.2.2.1,v.1.2.2.2.1,v.1.2.2.2.2.1,v.1.1,()),()))
else(aC rq ((0,v.1.2.1,v.1.2.2.1,v.1.2.2.1,v.1.2.2.2.1,v.1.2.2.2.2.1,v.1.1,(v.1.2.2.1.length:Int),()),(b,()),())).bind fun d=>
aA d (fun e=>(some (.inr e))) (fun f=>(some (.inl f)))):Option (acP⊕eT)).bind fun g=>
aA g (fun a=>(some (.inl ((aP (a.1.2.2.2.2.1+1),a.1.1,a.1.2.1,a.1.2.2.1,a.1.2.2.2.1,()),())))) (fun h=>(some (.inr (.inl h))))
else(some (.inr (.inr ((),()))))
def abG(v:((ED×Y9×List Y9×Unit)×Unit)):Option eT:=
(aC vg ((0,v.1.2.1,v.1.2.2.1,v.1.1,(v.1.1.length:Int),()),())).bind fun a=>
aA a (fun b=>(some b)) (fun c=>(some ((false,()),())))
def ahW:Abs.Spec:=⟨0,⟨[0,1,2],(.dat En (.dat jE (.dat rC .nil))),.nil⟩,⟨[6],fu,.nil⟩,abG⟩
def ako:Nat→Abs.fo
 |0=>.mk (bA [(8,⟨[45,8,1,22,2,11,12,13,23,24],(.dat .bool (.st yP (.dat jE (.dat rC (.dat rC (.dat En (.dat aR EA))))))),Uj⟩)]) (bA [(11,(⟨[1,2,11,12,13],(.dat jE (.dat rC (.dat En lX))),.nil⟩,some (.one .ret ⟨[6],fu,.nil⟩)))]) (bA [(2,⟨⟨[13,1,2,11,12],(.dat aR (.dat jE (.dat rC Ud))),.nil⟩,aaU⟩),(6,⟨⟨[24,8,1,22,2,11,12,13,23],(.dat aR (.st yP (.dat jE (.dat rC (.dat rC (.dat En EA)))))),Uj⟩,(.more .ret ⟨[6],fu,.nil⟩ (.one (.exit 2) ⟨[1,2,11,12,13],(.dat jE (.dat rC (.dat En lX))),.nil⟩))⟩)]) fq
 |_=>{}
theorem alb:dz 215 ahW:=okW ako (bq Zk (bq agZ dQ))
def ZV(v:adH):Option eT:=
(abS ((v.1.2.1,v.1.2.2.1,v.1.2.2.2.2),())).bind fun a=>
((bif a.1.2.1 then some ((true,()),())
else(abG ((v.1.1,v.1.2.2.1,v.1.2.2.2.1,()),())).bind fun b=>
some b):Option eT).bind fun c=>
some c
def ahh:Abs.Spec:=⟨0,⟨[0,1,2,3,4],ade,.nil⟩,⟨[10],fu,.nil⟩,ZV⟩
def akU:Nat→Abs.fo
 |0=>.mk (bA [(2,⟨[10],fu,.nil⟩)]) bE bE fq
 |_=>{}
theorem aj5:dz 185 ahh:=okW akU (bq akB (bq alb dQ))
def Ao(v:aek):Option (aek⊕(tL⊕rz)):=
bif decide (v.1.1<v.1.2.2.2.1)then Abs.rowAt v.1.2.1 v.1.1 fun a _=>
bif v.1.2.2.1.toList==a.toList then some (.inr (.inl ((v.1.1,()),())))
else some (.inl ((aP (v.1.1+1),v.1.2),()))
else(some (.inr (.inr ((),()))))
def abZ(v:afv):Option tL:=
(aC Ao ((0,v.1.1,v.1.2.1,(v.1.1.length:Int),()),())).bind fun a=>
aA a (fun b=>(some b)) (fun c=>(some ((-1,()),())))
def aiy:Abs.Spec:=⟨0,⟨[0,1],(.dat Hq iF),.nil⟩,⟨[4],dx,.nil⟩,abZ⟩
def ahv:Nat→Abs.fo
 |0=>.mk bE bE (bA [(2,⟨⟨[8,0,1,7],(.dat aR (.dat Hq VD)),.nil⟩,Ro3⟩)]) fq
 |_=>{}
theorem ahP:dz 211 aiy:=okW ahv dQ
def M5(v:afv):Option eT:=
(abZ v).bind fun a=>
some ((decide (a.1.1≥0),()),())
def ajY:Abs.Spec:=⟨0,⟨[0,1],(.dat Hq iF),.nil⟩,⟨[4],fu,.nil⟩,M5⟩
theorem adV:dz 172 ajY:=okW tT (bq ahP dQ)
def aga(v:YL):Option eT:=
some ((!v.1.1.2.2.2.2.2.1,()),())
def ahJ:Abs.Spec:=⟨0,⟨[0],(.dat Z6 .nil),.nil⟩,⟨[2],fu,.nil⟩,aga⟩
theorem ahy:dz 184 ahJ:=okW tT dQ
def uX(v:adi):Option (adi⊕(wI×agz)):=
bif decide (v.1.1<v.1.2.2.2.2.1)then((bif decide (0≤v.1.1∧v.1.1<v.2.1.length)then
(v.2.1[v.1.1.toNat]?).bind fun a=>
(M5 ((v.1.2.2.1,a.1,()),())).bind fun c=>
bif c.1.1 then some ((v.1.2.1,v.1.2.2.1,v.1.2.2.2.1,v.1.2.2.2.2.1,v.1.1,()),v.2)
else bif a.2.2.2.2.1 then bif decide (v.2.2.2.2.2.2.1.length+ [a.1].length≤4294967296)then
((bif v.1.2.1 then some ((true,v.1.2.2.1,v.1.2.2.2.1,v.1.2.2.2.2.1,v.1.1,()),v.2.1,v.2.2.1,v.2.2.2.1,v.2.2.2.2.1,v.2.2.2.2.2.1,v.2.2.2.2.2.2.1++ [a.1],v.2.2.2.2.2.2.2)
else some ((!a.2.2.2.2.2.1,v.1.2.2.1,v.1.2.2.2.1,v.1.2.2.2.2.1,v.1.1,()),v.2.1,v.2.2.1,v.2.2.2.1,v.2.2.2.2.1,v.2.2.2.2.2.1,v.2.2.2.2.2.2.1++ [a.1],v.2.2.2.2.2.2.2)):Option ado).bind fun d=>
some d
else none
else bif decide (v.2.2.2.2.2.2.2.1.length+ [a.1].length≤4294967296)then
some ((v.1.2.1,v.1.2.2.1,v.1.2.2.2.1,v.1.2.2.2.2.1,v.1.1,()),v.2.1,v.2.2.1,v.2.2.2.1,v.2.2.2.2.1,v.2.2.2.2.2.1,v.2.2.2.2.2.2.1,v.2.2.2.2.2.2.2.1++ [a.1],())
else none
else none):Option ado).bind fun b=>
some (.inl ((aP (b.1.2.2.2.2.1+1),b.1.1,b.1.2.1,b.1.2.2.1,b.1.2.2.2.1,()),b.2))
else(some (.inr ((v.1.2.1,v.1.2.2.2.1,()),v.2.1,v.2.2.2.1,v.2.2.1,v.2.2.2.2)))
def jW(v:(sZ×ZC)):Option ((sZ×ZC)⊕((jq×ZC)⊕(Unit×ZC))):=
bif decide (v.1.1<v.1.2.1)then bif decide (0≤v.1.1∧v.1.1<v.2.1.length)then
(v.2.1[v.1.1.toNat]?).bind fun a=>
(M5 ((v.2.2.2.2.1,a.1,()),())).bind fun b=>
bif decide (v.2.2.2.1.length=v.2.2.2.1.length)&&(decide (v.2.2.2.2.1.length=v.2.2.2.2.1.length)&&true)then
bif b.1.1 then some (.inr (.inl ((v.1.1,()),v.2)))
else some (.inl ((aP (v.1.1+1),v.1.2),v.2))
else none
else none
else(some (.inr (.inr ((),v.2))))
def oJ(v:(sZ×ZC)):Option ((sZ×ZC)⊕(jq×ZC)):=
let c:=(decide (v.1.1<((v.2.1.length:Nat):Int)))
bif c then((bif decide (0≤v.1.1∧v.1.1<v.2.1.length)then
(v.2.1[v.1.1.toNat]?).bind fun b=>
(M5 ((v.2.2.2.2.1,b.1,()),())).bind fun d=>
bif decide (v.2.2.2.1.length=v.2.2.2.1.length)&&(decide (v.2.2.2.2.1.length=v.2.2.2.2.1.length)&&true)then
bif !d.1.1 then bif decide (0≤v.1.2.1∧v.1.2.1<v.2.1.length)then
bif decide (v.1.2.1.toNat<v.2.1.length)then
some ((aP (v.1.2.1+1),v.1.1,()),v.2.1.set v.1.2.1.toNat b,v.2.2)
else none
else none
else some ((v.1.2.1,v.1.1,()),v.2)
else none
else none):Option (sZ×ZC)).bind fun a=>
some (.inl ((aP (a.1.2.1+1),a.1.1,()),a.2))
else(some (.inr (v.1.2,v.2)))
def qR(v:adl):Option (adl⊕(wI×afN)):=
bif decide (v.1.1<v.1.2.2.2.2.1)then bif decide (0≤v.1.1∧v.1.1<v.1.2.1.2)then
(v.2.2.2.1[(v.1.2.1.1+v.1.1.toNat)]?).bind fun d=>
((bif d.2.2.2.2.2.1 then bif decide (0≤v.1.1∧v.1.1<v.2.2.1.1.2.2.1.2)then
(v.2.2.2.1[(v.2.2.1.1.2.2.1.1+v.1.1.toNat)]?).bind fun b=>
some ((v.1.2.1,v.1.2.2.1,v.1.2.2.2.1,v.1.2.2.2.2.1,v.1.1,()),v.2.1,v.2.2.1,v.2.2.2.1.set (v.2.2.1.1.2.2.1.1+v.1.1.toNat) (b.1,b.2.1,b.2.2.1,b.2.2.2.1,b.2.2.2.2.1,true,()),v.2.2.2.2)
else none
else(M5 ((v.2.2.2.2.2.2.2.1,d.1,()),())).bind fun e=>
bif decide (0≤v.1.1∧v.1.1<v.2.2.1.1.2.2.1.2)then
(v.2.2.2.1[(v.2.2.1.1.2.2.1.1+v.1.1.toNat)]?).bind fun c=>
some ((v.1.2.1,v.1.2.2.1,v.1.2.2.2.1,v.1.2.2.2.2.1,v.1.1,()),v.2.1,v.2.2.1,v.2.2.2.1.set (v.2.2.1.1.2.2.1.1+v.1.1.toNat) (c.1,c.2.1,c.2.2.1,c.2.2.2.1,c.2.2.2.2.1,e.1),v.2.2.2.2)
else none):Option (((Nat×Nat)×Bool×Int×Int×Int×Unit)×ai0)).bind fun a=>
some (.inl ((aP (a.1.2.2.2.2.1+1),a.1.1,a.1.2.1,a.1.2.2.1,a.1.2.2.2.1,()),a.2))
else none
else(some (.inr ((v.1.2.2.1,v.1.2.2.2.1,()),v.2.2.2.2.1,v.2.2.2.2.2.1,v.2.1,v.2.2.1,v.2.2.2.2.2.2.1,v.2.2.2.2.2.2.2.1,v.2.2.2.2.2.2.2.2.1,v.2.2.2.1,())))
def um(v:abW):Option (abW⊕(tL⊕rz)):=
bif decide (v.1.1<v.1.2.2.1)then Abs.rowAt v.1.2.1 v.1.1 fun a _=>
(aga ((a,()),())).bind fun b=>
bif b.1.1 then some (.inr (.inl ((v.1.1,()),())))
else some (.inl ((aP (v.1.1+1),v.1.2),()))
else(some (.inr (.inr ((),()))))
def ac4(v:aiK):Option (wI×(Yq6×zT×List mq×List ByteArray×List ByteArray×Unit)):=
(((m82 ((v.1.1,()),())).bind fun s=>
bif !s.1.1 then some ((true,v.1.2.2),((0,ByteArray.empty,0,0,()),()),((0,0,0,ByteArray.empty,()),()),(v.1.1,()),(v.1.2.1,()),())
else(Va ((v.1.2.1,()),())).bind fun t=>
some ((!t.1.1,v.1.2.2),((0,ByteArray.empty,0,0,()),()),((0,0,0,ByteArray.empty,()),()),(v.1.1,()),(v.1.2.1,()),())):Option ((Bool×Int×List ByteArray×Unit)×ad2)).bind fun h=>
bif h.1.1 then some ((false,8,()),((0,ByteArray.empty,(0,0),0,0,()),()),((0,0,0,ByteArray.empty,()),()),[],[],[],())
else((Hw ((h.1.2.1,0,8589934592,()),())).bind fun u=>
bif !u.1.1 then some ((false,1,()),((0,ByteArray.empty,(0,0),0,0,()),()),((0,0,0,ByteArray.empty,()),()),[],[],[],())
else(Qs (h.2.2.2.1,())).bind fun m=>
((bif m.2.1.1.2.2.1==(-1)then some ((true,h.1.2),h.2.1,h.2.2.1,m.2.1,h.2.2.2.2.1,m.2.2)
else some ((decide (m.2.1.1.2.2.1>h.1.2.1),h.1.2),h.2.1,h.2.2.1,m.2.1,h.2.2.2.2.1,m.2.2)):Option ((Bool×Int×List ByteArray×Unit)×(r9×zT×r9×(Y8×Unit)×List mq×Unit))).bind fun a=>
bif a.1.1 then some ((false,0,()),((a.2.2.2.1.1.1,a.2.2.2.1.1.2.1,(0,a.2.2.2.2.2.1.length),a.2.2.2.1.1.2.2),()),((0,0,0,ByteArray.empty,()),()),a.2.2.2.2.2.1,[],[],())
else(aC uX ((0,false,a.1.2.2.1,a.1.2.1,((a.2.2.2.2.2.1.length:Nat):Int),()),a.2.2.2.2.2.1,((a.1.2.1,a.2.2.2.1.1.1,a.2.2.2.2.1.1.2.2.1,a.2.2.2.1.1.2.1,()),()),((0,0,0,ByteArray.empty,()),()),a.2.2.2.2.1,a.2.2.2.1,[],[],())).bind fun e=>
((let w:=(decide (((e.2.2.2.2.2.2.1.length:Nat):Int)>0))
bif w then bif e.2.2.2.2.2.1.1.2.2.2.1 !=(-1)then let x:=(aP (e.2.2.2.2.2.1.1.2.2.2.1+e.2.2.2.2.1.1.2.2.2.2.2.2.1))
some ((decide (x≤e.1.2.1),e.1.1,()),e.2.1,e.2.2.1,e.2.2.2.1,e.2.2.2.2.2.2)
else some ((false,e.1.1,()),e.2.1,e.2.2.1,e.2.2.2.1,e.2.2.2.2.2.2)
else some ((false,e.1.1,()),e.2.1,e.2.2.1,e.2.2.2.1,e.2.2.2.2.2.2)):Option ((Bool×Bool×Unit)×(List mq×zT×zT×List ByteArray×List ByteArray×Unit))).bind fun l=>
((bif l.1.2.1 then some ((true,()),l.2.1,l.2.2.2)
else bif l.1.1 then some ((true,()),l.2.1,l.2.2.2)
else let y:=(decide (((l.2.2.2.2.2.1.length:Nat):Int)>0))
some ((y,()),l.2.1,l.2.2.2)):Option (nW×ZC)).bind fun d=>
bif decide (d.2.1.length=a.2.2.2.2.2.1.length)&&true then
((bif d.1.1 then(((((aC jW ((0,((d.2.1.length:Nat):Int),()),d.2)).bind fun z=>
aA z (fun n=>(bif decide (n.2.1.length=d.2.1.length)&&(decide (n.2.2.2.1.length=d.2.2.2.1.length)&&(decide (n.2.2.2.2.1.length=d.2.2.2.2.1.length)&&true))then
some n
else none)) (fun o=>(bif decide (o.2.1.length=d.2.1.length)&&(decide (o.2.2.2.1.length=d.2.2.2.1.length)&&(decide (o.2.2.2.2.1.length=d.2.2.2.2.1.length)&&true))then
some ((-1,()),o.2)
else none))):Option (jq×ZC)).bind fun j=>
bif j.1.1==(-1)then bif decide (j.2.1.length=d.2.1.length)&&(decide (j.2.2.2.1.length=d.2.2.2.1.length)&&(decide (j.2.2.2.2.1.length=d.2.2.2.2.1.length)&&true))then
some ((d.1.1,a.1.2.1,()),j.2.2.1,((a.2.2.2.1.1.1,a.2.2.2.1.1.2.1,(0,j.2.1.length),a.2.2.2.1.1.2.2.1,a.1.2.1,()),()),a.2.1,a.2.2.1,a.2.2.2.2.1,j.2.2.2.1,j.2.2.2.2.1,j.2.1,())
else none
else(aC oJ ((aP (j.1.1+1),j.1),j.2)).bind fun b=>
bif decide ((0:Int)≤b.1.1)then
bif decide (b.1.1.toNat≤b.2.1.length∧b.2.1.length≤b.2.1.length)then
bif decide (b.1.1.toNat+(b.2.1.length-b.1.1.toNat)≤b.2.1.length)then
let p:=(bM b.2.1 b.1.1.toNat (List.replicate (b.2.1.length-b.1.1.toNat) ((ByteArray.empty,[],0,0,false,false,()):mq)))
bif decide ((0:Int)≤b.1.1)then
bif decide (0≤b.1.1.toNat∧b.1.1.toNat≤p.length)then
bif decide (p.length=d.2.1.length)&&(decide (b.2.2.2.1.length=d.2.2.2.1.length)&&(decide (b.2.2.2.2.1.length=d.2.2.2.2.1.length)&&true))then
some ((d.1.1,a.1.2.1,()),b.2.2.1,((a.2.2.2.1.1.1,a.2.2.2.1.1.2.1,(0,b.1.1.toNat),a.2.2.2.1.1.2.2.1,a.1.2.1,()),()),a.2.1,a.2.2.1,a.2.2.2.2.1,b.2.2.2.1,b.2.2.2.2.1,p,())
else none
else none
else none
else none
else none
else none):Option (wI×(zT×Yq6×r9×zT×(Y8×Unit)×List ByteArray×List ByteArray×List mq×Unit))).bind fun k=>
(aC qR ((0,k.2.2.1.1.2.2.1,k.1.1,k.1.2.1,((k.2.2.1.1.2.2.1.2:Nat):Int),()),k.2.1,k.2.2.1,k.2.2.2.2.2.2.2.2.1,k.2.2.2.1,k.2.2.2.2.1,k.2.2.2.2.2.1,k.2.2.2.2.2.2.1,k.2.2.2.2.2.2.2.1,())).bind fun aa=>
some aa
else some ((d.1.1,a.1.2.1,()),a.2.1,a.2.2.1,((0,0,0,ByteArray.empty,()),()),((a.2.2.2.1.1.1,a.2.2.2.1.1.2.1,(0,d.2.1.length),a.2.2.2.1.1.2.2),()),a.2.2.2.2.1,[],[],d.2.1,())):Option (wI×afN)).bind fun f=>
bif decide (f.2.2.2.2.1.1.2.2.1.1+f.2.2.2.2.1.1.2.2.1.2≤f.2.2.2.2.2.2.2.2.1.length)then
(((aC um ((0,(f.2.2.2.2.2.2.2.2.1.drop f.2.2.2.2.1.1.2.2.1.1).take f.2.2.2.2.1.1.2.2.1.2,(((f.2.2.2.2.2.2.2.2.1.drop f.2.2.2.2.1.1.2.2.1.1).take f.2.2.2.2.1.1.2.2.1.2).length:Int),()),())).bind fun ab=>
aA ab (fun ac=>(some ((decide (ac.1.1≥0),()),()))) (fun ai=>(some ((false,()),())))):Option eT).bind fun ad=>
let q:=(aP (f.2.2.2.2.1.1.2.2.2.2.1+f.2.2.2.2.2.1.1.2.2.2.2.2.2.1))
((((bif ad.1.1 then some ((true,f.1.1,f.1.2.1,q,()),f.2)
else some ((decide (q≤f.1.2.1),f.1.1,f.1.2.1,q,()),f.2)):Option (WK×afN)).bind fun g=>
bif g.1.1 then let ae:=(aP (g.1.2.2.1+g.2.2.2.2.2.1.1.2.2.2.2.2.1))
some ((g.1.2.1,g.1.2.2.1,ae,()),g.2.1,g.2.2.1,g.2.2.2.1,g.2.2.2.2.1,g.2.2.2.2.2.2)
else some (g.1.2,g.2.1,g.2.2.1,g.2.2.2.1,g.2.2.2.2.1,g.2.2.2.2.2.2)):Option (IW×(r9×zT×zT×Yq6×List ByteArray×List ByteArray×List mq×Unit))).bind fun c=>
let af:=(if((aP (c.1.2.1+1)):Int)>c.1.2.2.1 then aP (c.1.2.1+1)else c.1.2.2.1)
(O7 ((af,()),())).bind fun ag=>
((let ah:=(((c.2.2.2.2.1.1.2.2.1.2:Nat):Int)==0)
bif decide (c.2.2.2.2.2.2.2.1.length=c.2.2.2.2.2.2.2.1.length)&&true then
bif ah then some ((),c.2.2.2.2.2.2.2.1,((0,ByteArray.empty,0,0,()),()),((c.2.2.2.2.1.1.1,c.2.2.2.2.1.1.2.1,c.2.2.2.2.1.1.2.2.1,-1,c.2.2.2.2.1.1.2.2.2.2),()),())
else some ((),c.2.2.2.2.2.2.2.1,((0,ByteArray.empty,0,0,()),()),((c.2.2.2.2.1.1.1,c.2.2.2.2.1.1.2.1,c.2.2.2.2.1.1.2.2.1,ag.1.1,c.2.2.2.2.1.1.2.2.2.2),()),())
else none):Option (Unit×(List mq×r9×Yq6×Unit))).bind fun r=>
bif decide (r.2.1.length=c.2.2.2.2.2.2.2.1.length)&&true then
some ((c.1.1,0,()),r.2.2.2.1,c.2.2.2.1,r.2.1,c.2.2.2.2.2.1,c.2.2.2.2.2.2.1,())
else none
else none
else none)
def akg:Abs.Spec:=⟨0,⟨[0,1,2,3],aiU,.nil⟩,⟨[8,9,10,11],(.st ig (.st sG MK)),(.box 5 (.agg (.dat aR (.dat .str (.part Z6 (2,0) lX))) .nil) (.box 6 agf (.arr Z6 false KP)))⟩,ac4⟩
def ajB:Nat→Abs.fo
 |0=>.mk (bA [(20,⟨[101,8,9,13,12,4,2,5,17],aht,ae8⟩),(15,⟨[12,4,65,8,9,13,2,5,66,67],(.st Vp (.st yg (.part Z6 (2,0) (.st EH (.st Md (.dat .bool (.dat aR (.st Ia lX)))))))),aiB⟩),(11,⟨[12,4,8,9,13,2,5],(.st Vp (.st yg (.st qK (.st (.ptr (3,0) 6 0 0) (.dat .bool ZL))))),(.box 6 Y2 (.box 5 (.agg (.dat aR (.dat .str (.part Z6 (7,0) lX))) .nil) (.box 5 DU (.box 6 Nz aau))))⟩),(6,⟨[45,8,9,4,2,5,3],ajO,(.box 5 DU (.box 6 Nz (.box 5 (.agg (.dat aR (.dat .str (.st (.own Z6 (4,0)) lX))) .nil) (.box 8 uo yA))))⟩),(1,⟨[18,8,9,4,2,5,3],ajO,(.box 5 DU (.box 6 Nz (.box 5 oN KT)))⟩)]) (bA [(22,(⟨[8,9,13,12,4,2,17],acM,(.box 5 DU (.box 6 Nz (.box 6 akM (.box 5 (.agg (.dat aR (.dat .str (.part Z6 (6,0) lX))) .nil) (.arr .str false (.arr .str false yA))))))⟩,none)),(18,(⟨[8,9,13,12,4,2,5],ajq,ae8⟩,none))]) (bA [(13,⟨⟨[67,12,4,65,8,9,13,2,5,66],(.dat aR (.st Vp (.st yg (.part Z6 (2,0) adF)))),aiB⟩,(.one (.exit 1) ⟨[8,9,13,12,4,2,5],ajq,ae8⟩)⟩)]) (fun
  |23,1=>8
  |18,2=>6
  |11,3=>2
  |8,4=>1
  |_,_=>0)
 |1=>.mk (bA [(13,⟨[8,9],(.st sG fu),Oz⟩),(12,⟨[8,10,14,11],(.st sG (.st IZ (.dat .bool fu))),(.arr Z6 false (.box 6 Nz (.box 6 agf KP)))⟩),(10,⟨[11,10,3,24,8,2,5,4,25,26],ah5,afn⟩)]) (bA [(11,(⟨[11,10,3,24,8,2,5,4,25,26],ah5,afn⟩,none))]) (bA [(4,⟨⟨[26,11,10,3,24,8,2,5,4,25],(.dat aR (.dat .bool (.st sG (.dat Hq (.st Io (.st IZ (.dat aR (.st (.ptr (3,0) 8 0 0) (.st (.ptr (4,0) 5 0 0) dx))))))))),afn⟩,(.one (.exit 0) ⟨[8,10,11,2,5,4],(.st sG (.st IZ (.dat .bool (.dat aR (.st (.ptr (3,0) 8 0 0) (.st (.ptr (4,0) 5 0 0) .nil)))))),(.arr Z6 false (.box 6 Nz (.box 6 Y2 ahf)))⟩)⟩)]) fq
 |2=>.mk (bA [(1,⟨[0,5,1],(.st Io (.dat aR (.st abD .nil))),Oz⟩)]) (bA [(6,(⟨[5,0,1,6],(.dat aR (.st Io (.st abD dx))),Oz⟩,none))]) (bA [(5,⟨⟨[6,5,0,1],(.dat aR (.dat aR (.st Io (.st abD .nil)))),Oz⟩,(.one (.exit 0) ⟨[5,0],(.dat aR (.st Io .nil)),Oz⟩)⟩)]) (fun
  |8,2=>5
  |1,2=>3
  |_,_=>0)
 |3=>.mk bE bE (bA [(2,⟨⟨[8,0,1,7],(.dat aR (.st Io (.st abD dx))),Oz⟩,(.more .ret ⟨[4],dx,Oz⟩ (.one (.exit 0) ⟨[],.nil,Oz⟩))⟩)]) (fun
  |4,5=>4
  |_,_=>0)
 |6=>.mk (bA [(1,⟨[4],fu,.nil⟩)]) bE bE (fun
  |1,2=>7
  |_,_=>0)
 |7=>.mk bE bE (bA [(2,⟨⟨[8,0,1,7],(.dat aR (.dat EG (.st (.clo 184 []) dx))),.nil⟩,Ro3⟩)]) fq
 |8=>.mk bE (bA [(3,(⟨[2,1],I7,(.arr Z6 false (.box 5 DU (.box 5 (.agg (.dat aR (.dat .str (.part Z6 (0,0) lX))) .nil) .nil)))⟩,none))]) bE (fun
  |1,1=>9
  |_,_=>0)
 |_=>{}
theorem aiM:dz 134 akg:=okW ajB (bq ab9 (bq WW (bq OT (bq TT (bq adV (bq ahy (bq Yc dQ)))))))
def m83(v:((ZE×Y3×Int×Unit)×Unit)):Option eT:=
(((af6 ((v.1.2.1,()),())).bind fun a=>
bif a.1.1 then bif v.1.2.1.2.2.2.2.1==(-1)then some ((true,()),())
else Abs.rowAt v.1.1.1 v.1.2.1.1 fun b _=>
let c:=(decide (((aP (v.1.2.1.2.2.2.2.1+b.2.2.2.2.2.1)):Int)≤v.1.2.2.1))
some ((c,()),())
else some ((false,()),())):Option eT).bind fun d=>
some d
def amZ:Abs.Spec:=⟨0,⟨[0,1,2],(.dat Ug (.dat Z1 dx)),.nil⟩,⟨[6],fu,.nil⟩,m83⟩
def anp:Nat→Abs.fo
 |0=>.mk (bA [(1,⟨[6],fu,.nil⟩)]) bE bE fq
 |_=>{}
theorem aeF:dz 83 amZ:=okW anp (bq akH dQ)
def BZ(v:ae6):Option (ae6⊕(jq×(rA×Cn×rA×List Y3×mM×Unit))):=
bif decide (v.1.1<v.1.2.2.1)then bif decide (0≤v.1.1∧v.1.1<v.2.2.2.1.length)then
(v.2.2.2.1[v.1.1.toNat]?).bind fun b=>
Abs.rowAt v.2.1.1.1 b.1 fun c _=>
(ac3 ((b,c,v.1.2.1,v.2.1.1.2.2),())).bind fun a=>
bif decide (0≤v.1.1∧v.1.1<v.2.2.2.1.length)then
bif decide (v.1.1.toNat<v.2.2.2.1.length)then
some (.inl ((aP (v.1.1+1),v.1.2),v.2.1,v.2.2.1,v.2.2.2.1.set v.1.1.toNat (a.2.1.1.1,a.2.1.1.2.1,a.2.2.1,a.2.1.1.2.2),v.2.2.2.2))
else none
else none
else none
else(some (.inr ((v.1.2.1,()),v.2.2.1,v.2.1,v.2.2.2.2.1,v.2.2.2.1,v.2.2.2.2.2)))
def Bn(v:(akP×aeX)):Option ((akP×aeX)⊕(Unit×(List Y3×mM×List ByteArray×Unit))):=
bif decide (v.1.1<v.1.2.2.2.1)then((Abs.rowAt v.1.2.2.1 v.1.1 fun b _=>
(ZV ((v.2.2.2.2.2.1.1.2.1,v.2.2.1,b.2.1,v.1.2.1,v.2.2.2.2.1.1.1,()),())).bind fun c=>
bif c.1.1 then bif decide (v.2.2.2.1.length+ [b.1].length≤4294967296)then
some ((v.1.2.1,v.1.2.2.1,v.1.2.2.2.1,v.1.1,()),v.2.1,v.2.2.1,v.2.2.2.1++ [b.1],v.2.2.2.2)
else none
else some ((v.1.2.1,v.1.2.2.1,v.1.2.2.2.1,v.1.1,()),v.2)):Option (aiX×aeX)).bind fun a=>
some (.inl ((aP (a.1.2.2.2.1+1),a.1.1,a.1.2.1,a.1.2.2.1,()),a.2))
else(some (.inr ((),v.2.1,v.2.2.1,v.2.2.2.1,())))
def wJ(v:adT):Option (adT⊕(Unit×(rA×List Eo×rA×Cn×List Y3×mM×Unit))):=
bif decide (v.1.1<v.1.2.2.2.1)then((bif decide (0≤v.1.1∧v.1.1<v.2.2.2.2.1.length)then
(v.2.2.2.2.1[v.1.1.toNat]?).bind fun d=>
Abs.rowAt v.2.2.2.1.1.1 d.1 fun e _=>
(aC Bn ((0,v.1.2.1,d.2.2.1,(d.2.2.1.length:Int),()),v.2.2.2.2.1,v.2.2.2.2.2.2.1,[],v.2.2.1,v.2.2.2.1,())).bind fun b=>
bif decide (b.2.1.length=v.2.2.2.2.1.length)&&(decide (b.2.2.1.length=v.2.2.2.2.2.2.1.length)&&true)then
(ac4 ((d,e,v.1.2.2.1,b.2.2.2),())).bind fun a=>
bif decide (0≤v.1.1∧v.1.1<b.2.1.length)then
bif decide (a.2.1.1.2.2.1.1+a.2.1.1.2.2.1.2≤a.2.2.2.1.length)then
bif decide (v.1.1.toNat<b.2.1.length)then
bif a.1.1 then bif decide (v.2.1.length+([(a.2.2.1.1.1,a.2.2.1.1.2.1,a.2.2.1.1.2.2.1,a.2.2.1.1.2.2.2.1,a.2.2.2.2)]:List Eo).length≤4294967296)then
let f:=(v.2.1++([(a.2.2.1.1.1,a.2.2.1.1.2.1,a.2.2.1.1.2.2.1,a.2.2.1.1.2.2.2.1,a.2.2.2.2)]:List Eo))
some ((v.1.2.1,v.1.2.2.1,v.1.2.2.2.1,v.1.1,()),f,v.2.2.1,v.2.2.2.1,b.2.1.set v.1.1.toNat (a.2.1.1.1,a.2.1.1.2.1,(a.2.2.2.1.drop a.2.1.1.2.2.1.1).take a.2.1.1.2.2.1.2,a.2.1.1.2.2.2),v.2.2.2.2.2.1,b.2.2.1,())
else none
else some ((v.1.2.1,v.1.2.2.1,v.1.2.2.2.1,v.1.1,()),v.2.1,v.2.2.1,v.2.2.2.1,b.2.1.set v.1.1.toNat (a.2.1.1.1,a.2.1.1.2.1,(a.2.2.2.1.drop a.2.1.1.2.2.1.1).take a.2.1.1.2.2.1.2,a.2.1.1.2.2.2),v.2.2.2.2.2.1,b.2.2.1,())
else none
else none
else none
else none
else none):Option ((List Y9×Int×Int×Int×Unit)×ahN)).bind fun c=>
some (.inl ((aP (c.1.2.2.2.1+1),c.1.1,c.1.2.1,c.1.2.2.1,()),c.2))
else(some (.inr ((),v.2.2.2.2.2.1,v.2.1,v.2.2.1,v.2.2.2.1,v.2.2.2.2.1,v.2.2.2.2.2.2)))
def rO(v:(sZ×QI)):Option adA:=
bif decide (v.1.1<v.1.2.1)then bif decide (0≤v.1.1∧v.1.1<v.2.1.length)then
(v.2.1[v.1.1.toNat]?).bind fun a=>
(m83 ((v.2.2.1.1,a,v.2.2.2.1.1.1,()),())).bind fun b=>
bif decide (v.2.1.length=v.2.1.length)&&(decide (v.2.2.2.2.1.length=v.2.2.2.2.1.length)&&true)then
bif b.1.1 then some (.inr (.inl ((v.1.1,()),v.2)))
else some (.inl ((aP (v.1.1+1),v.1.2),v.2))
else none
else none
else(some (.inr (.inr ((),v.2))))
def xS(v:(sZ×QI)):Option ((sZ×QI)⊕(jq×QI)):=
let c:=(decide (v.1.1<((v.2.1.length:Nat):Int)))
bif c then((bif decide (0≤v.1.1∧v.1.1<v.2.1.length)then
(v.2.1[v.1.1.toNat]?).bind fun b=>
(m83 ((v.2.2.1.1,b,v.2.2.2.1.1.1,()),())).bind fun d=>
bif decide (v.2.1.length=v.2.1.length)&&(decide (v.2.2.2.2.1.length=v.2.2.2.2.1.length)&&true)then
bif !d.1.1 then bif decide (0≤v.1.2.1∧v.1.2.1<v.2.1.length)then
bif decide (v.1.2.1.toNat<v.2.1.length)then
some ((aP (v.1.2.1+1),v.1.1,()),v.2.1.set v.1.2.1.toNat b,v.2.2)
else none
else none
else some ((v.1.2.1,v.1.1,()),v.2)
else none
else none):Option (sZ×QI)).bind fun a=>
some (.inl ((aP (a.1.2.1+1),a.1.1,()),a.2))
else(some (.inr (v.1.2,v.2)))
def m75(v:Y0):Option (Unit×aeK):=
(m64 ((v.1.2.1,()),())).bind fun f=>
(aC BZ ((0,v.1.2.2.1,((f.2.2.1.length:Nat):Int),()),(v.1.1,()),((v.1.2.2.1,f.2.1.1.2),()),f.2.2.1,((0,0,()),()),f.2.2.2)).bind fun c=>
bif yH c.2.2.2.2.1 then
bif decide (c.2.2.2.2.1.length=c.2.2.2.2.1.length)&&(decide (c.2.2.2.2.2.1.length=c.2.2.2.2.2.1.length)&&true)then
(aC wJ ((0,pV c.2.2.2.2.1,c.1.1,((c.2.2.2.2.1.length:Nat):Int),()),[],c.2.1,c.2.2.1,c.2.2.2.2.1,c.2.2.2.1,c.2.2.2.2.2)).bind fun b=>
(((((aC rO ((0,((b.2.2.2.2.2.1.length:Nat):Int),()),b.2.2.2.2.2.1,b.2.2.2.2.1,b.2.2.2.1,b.2.2.2.2.2.2)).bind fun k=>
aA k (fun g=>(bif decide (g.2.1.length=b.2.2.2.2.2.1.length)&&(decide (g.2.2.2.2.1.length=b.2.2.2.2.2.2.1.length)&&true)then
some g
else none)) (fun h=>(bif decide (h.2.1.length=b.2.2.2.2.2.1.length)&&(decide (h.2.2.2.2.1.length=b.2.2.2.2.2.2.1.length)&&true)then
some ((-1,()),h.2)
else none))):Option (jq×QI)).bind fun d=>
bif d.1.1==(-1)then bif decide (d.2.1.length=b.2.2.2.2.2.1.length)&&(decide (d.2.2.2.2.1.length=b.2.2.2.2.2.2.1.length)&&true)then
some ((),d.2.1,d.2.2.2.2.1,((0,0,()),()),((d.2.2.2.1.1.1,(0,d.2.1.length),d.2.2.2.1.1.2),()),())
else none
else(aC xS ((aP (d.1.1+1),d.1),d.2)).bind fun a=>
bif decide ((0:Int)≤a.1.1)then
bif decide (a.1.1.toNat≤a.2.1.length∧a.2.1.length≤a.2.1.length)then
bif decide (a.1.1.toNat+(a.2.1.length-a.1.1.toNat)≤a.2.1.length)then
let j:=(bM a.2.1 a.1.1.toNat (List.replicate (a.2.1.length-a.1.1.toNat) ((0,ByteArray.empty,[],0,0,()):Y3)))
bif decide ((0:Int)≤a.1.1)then
bif decide (0≤a.1.1.toNat∧a.1.1.toNat≤j.length)then
bif decide (j.length=b.2.2.2.2.2.1.length)&&(decide (a.2.2.2.2.1.length=b.2.2.2.2.2.2.1.length)&&true)then
some ((),j,a.2.2.2.2.1,((0,0,()),()),((a.2.2.2.1.1.1,(0,a.1.1.toNat),a.2.2.2.1.1.2),()),())
else none
else none
else none
else none
else none
else none):Option ae0).bind fun e=>
bif decide (e.2.1.length=b.2.2.2.2.2.1.length)&&(decide (e.2.2.1.length=b.2.2.2.2.2.2.1.length)&&true)then
some ((),e.2.2.2.2.1,b.2.2.1,e.2.1,e.2.2.1,())
else none
else none
else none
def amS:Abs.Spec:=⟨0,⟨[0,1,2],(.dat Ug (.dat Z17 dx)),.nil⟩,⟨[6,7],(.st gX (.st MX .nil)),afD⟩,m75⟩
def am2:Nat→Abs.fo
 |0=>.mk bE (bA [(17,(⟨[11,4,10,3,2,52,6,53,54],(.st (.own zR (0,0)) (.st oD (.dat rC (.st oO (.dat aR (.st (.own Z1 (3,0)) (.st Wy lX))))))),akK⟩,none))]) (bA [(11,⟨⟨[54,11,4,10,3,2,52,6,53],(.dat aR (.st (.own zR (0,0)) (.st oD (.dat rC (.st oO (.dat aR (.st (.own Z1 (3,0)) (.st Wy dx)))))))),akK⟩,(.one (.exit 2) ⟨[6,11,4,3],(.st gX (.st MX (.st zf (.st Gh .nil)))),(.box 4 Co (.arr zR false (.box 4 (.agg (.dat aR (.st (.own Z1 (4,0)) (.st (.own Z4 (5,0)) dx))) .nil) (.box 3 lN WV))))⟩)⟩),(4,⟨⟨[25,3,2,4,23,6,24],(.dat aR (.st yP (.dat aR (.st oD (.st (.own Z1 (2,0)) (.st HV dx)))))),(.box 3 lN (.box 4 (.agg (.dat aR (.st (.own Z1 (2,0)) (.st (.own Z4 (4,0)) dx))) .nil) (.arr Z1 false (.box 4 Co CZ))))⟩,(.one (.exit 0) ⟨[4,3,2,6],(.st gX (.st IV ahY)),(.box 4 ajd (.box 3 lN (.box 4 Co WV)))⟩)⟩)]) (fun
  |18,2=>2
  |13,12=>1
  |_,_=>0)
 |1=>.mk bE (bA [(7,(⟨[9,5,3,4,13,14,15],(.st Ll (.st HV (.dat rC (.st IX (.dat EG lX))))),ak0⟩,none))]) (bA [(3,⟨⟨[15,9,5,3,4,13,14],(.dat aR (.st Ll (.st HV (.dat rC (.st IX aid))))),ak0⟩,(.one (.exit 0) ⟨[9],(.st Ll .nil),(.arr Z1 false (.arr Z4 false Rb8))⟩)⟩)]) fq
 |2=>.mk (bA [(1,⟨[4,3],(.st zf PK),aiH⟩)]) bE bE (fun
  |1,3=>3
  |_,_=>0)
 |3=>.mk (bA [(1,⟨[0,5,1],(.st AP (.dat aR abo)),XD⟩)]) (bA [(6,(⟨[5,0,1,6],ZT,XD⟩,none))]) (bA [(5,⟨⟨[6,5,0,1],(.dat aR (.dat aR (.st AP abo))),XD⟩,adR⟩)]) (fun
  |8,2=>6
  |1,2=>4
  |_,_=>0)
 |4=>.mk bE bE (bA [(2,⟨⟨[8,0,1,7],ZT,XD⟩,acO⟩)]) (fun
  |4,5=>5
  |_,_=>0)
 |_=>{}
theorem akT:dz 75 amS:=okW am2 (bq aeP (bq aiY (bq aj5 (bq aiM (bq aeF dQ)))))
def vM(v:Ol):Option (Ol⊕(tL⊕rz)):=
bif decide (v.1.1<v.1.2.2.1)then Abs.rowAt v.1.2.1 v.1.1 fun a _=>
(TW ((a,()),())).bind fun b=>
bif b.1.1 then some (.inr (.inl ((v.1.1,()),())))
else some (.inl ((aP (v.1.1+1),v.1.2),()))
else(some (.inr (.inr ((),()))))
def aak(v:((Y36×Int×Unit)×Unit)):Option tL:=
((bif decide (v.1.1.1<1)then some ((true,()),(v.1.1,()),())
else some ((decide (v.1.1.1≤v.1.2.1),()),(v.1.1,()),())):Option (nW×Jw)).bind fun a=>
bif a.1.1 then some ((6,()),())
else(((bif decide (a.2.1.1.2.1<0)then some ((true,()),a.2)
else let c:=(decide (a.2.1.1.2.1≥a.2.1.1.2.2.1))
bif c then some ((true,()),a.2)
else bif decide (a.2.1.1.2.2.1>8589934592)then some ((true,()),a.2)
else some ((decide (a.2.1.1.2.2.2.1<0),()),a.2)):Option (nW×Jw)).bind fun b=>
bif b.1.1 then some ((1,()),())
else let d:=((b.2.1.1.2.2.2.2.1.length:Int)==0)
bif d then some ((7,()),())
else let e:=(decide ((b.2.1.1.2.2.2.2.1.length:Int)>8))
bif e then some ((5,()),())
else(((aC vM ((0,b.2.1.1.2.2.2.2.1,(b.2.1.1.2.2.2.2.1.length:Int),()),())).bind fun f=>
aA f (fun g=>(some ((decide (g.1.1≥0),()),()))) (fun j=>(some ((false,()),())))):Option eT).bind fun h=>
bif h.1.1 then some ((8,()),())
else some ((0,()),()))
def ajo:Abs.Spec:=⟨0,⟨[0,1],(.dat Z4 dx),.nil⟩,⟨[4],dx,.nil⟩,aak⟩
def ake:Nat→Abs.fo
 |0=>.mk (bA [(3,⟨[15,2],(.dat .bool Oi),Nt⟩),(1,⟨[5,2],(.dat .bool Oi),Nt⟩)]) bE bE (fun
  |9,2=>1
  |_,_=>0)
 |1=>.mk (bA [(1,⟨[4],fu,.nil⟩)]) bE bE (fun
  |1,2=>2
  |_,_=>0)
 |2=>.mk bE bE (bA [(2,⟨⟨[8,0,1,7],aeN,.nil⟩,Ro3⟩)]) fq
 |_=>{}
theorem aje:dz 143 ajo:=okW ake (bq adw dQ)
def FB(v:((Int×Int×mM×Int×Unit)×Unit)):Option (((Int×Int×mM×Int×Unit)×Unit)⊕(tL⊕rz)):=
bif decide (v.1.1<v.1.2.2.2.1)then Abs.rowAt v.1.2.2.1 v.1.1 fun a _=>
(aak ((a,v.1.2.1,()),())).bind fun b=>
bif b.1.1 !=0 then some (.inr (.inl b))
else some (.inl ((aP (v.1.1+1),a.1,v.1.2.2),()))
else(some (.inr (.inr ((),()))))
def m81(v:TN):Option tL:=
bif decide ((v.1.1.length:Int)>24)then some ((5,()),())
else((aC FB ((0,0,v.1.1,(v.1.1.length:Int),()),())).bind fun a=>
aA a (fun b=>(some b)) (fun c=>(some ((0,()),()))))
def amy:Abs.Spec:=⟨0,⟨[0],NS,.nil⟩,⟨[2],dx,.nil⟩,m81⟩
def amE:Nat→Abs.fo
 |0=>.mk bE bE (bA [(5,⟨⟨[12,3,10,11],(.dat aR (.dat aR y5)),.nil⟩,abI⟩)]) fq
 |_=>{}
theorem ajI:dz 81 amy:=okW amE (bq aje dQ)
def m84(v:((Y3×Int×ByteArray×Unit)×Unit)):Option tL:=
bif v.1.1.1 !=v.1.2.1 then some ((aP (v.1.1.1-v.1.2.1),()),())
else((WJ ((v.1.1.2.1,v.1.2.2),())).bind fun a=>
some a)
def anI:Abs.Spec:=⟨0,⟨[0,1,2],(.dat Z1 EC),.nil⟩,⟨[6],dx,.nil⟩,m84⟩
theorem ajJ:dz 84 anI:=okW tT (bq adf dQ)
def uD(v:aeo):Option (aeo⊕WN):=
bif decide (v.1.1<v.1.2.2.2.1)then((Abs.rowAt v.1.2.2.1 v.1.1 fun b _=>
(M5 ((v.1.2.1,b.1,()),())).bind fun c=>
bif c.1.1 then bif decide (v.2.1.length+([b]:List LY).length≤4294967296)then
let d:=(v.2.1++([b]:List LY))
some ((v.1.2.1,v.1.2.2.1,v.1.2.2.2.1,v.1.1,()),d,())
else none
else some ((v.1.2.1,v.1.2.2.1,v.1.2.2.2.1,v.1.1,()),v.2)):Option ((List ByteArray×Y9×Int×Int×Unit)×(Y9×Unit))).bind fun a=>
some (.inl ((aP (a.1.2.2.2.1+1),a.1.1,a.1.2.1,a.1.2.2.1,()),a.2))
else(some (.inr ((),v.2)))
def aaE(v:adn):Option WN:=
(aC uD ((0,v.1.2.1,v.1.1,(v.1.1.length:Int),()),[],())).bind fun a=>
some ((),a.2)
def ahK:Abs.Spec:=⟨0,⟨[0,1],(.dat jE Iy),.nil⟩,⟨[4],Pw,BJ⟩,aaE⟩
def akt:Nat→Abs.fo
 |0=>.mk bE (bA [(7,(⟨[5,1,8,9,10],(.st VH (.dat Hq (.dat jE lX))),BJ⟩,none))]) (bA [(3,⟨⟨[10,5,1,8,9],(.dat aR (.st VH (.dat Hq Qg))),BJ⟩,(.one (.exit 0) ⟨[5],Pw,BJ⟩)⟩)]) fq
 |_=>{}
theorem ajx:dz 119 ahK:=okW akt (bq adV dQ)
def m69(v:((Y8×Y9×Unit)×Unit)):Option Fx:=
(m66 (v.1.2,())).bind fun a=>
bif !a.1.1 then some ((ByteArray.empty,()),())
else((aaE ((v.1.2.1,v.1.1.2.2.2.1,()),())).bind fun b=>
(Ve (b.2,())).bind fun c=>
some c)
def aoy:Abs.Spec:=⟨0,⟨[0,1],(.dat Z2 lJ),.nil⟩,⟨[4],iF,.nil⟩,m69⟩
theorem akG:dz 69 aoy:=okW tT (bq Vv (bq ajx (bq Yf dQ)))
def Bf(v:(YT×X7)):Option ((YT×X7)⊕((jq×X7)⊕(Unit×X7))):=
bif decide (v.1.1<v.1.2.2.1)then Abs.rowAt v.1.2.1 v.1.1 fun a _=>
Abs.rowAt v.2.1.1.1 v.2.2.1.1.1 fun b _=>
(m69 ((b,a.2.1,()),())).bind fun c=>
bif !(c.1.1.toList==v.2.2.1.1.2.1.toList)then some (.inr (.inl ((v.1.1,()),v.2)))
else some (.inl ((aP (v.1.1+1),v.1.2),v.2))
else(some (.inr (.inr ((),v.2))))
def rH(v:(aki×Nk)):Option ((aki×Nk)⊕(eT⊕rz)):=
bif decide (v.1.1<v.1.2.2.1)then Abs.rowAt v.1.2.1 v.1.1 fun a _=>
(((m82 ((a,()),())).bind fun e=>
bif !e.1.1 then some ((true,v.1.2.1,v.1.2.2.1,v.1.1,()),v.2.1,v.2.2.1,(a,()),())
else let f:=(decide (a.1≥(v.2.1.1.1.length:Int)))
bif f then some ((true,v.1.2.1,v.1.2.2.1,v.1.1,()),v.2.1,v.2.2.1,(a,()),())
else(m83 ((v.2.1.1,a,v.2.2.1.1.1,()),())).bind fun g=>
bif g.1.1 then some ((true,v.1.2.1,v.1.2.2.1,v.1.1,()),v.2.1,v.2.2.1,(a,()),())
else bif decide (v.1.1>0)then Abs.rowAt v.2.2.1.1.2.1 (aP (v.1.1-1)) fun h _=>
(m84 ((h,a.1,a.2.1,()),())).bind fun j=>
some ((decide (j.1.1≥0),v.1.2.1,v.1.2.2.1,v.1.1,()),v.2.1,v.2.2.1,(a,()),())
else some ((false,v.1.2.1,v.1.2.2.1,v.1.1,()),v.2.1,v.2.2.1,(a,()),())):Option ((Bool×List Y3×Int×Int×Unit)×(Cn×JL×(Y3×Unit)×Unit))).bind fun b=>
bif b.1.1 then some (.inr (.inl ((false,()),())))
else(((aC Bf ((0,b.2.2.2.1.1.2.2.1,(b.2.2.2.1.1.2.2.1.length:Int),()),b.2.1,b.2.2.2)).bind fun k=>
aA k (fun c=>(some ((decide (c.1.1≥0),()),c.2))) (fun l=>(some ((false,()),l.2)))):Option (nW×X7)).bind fun d=>
bif d.1.1 then some (.inr (.inl ((false,()),())))
else some (.inl ((aP (b.1.2.2.2.1+1),b.1.2.1,b.1.2.2.1,()),d.2.1,b.2.2.1,()))
else(some (.inr (.inr ((),()))))
def m36(v:adW):Option eT:=
(((m34 ((v.1.1,()),())).bind fun c=>
bif c.1.1 !=0 then some ((true,()),(v.1.1,()),v.1.2,())
else bif decide (v.1.2.1.1<0)then some ((true,()),(v.1.1,()),v.1.2,())
else bif decide (v.1.2.1.1>8589934592)then some ((true,()),(v.1.1,()),v.1.2,())
else let d:=(decide ((v.1.2.1.2.1.length:Int)>64))
bif d then some ((true,()),(v.1.1,()),v.1.2,())
else(m81 ((v.1.2.1.2.2.1,()),())).bind fun e=>
bif e.1.1 !=0 then some ((true,()),(v.1.1,()),v.1.2,())
else some ((decide (v.1.2.1.2.2.2.1<1),()),(v.1.1,()),v.1.2,())):Option (nW×Nk)).bind fun a=>
bif a.1.1 then some ((false,()),())
else(((let f:=(decide ((a.2.2.1.1.2.2.1.length:Int)>0))
bif f then Abs.rowAt a.2.2.1.1.2.2.1 (aP ((a.2.2.1.1.2.2.1.length:Int)-1)) fun g _=>
some ((decide (g.1≥a.2.2.1.1.2.2.2.1),()),a.2)
else some ((false,()),a.2)):Option (nW×Nk)).bind fun b=>
bif b.1.1 then some ((false,()),())
else(aC rH ((0,b.2.2.1.1.2.1,(b.2.2.1.1.2.1.length:Int),()),b.2)).bind fun h=>
aA h (fun j=>(some j)) (fun k=>(some ((true,()),()))))
def amf:Abs.Spec:=⟨0,⟨[0,1],(.dat Ug yh),.nil⟩,⟨[4],fu,.nil⟩,m36⟩
def am9:Nat→Abs.fo
 |0=>.mk (bA [(9,⟨[98,2,3,56,57,58,7],(.dat .bool (.st yP (.st oD (.dat Xr (.dat aR (.dat aR (.st qK .nil))))))),(.box 3 lN (.box 4 yh y9))⟩),(4,⟨[54,2,3],YZ,K6⟩),(1,⟨[37,2,3],YZ,K6⟩)]) bE (bA [(7,⟨⟨[58,2,3,56,57],(.dat aR (.st yP (.st oD akD))),K6⟩,Ro4⟩)]) (fun
  |11,3=>1
  |_,_=>0)
 |1=>.mk (bA [(1,⟨[4],fu,(.box 3 lN y9)⟩)]) bE bE (fun
  |1,2=>2
  |_,_=>0)
 |2=>.mk bE bE (bA [(2,⟨⟨[8,0,1,7],(.dat aR (.dat EG (.st (.clo 86 [((0,0),3,0,0),((1,0),5,0,0)]) dx))),(.box 3 lN y9)⟩,(.more .ret ⟨[4],dx,(.box 3 lN y9)⟩ (.one (.exit 0) ⟨[],.nil,(.box 3 lN y9)⟩))⟩)]) (fun
  |4,5=>3
  |_,_=>0)
 |_=>{}
theorem aaS:dz 36 amf:=okW am9 (bq afy (bq ajI (bq ab9 (bq aeF (bq ajJ (bq akG dQ))))))
def m67(v:((Pd×Int×Unit)×Unit)):Option tL:=
bif decide (v.1.2.1<v.1.1.1)then some ((6,()),())
else(bif decide (v.1.2.1>8589934592)then some ((1,()),())
else some ((0,()),()))
def aou:Abs.Spec:=⟨0,⟨[0,1],(.dat Z17 dx),.nil⟩,⟨[4],dx,.nil⟩,m67⟩
theorem ajW:dz 67 aou:=okW tT dQ
def vZ(v:adb):Option (adb⊕M8):=
bif decide (v.1.1<v.1.2.2.2.1)then((Abs.rowAt v.1.2.2.1 v.1.1 fun b _=>
bif b.1==v.1.2.1 then bif decide (v.2.1.length+ [v.1.1].length≤4294967296)then
some ((v.1.2.1,v.1.2.2.1,v.1.2.2.2.1,v.1.1,()),v.2.1++ [v.1.1],())
else none
else some ((v.1.2.1,v.1.2.2.1,v.1.2.2.2.1,v.1.1,()),v.2)):Option ((Int×List Y8×Int×Int×Unit)×E5)).bind fun a=>
some (.inl ((aP (a.1.2.2.2.1+1),a.1.1,a.1.2.1,a.1.2.2.1,()),a.2))
else(some (.inr ((),v.2)))
def ZM(v:((List Y8×Int×Unit)×Unit)):Option M8:=
(aC vZ ((0,v.1.2.1,v.1.1,(v.1.1.length:Int),()),[],())).bind fun a=>
some ((),a.2)
def ad6:Abs.Spec:=⟨0,⟨[0,1],V8,.nil⟩,⟨[4],Mk,Ak⟩,ZM⟩
def ait:Nat→Abs.fo
 |0=>.mk bE (bA [(7,(⟨[5,1,8,9,10],(.st Lj (.dat aR (.dat BX lX))),Ak⟩,none))]) (bA [(3,⟨⟨[10,5,1,8,9],(.dat aR (.st Lj (.dat aR V8))),Ak⟩,(.one (.exit 0) ⟨[5],Mk,Ak⟩)⟩)]) fq
 |_=>{}
theorem ak4:dz 168 ad6:=okW ait dQ
def o5(rc:VT→Option M8)(v:adu):Option (adu⊕(jq×E5)):=
bif decide (v.1.1<v.1.2.2.2.2.1)then((bif decide (0≤v.1.1∧v.1.1<v.2.2.1.length)then
(v.2.2.1[v.1.1.toNat]?).bind fun e47=>
Abs.rowAt v.1.2.2.1 e47 fun e48 _=>
(OA ((e48.2.1,v.1.2.2.2.1,()),())).bind fun u49=>
bif !u49.1.1 then some (.inl ((v.1.2.1,v.1.2.2.1,v.1.2.2.2.1,v.1.2.2.2.2.1,v.1.1,()),v.2.1,v.2.2.1,()))
else(rc ((v.1.2.2.1,e47,v.1.2.2.2.1,()),())).bind fun u50=>
bif decide (v.2.1.length+u50.2.1.length≤4294967296)then
Abs.rowAt v.1.2.2.1 e47 fun e51 _=>
bif !e51.2.2.2.2.2.2.2.1 then some (.inr ((v.1.2.1,()),v.2.1++u50.2.1,()))
else some (.inl ((v.1.2.1,v.1.2.2.1,v.1.2.2.2.1,v.1.2.2.2.2.1,v.1.1,()),v.2.1++u50.2.1,v.2.2.1,()))
else none
else none):Option (((Int×List Y8×Y9×Int×Int×Unit)×aby)⊕(jq×E5))).bind fun r54=>
aA r54 (fun v52=>(some (.inl ((aP (v52.1.2.2.2.2.1+1),v52.1.1,v52.1.2.1,v52.1.2.2.1,v52.1.2.2.2.1,()),v52.2.1,v52.2.2.1,())))) (fun d53=>(some (.inr ((d53.1.1,()),d53.2.1,()))))
else(some (.inr ((v.1.2.1,()),v.2.1,())))
def i117:Abs.Sg:=⟨[0,1,2],(.dat BX (.dat aR lJ)),.nil⟩
def aiP:Abs.Sg:=⟨[6],Mk,Ak⟩
def Xw(rc:VT→Option M8)(v:VT):Option M8:=
(ZM ((v.1.1,(v.1.2.1,())),())).bind fun u46=>
(aC (o5 rc) ((0,(v.1.2.1,(v.1.1,(v.1.2.2.1,(((u46.2.1.length:Nat):Int),()))))),([],(u46.2.1,())))).bind fun d55=>
bif ((((d55.2.1.length:Nat):Int):Int)==0)then(some ((),([d55.1.1],())))
else(some ((),(d55.2.1,())))
def JZ(n:Nat):VT→Option M8:=Nat.rec (motive:=fun _=>VT→Option M8) (fun _=>none) (fun _ rc=>Xw rc) n
def ajr:VT→Option M8:=JZ 400
def X3(n:Nat):Abs.Spec:=⟨0,i117,aiP,JZ n⟩
def ahz:Abs.Spec:=⟨0,i117,aiP,ajr⟩
def ai2:Nat→Abs.fo
 |0=>.mk bE (bA [(8,(⟨[1,0,2,7,12,13,14],(.dat aR (.dat BX (.dat jE (.st Lj (.st (.own aR (1,0)) lX))))),Sb⟩,some Ro6))]) (bA [(3,⟨⟨[14,1,0,2,7,12,13],(.dat aR (.dat aR (.dat BX (.dat jE (.st Lj (.st (.own aR (1,0)) dx)))))),Sb⟩,Ro6⟩)]) fq
 |_=>{}
theorem WC:∀n,Abs.gN Tryz.prog 117 (X3 n)
 |0=>fun _ _ _ _ _ _ h=>by cases h
 |n+1=>Abs.xR (C:=XC) (mv:=T9) KY (n:=12) (an:=ai2) (T:=Abs.wH [(117,X3 n),(168,ad6),(169,acX)]) good C9 (Abs.l9 _ (by simp only[List.forall_mem_cons];exact⟨WC n,ak4,Zk,fun _ h=>by cases h⟩)) rfl (by intro v;kernel_rfl)
theorem ahB:Abs.gN Tryz.prog 117 ahz:=WC 400
def m68(v:((List Y8×Y9×Unit)×Unit)):Option M8:=
(((m78 ((v.1.1,()),())).bind fun b=>
bif b.1.1 !=0 then some ((true,v.1.2.1,v.1.1,()),())
else(m66 (v.1.2,())).bind fun c=>
some ((!c.1.1,v.1.2.1,v.1.1,()),())):Option ((Bool×Y9×List Y8×Unit)×Unit)).bind fun a=>
bif a.1.1 then some ((),[],())
else((ajr ((a.1.2.2.1,0,a.1.2.1,()),())).bind fun d=>
some ((),d.2.1,()))
def an7:Abs.Spec:=⟨0,⟨[0,1],(.dat BX lJ),.nil⟩,⟨[4],Mk,Ak⟩,m68⟩
def alF:Nat→Abs.fo
 |0=>.mk (bA [(1,⟨[12,1,0],(.dat .bool (.dat jE Oa)),.nil⟩)]) bE bE fq
 |_=>{}
theorem ao3:dz 68 an7:=okW alF (bq afX (bq Vv (bq ahB dQ)))
def m72(v:Q9):Option (Unit×(r9×Unit)):=
some ((),((v.1.1,v.1.2.1,-1,-1,()),()),())
def aom:Abs.Spec:=⟨0,⟨[0,1],EC,.nil⟩,⟨[4],Oi,(.box 5 DU .nil)⟩,m72⟩
theorem aov:dz 72 aom:=okW tT dQ
def m73(v:((Y3×Y8×Y9×Bool×Int×Unit)×Unit)):Option Er:=
(((m82 ((v.1.1,()),())).bind fun y=>
bif !y.1.1 then some ((true,v.1.2.2.2.2.1,v.1.2.2.2.1,v.1.2.2.1,()),((0,ByteArray.empty,0,0,()),()),(v.1.1,()),(v.1.2.1,()),())
else(Va ((v.1.2.1,()),())).bind fun z=>
bif !z.1.1 then some ((true,v.1.2.2.2.2.1,v.1.2.2.2.1,v.1.2.2.1,()),((0,ByteArray.empty,0,0,()),()),(v.1.1,()),(v.1.2.1,()),())
else(m66 ((v.1.2.2.1,()),())).bind fun aa=>
some ((!aa.1.1,v.1.2.2.2.2.1,v.1.2.2.2.1,v.1.2.2.1,()),((0,ByteArray.empty,0,0,()),()),(v.1.1,()),(v.1.2.1,()),())):Option ((Bool×Int×Bool×Y9×Unit)×(r9×(Y3×Unit)×(Y8×Unit)×Unit))).bind fun c=>
bif c.1.1 then some ((8,()),((0,ByteArray.empty,0,0,()),()),[],())
else((Hw ((c.1.2.1,0,8589934592,()),())).bind fun ab=>
bif !ab.1.1 then some ((1,()),((0,ByteArray.empty,0,0,()),()),[],())
else(Ve (c.1.2.2.2,())).bind fun s=>
(Nn ((c.2.2.1.1,s.1),())).bind fun b=>
(Qs (c.2.2.1,())).bind fun e=>
((bif b.1.2.1 then bif decide (0≤b.1.1∧b.1.1<e.2.2.1.length)then
(e.2.2.1[b.1.1.toNat]?).bind fun a=>
((bif decide (0≤b.1.1∧b.1.1<(e.2.2.1.set b.1.1.toNat (a.1,a.2.1,a.2.2.1,c.1.2.1,a.2.2.2.2)).length)then
((e.2.2.1.set b.1.1.toNat (a.1,a.2.1,a.2.2.1,c.1.2.1,a.2.2.2.2))[b.1.1.toNat]?).bind fun ac=>
bif ac.2.2.2.2.1==c.1.2.2.1 then bif decide ((e.2.2.1.set b.1.1.toNat (a.1,a.2.1,a.2.2.1,c.1.2.1,a.2.2.2.2)).length=(e.2.2.1.set b.1.1.toNat (a.1,a.2.1,a.2.2.1,c.1.2.1,a.2.2.2.2)).length)&&true then
some ((),c.2.1,e.2.1,e.2.2.1.set b.1.1.toNat (a.1,a.2.1,a.2.2.1,c.1.2.1,a.2.2.2.2),())
else none
else bif c.1.2.2.1 then((e.2.2.1.set b.1.1.toNat (a.1,a.2.1,a.2.2.1,c.1.2.1,a.2.2.2.2))[b.1.1.toNat]?).bind fun g=>
(((e.2.2.1.set b.1.1.toNat (a.1,a.2.1,a.2.2.1,c.1.2.1,a.2.2.2.2)).set b.1.1.toNat (g.1,g.2.1,g.2.2.1,g.2.2.2.1,true,g.2.2.2.2.2))[b.1.1.toNat]?).bind fun j=>
((((e.2.2.1.set b.1.1.toNat (a.1,a.2.1,a.2.2.1,c.1.2.1,a.2.2.2.2)).set b.1.1.toNat (g.1,g.2.1,g.2.2.1,g.2.2.2.1,true,g.2.2.2.2.2)).set b.1.1.toNat (j.1,j.2.1,j.2.2.1,j.2.2.2.1,j.2.2.2.2.1,true,()))[b.1.1.toNat]?).bind fun p=>
bif decide (((((e.2.2.1.set b.1.1.toNat (a.1,a.2.1,a.2.2.1,c.1.2.1,a.2.2.2.2)).set b.1.1.toNat (g.1,g.2.1,g.2.2.1,g.2.2.2.1,true,g.2.2.2.2.2)).set b.1.1.toNat (j.1,j.2.1,j.2.2.1,j.2.2.2.1,j.2.2.2.2.1,true,())).set b.1.1.toNat (p.1,p.2.1,c.1.2.1,p.2.2.2)).length=(e.2.2.1.set b.1.1.toNat (a.1,a.2.1,a.2.2.1,c.1.2.1,a.2.2.2.2)).length)&&true then
some ((),c.2.1,e.2.1,(((e.2.2.1.set b.1.1.toNat (a.1,a.2.1,a.2.2.1,c.1.2.1,a.2.2.2.2)).set b.1.1.toNat (g.1,g.2.1,g.2.2.1,g.2.2.2.1,true,g.2.2.2.2.2)).set b.1.1.toNat (j.1,j.2.1,j.2.2.1,j.2.2.2.1,j.2.2.2.2.1,true,())).set b.1.1.toNat (p.1,p.2.1,c.1.2.1,p.2.2.2),())
else none
else((e.2.2.1.set b.1.1.toNat (a.1,a.2.1,a.2.2.1,c.1.2.1,a.2.2.2.2))[b.1.1.toNat]?).bind fun ad=>
bif !ad.2.2.2.2.2.1 then bif decide (0≤b.1.1∧b.1.1<(aP (b.1.1+1))∧((aP (b.1.1+1)):Int)≤(e.2.2.1.set b.1.1.toNat (a.1,a.2.1,a.2.2.1,c.1.2.1,a.2.2.2.2)).length∧(e.2.2.1.set b.1.1.toNat (a.1,a.2.1,a.2.2.1,c.1.2.1,a.2.2.2.2)).length≤4294967296)then
bif decide ((e.2.2.1.set b.1.1.toNat (a.1,a.2.1,a.2.2.1,c.1.2.1,a.2.2.2.2)).length=(e.2.2.1.set b.1.1.toNat (a.1,a.2.1,a.2.2.1,c.1.2.1,a.2.2.2.2)).length)&&true then
bif decide ((e.2.2.1.set b.1.1.toNat (a.1,a.2.1,a.2.2.1,c.1.2.1,a.2.2.2.2)).length=(e.2.2.1.set b.1.1.toNat (a.1,a.2.1,a.2.2.1,c.1.2.1,a.2.2.2.2)).length)&&true then
some ((),c.2.1,e.2.1,(e.2.2.1.set b.1.1.toNat (a.1,a.2.1,a.2.2.1,c.1.2.1,a.2.2.2.2)).take b.1.1.toNat++(e.2.2.1.set b.1.1.toNat (a.1,a.2.1,a.2.2.1,c.1.2.1,a.2.2.2.2)).drop (aP (b.1.1+1)).toNat,())
else none
else none
else none
else((e.2.2.1.set b.1.1.toNat (a.1,a.2.1,a.2.2.1,c.1.2.1,a.2.2.2.2))[b.1.1.toNat]?).bind fun f=>
(((e.2.2.1.set b.1.1.toNat (a.1,a.2.1,a.2.2.1,c.1.2.1,a.2.2.2.2)).set b.1.1.toNat (f.1,f.2.1,f.2.2.1,f.2.2.2.1,false,f.2.2.2.2.2))[b.1.1.toNat]?).bind fun h=>
((((e.2.2.1.set b.1.1.toNat (a.1,a.2.1,a.2.2.1,c.1.2.1,a.2.2.2.2)).set b.1.1.toNat (f.1,f.2.1,f.2.2.1,f.2.2.2.1,false,f.2.2.2.2.2)).set b.1.1.toNat (h.1,h.2.1,h.2.2.1,h.2.2.2.1,h.2.2.2.2.1,false,()))[b.1.1.toNat]?).bind fun l=>
((bif e.2.1.1.2.2.2.1 !=(-1)then let u:=(aP (e.2.1.1.2.2.2.1+c.2.2.2.1.1.2.2.2.2.2.1))
let ae:=(if u>c.1.2.1 then u else c.1.2.1)
some ((ae,()),e.2.1,(((e.2.2.1.set b.1.1.toNat (a.1,a.2.1,a.2.2.1,c.1.2.1,a.2.2.2.2)).set b.1.1.toNat (f.1,f.2.1,f.2.2.1,f.2.2.2.1,false,f.2.2.2.2.2)).set b.1.1.toNat (h.1,h.2.1,h.2.2.1,h.2.2.2.1,h.2.2.2.2.1,false,())).set b.1.1.toNat (l.1,l.2.1,c.1.2.1,l.2.2.2),())
else some ((aP (c.1.2.1+c.2.2.2.1.1.2.2.2.2.1),()),e.2.1,(((e.2.2.1.set b.1.1.toNat (a.1,a.2.1,a.2.2.1,c.1.2.1,a.2.2.2.2)).set b.1.1.toNat (f.1,f.2.1,f.2.2.1,f.2.2.2.1,false,f.2.2.2.2.2)).set b.1.1.toNat (h.1,h.2.1,h.2.2.1,h.2.2.2.1,h.2.2.2.2.1,false,())).set b.1.1.toNat (l.1,l.2.1,c.1.2.1,l.2.2.2),())):Option Er).bind fun m=>
((bif m.2.1.1.2.2.1 !=(-1)then let af:=(if m.2.1.1.2.2.1<m.1.1 then m.2.1.1.2.2.1 else m.1.1)
some ((af,()),m.2)
else some m):Option Er).bind fun n=>
(O7 (n.1,())).bind fun ag=>
bif decide (n.2.2.1.length=((((e.2.2.1.set b.1.1.toNat (a.1,a.2.1,a.2.2.1,c.1.2.1,a.2.2.2.2)).set b.1.1.toNat (f.1,f.2.1,f.2.2.1,f.2.2.2.1,false,f.2.2.2.2.2)).set b.1.1.toNat (h.1,h.2.1,h.2.2.1,h.2.2.2.1,h.2.2.2.2.1,false,())).set b.1.1.toNat (l.1,l.2.1,c.1.2.1,l.2.2.2)).length)&&true then
bif decide (n.2.2.1.length=(e.2.2.1.set b.1.1.toNat (a.1,a.2.1,a.2.2.1,c.1.2.1,a.2.2.2.2)).length)&&true then
some ((),c.2.1,((n.2.1.1.1,n.2.1.1.2.1,ag.1.1,n.2.1.1.2.2.2),()),n.2.2)
else none
else none
else none):Option Vj).bind fun ah=>
some (.inl ((),ah.2))
else none
else((bif c.1.2.2.1 then let ai:=(((e.2.2.1.length:Nat):Int)==256)
some ((ai,c.1.2.1,b.1.1,c.1.2.2.2.1,s.1.1,c.1.2.2.1,()),c.2.1,e.2.1,c.2.2.2.1,e.2.2)
else some ((false,c.1.2.1,b.1.1,c.1.2.2.2.1,s.1.1,c.1.2.2.1,()),c.2.1,e.2.1,c.2.2.2.1,e.2.2)):Option ((Bool×Int×Int×Y9×ByteArray×Bool×Unit)×(r9×r9×(Y8×Unit)×List mq×Unit))).bind fun d=>
bif d.1.1 then some (.inr ((5,()),((0,ByteArray.empty,0,0,()),()),()))
else bif d.1.2.2.2.2.2.1 then(X6 ((d.1.2.2.2.1,()),())).bind fun q=>
bif decide (0≤d.1.2.2.1∧d.1.2.2.1≤d.2.2.2.2.1.length∧d.2.2.2.2.1.length≤4294967295∧([(d.1.2.2.2.2.1,q.2.1,d.1.2.1,d.1.2.1,true,false,())]:List mq).length=1)then
bif decide (d.2.2.2.2.1.length=d.2.2.2.2.1.length)&&(decide (([(d.1.2.2.2.2.1,q.2.1,d.1.2.1,d.1.2.1,true,false,())]:List mq).length=([(d.1.2.2.2.2.1,q.2.1,d.1.2.1,d.1.2.1,true,false,())]:List mq).length)&&true)then
((bif d.2.2.1.1.2.2.2.1 !=(-1)then let w:=(aP (d.2.2.1.1.2.2.2.1+d.2.2.2.1.1.2.2.2.2.2.1))
let aj:=(if w>d.1.2.1 then w else d.1.2.1)
some ((aj,()),d.2.2.1,d.2.2.2.2.1.take d.1.2.2.1.toNat++([(d.1.2.2.2.2.1,q.2.1,d.1.2.1,d.1.2.1,true,false,())]:List mq)++d.2.2.2.2.1.drop d.1.2.2.1.toNat,())
else some ((aP (d.1.2.1+d.2.2.2.1.1.2.2.2.2.1),()),d.2.2.1,d.2.2.2.2.1.take d.1.2.2.1.toNat++([(d.1.2.2.2.2.1,q.2.1,d.1.2.1,d.1.2.1,true,false,())]:List mq)++d.2.2.2.2.1.drop d.1.2.2.1.toNat,())):Option Er).bind fun o=>
((bif o.2.1.1.2.2.1 !=(-1)then let ak:=(if o.2.1.1.2.2.1<o.1.1 then o.2.1.1.2.2.1 else o.1.1)
some ((ak,()),o.2)
else some o):Option Er).bind fun r=>
(O7 (r.1,())).bind fun al=>
bif decide (r.2.2.1.length=(d.2.2.2.2.1.take d.1.2.2.1.toNat++([(d.1.2.2.2.2.1,q.2.1,d.1.2.1,d.1.2.1,true,false,())]:List mq)++d.2.2.2.2.1.drop d.1.2.2.1.toNat).length)&&true then
some (.inl ((),d.2.1,((r.2.1.1.1,r.2.1.1.2.1,al.1.1,r.2.1.1.2.2.2),()),r.2.2))
else none
else none
else none
else some (.inl ((),d.2.1,d.2.2.1,d.2.2.2.2))):Option (Vj⊕(jq×(r9×Unit)))).bind fun am=>
aA am (fun k=>(((let an:=(((k.2.2.2.1.length:Nat):Int)==0)
bif decide (k.2.2.2.1.length=k.2.2.2.1.length)&&true then
bif an then some ((),k.2.2.2.1,((0,ByteArray.empty,0,0,()),()),((k.2.2.1.1.1,k.2.2.1.1.2.1,-1,k.2.2.1.1.2.2.2),()),())
else some ((),k.2.2.2.1,((0,ByteArray.empty,0,0,()),()),k.2.2.1,())
else none):Option KW).bind fun t=>
bif decide (t.2.1.length=k.2.2.2.1.length)&&true then
some ((0,()),t.2.2.2.1,t.2.1,())
else none)) (fun x=>(some (x.1,x.2.1,[],()))))
def anS:Abs.Spec:=⟨0,⟨[0,1,2,3,4],(.dat Z1 (.dat Z2 (.dat jE MK))),.nil⟩,⟨[10,11],FV,Bt⟩,m73⟩
def alX:Nat→Abs.fo
 |0=>.mk (bA [(11,⟨[59,10,5,4,6,13,2,12,3],(.dat .bool (.st ig (.st yg (.dat aR (.st adX (.dat aR (.dat jE (.dat .str fu)))))))),(.box 5 DU (.box 5 acJ (.box 8 uo yA)))⟩),(10,⟨[10,5],MF,PD⟩),(1,⟨[16,10,5,4,3,6,2],(.dat .bool (.st ig (.st yg (.dat aR (.dat .bool (.st adX lJ)))))),(.box 5 DU (.box 5 oN KT))⟩)]) (bA [(17,(⟨[10,5],MF,PD⟩,some (.one .ret ⟨[10,11],FV,(.box 5 DU .nil)⟩)))]) bE (fun
  |17,1=>4
  |16,2=>3
  |10,4=>1
  |_,_=>0)
 |1=>.mk bE bE bE (fun
  |3,3=>2
  |_,_=>0)
 |2=>.mk bE (bA [(6,(⟨[6,0],VK,Bt⟩,none)),(4,(⟨[0,6],FV,Bt⟩,none))]) bE fq
 |3=>.mk bE (bA [(6,(⟨[6,0],VK,Bt⟩,none)),(4,(⟨[0,6],FV,Bt⟩,none))]) bE fq
 |4=>.mk bE (bA [(3,(⟨[2,1],I7,P8⟩,none))]) bE (fun
  |1,1=>5
  |_,_=>0)
 |_=>{}
theorem amL:dz 73 anS:=okW alX (bq ab9 (bq WW (bq Vv (bq OT (bq Yf (bq adL (bq TT (bq Yc (bq ad5 dQ)))))))))
def rY(v:adN):Option (adN⊕((ByteArray×Int×Int×Unit)×Xk)):=
bif decide (v.1.2.2.1<v.1.2.1)then let a:=(IntKind.wrap .u64 (aP (v.1.2.2.1+v.1.2.1)))
bif decide ((0:Int)≤1)then
bif decide ((0:Int)≤(aP (Ck .u64 (a) (1)))∧((aP (Ck .u64 (a) (1))):Int)<v.2.1.length)then
(v.2.1[(aP (Ck .u64 (a) (1))).toNat]?).bind fun b=>
(m84 ((b,v.2.2.1.1,v.1.1,()),())).bind fun c=>
bif decide (c.1.1<0)then some (.inl ((v.1.1,v.1.2.1,aP ((aP (Ck .u64 (a) (1)))+1),v.1.2.2.2),v.2))
else some (.inl ((v.1.1,aP (Ck .u64 (a) (1)),v.1.2.2),v.2))
else none
else none
else(some (.inr ((v.1.1,v.1.2.2),v.2)))
def xJ(v:(sZ×YF)):Option ((sZ×YF)⊕(TK⊕(Unit×(rA×rA×Cn×List Y3×mM×Unit)))):=
bif decide (v.1.1<v.1.2.1)then((bif decide (0≤v.1.1∧v.1.1<v.2.2.2.2.2.1.length)then
(v.2.2.2.2.2.1[v.1.1.toNat]?).bind fun g=>
Abs.rowAt v.2.2.2.2.1.1.1 g fun k _=>
(m69 ((k,v.2.2.2.1.1.2.1,()),())).bind fun h=>
(aC rY ((h.1.1,((v.2.2.2.2.2.2.1.length:Nat):Int),0,((v.2.2.2.2.2.2.1.length:Nat):Int),()),v.2.2.2.2.2.2.1,(g,()),())).bind fun c=>
((bif decide (c.1.2.1<c.1.2.2.1)then bif decide (0≤c.1.2.1∧c.1.2.1<c.2.1.length)then
(c.2.1[c.1.2.1.toNat]?).bind fun l=>
(m84 ((l,c.2.2.1.1,c.1.1,()),())).bind fun m=>
some ((c.1.2.1,m.1.1==0,()),c.2)
else none
else some ((c.1.2.1,false,()),c.2)):Option (TQ×Xk)).bind fun e=>
bif decide (e.2.1.length=v.2.2.2.2.2.2.1.length)&&true then
bif decide (e.2.1.length=v.2.2.2.2.2.2.1.length)&&true then
((bif !e.1.2.1 then some ((!v.2.2.2.1.1.2.2.1,v.1.2.1,v.1.1,e.1.1,g,h.1.1,e.1.2),v.2.1,v.2.2.1,v.2.2.2.1,v.2.2.2.2.1,v.2.2.2.2.2.1,e.2.1,v.2.2.2.2.2.2.2)
else some ((false,v.1.2.1,v.1.1,e.1.1,g,h.1.1,e.1.2),v.2.1,v.2.2.1,v.2.2.2.1,v.2.2.2.2.1,v.2.2.2.2.2.1,e.2.1,v.2.2.2.2.2.2.2)):Option ((Bool×Int×Int×Int×Int×ByteArray×Bool×Unit)×YF)).bind fun a=>
bif a.1.1 then some (.inl ((a.1.2.1,a.1.2.2.1,()),a.2))
else((bif !a.1.2.2.2.2.2.2.1 then(m72 ((a.1.2.2.2.2.1,a.1.2.2.2.2.2.1,()),())).bind fun d=>
bif decide (0≤a.1.2.2.2.1∧a.1.2.2.2.1≤a.2.2.2.2.2.2.1.length∧a.2.2.2.2.2.2.1.length≤4294967295∧([(d.2.1.1.1,d.2.1.1.2.1,[],d.2.1.1.2.2)]:List Y3).length=1)then
bif decide (a.2.2.2.2.2.2.1.length=a.2.2.2.2.2.2.1.length)&&(decide (([(d.2.1.1.1,d.2.1.1.2.1,[],d.2.1.1.2.2)]:List Y3).length=([(d.2.1.1.1,d.2.1.1.2.1,[],d.2.1.1.2.2)]:List Y3).length)&&true)then
some ((a.1.2.1,a.1.2.2.1,a.1.2.2.2.1,a.1.2.2.2.2.1,()),a.2.1,a.2.2.1,a.2.2.2.1,a.2.2.2.2.1,a.2.2.2.2.2.1,a.2.2.2.2.2.2.1.take a.1.2.2.2.1.toNat++([(d.2.1.1.1,d.2.1.1.2.1,[],d.2.1.1.2.2)]:List Y3)++a.2.2.2.2.2.2.1.drop a.1.2.2.2.1.toNat,a.2.2.2.2.2.2.2)
else none
else none
else some ((a.1.2.1,a.1.2.2.1,a.1.2.2.2.1,a.1.2.2.2.2.1,()),a.2)):Option ((Int×Int×Int×Int×Unit)×YF)).bind fun b=>
bif decide (0≤b.1.2.2.1∧b.1.2.2.1<b.2.2.2.2.2.2.1.length)then
(b.2.2.2.2.2.2.1[b.1.2.2.1.toNat]?).bind fun n=>
Abs.rowAt b.2.2.2.2.1.1.1 b.1.2.2.2.1 fun o _=>
(m73 ((n,o,b.2.2.2.1.1.2.1,b.2.2.2.1.1.2.2.1,b.2.2.2.1.1.1,()),())).bind fun f=>
bif f.1.1 !=0 then some (.inr ((5,()),((0,0,()),()),()))
else bif decide (0≤b.1.2.2.1∧b.1.2.2.1<b.2.2.2.2.2.2.1.length)then
bif decide (b.1.2.2.1.toNat<b.2.2.2.2.2.2.1.length)then
some (.inl ((b.1.1,b.1.2.1,()),b.2.1,b.2.2.1,b.2.2.2.1,b.2.2.2.2.1,b.2.2.2.2.2.1,b.2.2.2.2.2.2.1.set b.1.2.2.1.toNat (f.2.1.1.1,f.2.1.1.2.1,f.2.2.1,f.2.1.1.2.2),b.2.2.2.2.2.2.2))
else none
else none
else none
else none
else none
else none):Option ((sZ×YF)⊕TK)).bind fun p=>
aA p (fun j=>(some (.inl ((aP (j.1.2.1+1),j.1.1,()),j.2)))) (fun q=>(some (.inr (.inl q))))
else(some (.inr (.inr ((),v.2.1,v.2.2.1,v.2.2.2.2.1,v.2.2.2.2.2.2))))
def Sy(v:(sZ×QI)):Option adA:=
bif decide (v.1.1<v.1.2.1)then bif decide (0≤v.1.1∧v.1.1<v.2.1.length)then
(v.2.1[v.1.1.toNat]?).bind fun a=>
(m83 ((v.2.2.1.1,a,v.2.2.2.1.1.1,()),())).bind fun b=>
bif decide (v.2.1.length=v.2.1.length)&&(decide (v.2.2.2.2.1.length=v.2.2.2.2.1.length)&&true)then
bif b.1.1 then some (.inr (.inl ((v.1.1,()),v.2)))
else some (.inl ((aP (v.1.1+1),v.1.2),v.2))
else none
else none
else(some (.inr (.inr ((),v.2))))
def RY(v:(sZ×QI)):Option ((sZ×QI)⊕(jq×QI)):=
let c:=(decide (v.1.1<((v.2.1.length:Nat):Int)))
bif c then((bif decide (0≤v.1.1∧v.1.1<v.2.1.length)then
(v.2.1[v.1.1.toNat]?).bind fun b=>
(m83 ((v.2.2.1.1,b,v.2.2.2.1.1.1,()),())).bind fun d=>
bif decide (v.2.1.length=v.2.1.length)&&(decide (v.2.2.2.2.1.length=v.2.2.2.2.1.length)&&true)then
bif !d.1.1 then bif decide (0≤v.1.2.1∧v.1.2.1<v.2.1.length)then
bif decide (v.1.2.1.toNat<v.2.1.length)then
some ((aP (v.1.2.1+1),v.1.1,()),v.2.1.set v.1.2.1.toNat b,v.2.2)
else none
else none
else some ((v.1.2.1,v.1.1,()),v.2)
else none
else none):Option (sZ×QI)).bind fun a=>
some (.inl ((aP (a.1.2.1+1),a.1.1,()),a.2))
else(some (.inr (v.1.2,v.2)))
def m27(v:((ZE×Pd×CO×Unit)×Unit)):Option (jq×(af7×List Y3×mM×Unit)):=
(((m36 ((v.1.1,v.1.2.1,()),())).bind fun n=>
bif !n.1.1 then some ((true,()),((0,0,()),()),(v.1.2.1,()),v.1.2.2,(v.1.1,()),())
else(m66 ((v.1.2.2.1.2.1,()),())).bind fun o=>
some ((!o.1.1,()),((0,0,()),()),(v.1.2.1,()),v.1.2.2,(v.1.1,()),())):Option (nW×(rA×JL×(CO×Unit)×Cn×Unit))).bind fun d=>
bif d.1.1 then some ((8,()),((0,(0,0),0,()),()),[],[],())
else((m67 ((d.2.2.1.1,d.2.2.2.1.1.1,()),())).bind fun k=>
bif k.1.1 !=0 then some (k.1,((0,(0,0),0,()),()),[],[],())
else(m64 (d.2.2.1,())).bind fun l=>
(m68 ((d.2.2.2.2.1.1.1,d.2.2.2.1.1.2.1,()),())).bind fun m=>
(aC xJ ((0,((m.2.1.length:Nat):Int),()),d.2.1,((d.2.2.2.1.1.1,l.2.1.1.2),()),d.2.2.2.1,d.2.2.2.2.1,m.2.1,l.2.2)).bind fun p=>
aA p (fun f=>(some (f.1,((f.2.1.1.1,(0,0),f.2.1.1.2),()),[],[],()))) (fun b=>((((((aC Sy ((0,((b.2.2.2.2.1.length:Nat):Int),()),b.2.2.2.2.1,b.2.2.2.1,b.2.2.1,b.2.2.2.2.2)).bind fun q=>
aA q (fun g=>(bif decide (g.2.1.length=b.2.2.2.2.1.length)&&(decide (g.2.2.2.2.1.length=b.2.2.2.2.2.1.length)&&true)then
some g
else none)) (fun h=>(bif decide (h.2.1.length=b.2.2.2.2.1.length)&&(decide (h.2.2.2.2.1.length=b.2.2.2.2.2.1.length)&&true)then
some ((-1,()),h.2)
else none))):Option (jq×QI)).bind fun c=>
bif c.1.1==(-1)then bif decide (c.2.1.length=b.2.2.2.2.1.length)&&(decide (c.2.2.2.2.1.length=b.2.2.2.2.2.1.length)&&true)then
some ((),c.2.1,c.2.2.2.2.1,((0,0,()),()),((c.2.2.2.1.1.1,(0,c.2.1.length),c.2.2.2.1.1.2),()),())
else none
else(aC RY ((aP (c.1.1+1),c.1),c.2)).bind fun a=>
bif decide ((0:Int)≤a.1.1)then
bif decide (a.1.1.toNat≤a.2.1.length∧a.2.1.length≤a.2.1.length)then
bif decide (a.1.1.toNat+(a.2.1.length-a.1.1.toNat)≤a.2.1.length)then
let j:=(bM a.2.1 a.1.1.toNat (List.replicate (a.2.1.length-a.1.1.toNat) ((0,ByteArray.empty,[],0,0,()):Y3)))
bif decide ((0:Int)≤a.1.1)then
bif decide (0≤a.1.1.toNat∧a.1.1.toNat≤j.length)then
bif decide (j.length=b.2.2.2.2.1.length)&&(decide (a.2.2.2.2.1.length=b.2.2.2.2.2.1.length)&&true)then
some ((),j,a.2.2.2.2.1,((0,0,()),()),((a.2.2.2.1.1.1,(0,a.1.1.toNat),a.2.2.2.1.1.2),()),())
else none
else none
else none
else none
else none
else none):Option ae0).bind fun e=>
bif decide (e.2.1.length=b.2.2.2.2.1.length)&&(decide (e.2.2.1.length=b.2.2.2.2.2.1.length)&&true)then
let r:=(decide (((e.2.2.2.2.1.1.2.1.2:Nat):Int)>64))
bif r then some ((5,()),((0,(0,0),0,()),()),[],[],())
else some ((0,()),e.2.2.2.2.1,e.2.1,e.2.2.1,())
else none)))
def aml:Abs.Spec:=⟨0,⟨[0,1,2],(.dat Ug (.dat Z17 (.dat Vo .nil))),.nil⟩,⟨[6,7],R3,(.box 4 (.agg (.dat aR (.part Z1 (1,0) (.st (.own Z4 (2,0)) dx))) .nil) WV)⟩,m27⟩
def amM:Nat→Abs.fo
 |0=>.mk (bA [(13,⟨[72,6,4,5,3,44,45,46,12,10,11,13],(.dat .bool (.st gX (.st oD (.st oO (.st Gh (.st (.own aR (4,0)) (.dat aR (.dat aR (.dat aR (.dat aR (.dat .str fu))))))))))),ZO⟩),(1,⟨[25,6,4,5,3],(.dat .bool (.st gX (.st oD (.st oO (.st Gh .nil))))),(.box 4 Co (.box 4 yh (.box 3 (.dat Vo .nil) YE)))⟩)]) (bA [(20,(⟨[6,4,5,3,44,45,46],(.st gX (.st oD (.st oO (.st Gh (.st (.own aR (4,0)) lX))))),ZO⟩,some (.one .ret ⟨[6,7],R3,Vh⟩))),(16,(⟨[6,4,5,3,44,45,46,12,10],(.st gX (.st oD (.st oO (.st Gh (.st (.own aR (4,0)) (.dat aR EA)))))),ZO⟩,none))]) (bA [(9,⟨⟨[46,6,4,5,3,44,45],(.dat aR (.st gX (.st oD (.st oO (.st Gh (.st (.own aR (4,0)) dx)))))),ZO⟩,(.more .ret ⟨[6,7],R3,Vh⟩ (.one (.exit 0) ⟨[6,4,3],(.st gX (.st oD (.st oO .nil))),(.box 4 Co (.box 4 ajd (.box 3 lN WV)))⟩))⟩)]) (fun
  |21,2=>5
  |12,4=>1
  |_,_=>0)
 |1=>.mk bE bE bE (fun
  |1,3=>2
  |_,_=>0)
 |2=>.mk (bA [(8,⟨[6,7],FH,(.arr Z1 false afh)⟩)]) bE (bA [(3,⟨⟨[1,0,2,10,9,8],(.dat .str (.st AP (.st (.clo 121 [((1,0),1,0,0)]) EA))),(.arr Z1 false afh)⟩,(.one (.exit 0) ⟨[1,9,0,2,8],(.dat .str (.dat aR (.st AP (.st (.clo 121 [((1,0),1,0,0)]) dx)))),(.arr Z1 false afh)⟩)⟩)]) (fun
  |8,11=>4
  |5,6=>3
  |_,_=>0)
 |5=>.mk (bA [(1,⟨[4,3],(.st zf PK),aiH⟩)]) bE bE (fun
  |1,3=>6
  |_,_=>0)
 |6=>.mk (bA [(1,⟨[0,5,1],(.st AP (.dat aR abo)),XD⟩)]) (bA [(6,(⟨[5,0,1,6],ZT,XD⟩,none))]) (bA [(5,⟨⟨[6,5,0,1],(.dat aR (.dat aR (.st AP abo))),XD⟩,adR⟩)]) (fun
  |8,2=>9
  |1,2=>7
  |_,_=>0)
 |7=>.mk bE bE (bA [(2,⟨⟨[8,0,1,7],ZT,XD⟩,acO⟩)]) (fun
  |4,5=>8
  |_,_=>0)
 |_=>{}
theorem ajS:dz 27 aml:=okW amM (bq aaS (bq Vv (bq ajW (bq aeP (bq ao3 (bq akG (bq ajJ (bq aov (bq amL (bq aeF dQ))))))))))
def mU(v:(jq×Yq5)):Option ((jq×Yq5)⊕(jq×Yq5)):=
bif decide (v.2.1.1.2.2.2.2.1.1+v.2.1.1.2.2.2.2.1.2≤v.2.2.1.length)then
(m30 (((v.2.1.1.2.2.2.1,(v.2.2.1.drop v.2.1.1.2.2.2.2.1.1).take v.2.1.1.2.2.2.2.1.2,v.2.2.2.1,v.2.1.1.2.2.2.2.2.1,()),()),())).bind fun c=>
((bif !c.1.2.1 then some ((true,v.1.1,c.1.1,()),v.2)
else some ((decide (c.1.1≥v.1.1),v.1.1,c.1.1,()),v.2)):Option (IW×Yq5)).bind fun a=>
bif a.1.1 then some (.inr ((0,()),a.2))
else let d:=(decide (((aP (a.2.1.1.2.2.2.2.2.2.1+1)):Int)>1000))
bif d then some (.inr ((5,()),((a.2.1.1.1,a.2.1.1.2.1,a.2.1.1.2.2.1,a.2.1.1.2.2.2.1,a.2.1.1.2.2.2.2.1,a.2.1.1.2.2.2.2.2.1,aP (a.2.1.1.2.2.2.2.2.2.1+1),()),()),a.2.2))
else let e:=(if a.2.1.1.2.2.2.1>a.1.2.2.1 then a.2.1.1.2.2.2.1 else a.1.2.2.1)
bif decide (a.2.1.1.2.2.2.2.1.1+a.2.1.1.2.2.2.2.1.2≤a.2.2.1.length)then
(m75 (((a.2.1.1.1,a.2.1.1.2.1,a.2.1.1.2.2.1,()),(a.2.1.1.2.2.2.1,(a.2.2.1.drop a.2.1.1.2.2.2.2.1.1).take a.2.1.1.2.2.2.2.1.2,a.2.2.2.1,a.2.1.1.2.2.2.2.2.1,()),e,()),())).bind fun b=>
bif decide (a.2.2.2.2.1.length+b.2.2.1.length≤4294967296)then
some (.inl ((a.1.2.1,()),((a.2.1.1.1,a.2.1.1.2.1,a.2.1.1.2.2.1,b.2.1.1.1,b.2.1.1.2.1,b.2.1.1.2.2.1,aP (a.2.1.1.2.2.2.2.2.2.1+1),()),()),b.2.2.2.1,b.2.2.2.2.1,a.2.2.2.2.1++b.2.2.1,()))
else none
else none
else none
def o7(v:ajz):Option (ajz⊕(Z0⊕(jq×(rA×((List Y8×ED×Int×Int×(Nat×Nat)×Int×Int×Unit)×Unit)×List Y3×mM×List Eo×Unit)))):=
bif decide (v.1.1<v.1.2.2.2.1)then Abs.rowAt v.1.2.1 v.1.1 fun c _=>
(aC mU ((c.1,()),v.2.2.1,v.2.2.2.2)).bind fun a=>
bif decide (v.2.2.2.2.1.length=v.2.2.2.2.1.length)&&(decide (v.2.2.2.2.2.1.length=v.2.2.2.2.2.1.length)&&(decide (v.2.2.2.2.2.2.1.length=v.2.2.2.2.2.2.1.length)&&true))then
bif a.1.1 !=0 then some (.inr (.inl (a.1,((0,0,()),()),[],())))
else bif decide (a.2.1.1.2.2.2.2.1.1+a.2.1.1.2.2.2.2.1.2≤a.2.2.1.length)then
(m27 ((v.2.2.2.1.1,(a.2.1.1.2.2.2.1,(a.2.2.1.drop a.2.1.1.2.2.2.2.1.1).take a.2.1.1.2.2.2.2.1.2,a.2.2.2.1,a.2.1.1.2.2.2.2.2.1,()),c,()),())).bind fun b=>
bif b.1.1 !=0 then some (.inr (.inl (b.1,((0,0,()),()),[],())))
else some (.inl ((aP (v.1.1+1),v.1.2),v.2.1,((a.2.1.1.1,a.2.1.1.2.1,a.2.1.1.2.2.1,b.2.1.1.1,b.2.1.1.2.1,b.2.1.1.2.2.1,a.2.1.1.2.2.2.2.2.2),()),v.2.2.2.1,b.2.2.1,b.2.2.2.1,a.2.2.2.2))
else none
else none
else(some (.inr (.inr ((v.1.2.2.1,()),v.2.1,v.2.2.1,v.2.2.2.2))))
def SE(v:(jq×Yq5)):Option ((jq×Yq5)⊕(jq×Yq5)):=
bif decide (v.2.1.1.2.2.2.2.1.1+v.2.1.1.2.2.2.2.1.2≤v.2.2.1.length)then
(m30 (((v.2.1.1.2.2.2.1,(v.2.2.1.drop v.2.1.1.2.2.2.2.1.1).take v.2.1.1.2.2.2.2.1.2,v.2.2.2.1,v.2.1.1.2.2.2.2.2.1,()),()),())).bind fun c=>
((bif !c.1.2.1 then some ((true,v.1.1,c.1.1,()),v.2)
else some ((decide (c.1.1≥v.1.1),v.1.1,c.1.1,()),v.2)):Option (IW×Yq5)).bind fun a=>
bif a.1.1 then some (.inr ((0,()),a.2))
else let d:=(decide (((aP (a.2.1.1.2.2.2.2.2.2.1+1)):Int)>1000))
bif d then some (.inr ((5,()),((a.2.1.1.1,a.2.1.1.2.1,a.2.1.1.2.2.1,a.2.1.1.2.2.2.1,a.2.1.1.2.2.2.2.1,a.2.1.1.2.2.2.2.2.1,aP (a.2.1.1.2.2.2.2.2.2.1+1),()),()),a.2.2))
else let e:=(if a.2.1.1.2.2.2.1>a.1.2.2.1 then a.2.1.1.2.2.2.1 else a.1.2.2.1)
bif decide (a.2.1.1.2.2.2.2.1.1+a.2.1.1.2.2.2.2.1.2≤a.2.2.1.length)then
(m75 (((a.2.1.1.1,a.2.1.1.2.1,a.2.1.1.2.2.1,()),(a.2.1.1.2.2.2.1,(a.2.2.1.drop a.2.1.1.2.2.2.2.1.1).take a.2.1.1.2.2.2.2.1.2,a.2.2.2.1,a.2.1.1.2.2.2.2.2.1,()),e,()),())).bind fun b=>
bif decide (a.2.2.2.2.1.length+b.2.2.1.length≤4294967296)then
some (.inl ((a.1.2.1,()),((a.2.1.1.1,a.2.1.1.2.1,a.2.1.1.2.2.1,b.2.1.1.1,b.2.1.1.2.1,b.2.1.1.2.2.1,aP (a.2.1.1.2.2.2.2.2.2.1+1),()),()),b.2.2.2.1,b.2.2.2.2.1,a.2.2.2.2.1++b.2.2.1,()))
else none
else none
else none
def m15(v:adt):Option (jq×aeK):=
(m34 ((v.1.1,()),())).bind fun e=>
bif e.1.1 !=0 then some (e.1,((0,(0,0),0,()),()),[],[],[],())
else(bif decide ((v.1.2.1.length:Int)>256)then some ((5,()),((0,(0,0),0,()),()),[],[],[],())
else((bif decide (v.1.2.2.1<0)then some ((true,v.1.2.2.1,v.1.2.1,()),((0,0,()),()),(v.1.1,()),())
else some ((decide (v.1.2.2.1>8589934592),v.1.2.2.1,v.1.2.1,()),((0,0,()),()),(v.1.1,()),())):Option ((Bool×Int×List CO×Unit)×(rA×Cn×Unit))).bind fun a=>
bif a.1.1 then some ((1,()),((0,(0,0),0,()),()),[],[],[],())
else(m26 ((),())).bind fun f=>
(aC o7 ((0,a.1.2.2.1,a.1.2.1,(a.1.2.2.1.length:Int),()),a.2.1,((a.2.2.1.1.1,a.2.2.1.1.2.1,a.2.2.1.1.2.2.1,f.2.1.1.1,(0,0),f.2.1.1.2.1,0,()),()),a.2.2.1,[],[],[],())).bind fun g=>
aA g (fun d=>(some (d.1,((d.2.1.1.1,(0,0),d.2.1.1.2),()),d.2.2.1,[],[],()))) (fun b=>((aC SE ((aP (b.1.1+1),()),b.2.2)).bind fun c=>
bif decide (b.2.2.2.1.length=b.2.2.2.1.length)&&(decide (b.2.2.2.2.1.length=b.2.2.2.2.1.length)&&(decide (b.2.2.2.2.2.1.length=b.2.2.2.2.2.1.length)&&true))then
bif c.1.1 !=0 then some (c.1,((0,(0,0),0,()),()),[],[],[],())
else some ((0,()),((c.2.1.1.2.2.2.1,c.2.1.1.2.2.2.2.1,c.2.1.1.2.2.2.2.2.1,()),()),c.2.2.2.2.1,c.2.2.1,c.2.2.2.1,())
else none)))
def anv:Abs.Spec:=⟨0,⟨[0,1,2],(.dat Ug (.dat yc dx)),.nil⟩,⟨[6,7,8],UH,afD⟩,m15⟩
def anJ:Nat→Abs.fo
 |0=>.mk (bA [(6,⟨[27,6,3,2,1],(.dat .bool (.st gX (.st IV (.dat aR (.dat yc .nil))))),(.box 4 Co YE)⟩)]) bE (bA [(10,⟨⟨[6,41,10,3,39,2,40],(.st gX (.dat aR (.st (.ptr (1,0) 9 0 0) (.st oO (.dat yc lX))))),(.box 4 Co (.box 9 (.agg (.dat BX (.dat En (.dat aR (.dat aR (.part Z1 (3,0) (.st (.own Z4 (4,0)) (.dat aR (.st (.own zR (5,0)) dx)))))))) .nil) (.box 3 lN (.arr Z1 false (.arr Z4 false ab3)))))⟩,(.more .ret ⟨[6,7,8],UH,(.box 4 Co ab3)⟩ (.one (.exit 1) ⟨[6,10,2],(.st gX (.st (.ptr (1,0) 9 0 0) dx)),(.box 4 Co (.box 9 (.agg (.dat BX (.dat En (.dat aR (.dat aR (.part Z1 (2,0) (.st (.own Z4 (3,0)) (.dat aR (.st (.own zR (4,0)) dx)))))))) .nil) (.arr Z1 false (.arr Z4 false ab3))))⟩))⟩)]) (fun
  |19,3=>3
  |12,3=>2
  |_,_=>0)
 |1=>.mk (bA [(2,⟨[23,0,1,5],Yz,Qb7⟩)]) bE (bA [(1,⟨⟨[0,1],(.st abe dx),Qb7⟩,Wj⟩)]) fq
 |2=>.mk (bA [(2,⟨[23,0,1,5],Yz,Qb7⟩)]) bE (bA [(1,⟨⟨[0,1],(.st abe dx),Qb7⟩,Wj⟩)]) fq
 |3=>.mk (bA [(2,⟨[23,0,1,5],Yz,Qb7⟩)]) bE (bA [(1,⟨⟨[0,1],(.st abe dx),Qb7⟩,Wj⟩)]) fq
 |_=>{}
theorem akV:dz 15 anv:=okW anJ (bq afy (bq ahs (bq aic (bq akT (bq ajS dQ)))))
def m63(v:((mM×Y36×Unit)×Unit)):Option (jq×QM):=
(Vu ((v.1.1,()),())).bind fun a=>
(Vu ((([v.1.2.1]:List Y36),()),())).bind fun b=>
bif decide (a.2.1.length+b.2.1.length≤4294967296)then
(m81 ((a.2.1++b.2.1,()),())).bind fun c=>
bif c.1.1 !=0 then some (c.1,[],())
else some ((0,()),a.2.1++b.2.1,())
else none
def amV:Abs.Spec:=⟨0,⟨[0,1],(.dat zk (.dat Z4 .nil)),.nil⟩,⟨[4,5],(.st Pf dx),CZ⟩,m63⟩
theorem amB:dz 63 amV:=okW tT (bq adS (bq ajI dQ))
def ala(v:YL):Option eT:=
some ((!v.1.1.2.2.2.2.2.1,()),())
def ajM:Abs.Spec:=⟨0,⟨[0],(.dat Z6 .nil),.nil⟩,⟨[2],fu,.nil⟩,ala⟩
theorem aik:dz 114 ajM:=okW tT dQ
def ab2(v:abW):Option (abW⊕(tL⊕rz)):=
bif decide (v.1.1<v.1.2.2.1)then Abs.rowAt v.1.2.1 v.1.1 fun a _=>
(ala ((a,()),())).bind fun b=>
bif b.1.1 then some (.inr (.inl ((v.1.1,()),())))
else some (.inl ((aP (v.1.1+1),v.1.2),()))
else(some (.inr (.inr ((),()))))
def abp(v:(Cy×Qt)):Option ((Cy×Qt)⊕(Unit×Qt)):=
bif decide (v.1.1<v.1.2.2.1)then((bif decide (0≤v.1.1∧v.1.1<v.2.2.1.length)then
(v.2.2.1[v.1.1.toNat]?).bind fun b=>
(((((aC ab2 ((0,b.2.2.1,(b.2.2.1.length:Int),()),())).bind fun e=>
aA e (fun f=>(some ((decide (f.1.1≥0),()),()))) (fun h=>(some ((false,()),())))):Option eT).bind fun g=>
bif g.1.1 then bif b.2.2.2.1==(-1)then some ((true,v.1.2.1,v.1.2.2.1,v.1.1,v.1.1,()),v.2)
else some ((decide (b.2.2.2.1>v.1.2.1),v.1.2.1,v.1.2.2.1,v.1.1,v.1.1,()),v.2)
else some ((false,v.1.2.1,v.1.2.2.1,v.1.1,v.1.1,()),v.2)):Option ((Bool×Int×Int×Int×Int×Unit)×Qt)).bind fun a=>
bif a.1.1 then bif decide (0≤a.1.2.2.2.2.1∧a.1.2.2.2.2.1<a.2.2.1.length)then
(a.2.2.1[a.1.2.2.2.2.1.toNat]?).bind fun c=>
some ((a.1.2.1,a.1.2.2.1,a.1.2.2.2.1,()),a.2.1,a.2.2.1.set a.1.2.2.2.2.1.toNat (c.1,c.2.1,c.2.2.1,a.1.2.1,c.2.2.2.2),a.2.2.2)
else none
else some ((a.1.2.1,a.1.2.2.1,a.1.2.2.2.1,()),a.2)
else none):Option (Cy×Qt)).bind fun d=>
some (.inl ((aP (d.1.2.2.1+1),d.1.1,d.1.2.1,()),d.2))
else(some (.inr ((),v.2)))
def m25(v:((ZE×Pd×Y36×Unit)×Unit)):Option (sZ×Qt):=
(m36 ((v.1.1,v.1.2.1,()),())).bind fun d=>
bif !d.1.1 then some ((0,8,()),((0,0,()),()),[],[],())
else(bif decide (v.1.2.1.2.2.2.1≥8589934592)then some ((0,5,()),((0,0,()),()),[],[],())
else(m63 ((v.1.2.1.2.2.1,(v.1.2.1.2.2.2.1,v.1.2.2.1.2),()),())).bind fun b=>
bif b.1.1 !=0 then some ((0,b.1),((0,0,()),()),[],[],())
else(m64 ((v.1.2.1,()),())).bind fun a=>
(aC abp ((0,v.1.2.2.1.2.2.1,((a.2.2.1.length:Nat):Int),()),((a.2.1.1.1,aP (a.2.1.1.2.1+1),()),()),a.2.2.1,b.2)).bind fun c=>
bif decide (c.2.2.1.length=a.2.2.1.length)&&(decide (c.2.2.2.1.length=b.2.1.length)&&true)then
some ((v.1.2.1.2.2.2.1,0,()),c.2)
else none)
def amP:Abs.Spec:=⟨0,⟨[0,1,2],(.dat Ug (.dat Z17 (.dat Z4 .nil))),.nil⟩,⟨[6,7,8],(.st gX lX),Vx⟩,m25⟩
def aot:Nat→Abs.fo
 |0=>.mk bE bE bE (fun
  |12,2=>1
  |_,_=>0)
 |1=>.mk (bA [(3,⟨[29,1,0,9,10,11,4],(.dat .bool (.dat aR (.st gX (.st LP EA)))),Vx⟩)]) (bA [(5,(⟨[1,0,9,10,11],(.dat aR (.st gX (.st LP lX))),Vx⟩,none))]) (bA [(1,⟨⟨[11,1,0,9,10],(.dat aR (.dat aR (.st gX (.st LP dx)))),Vx⟩,(.one (.exit 0) ⟨[],.nil,Vx⟩)⟩)]) (fun
  |3,2=>2
  |_,_=>0)
 |2=>.mk (bA [(1,⟨[4],fu,.nil⟩)]) bE bE (fun
  |1,2=>3
  |_,_=>0)
 |3=>.mk bE bE (bA [(2,⟨⟨[8,0,1,7],(.dat aR (.dat EG (.st (.clo 114 []) dx))),.nil⟩,Ro3⟩)]) fq
 |_=>{}
theorem alY:dz 25 amP:=okW aot (bq aaS (bq amB (bq aeP (bq aik dQ))))
def m28(v:Y0):Option (jq×aeK):=
(m36 ((v.1.1,v.1.2.1,()),())).bind fun b=>
bif !b.1.1 then some ((8,()),((0,(0,0),0,()),()),[],[],[],())
else((m67 (v.1.2,())).bind fun a=>
bif a.1.1 !=0 then some (a.1,((0,(0,0),0,()),()),[],[],[],())
else(m75 v).bind fun c=>
some ((0,()),c.2))
def am8:Abs.Spec:=⟨0,⟨[0,1,2],(.dat Ug (.dat Z17 dx)),.nil⟩,⟨[6,7,8],UH,afD⟩,m28⟩
theorem an8:dz 28 am8:=okW tT (bq aaS (bq ajW (bq akT dQ)))
def m10(v:rz):Option eT:=
(m15 (((([(-1,[],0,[],30,300,3600,false,())]:List Y8),[],0,()),([(100,([(bs [97],bs [120],())]:List LY),true,())]:List CO),200,()),())).bind fun d=>
(m26 ((),())).bind fun e=>
(m25 (((([(-1,[],0,[],30,300,3600,false,())]:List Y8),[],0,()),(e.2.1.1.1,[],[],e.2.1.1.2),(0,0,1000,0,([(bs [97],0,bs [120],())]:List Rv),()),()),())).bind fun c=>
(m27 (((([(-1,[],0,[],30,300,3600,false,())]:List Y8),[],0,()),(c.2.1.1.1,c.2.2.1,c.2.2.2.1,c.2.1.1.2),(100,([(bs [97],bs [120],())]:List LY),true,()),()),())).bind fun b=>
bif decide (b.2.1.1.2.1.1+b.2.1.1.2.1.2≤b.2.2.1.length)then
(m28 (((([(-1,[],0,[],30,300,3600,false,())]:List Y8),[],0,()),(b.2.1.1.1,(b.2.2.1.drop b.2.1.1.2.1.1).take b.2.1.1.2.1.2,b.2.2.2.1,b.2.1.1.2.2),130,()),())).bind fun a=>
bif decide (a.2.1.1.2.1.1+a.2.1.1.2.1.2≤a.2.2.2.1.length)then
(m30 (((a.2.1.1.1,(a.2.2.2.1.drop a.2.1.1.2.1.1).take a.2.1.1.2.1.2,a.2.2.2.2.1,a.2.1.1.2.2),()),())).bind fun f=>
((bif d.1.1==0 then bif c.1.2.1==0 then bif b.1.1==0 then bif a.1.1==0 then bif ((d.2.2.1.length:Nat):Int)==1 then bif decide ((0:Int)≤0∧(0:Int)<d.2.2.1.length)then
(d.2.2.1[0]?).bind fun g=>
bif g.1==130 then bif c.1.1==1 then bif ((a.2.2.1.length:Nat):Int)==0 then bif f.1.2.1 then bif f.1.1==430 then bif decide (a.2.1.1.2.1.1+a.2.1.1.2.1.2≤a.2.2.2.1.length)then
bif yH ((a.2.2.2.1.drop a.2.1.1.2.1.1).take a.2.1.1.2.1.2)then
bif decide (a.2.2.2.1.length=a.2.2.2.1.length)&&(decide (a.2.2.2.2.1.length=a.2.2.2.2.1.length)&&true)then
let h:=((((pV ((a.2.2.2.1.drop a.2.1.1.2.1.1).take a.2.1.1.2.1.2)).length:Int):Int)==1)
bif h then(m34 (((([(-1,[],0,[],30,300,3600,false,())]:List Y8),[],0,()),()),())).bind fun j=>
bif j.1.1==0 then bif decide (a.2.1.1.2.1.1+a.2.1.1.2.1.2≤a.2.2.2.1.length)then
(m36 (((([(-1,[],0,[],30,300,3600,false,())]:List Y8),[],0,()),(a.2.1.1.1,(a.2.2.2.1.drop a.2.1.1.2.1.1).take a.2.1.1.2.1.2,a.2.2.2.2.1,a.2.1.1.2.2),()),())).bind fun k=>
some k
else none
else some ((false,()),())
else some ((false,()),())
else none
else none
else none
else some ((false,()),())
else some ((false,()),())
else some ((false,()),())
else some ((false,()),())
else some ((false,()),())
else none
else some ((false,()),())
else some ((false,()),())
else some ((false,()),())
else some ((false,()),())
else some ((false,()),())):Option eT).bind fun l=>
some l
else none
else none
def amm:Abs.Spec:=⟨0,⟨[],.nil,.nil⟩,⟨[0],fu,.nil⟩,m10⟩
def anT:Nat→Abs.fo
 |0=>.mk (bA [(8,⟨[0],fu,.nil⟩)]) bE bE fq
 |_=>{}
theorem alN:dz 10 amm:=okW anT (bq akV (bq ahs (bq alY (bq ajS (bq an8 (bq aic (bq afy (bq aaS dQ))))))))
def m11(v:(E5×Unit)):Option V5:=
some ((),((v.1.1,0,()),()),())
def anZ:Abs.Spec:=⟨0,⟨[0],(.dat rIz .nil),.nil⟩,⟨[2],Kw,tN⟩,m11⟩
theorem anF:dz 11 anZ:=okW tT dQ
def M7(v:Ma):Option Ma:=
((let c:=(decide (v.2.1.1.2.1≥(v.2.1.1.1.length:Int)))
bif c then some ((true,v.1),v.2)
else some ((decide (v.1.1<1),v.1),v.2)):Option (wI×Zm)).bind fun a=>
bif a.1.1 then some ((0,()),a.2)
else(Abs.rowAt a.2.1.1.1 a.2.1.1.2.1 fun b _=>
bif decide (a.1.2.1≠(0:Int))then
((let d:=(decide ((((b:Int).tmod a.1.2.1):Int)<0))
bif d then some ((aP (((b:Int).tmod a.1.2.1)+a.1.2.1),()),((a.2.1.1.1,aP (a.2.1.1.2.1+1),()),()),())
else some (((b:Int).tmod a.1.2.1,()),((a.2.1.1.1,aP (a.2.1.1.2.1+1),()),()),())):Option Ma).bind fun e=>
some e
else none)
def aon:Abs.Spec:=⟨1,⟨[0,1],JX,tN⟩,⟨[4],dx,tN⟩,M7⟩
def amD:Nat→Abs.fo
 |0=>.mk (bA [(1,⟨[19,1,0],(.dat .bool (.dat aR Kw)),tN⟩)]) (bA [(7,(⟨[5],dx,tN⟩,none))]) bE fq
 |_=>{}
theorem Mw:dz 38 aon:=okW amD dQ
def m32(v:(E5×Zm)):Option Ma:=
(M7 (((v.1.1.length:Int),()),v.2)).bind fun a=>
Abs.rowAt v.1.1 a.1.1 fun b _=>
some ((b,()),a.2)
def aoc:Abs.Spec:=⟨1,⟨[0,1],(.st Li (.dat rIz .nil)),tN⟩,⟨[4],dx,tN⟩,m32⟩
theorem ok32:dz 32 aoc:=okW tT (bq Mw dQ)
def m40(v:Ma):Option (nW×Zm):=
(M7 v).bind fun a=>
some ((a.1.1==(aP (v.1.1-1)),()),a.2)
def anC:Abs.Spec:=⟨1,⟨[0,1],JX,tN⟩,⟨[4],fu,tN⟩,m40⟩
theorem aks:dz 40 anC:=okW tT (bq Mw dQ)
def BR(v:(TR×VY)):Option ((TR×VY)⊕(Unit×VY)):=
bif decide (v.1.1<4)then((Abs.rowAt ([v.1.2.1.1,v.1.2.1.2.1,v.1.2.1.2.2.1,v.1.2.1.2.2.2.1]:List ByteArray) v.1.1 fun c _=>
(m40 ((3,()),v.2.1,())).bind fun a=>
bif a.1.1 then bif decide (v.2.2.1.length+ [c].length≤4294967296)then
some ((v.1.2.1,v.1.1,()),a.2.1,v.2.2.1++ [c],())
else none
else some ((v.1.2.1,v.1.1,()),a.2.1,v.2.2)):Option ((aeS×Int×Unit)×VY)).bind fun b=>
some (.inl ((aP (b.1.2.1+1),b.1.1,()),b.2))
else(some (.inr ((),v.2)))
def m62(v:V5):Option (Unit×VY):=
(aC BR ((0,(bs [97,112,112],bs [104,111,115,116],bs [115,101,118],bs [116,101,97,109],()),()),v.2.1,[],())).bind fun a=>
some ((),a.2)
def alZ:Abs.Spec:=⟨1,⟨[0],Kw,tN⟩,⟨[2],(.st V9 .nil),(.box 2 yo Rb8)⟩,m62⟩
def ame:Nat→Abs.fo
 |0=>.mk bE (bA [(7,(⟨[3,0,6,7],(.st V9 (.st Li (.dat acp dx))),(.box 2 yo Rb8)⟩,none))]) (bA [(3,⟨⟨[7,3,0,6],(.dat aR (.st V9 (.st Li (.dat acp .nil)))),(.box 2 yo Rb8)⟩,(.one (.exit 0) ⟨[3],(.st V9 .nil),(.box 2 yo Rb8)⟩)⟩)]) fq
 |_=>{}
theorem aij:dz 62 alZ:=okW ame (bq aks dQ)
def m24(v:V5):Option (Unit×(ZF×((Int×Int×Int×Int×Int×Bool×Unit)×Unit)×List ByteArray×Unit)):=
(m32 (([0,30,10,60],()),v.2)).bind fun a=>
(m32 (([20,300,40],()),a.2)).bind fun b=>
(M7 ((3,()),b.2)).bind fun c=>
(m62 ((),c.2)).bind fun d=>
(m32 (([0,3600,100],()),d.2.1,())).bind fun e=>
(m40 ((2,()),e.2)).bind fun f=>
some ((),f.2.1,((-1,c.1.1,a.1.1,aP (a.1.1+b.1.1),aP ((aP (a.1.1+b.1.1))+e.1.1),f.1),()),d.2.2)
def alP:Abs.Spec:=⟨1,⟨[0],Kw,tN⟩,⟨[2],(.st Qi .nil),(.box 2 yo (.box 8 (.agg (.dat aR (.st .nil (.dat aR (.st Ll (.dat aR (.dat aR FH)))))) .nil) Rb8))⟩,m24⟩
theorem anM:dz 24 alP:=okW tT (bq ok32 (bq Mw (bq aij (bq aks dQ))))
def m98(v:V5):Option (Unit×(ZF×(Rv×Unit)×Unit)):=
(M7 ((5,()),v.2)).bind fun a=>
bif decide (0≤a.1.1∧a.1.1< [(bs [97,112,112]),bs [104,111,115,116],bs [115,101,118],bs [116,101,97,109],(bs [122,111,110,101])].length)then
([(bs [97,112,112]),bs [104,111,115,116],bs [115,101,118],bs [116,101,97,109],(bs [122,111,110,101])][a.1.1.toNat]?).bind fun d=>
(M7 ((4,()),a.2)).bind fun c=>
(M7 ((8,()),c.2)).bind fun b=>
bif decide (0≤b.1.1∧b.1.1< [(bs [97]),bs [98],ByteArray.empty,bs [42],bs [99,114,105,116],bs [63],bs [119,101,98,45,42],(bs [97,34,98,92])].length)then
([(bs [97]),bs [98],ByteArray.empty,bs [42],bs [99,114,105,116],bs [63],bs [119,101,98,45,42],(bs [97,34,98,92])][b.1.1.toNat]?).bind fun e=>
some ((),b.2.1,((d,c.1.1,e,()),()),())
else none
else none
def an2:Abs.Spec:=⟨1,⟨[0],Kw,tN⟩,⟨[2],(.st IV .nil),(.box 2 yo (.box 3 Np .nil))⟩,m98⟩
theorem ale:dz 98 an2:=okW tT (bq Mw dQ)
def EW(v:(jq×RJ)):Option ((jq×RJ)⊕(Unit×RJ)):=
bif decide (v.1.1>0)then(m98 ((),v.2.1,())).bind fun a=>
bif decide (v.2.2.1.length+([a.2.2.1.1]:List Rv).length≤4294967296)then
let b:=(v.2.2.1++([a.2.2.1.1]:List Rv))
some (.inl ((aP (v.1.1-1),()),a.2.1,b,()))
else none
else(some (.inr ((),v.2)))
def m97(v:Ma):Option (Unit×RJ):=
(M7 ((aP (v.1.1+1),()),v.2)).bind fun a=>
(aC EW (a.1,a.2.1,[],())).bind fun b=>
some ((),b.2)
def anQ:Abs.Spec:=⟨1,⟨[0,1],JX,tN⟩,⟨[4],Yt,af5⟩,m97⟩
def ang:Nat→Abs.fo
 |0=>.mk bE bE (bA [(3,⟨⟨[6,0,5],(.dat aR (.st Li Yt)),af5⟩,(.one (.exit 0) ⟨[5],Yt,af5⟩)⟩)]) fq
 |_=>{}
theorem ahX:dz 97 anQ:=okW ang (bq Mw (bq ale dQ))
def F3(v:(jq×aat)):Option ((jq×aat)⊕(Unit×aat)):=
bif decide (v.1.1>0)then(m24 ((),v.2.1,())).bind fun a=>
(M7 ((((v.2.2.1.length:Nat):Int),()),a.2.1,())).bind fun b=>
(m97 ((2,()),b.2)).bind fun c=>
bif decide (v.2.2.1.length+([(b.1.1,c.2.2.1,a.2.2.1.1.2.1,a.2.2.2.1,a.2.2.1.1.2.2)]:List Y8).length≤4294967296)then
let d:=(v.2.2.1++([(b.1.1,c.2.2.1,a.2.2.1.1.2.1,a.2.2.2.1,a.2.2.1.1.2.2)]:List Y8))
some (.inl ((aP (v.1.1-1),()),c.2.1,d,()))
else none
else(some (.inr ((),v.2)))
def m50(v:Ma):Option (Unit×aat):=
(m24 ((),v.2)).bind fun a=>
(M7 ((aP (v.1.1+1),()),a.2.1,())).bind fun b=>
(aC F3 (b.1,b.2.1,([(a.2.2.1.1.1,[],a.2.2.1.1.2.1,a.2.2.2.1,a.2.2.1.1.2.2)]:List Y8),())).bind fun c=>
some ((),c.2)
def anb:Abs.Spec:=⟨1,⟨[0,1],JX,tN⟩,⟨[4],(.st (.own Z2 (1,0)) .nil),agu⟩,m50⟩
def alS:Nat→Abs.fo
 |0=>.mk bE bE (bA [(3,⟨⟨[6,5,0],(.dat aR (.st (.own Z2 (1,0)) Kw)),agu⟩,(.one (.exit 0) ⟨[5],(.st (.own Z2 (1,0)) .nil),agu⟩)⟩)]) fq
 |_=>{}
theorem amv:dz 50 anb:=okW alS (bq anM (bq Mw (bq ahX dQ)))
def EN(v:(jq×RX)):Option ((jq×RX)⊕(Unit×RX)):=
bif decide (v.1.1>0)then(m97 ((1,()),v.2.1,())).bind fun a=>
bif decide (a.2.2.1.length+([(bs [115,101,118],0,bs [99,114,105,116],())]:List Rv).length≤4294967296)then
let e:=(a.2.2.1++([(bs [115,101,118],0,bs [99,114,105,116],())]:List Rv))
(m97 ((1,()),a.2.1,())).bind fun b=>
(m98 ((),b.2.1,())).bind fun c=>
bif decide (b.2.2.1.length+([c.2.2.1.1]:List Rv).length≤4294967296)then
let f:=(b.2.2.1++([c.2.2.1.1]:List Rv))
(m62 ((),c.2.1,())).bind fun d=>
bif decide (v.2.2.1.length+([(e,f,d.2.2)]:List aas).length≤4294967296)then
let g:=(v.2.2.1++([(e,f,d.2.2)]:List aas))
some (.inl ((aP (v.1.1-1),()),d.2.1,g,()))
else none
else none
else none
else(some (.inr ((),v.2)))
def i51:Abs.Sg:=⟨[0],Kw,tN⟩
def m51(v:V5):Option (Unit×RX):=
(M7 ((3,()),v.2)).bind fun a=>
(aC EN (a.1,a.2.1,[],())).bind fun b=>
some ((),b.2)
def ank:Abs.Spec:=⟨1,i51,⟨[2],(.st (.own Z7 (1,0)) .nil),aeT⟩,m51⟩
def anh:Nat→Abs.fo
 |0=>.mk bE bE (bA [(3,⟨⟨[4,3,0],(.dat aR (.st (.own Z7 (1,0)) Kw)),aeT⟩,(.one (.exit 0) ⟨[3],(.st (.own Z7 (1,0)) .nil),aeT⟩)⟩)]) fq
 |_=>{}
theorem amh:dz 51 ank:=okW anh (bq Mw (bq ahX (bq ale (bq aij dQ))))
def m12(v:Ma):Option (Unit×(ZF×(jq×Unit)×List Y8×ED×Unit)):=
(m50 v).bind fun a=>
(m51 ((),a.2.1,())).bind fun b=>
(m32 (([0,0,200,1000],()),b.2.1,())).bind fun c=>
some ((),c.2.1,(c.1,()),a.2.2.1,b.2.2)
def ami:Abs.Spec:=⟨1,⟨[0,1],JX,tN⟩,⟨[4],(.st IV .nil),(.box 2 yo (.box 3 (.agg (.st (.own Z2 (2,0)) (.st (.own Z7 (3,0)) dx)) .nil) (.arr Z2 false (.arr Z7 false .nil))))⟩,m12⟩
theorem amu:dz 12 ami:=okW tT (bq amv (bq amh (bq ok32 dQ)))
def Ad(v:(TR×NE)):Option ((TR×NE)⊕(Unit×NE)):=
bif decide (v.1.1<4)then((Abs.rowAt ([v.1.2.1.1,v.1.2.1.2.1,v.1.2.1.2.2.1,v.1.2.1.2.2.2.1]:List ByteArray) v.1.1 fun d _=>
(M7 ((6,()),v.2.1,())).bind fun a=>
bif decide (0≤a.1.1∧a.1.1< [ByteArray.empty,bs [97],bs [98],bs [99,114,105,116],bs [97,34,98,92],(bs [119,101,98,45,49])].length)then
([ByteArray.empty,bs [97],bs [98],bs [99,114,105,116],bs [97,34,98,92],(bs [119,101,98,45,49])][a.1.1.toNat]?).bind fun b=>
bif !(b.toList==ByteArray.empty.toList)then bif decide (v.2.2.1.length+([(d,b,())]:List LY).length≤4294967296)then
let e:=(v.2.2.1++([(d,b,())]:List LY))
some ((v.1.2.1,v.1.1,()),a.2.1,e,())
else none
else some ((v.1.2.1,v.1.1,()),a.2.1,v.2.2)
else none):Option ((aeS×Int×Unit)×NE)).bind fun c=>
some (.inl ((aP (c.1.2.1+1),c.1.1,()),c.2))
else(some (.inr ((),v.2)))
def m39(v:V5):Option (Unit×NE):=
(aC Ad ((0,(bs [97,112,112],bs [104,111,115,116],bs [115,101,118],bs [116,101,97,109],()),()),v.2.1,[],())).bind fun a=>
some ((),a.2)
def am3:Abs.Spec:=⟨1,⟨[0],Kw,tN⟩,⟨[2],(.st (.own Z30 (1,0)) .nil),(.box 2 yo BJ)⟩,m39⟩
def aok:Nat→Abs.fo
 |0=>.mk bE (bA [(8,(⟨[3,0,7,8],(.st (.own Z30 (1,0)) (.st Li (.dat acp dx))),(.box 2 yo BJ)⟩,none))]) (bA [(3,⟨⟨[8,3,0,7],(.dat aR (.st (.own Z30 (1,0)) (.st Li (.dat acp .nil)))),(.box 2 yo BJ)⟩,(.one (.exit 0) ⟨[3],(.st (.own Z30 (1,0)) .nil),(.box 2 yo BJ)⟩)⟩)]) fq
 |_=>{}
theorem amb:dz 39 am3:=okW aok (bq Mw dQ)
def EJ(v:(sZ×aa9)):Option ((sZ×aa9)⊕(Unit×aa9)):=
bif decide (v.1.1>0)then(m32 (([0,1,10,30,400],()),v.2.1,())).bind fun a=>
(m39 ((),a.2)).bind fun b=>
(M7 ((3,()),b.2.1,())).bind fun c=>
bif decide (v.2.2.1.length+([(aP (v.1.2.1+a.1.1),b.2.2.1,decide (c.1.1>0),())]:List CO).length≤4294967296)then
let d:=(v.2.2.1++([(aP (v.1.2.1+a.1.1),b.2.2.1,decide (c.1.1>0),())]:List CO))
some (.inl ((aP (v.1.1-1),aP (v.1.2.1+a.1.1),()),c.2.1,d,()))
else none
else(some (.inr ((),v.2)))
def m13(v:Ma):Option (Unit×aa9):=
(M7 ((aP (v.1.1+1),()),v.2)).bind fun a=>
(aC EJ ((a.1.1,0,()),a.2.1,[],())).bind fun b=>
some ((),b.2)
def anA:Abs.Spec:=⟨1,⟨[0,1],JX,tN⟩,⟨[4],(.st (.own Vo (1,0)) .nil),af8⟩,m13⟩
def anK:Nat→Abs.fo
 |0=>.mk bE bE (bA [(4,⟨⟨[7,0,5,6],(.dat aR (.st Li (.st (.own Vo (1,0)) dx))),af8⟩,(.one (.exit 0) ⟨[5],(.st (.own Vo (1,0)) .nil),af8⟩)⟩)]) fq
 |_=>{}
theorem ao1:dz 13 anA:=okW anK (bq Mw (bq ok32 (bq amb dQ)))
def m14(v:(sZ×Unit)):Option tL:=
bif decide (v.1.2.1≠(0:Int))then
bif decide (v.1.2.1≠(0:Int))then
let a:=(((aP (((v.1.1:Int).tmod v.1.2.1)+v.1.2.1)):Int).tmod v.1.2.1)
some ((a,()),())
else none
else none
def amX:Abs.Spec:=⟨0,⟨[0,1],lX,.nil⟩,⟨[4],dx,.nil⟩,m14⟩
theorem ao5:dz 14 amX:=okW tT dQ
end
noncomputable section
def wV(v:Q9):Option (Q9⊕(eT⊕rz)):=
bif decide (v.1.1<(v.1.2.1.size:Int))then((bif decide (0≤v.1.1∧v.1.1<v.1.2.1.size)then
let b:=(decide (((((v.1.2.1[v.1.1.toNat]?.getD 0).toNat:Nat):Int):Int)<97))
bif b then bif decide (0≤v.1.1∧v.1.1<v.1.2.1.size)then
let c:=(decide (((((v.1.2.1[v.1.1.toNat]?.getD 0).toNat:Nat):Int):Int)<48))
bif c then bif decide (0≤v.1.1∧v.1.1<v.1.2.1.size)then
let d:=(((((v.1.2.1[v.1.1.toNat]?.getD 0).toNat:Nat):Int):Int) !=95)
some ((d,v.1.2.1,v.1.1,()),())
else none
else bif decide (0≤v.1.1∧v.1.1<v.1.2.1.size)then
let e:=(decide (((((v.1.2.1[v.1.1.toNat]?.getD 0).toNat:Nat):Int):Int)>57))
bif e then bif decide (0≤v.1.1∧v.1.1<v.1.2.1.size)then
let f:=(((((v.1.2.1[v.1.1.toNat]?.getD 0).toNat:Nat):Int):Int) !=95)
some ((f,v.1.2.1,v.1.1,()),())
else none
else some ((false,v.1.2.1,v.1.1,()),())
else none
else none
else bif decide (0≤v.1.1∧v.1.1<v.1.2.1.size)then
let g:=(decide (((((v.1.2.1[v.1.1.toNat]?.getD 0).toNat:Nat):Int):Int)>122))
bif g then bif decide (0≤v.1.1∧v.1.1<v.1.2.1.size)then
let h:=(decide (((((v.1.2.1[v.1.1.toNat]?.getD 0).toNat:Nat):Int):Int)<48))
bif h then bif decide (0≤v.1.1∧v.1.1<v.1.2.1.size)then
let j:=(((((v.1.2.1[v.1.1.toNat]?.getD 0).toNat:Nat):Int):Int) !=95)
some ((j,v.1.2.1,v.1.1,()),())
else none
else bif decide (0≤v.1.1∧v.1.1<v.1.2.1.size)then
let k:=(decide (((((v.1.2.1[v.1.1.toNat]?.getD 0).toNat:Nat):Int):Int)>57))
bif k then bif decide (0≤v.1.1∧v.1.1<v.1.2.1.size)then
let l:=(((((v.1.2.1[v.1.1.toNat]?.getD 0).toNat:Nat):Int):Int) !=95)
some ((l,v.1.2.1,v.1.1,()),())
else none
else some ((false,v.1.2.1,v.1.1,()),())
else none
else none
else some ((false,v.1.2.1,v.1.1,()),())
else none
else none):Option (YH×Unit)).bind fun a=>
bif a.1.1 then some (.inr (.inl ((false,()),())))
else some (.inl ((aP (a.1.2.2.1+1),a.1.2.1,()),()))
else(some (.inr (.inr ((),()))))
def Uk(v:Fx):Option eT:=
((bif decide ((v.1.1.size:Int)<1)then some ((true,v.1),())
else bif decide ((v.1.1.size:Int)>24)then some ((true,v.1),())
else bif decide ((0:Int)≤0∧(0:Int)<v.1.1.size)then
let b:=(decide (((((v.1.1[0]?.getD 0).toNat:Nat):Int):Int)<97))
bif b then some ((true,v.1),())
else bif decide ((0:Int)≤0∧(0:Int)<v.1.1.size)then
let c:=(decide (((((v.1.1[0]?.getD 0).toNat:Nat):Int):Int)>122))
some ((c,v.1),())
else none
else none):Option ((Bool×ByteArray×Unit)×Unit)).bind fun a=>
bif a.1.1 then some ((false,()),())
else((aC wV ((0,a.1.2),())).bind fun d=>
aA d (fun e=>(some e)) (fun f=>(some ((true,()),()))))
def aio:Abs.Spec:=⟨0,⟨[0],iF,.nil⟩,⟨[2],fu,.nil⟩,Uk⟩
def aky:Nat→Abs.fo
 |0=>.mk (bA [(6,⟨[55,0,3],(.dat .bool VD),.nil⟩),(1,⟨[21,0],(.dat .bool iF),.nil⟩)]) bE (bA [(4,⟨⟨[3,0],EC,.nil⟩,ZJ⟩)]) fq
 |_=>{}
theorem XL:dz 105 aio:=okW aky dQ
def uW(v:Q9):Option (Q9⊕(eT⊕rz)):=
bif decide (v.1.1<(v.1.2.1.size:Int))then((bif decide (0≤v.1.1∧v.1.1<v.1.2.1.size)then
let b:=(decide (((((v.1.2.1[v.1.1.toNat]?.getD 0).toNat:Nat):Int):Int)<32))
bif b then some ((true,v.1.2.1,v.1.1,()),())
else bif decide (0≤v.1.1∧v.1.1<v.1.2.1.size)then
let c:=(decide (((((v.1.2.1[v.1.1.toNat]?.getD 0).toNat:Nat):Int):Int)>126))
some ((c,v.1.2.1,v.1.1,()),())
else none
else none):Option (YH×Unit)).bind fun a=>
bif a.1.1 then some (.inr (.inl ((false,()),())))
else some (.inl ((aP (a.1.2.2.1+1),a.1.2.1,()),()))
else(some (.inr (.inr ((),()))))
def ZA(v:Fx):Option eT:=
bif decide ((v.1.1.size:Int)>64)then some ((false,()),())
else((aC uW ((0,v.1),())).bind fun a=>
aA a (fun b=>(some b)) (fun c=>(some ((true,()),()))))
def aiz:Abs.Spec:=⟨0,⟨[0],iF,.nil⟩,⟨[2],fu,.nil⟩,ZA⟩
def akI:Nat→Abs.fo
 |0=>.mk (bA [(6,⟨[22,0,3],(.dat .bool VD),.nil⟩)]) bE (bA [(4,⟨⟨[3,0],EC,.nil⟩,ZJ⟩)]) fq
 |_=>{}
theorem acR:dz 106 aiz:=okW akI dQ
def Yr(v:Te):Option eT:=
(((Uk ((v.1.1.1,()),())).bind fun a=>
bif a.1.1 then bif decide (v.1.1.2.1≥0)then bif decide (v.1.1.2.1≤3)then(ZA (v.1.1.2.2,())).bind fun b=>
some b
else some ((false,()),())
else some ((false,()),())
else some ((false,()),())):Option eT).bind fun c=>
some c
def ai5:Abs.Spec:=⟨0,⟨[0],Np,.nil⟩,⟨[2],fu,.nil⟩,Yr⟩
def aj0:Nat→Abs.fo
 |0=>.mk (bA [(1,⟨[2],fu,.nil⟩)]) bE bE fq
 |_=>{}
theorem acU:dz 162 ai5:=okW aj0 (bq XL (bq acR dQ))
def uO(v:ae5):Option (ae5⊕(eT⊕rz)):=
let d:=(decide (v.1.1<(v.1.2.1.length:Int)))
bif d then((Abs.rowAt v.1.2.1 v.1.1 fun e _=>
(Uk ((e,()),())).bind fun f=>
bif !f.1.1 then some ((true,v.1.2.1,v.1.1,()),())
else bif decide (v.1.1>0)then Abs.rowAt v.1.2.1 v.1.1 fun b _=>
Abs.rowAt v.1.2.1 (aP (v.1.1-1)) fun c _=>
some ((Op.bytesLess b.toList c.toList||b.toList==c.toList,v.1.2.1,v.1.1,()),())
else some ((false,v.1.2.1,v.1.1,()),())):Option (aeA×Unit)).bind fun a=>
bif a.1.1 then some (.inr (.inl ((false,()),())))
else some (.inl ((aP (a.1.2.2.1+1),a.1.2.1,()),()))
else(some (.inr (.inr ((),()))))
def Xc(v:(X8×Unit)):Option eT:=
(aC uO ((0,v.1),())).bind fun a=>
aA a (fun b=>(some b)) (fun c=>(some ((true,()),())))
def akj:Abs.Spec:=⟨0,⟨[0],Iy,.nil⟩,⟨[2],fu,.nil⟩,Xc⟩
def ahj:Nat→Abs.fo
 |0=>.mk (bA [(4,⟨[31,0,3],(.dat .bool (.dat Hq dx)),.nil⟩)]) bE (bA [(2,⟨⟨[3,0],(.dat aR Iy),.nil⟩,ZJ⟩)]) fq
 |_=>{}
theorem adP:dz 142 akj:=okW ahj (bq XL dQ)
def wz(v:(jq×Qe)):Option ((jq×Qe)⊕(tL⊕(Unit×Qe))):=
let a:=(decide (v.1.1<(v.2.1.1.2.1.length:Int)))
bif a then Abs.rowAt v.2.1.1.2.1 v.1.1 fun b _=>
(Yr ((b,()),())).bind fun c=>
bif !c.1.1 then some (.inr (.inl ((8,()),())))
else some (.inl ((aP (v.1.1+1),()),v.2))
else(some (.inr (.inr ((),v.2))))
def abr(v:Wz):Option tL:=
((bif decide ((v.1.1.2.1.length:Int)>8)then some ((true,()),v)
else let c:=(decide ((v.1.1.2.2.2.1.length:Int)>12))
some ((c,()),v)):Option (nW×Qe)).bind fun b=>
bif b.1.1 then some ((5,()),())
else((aC wz ((0,()),b.2)).bind fun d=>
aA d (fun e=>(some e)) (fun a=>((Xc ((a.2.1.1.2.2.2.1,()),())).bind fun f=>
bif !f.1.1 then some ((8,()),())
else((bif decide (a.2.1.1.2.2.1<0)then some ((true,()),())
else bif decide (a.2.1.1.2.2.2.2.1<0)then some ((true,()),())
else let g:=(decide (a.2.1.1.2.2.2.2.1>a.2.1.1.2.2.2.2.2.1))
bif g then some ((true,()),())
else let h:=(decide (a.2.1.1.2.2.2.2.2.1>a.2.1.1.2.2.2.2.2.2.1))
bif h then some ((true,()),())
else let j:=(decide (a.2.1.1.2.2.2.2.2.2.1>604800))
bif j then some ((true,()),())
else some ((a.2.1.1.2.2.2.2.2.2.1==0,()),())):Option eT).bind fun k=>
bif k.1.1 then some ((1,()),())
else some ((0,()),()))))
def ahU:Abs.Spec:=⟨0,⟨[0],uo,.nil⟩,⟨[2],dx,.nil⟩,abr⟩
def aiq:Nat→Abs.fo
 |0=>.mk (bA [(10,⟨[33],fu,.nil⟩),(1,⟨[13,1],(.dat .bool U1),KT⟩)]) bE (bA [(4,⟨⟨[3,1],(.dat aR U1),KT⟩,(.more .ret ⟨[2],dx,.nil⟩ (.one (.exit 0) ⟨[1],U1,KT⟩))⟩)]) fq
 |_=>{}
theorem ajb:dz 104 ahU:=okW aiq (bq acU (bq adP dQ))
def Ai(v:((Int×List Y8×Unit)×Unit)):Option (((Int×List Y8×Unit)×Unit)⊕(tL⊕aam)):=
let c:=(decide (v.1.1<(v.1.2.1.length:Int)))
bif c then((bif v.1.1==0 then Abs.rowAt v.1.2.1 v.1.1 fun d _=>
bif d.1 !=(-1)then some ((true,v.1.2.1,v.1.1,()),())
else bif decide (v.1.1>0)then Abs.rowAt v.1.2.1 v.1.1 fun e _=>
bif decide (e.1<0)then some ((true,v.1.2.1,v.1.1,()),())
else Abs.rowAt v.1.2.1 v.1.1 fun f _=>
some ((decide (f.1≥v.1.1),v.1.2.1,v.1.1,()),())
else some ((false,v.1.2.1,v.1.1,()),())
else bif decide (v.1.1>0)then Abs.rowAt v.1.2.1 v.1.1 fun g _=>
bif decide (g.1<0)then some ((true,v.1.2.1,v.1.1,()),())
else Abs.rowAt v.1.2.1 v.1.1 fun h _=>
some ((decide (h.1≥v.1.1),v.1.2.1,v.1.1,()),())
else some ((false,v.1.2.1,v.1.1,()),())):Option ((Bool×List Y8×Int×Unit)×Unit)).bind fun a=>
bif a.1.1 then some (.inr (.inl ((3,()),())))
else Abs.rowAt a.1.2.1 a.1.2.2.1 fun j _=>
(abr ((j,()),())).bind fun b=>
bif b.1.1 !=0 then some (.inr (.inl b))
else some (.inl ((aP (a.1.2.2.1+1),a.1.2.1,()),()))
else(some (.inr (.inr (v.1.2,()))))
def m56(v:aam):Option tL:=
bif (v.1.1.length:Int)==0 then some ((7,()),())
else(bif decide ((v.1.1.length:Int)>24)then some ((5,()),())
else(aC Ai ((0,v.1),())).bind fun a=>
aA a (fun b=>(some b)) (fun c=>(Abs.rowAt c.1.1 0 fun d _=>
bif decide ((d.2.1.length:Int)>0)then some ((8,()),())
else some ((0,()),()))))
def anN:Abs.Spec:=⟨0,⟨[0],Oa,.nil⟩,⟨[2],dx,.nil⟩,m56⟩
def aop:Nat→Abs.fo
 |0=>.mk (bA [(8,⟨[47,0,3],(.dat .bool V8),.nil⟩)]) bE (bA [(6,⟨⟨[3,0],(.dat aR Oa),.nil⟩,(.more .ret ⟨[2],dx,.nil⟩ (.one (.exit 0) ⟨[0],Oa,.nil⟩))⟩)]) fq
 |_=>{}
theorem afa:dz 56 anN:=okW aop (bq ajb dQ)
def Bv(v:((Int×Y5×Unit)×Unit)):Option (((Int×Y5×Unit)×Unit)⊕(eT⊕rz)):=
let a:=(decide (v.1.1<(v.1.2.1.length:Int)))
bif a then Abs.rowAt v.1.2.1 v.1.1 fun b _=>
(Yr ((b,()),())).bind fun c=>
bif !c.1.1 then some (.inr (.inl ((false,()),())))
else some (.inl ((aP (v.1.1+1),v.1.2),()))
else(some (.inr (.inr ((),()))))
def Ul(v:((Y5×Unit)×Unit)):Option eT:=
(aC Bv ((0,v.1),())).bind fun a=>
aA a (fun b=>(some b)) (fun c=>(some ((true,()),())))
def aiZ:Abs.Spec:=⟨0,⟨[0],RH,.nil⟩,⟨[2],fu,.nil⟩,Ul⟩
def aie:Nat→Abs.fo
 |0=>.mk bE bE (bA [(2,⟨⟨[3,0],(.dat aR RH),.nil⟩,ZJ⟩)]) fq
 |_=>{}
theorem ad4:dz 141 aiZ:=okW aie (bq acU dQ)
def Fu(v:((Int×ED×Unit)×Unit)):Option (((Int×ED×Unit)×Unit)⊕(tL⊕rz)):=
let e:=(decide (v.1.1<(v.1.2.1.length:Int)))
bif e then Abs.rowAt v.1.2.1 v.1.1 fun c _=>
((bif (c.1.length:Int)==0 then some ((true,v.1.2.1,v.1.1,()),(c,()),())
else some (((c.2.1.length:Int)==0,v.1.2.1,v.1.1,()),(c,()),())):Option (VZ×Vd)).bind fun a=>
bif a.1.1 then some (.inr (.inl ((7,()),())))
else((let f:=(decide ((a.2.1.1.1.length:Int)>8))
bif f then some ((true,a.1.2),a.2)
else let g:=(decide ((a.2.1.1.2.1.length:Int)>8))
bif g then some ((true,a.1.2),a.2)
else let h:=(decide ((a.2.1.1.2.2.1.length:Int)>12))
some ((h,a.1.2),a.2)):Option (VZ×Vd)).bind fun b=>
bif b.1.1 then some (.inr (.inl ((5,()),())))
else(((Ul ((b.2.1.1.1,()),())).bind fun j=>
bif !j.1.1 then some ((true,b.1.2),())
else(Ul ((b.2.1.1.2.1,()),())).bind fun k=>
bif !k.1.1 then some ((true,b.1.2),())
else(Xc (b.2.1.1.2.2,())).bind fun l=>
some ((!l.1.1,b.1.2),())):Option (VZ×Unit)).bind fun d=>
bif d.1.1 then some (.inr (.inl ((8,()),())))
else some (.inl ((aP (d.1.2.2.1+1),d.1.2.1,()),()))
else(some (.inr (.inr ((),()))))
def m80(v:((ED×Unit)×Unit)):Option tL:=
bif decide ((v.1.1.length:Int)>12)then some ((5,()),())
else((aC Fu ((0,v.1),())).bind fun a=>
aA a (fun b=>(some b)) (fun c=>(some ((0,()),()))))
def ane:Abs.Spec:=⟨0,⟨[0],NM,.nil⟩,⟨[2],dx,.nil⟩,m80⟩
def alT:Nat→Abs.fo
 |0=>.mk (bA [(11,⟨[46,0,3],(.dat .bool Ud),.nil⟩),(9,⟨[29,0,3,4],adx,Uj⟩),(7,⟨[18,0,3,4],adx,Uj⟩)]) bE (bA [(4,⟨⟨[3,0],(.dat aR NM),.nil⟩,abI⟩)]) fq
 |_=>{}
theorem ama:dz 80 ane:=okW alT (bq ad4 (bq adP dQ))
def m35(v:(Cn×Unit)):Option tL:=
(m56 ((v.1.1.1,()),())).bind fun a=>
bif a.1.1 !=0 then some a
else((m80 ((v.1.1.2.1,()),())).bind fun b=>
bif b.1.1 !=0 then some b
else((bif decide (v.1.1.2.2.1<0)then some ((true,()),())
else some ((decide (v.1.1.2.2.1>604800),()),())):Option eT).bind fun c=>
bif c.1.1 then some ((1,()),())
else some ((0,()),()))
def alJ:Abs.Spec:=⟨0,⟨[0],lN,.nil⟩,⟨[2],dx,.nil⟩,m35⟩
def anR:Nat→Abs.fo
 |0=>.mk (bA [(7,⟨[24],fu,.nil⟩)]) bE bE fq
 |_=>{}
theorem aia:dz 35 alJ:=okW anR (bq afa (bq ama dQ))
def m33(v:rz):Option (Unit×(rA×Unit)):=
some ((),((0,1,()),()),())
def anY:Abs.Spec:=⟨0,⟨[],.nil,.nil⟩,⟨[0],V3,Vh⟩,m33⟩
theorem anU:dz 33 anY:=okW tT dQ
def Fp(v:((Int×Int×Bool×Unit)×Q5)):Option (((Int×Int×Bool×Unit)×Q5)⊕SS):=
let d:=(decide (v.1.1<(v.2.1.1.2.1.length:Int)))
bif d then((Abs.rowAt v.2.1.1.2.1 v.1.1 fun b _=>
((bif b.2.2.2.1 !=(-1)then bif !v.1.2.2.1 then some ((true,v.1.1,b.2.2.2.1,v.1.2),v.2)
else some ((decide (b.2.2.2.1<v.1.2.1),v.1.1,b.2.2.2.1,v.1.2),v.2)
else some ((false,v.1.1,b.2.2.2.1,v.1.2),v.2)):Option ((Bool×Int×Int×Int×Bool×Unit)×Q5)).bind fun a=>
bif a.1.1 then some ((a.1.2.2.1,true,a.1.2.1,()),a.2)
else some ((a.1.2.2.2.1,a.1.2.2.2.2.1,a.1.2.1,()),a.2)):Option (Y4×Q5)).bind fun c=>
some (.inl ((aP (c.1.2.2.1+1),c.1.1,c.1.2.1,()),c.2))
else(some (.inr ((v.1.2.2.1,v.1.2.1,()),())))
def m46(v:(JL×Unit)):Option U5:=
(aC Fp ((0,0,false,()),v)).bind fun a=>
some ((a.1.2.1,a.1.1,()),())
def anw:Abs.Spec:=⟨0,⟨[0],yh,.nil⟩,⟨[2,3],FH,.nil⟩,m46⟩
def am1:Nat→Abs.fo
 |0=>.mk (bA [(6,⟨[31,1,6,7,4,5],(.dat .bool (.st gX (.dat aR (.dat aR FH)))),Oh⟩)]) (bA [(4,(⟨[4,5,1,6],(.dat aR (.dat .bool R3)),Oh⟩,none))]) (bA [(3,⟨⟨[6,4,5,1],(.dat aR (.dat aR (.dat .bool V3))),Oh⟩,(.one (.exit 0) ⟨[5,4],MK,.nil⟩)⟩)]) fq
 |_=>{}
theorem aor:dz 46 anw:=okW am1 dQ
def EX(v:((Int×mM×Unit)×Unit)):Option (((Int×mM×Unit)×Unit)⊕(tL⊕rz)):=
let d:=(decide (v.1.1<(v.1.2.1.length:Int)))
bif d then Abs.rowAt v.1.2.1 v.1.1 fun c _=>
((bif decide (c.1<1)then some ((true,v.1.2.1,v.1.1,()),(c,()),())
else bif decide (v.1.1>0)then Abs.rowAt v.1.2.1 (aP (v.1.1-1)) fun e _=>
some ((decide (c.1≤e.1),v.1.2.1,v.1.1,()),(c,()),())
else some ((false,v.1.2.1,v.1.1,()),(c,()),())):Option ((Bool×mM×Int×Unit)×Jw)).bind fun a=>
bif a.1.1 then some (.inr (.inl ((6,()),())))
else((bif decide (a.2.1.1.2.1<0)then some ((true,a.1.2),a.2)
else let f:=(decide (a.2.1.1.2.1≥a.2.1.1.2.2.1))
bif f then some ((true,a.1.2),a.2)
else bif decide (a.2.1.1.2.2.1>8589934592)then some ((true,a.1.2),a.2)
else some ((decide (a.2.1.1.2.2.2.1<0),a.1.2),a.2)):Option ((Bool×mM×Int×Unit)×Jw)).bind fun b=>
bif b.1.1 then some (.inr (.inl ((1,()),())))
else let g:=((b.2.1.1.2.2.2.2.1.length:Int)==0)
bif g then some (.inr (.inl ((7,()),())))
else let h:=(decide ((b.2.1.1.2.2.2.2.1.length:Int)>8))
bif h then some (.inr (.inl ((5,()),())))
else(Ul (b.2.1.1.2.2.2.2,())).bind fun j=>
bif !j.1.1 then some (.inr (.inl ((8,()),())))
else some (.inl ((aP (b.1.2.2.1+1),b.1.2.1,()),()))
else(some (.inr (.inr ((),()))))
def m87(v:TN):Option tL:=
bif decide ((v.1.1.length:Int)>24)then some ((5,()),())
else((aC EX ((0,v.1),())).bind fun a=>
aA a (fun b=>(some b)) (fun c=>(some ((0,()),()))))
def alM:Abs.Spec:=⟨0,⟨[0],NS,.nil⟩,⟨[2],dx,.nil⟩,m87⟩
def anV:Nat→Abs.fo
 |0=>.mk (bA [(9,⟨[37,0,3,4],(.dat .bool (.dat zk VK)),Nt⟩),(7,⟨[18,0,3,4],(.dat .bool (.dat zk VK)),Nt⟩)]) bE (bA [(4,⟨⟨[3,0],(.dat aR NS),.nil⟩,abI⟩)]) fq
 |_=>{}
theorem amo:dz 87 alM:=okW anV (bq ad4 dQ)
def FY(v:tL):Option eT:=
((bif decide (v.1.1≥0)then some ((decide (v.1.1≤8589934592),()),())
else some ((false,()),())):Option eT).bind fun a=>
some a
def ak2:Abs.Spec:=⟨0,⟨[0],dx,.nil⟩,⟨[2],fu,.nil⟩,FY⟩
def akz:Nat→Abs.fo
 |0=>.mk (bA [(1,⟨[2],fu,.nil⟩)]) bE bE fq
 |_=>{}
theorem RZ:dz 148 ak2:=okW akz dQ
def Av(v:((Int×Y9×Unit)×Unit)):Option (((Int×Y9×Unit)×Unit)⊕(eT⊕rz)):=
let d:=(decide (v.1.1<(v.1.2.1.length:Int)))
bif d then((Abs.rowAt v.1.2.1 v.1.1 fun e _=>
(Uk ((e.1,()),())).bind fun f=>
bif !f.1.1 then some ((true,v.1.2.1,v.1.1,()),())
else Abs.rowAt v.1.2.1 v.1.1 fun g _=>
(ZA (g.2,())).bind fun h=>
bif !h.1.1 then some ((true,v.1.2.1,v.1.1,()),())
else Abs.rowAt v.1.2.1 v.1.1 fun j _=>
bif j.2.1.toList==ByteArray.empty.toList then some ((true,v.1.2.1,v.1.1,()),())
else bif decide (v.1.1>0)then Abs.rowAt v.1.2.1 v.1.1 fun b _=>
Abs.rowAt v.1.2.1 (aP (v.1.1-1)) fun c _=>
some ((Op.bytesLess b.1.toList c.1.toList||b.1.toList==c.1.toList,v.1.2.1,v.1.1,()),())
else some ((false,v.1.2.1,v.1.1,()),())):Option ((Bool×Y9×Int×Unit)×Unit)).bind fun a=>
bif a.1.1 then some (.inr (.inl ((false,()),())))
else some (.inl ((aP (a.1.2.2.1+1),a.1.2.1,()),()))
else(some (.inr (.inr ((),()))))
def m57(v:Zl):Option eT:=
bif decide ((v.1.1.length:Int)>12)then some ((false,()),())
else((aC Av ((0,v.1),())).bind fun a=>
aA a (fun b=>(some b)) (fun c=>(some ((true,()),()))))
def amw:Abs.Spec:=⟨0,⟨[0],lJ,.nil⟩,⟨[2],fu,.nil⟩,m57⟩
def amK:Nat→Abs.fo
 |0=>.mk (bA [(6,⟨[54,0,3],(.dat .bool Qg),.nil⟩)]) bE (bA [(4,⟨⟨[3,0],(.dat aR lJ),.nil⟩,ZJ⟩)]) fq
 |_=>{}
theorem Um:dz 57 amw:=okW amK (bq XL (bq acR dQ))
def vK(v:adG):Option (adG⊕Fx):=
bif decide (v.1.1<(v.1.2.1.size:Int))then((((bif decide (0≤v.1.1∧v.1.1<v.1.2.1.size)then
let d:=(((((v.1.2.1[v.1.1.toNat]?.getD 0).toNat:Nat):Int):Int)==34)
bif d then some ((true,v.1.2.1,v.1.1,v.1.2.2),())
else bif decide (0≤v.1.1∧v.1.1<v.1.2.1.size)then
let e:=(((((v.1.2.1[v.1.1.toNat]?.getD 0).toNat:Nat):Int):Int)==92)
some ((e,v.1.2.1,v.1.1,v.1.2.2),())
else none
else none):Option ((Bool×ByteArray×Int×ByteArray×Unit)×Unit)).bind fun b=>
bif b.1.1 then bif decide (b.1.2.2.2.1.size+1≤4294967296)then
some ((b.1.2.1,b.1.2.2.1,b.1.2.2.2.1++(bs [92]),()),())
else none
else some (b.1.2,())):Option (Rv×Unit)).bind fun a=>
bif decide ((0:Int)≤a.1.2.1)then
bif decide ((0:Int)≤(aP (a.1.2.1+1)))then
bif decide (a.1.2.1.toNat≤(aP (a.1.2.1+1)).toNat∧(aP (a.1.2.1+1)).toNat≤a.1.1.size)then
let c:=(a.1.1.extract a.1.2.1.toNat (aP (a.1.2.1+1)).toNat)
bif decide (a.1.2.2.1.size+c.size≤4294967296)then
some (.inl ((aP (a.1.2.1+1),a.1.1,a.1.2.2.1++c,()),()))
else none
else none
else none
else none
else(some (.inr (v.1.2.2,())))
def aaH(v:Fx):Option Fx:=
(aC vK ((0,v.1.1,bs [34],()),())).bind fun a=>
bif decide (a.1.1.size+1≤4294967296)then
some ((a.1.1++(bs [34]),()),())
else none
def akk:Abs.Spec:=⟨0,⟨[0],iF,.nil⟩,⟨[2],iF,.nil⟩,aaH⟩
def ai3:Nat→Abs.fo
 |0=>.mk (bA [(5,⟨[20,0,4,3],(.dat .bool (.dat .str EC)),.nil⟩)]) (bA [(7,(⟨[0,4,3],(.dat .str EC),.nil⟩,none))]) (bA [(3,⟨⟨[4,0,3],(.dat aR Oc),.nil⟩,(.one (.exit 0) ⟨[3],iF,.nil⟩)⟩)]) fq
 |_=>{}
theorem ah2:dz 109 akk:=okW ai3 dQ
def xY(v:ab6):Option (ab6⊕Fx):=
let d:=(decide (v.1.1<(v.1.2.1.length:Int)))
bif d then((bif decide (v.1.1>0)then bif decide (v.1.2.2.1.size+1≤4294967296)then
some ((v.1.2.1,v.1.1,v.1.2.2.1++(bs [44]),()),())
else none
else some ((v.1.2.1,v.1.1,v.1.2.2),())):Option ((Y9×Int×ByteArray×Unit)×Unit)).bind fun a=>
Abs.rowAt a.1.1 a.1.2.1 fun b _=>
bif decide (b.1.size+1≤4294967296)then
Abs.rowAt a.1.1 a.1.2.1 fun e _=>
(aaH (e.2,())).bind fun c=>
bif decide ((b.1++(bs [61])).size+c.1.1.size≤4294967296)then
bif decide (a.1.2.2.1.size+((b.1++(bs [61]))++c.1.1).size≤4294967296)then
let f:=(a.1.2.2.1++((b.1++(bs [61]))++c.1.1))
some (.inl ((aP (a.1.2.1+1),a.1.1,f,()),()))
else none
else none
else none
else(some (.inr (v.1.2.2,())))
def m59(v:Zl):Option Fx:=
(m57 v).bind fun b=>
bif !b.1.1 then some ((ByteArray.empty,()),())
else((aC xY ((0,v.1.1,bs [123],()),())).bind fun a=>
bif decide (a.1.1.size+1≤4294967296)then
some ((a.1.1++(bs [125]),()),())
else none)
def am0:Abs.Spec:=⟨0,⟨[0],lJ,.nil⟩,⟨[2],iF,.nil⟩,m59⟩
def aox:Nat→Abs.fo
 |0=>.mk bE (bA [(9,(⟨[0,4,3],(.dat jE EC),.nil⟩,none))]) (bA [(5,⟨⟨[4,0,3],(.dat aR (.dat jE iF)),.nil⟩,(.one (.exit 0) ⟨[3],iF,.nil⟩)⟩)]) fq
 |_=>{}
theorem agl:dz 59 am0:=okW aox (bq Um (bq ah2 dQ))
def x9(v:(jq×LA)):Option ((jq×LA)⊕(eT⊕rz)):=
let e:=(decide (v.1.1<(v.2.1.1.2.2.1.length:Int)))
bif e then Abs.rowAt v.2.1.1.2.2.1 v.1.1 fun a _=>
(((m57 ((a.2.1,()),())).bind fun f=>
bif !f.1.1 then some ((true,v.1),v.2)
else(m59 ((a.2.1,()),())).bind fun g=>
bif !(g.1.1.toList==a.1.toList)then some ((true,v.1),v.2)
else(FY ((a.2.2.1,()),())).bind fun h=>
bif !h.1.1 then some ((true,v.1),v.2)
else(FY ((a.2.2.2.1,()),())).bind fun j=>
bif !j.1.1 then some ((true,v.1),v.2)
else bif !a.2.2.2.2.1 then bif a.2.2.2.2.2.1 then some ((true,v.1),v.2)
else bif decide (v.1.1>0)then Abs.rowAt v.2.1.1.2.2.1 (aP (v.1.1-1)) fun c _=>
some ((Op.bytesLess a.1.toList c.1.toList||a.1.toList==c.1.toList,v.1),v.2)
else some ((false,v.1),v.2)
else bif decide (v.1.1>0)then Abs.rowAt v.2.1.1.2.2.1 (aP (v.1.1-1)) fun d _=>
some ((Op.bytesLess a.1.toList d.1.toList||a.1.toList==d.1.toList,v.1),v.2)
else some ((false,v.1),v.2)):Option (wI×LA)).bind fun b=>
bif b.1.1 then some (.inr (.inl ((false,()),())))
else some (.inl ((aP (b.1.2.1+1),()),b.2))
else(some (.inr (.inr ((),()))))
def m88(v:VP):Option eT:=
((let b:=(decide ((v.1.1.2.2.1.length:Int)>256))
bif b then some ((true,()),v)
else bif decide (v.1.1.1<0)then some ((true,()),v)
else bif v.1.1.2.2.2.1 !=(-1)then(FY ((v.1.1.2.2.2.1,()),())).bind fun c=>
bif !c.1.1 then some ((true,()),v)
else bif v.1.1.2.2.2.2.1 !=(-1)then(FY (v.1.1.2.2.2.2,())).bind fun d=>
some ((!d.1.1,()),v)
else some ((false,()),v)
else bif v.1.1.2.2.2.2.1 !=(-1)then(FY (v.1.1.2.2.2.2,())).bind fun e=>
some ((!e.1.1,()),v)
else some ((false,()),v)):Option (nW×LA)).bind fun a=>
bif a.1.1 then some ((false,()),())
else((aC x9 ((0,()),a.2)).bind fun f=>
aA f (fun g=>(some g)) (fun h=>(some ((true,()),()))))
def aob:Abs.Spec:=⟨0,⟨[0],oN,.nil⟩,⟨[2],fu,.nil⟩,m88⟩
def anG:Nat→Abs.fo
 |0=>.mk (bA [(7,⟨[96,1,3],(.dat .bool FV),y9⟩),(1,⟨[35,1],(.dat .bool Oi),y9⟩)]) bE (bA [(4,⟨⟨[3,1],VK,y9⟩,ZJ⟩)]) fq
 |_=>{}
theorem aci:dz 88 aob:=okW anG (bq RZ (bq Um (bq agl dQ)))
def aiA(v:VP):Option eT:=
some (((v.1.1.2.2.1.length:Int)==0,()),())
def akY:Abs.Spec:=⟨0,⟨[0],oN,.nil⟩,⟨[2],fu,.nil⟩,aiA⟩
theorem alh:dz 149 akY:=okW tT dQ
def m89(v:((ZE×Y3×Int×Unit)×Unit)):Option eT:=
(((aiA ((v.1.2.1,()),())).bind fun a=>
bif a.1.1 then bif v.1.2.1.2.2.2.2.1==(-1)then some ((true,()),())
else Abs.rowAt v.1.1.1 v.1.2.1.1 fun b _=>
let c:=(decide (((aP (v.1.2.1.2.2.2.2.1+b.2.2.2.2.2.1)):Int)≤v.1.2.2.1))
some ((c,()),())
else some ((false,()),())):Option eT).bind fun d=>
some d
def anW:Abs.Spec:=⟨0,⟨[0,1,2],(.dat Ug (.dat Z1 dx)),.nil⟩,⟨[6],fu,.nil⟩,m89⟩
def ano:Nat→Abs.fo
 |0=>.mk (bA [(1,⟨[6],fu,.nil⟩)]) bE bE fq
 |_=>{}
theorem ag9:dz 89 anW:=okW ano (bq alh dQ)
def m90(v:((Y3×Int×ByteArray×Unit)×Unit)):Option eT:=
((bif decide (v.1.1.1<v.1.2.1)then some ((true,()),())
else bif v.1.1.1==v.1.2.1 then some ((Op.bytesLess v.1.1.2.1.toList v.1.2.2.1.toList,()),())
else some ((false,()),())):Option eT).bind fun a=>
some a
def ao4:Abs.Spec:=⟨0,⟨[0,1,2],(.dat Z1 EC),.nil⟩,⟨[6],fu,.nil⟩,m90⟩
def aog:Nat→Abs.fo
 |0=>.mk (bA [(1,⟨[6],fu,.nil⟩)]) bE bE fq
 |_=>{}
theorem ajh:dz 90 ao4:=okW aog dQ
def zY(v:aei):Option (aei⊕((Y9×List ByteArray×Int×Unit)×(Y9×Unit))):=
let b:=(decide (v.1.2.2.2.1<(v.1.2.1.length:Int)))
bif b then Abs.rowAt v.1.2.1 v.1.2.2.2.1 fun c _=>
Abs.rowAt v.1.1 v.1.2.2.1 fun d _=>
bif c.toList==d.1.toList then Abs.rowAt v.1.1 v.1.2.2.1 fun a _=>
bif decide (v.2.1.length+([a]:List LY).length≤4294967296)then
let e:=(v.2.1++([a]:List LY))
some (.inr ((v.1.1,v.1.2.1,v.1.2.2.1,()),e,()))
else none
else some (.inl ((v.1.1,v.1.2.1,v.1.2.2.1,aP (v.1.2.2.2.1+1),()),v.2))
else(some (.inr ((v.1.1,v.1.2.1,v.1.2.2.1,()),v.2)))
def zU(v:acI):Option (acI⊕WN):=
let b:=(decide (v.1.1<(v.1.2.1.length:Int)))
bif b then(aC zY ((v.1.2.1,v.1.2.2.1,v.1.1,0,()),v.2)).bind fun a=>
some (.inl ((aP (a.1.2.2.1+1),a.1.1,a.1.2.1,()),a.2))
else(some (.inr ((),v.2)))
def m60(v:adn):Option WN:=
(aC zU ((0,v.1),[],())).bind fun a=>
some ((),a.2)
def am7:Abs.Spec:=⟨0,⟨[0,1],(.dat jE Iy),.nil⟩,⟨[4],Pw,BJ⟩,m60⟩
def anD:Nat→Abs.fo
 |0=>.mk bE bE (bA [(3,⟨⟨[6,0,5,1],(.dat aR (.dat jE (.st VH Iy))),BJ⟩,(.one (.exit 0) ⟨[5],Pw,BJ⟩)⟩),(6,⟨⟨[0,1,6,5,7],(.dat jE (.dat Hq (.dat aR (.st VH dx)))),BJ⟩,(.one (.exit 2) ⟨[0,5,1,6],(.dat jE (.st VH (.dat Hq dx))),BJ⟩)⟩)]) fq
 |_=>{}
theorem amn:dz 60 am7:=okW anD dQ
def m20(v:((Y8×Y9×Unit)×Unit)):Option Fx:=
(m57 (v.1.2,())).bind fun a=>
bif !a.1.1 then some ((ByteArray.empty,()),())
else((m60 ((v.1.2.1,v.1.1.2.2.2.1,()),())).bind fun b=>
(m59 (b.2,())).bind fun c=>
some c)
def ao0:Abs.Spec:=⟨0,⟨[0,1],(.dat Z2 lJ),.nil⟩,⟨[4],iF,.nil⟩,m20⟩
theorem air:dz 20 ao0:=okW tT (bq Um (bq amn (bq agl dQ)))
def wS(v:(sZ×YC)):Option ((sZ×YC)⊕(eT⊕(jq×Nk))):=
let a:=(decide (v.1.1<(v.2.1.1.2.2.1.length:Int)))
bif a then Abs.rowAt v.2.2.1.1.1 v.2.1.1.1 fun b _=>
Abs.rowAt v.2.1.1.2.2.1 v.1.1 fun c _=>
(m20 ((b,c.2.1,()),())).bind fun d=>
bif !(d.1.1.toList==v.2.1.1.2.1.toList)then some (.inr (.inl ((false,()),())))
else some (.inl ((aP (v.1.1+1),v.1.2),v.2))
else(some (.inr (.inr (v.1.2,v.2.2))))
def sO(v:(jq×Nk)):Option ((jq×Nk)⊕(eT⊕ah6)):=
let d:=(decide (v.1.1<(v.2.2.1.1.2.1.length:Int)))
bif d then Abs.rowAt v.2.2.1.1.2.1 v.1.1 fun a _=>
(((m88 ((a,()),())).bind fun e=>
bif !e.1.1 then some ((true,v.1),(a,()),v.2)
else let f:=(decide (a.1≥(v.2.1.1.1.length:Int)))
bif f then some ((true,v.1),(a,()),v.2)
else(m89 ((v.2.1.1,a,v.2.2.1.1.1,()),())).bind fun g=>
bif g.1.1 then some ((true,v.1),(a,()),v.2)
else bif decide (v.1.1>0)then Abs.rowAt v.2.2.1.1.2.1 (aP (v.1.1-1)) fun h _=>
(m90 ((h,a.1,a.2.1,()),())).bind fun j=>
some ((!j.1.1,v.1),(a,()),v.2)
else some ((false,v.1),(a,()),v.2)):Option (wI×YC)).bind fun b=>
bif b.1.1 then some (.inr (.inl ((false,()),())))
else(aC wS ((0,b.1.2),b.2)).bind fun k=>
aA k (fun l=>(some (.inr (.inl l)))) (fun c=>(some (.inl ((aP (c.1.1+1),()),c.2))))
else(some (.inr (.inr ((),v.2.2))))
def u6(v:(jq×Q5)):Option ((jq×Q5)⊕(eT⊕rz)):=
let a:=(decide (v.1.1<(v.2.1.1.2.2.1.length:Int)))
bif a then Abs.rowAt v.2.1.1.2.2.1 v.1.1 fun b _=>
bif decide (b.1≥v.2.1.1.2.2.2.1)then some (.inr (.inl ((false,()),())))
else some (.inl ((aP (v.1.1+1),()),v.2))
else(some (.inr (.inr ((),()))))
def m37(v:adW):Option eT:=
(((m35 ((v.1.1,()),())).bind fun b=>
bif b.1.1 !=0 then some ((true,()),(v.1.1,()),v.1.2,())
else bif decide (v.1.2.1.1<0)then some ((true,()),(v.1.1,()),v.1.2,())
else bif decide (v.1.2.1.1>8589934592)then some ((true,()),(v.1.1,()),v.1.2,())
else let c:=(decide ((v.1.2.1.2.1.length:Int)>64))
bif c then some ((true,()),(v.1.1,()),v.1.2,())
else(m87 ((v.1.2.1.2.2.1,()),())).bind fun d=>
bif d.1.1 !=0 then some ((true,()),(v.1.1,()),v.1.2,())
else some ((decide (v.1.2.1.2.2.2.1<1),()),(v.1.1,()),v.1.2,())):Option (nW×Nk)).bind fun a=>
bif a.1.1 then some ((false,()),())
else((aC sO ((0,()),a.2)).bind fun e=>
aA e (fun f=>(some f)) (fun g=>((aC u6 ((0,()),g.2)).bind fun h=>
aA h (fun j=>(some j)) (fun k=>(some ((true,()),()))))))
def ao2:Abs.Spec:=⟨0,⟨[0,1],(.dat Ug yh),.nil⟩,⟨[4],fu,.nil⟩,m37⟩
def aoi:Nat→Abs.fo
 |0=>.mk (bA [(7,⟨[86,6,2,3,5],(.dat .bool (.st ig (.st IV (.st zf dx)))),(.box 5 oN K6)⟩),(1,⟨[38,2,3],YZ,K6⟩)]) bE (bA [(15,⟨⟨[8,3],(.dat aR V3),Oh⟩,(.more .ret ⟨[4],fu,.nil⟩ (.one (.exit 4) ⟨[],.nil,.nil⟩))⟩),(4,⟨⟨[2,5,3],(.st yP (.dat aR WE)),K6⟩,(.more .ret ⟨[4],fu,.nil⟩ (.one (.exit 0) ⟨[3],V3,Oh⟩))⟩),(10,⟨⟨[7,6,2,3,5],(.dat aR (.st ig (.st IV (.st zf dx)))),(.box 5 oN K6)⟩,(.more .ret ⟨[4],fu,.nil⟩ (.one (.exit 2) ⟨[2,3,5],(.st yP (.st oD dx)),K6⟩))⟩)]) fq
 |_=>{}
theorem aj9:dz 37 ao2:=okW aoi (bq aia (bq amo (bq aci (bq ag9 (bq ajh (bq air dQ))))))
def UC(v:Wz):Option eT:=
(m56 ((([(-1,[],v.1.1.2.2)]:List Y8),()),())).bind fun a=>
some ((a.1.1==0,()),())
def aho:Abs.Spec:=⟨0,⟨[0],uo,.nil⟩,⟨[2],fu,.nil⟩,UC⟩
theorem Xf:dz 150 aho:=okW tT (bq afa dQ)
def Uc(v:VP):Option (Unit×(r9×List mq×Unit)):=
bif decide (0+v.1.1.2.2.1.length≤4294967296)then
some ((),((v.1.1.1,v.1.1.2.1,v.1.1.2.2.2),()),v.1.1.2.2.1,())
else none
def ahu:Abs.Spec:=⟨0,⟨[0],oN,.nil⟩,⟨[2],Oi,Bt⟩,Uc⟩
theorem VX:dz 151 ahu:=okW tT dQ
def Qh(v:tL):Option tL:=
bif decide (v.1.1>8589934592)then some ((-1,()),())
else(some v)
def agX:Abs.Spec:=⟨0,⟨[0],dx,.nil⟩,⟨[2],dx,.nil⟩,Qh⟩
theorem X0:dz 159 agX:=okW tT dQ
def lg(v:(Cy×ZH)):Option ((Cy×ZH)⊕Vj):=
let o:=(decide (v.1.1<((v.2.2.2.2.1.length:Nat):Int)))
bif o then((bif decide (0≤v.1.1∧v.1.1<v.2.2.2.2.1.length)then
(v.2.2.2.2.1[v.1.1.toNat]?).bind fun m=>
((bif decide (v.1.2.2.1>0)then bif m.2.2.2.2.1 then let p:=(decide (m.2.2.2.1≤(aP (v.1.2.1-v.1.2.2.1))))
some ((p,v.1),v.2)
else some ((false,v.1),v.2)
else some ((false,v.1),v.2)):Option (afL×ZH)).bind fun a=>
bif a.1.1 then((bif decide (0≤a.1.2.1∧a.1.2.1<a.2.2.2.2.1.length)then
(a.2.2.2.2.1[a.1.2.1.toNat]?).bind fun q=>
bif !q.2.2.2.2.2.1 then bif decide ((0:Int)≤a.1.2.1)then
bif decide (0≤a.1.2.1.toNat∧a.1.2.1.toNat≤a.2.2.2.2.1.length)then
bif decide ((0:Int)≤(aP (a.1.2.1+1)))then
bif decide ((aP (a.1.2.1+1)).toNat≤a.2.2.2.2.1.length∧a.2.2.2.2.1.length≤a.2.2.2.2.1.length)then
bif decide ((aP (a.1.2.1+1)).toNat+(a.2.2.2.2.1.length-(aP (a.1.2.1+1)).toNat)≤a.2.2.2.2.1.length)then
bif decide (0=0∧a.1.2.1.toNat≤a.2.2.2.2.1.length∧a.1.2.1.toNat+((a.2.2.2.2.1.drop (aP (a.1.2.1+1)).toNat).take (a.2.2.2.2.1.length-(aP (a.1.2.1+1)).toNat)).length≤4294967296)then
let h:=(a.2.2.2.2.1.take a.1.2.1.toNat++((a.2.2.2.2.1.drop (aP (a.1.2.1+1)).toNat).take (a.2.2.2.2.1.length-(aP (a.1.2.1+1)).toNat)))
((bif ((h.length:Nat):Int)==0 then some ((),h,((0,ByteArray.empty,0,0,()),()),((a.2.1.1.1,a.2.1.1.2.1,-1,a.2.1.1.2.2.2),()),())
else some ((),h,((0,ByteArray.empty,0,0,()),()),a.2.1,())):Option KW).bind fun l=>
bif decide (l.2.1.length=h.length)&&true then
bif decide (a.2.2.2.2.1.length=a.2.2.2.2.1.length)&&true then
some ((a.1.2.1,a.1.2.2.1,a.1.2.2.2.1,((a.2.2.2.2.1.length:Nat):Int),()),l.2.2.2.1,a.2.2.1,a.2.2.2.1,l.2.1,())
else none
else none
else none
else none
else none
else none
else none
else none
else(a.2.2.2.2.1[a.1.2.1.toNat]?).bind fun b=>
((a.2.2.2.2.1.set a.1.2.1.toNat (b.1,b.2.1,b.2.2.1,b.2.2.2.1,false,b.2.2.2.2.2))[a.1.2.1.toNat]?).bind fun c=>
(((a.2.2.2.2.1.set a.1.2.1.toNat (b.1,b.2.1,b.2.2.1,b.2.2.2.1,false,b.2.2.2.2.2)).set a.1.2.1.toNat (c.1,c.2.1,c.2.2.1,c.2.2.2.1,c.2.2.2.2.1,false,()))[a.1.2.1.toNat]?).bind fun e=>
((bif a.2.1.1.2.2.2.1 !=(-1)then let n:=(aP (a.2.1.1.2.2.2.1+a.2.2.1.1.2.2.2.2.2.1))
let r:=(if n>a.1.2.2.1 then n else a.1.2.2.1)
some ((r,()),((a.2.2.2.2.1.set a.1.2.1.toNat (b.1,b.2.1,b.2.2.1,b.2.2.2.1,false,b.2.2.2.2.2)).set a.1.2.1.toNat (c.1,c.2.1,c.2.2.1,c.2.2.2.1,c.2.2.2.2.1,false,())).set a.1.2.1.toNat (e.1,e.2.1,a.1.2.2.1,e.2.2.2),((0,ByteArray.empty,0,0,()),()),a.2.1,())
else some ((aP (a.1.2.2.1+a.2.2.1.1.2.2.2.2.1),()),((a.2.2.2.2.1.set a.1.2.1.toNat (b.1,b.2.1,b.2.2.1,b.2.2.2.1,false,b.2.2.2.2.2)).set a.1.2.1.toNat (c.1,c.2.1,c.2.2.1,c.2.2.2.1,c.2.2.2.2.1,false,())).set a.1.2.1.toNat (e.1,e.2.1,a.1.2.2.1,e.2.2.2),((0,ByteArray.empty,0,0,()),()),a.2.1,())):Option (jq×Yq9)).bind fun g=>
((((bif g.2.2.2.1.1.2.2.1==(-1)then some ((true,g.1),g.2)
else let s:=(decide (g.1.1<g.2.2.2.1.1.2.2.1))
some ((s,g.1),g.2)):Option (wI×Yq9)).bind fun f=>
bif f.1.1 then(Qh (f.1.2,())).bind fun t=>
some ((),f.2.1,f.2.2.1,((f.2.2.2.1.1.1,f.2.2.2.1.1.2.1,t.1.1,f.2.2.2.1.1.2.2.2),()),())
else some ((),f.2)):Option KW).bind fun j=>
bif decide (j.2.1.length=(((a.2.2.2.2.1.set a.1.2.1.toNat (b.1,b.2.1,b.2.2.1,b.2.2.2.1,false,b.2.2.2.2.2)).set a.1.2.1.toNat (c.1,c.2.1,c.2.2.1,c.2.2.2.1,c.2.2.2.2.1,false,())).set a.1.2.1.toNat (e.1,e.2.1,a.1.2.2.1,e.2.2.2)).length)&&true then
bif decide (j.2.1.length=a.2.2.2.2.1.length)&&true then
some ((a.1.2.1,a.1.2.2.1,a.1.2.2.2.1,((a.2.2.2.2.1.length:Nat):Int),()),j.2.2.2.1,a.2.2.1,a.2.2.2.1,j.2.1,())
else none
else none
else none):Option ((Int×Int×Int×Int×Unit)×ZH)).bind fun d=>
let u:=(decide (((d.2.2.2.2.1.length:Nat):Int)<d.1.2.2.2.1))
bif u then some (.inr ((d.1.1,d.1.2.1,d.1.2.2.1,()),d.2))
else some (.inl ((d.1.2.1,d.1.2.2.1,d.1.1,()),d.2))
else some (.inl ((a.1.2.2.1,a.1.2.2.2.1,a.1.2.1,()),a.2))
else none):Option ((Cy×ZH)⊕(Cy×ZH))).bind fun w=>
aA w (fun k=>(some (.inl ((aP (k.1.2.2.1+1),k.1.1,k.1.2.1,()),k.2)))) (fun x=>(some (.inl x)))
else(some (.inr ((),v.2.2.2.1,v.2.1,v.2.2.2.2)))
def m94(v:((Y3×Y8×Int×Int×Unit)×Unit)):Option Er:=
(((m88 ((v.1.1,()),())).bind fun d=>
bif !d.1.1 then some ((true,v.1.2.2),((0,ByteArray.empty,0,0,()),()),(v.1.2.1,()),(v.1.1,()),())
else(UC ((v.1.2.1,()),())).bind fun e=>
some ((!e.1.1,v.1.2.2),((0,ByteArray.empty,0,0,()),()),(v.1.2.1,()),(v.1.1,()),())):Option (IW×WB)).bind fun a=>
bif a.1.1 then some ((8,()),((0,ByteArray.empty,0,0,()),()),[],())
else((((FY ((a.1.2.1,()),())).bind fun f=>
bif !f.1.1 then some ((true,a.1.2),a.2)
else bif decide (a.1.2.2.1<0)then some ((true,a.1.2),a.2)
else some ((decide (a.1.2.2.1>604800),a.1.2),a.2)):Option (IW×WB)).bind fun b=>
bif b.1.1 then some ((1,()),((0,ByteArray.empty,0,0,()),()),[],())
else(Uc b.2.2.2).bind fun c=>
(aC lg ((0,b.1.2),c.2.1,b.2.2.1,b.2.1,c.2.2)).bind fun g=>
some ((0,()),g.2.2))
def anq:Abs.Spec:=⟨0,⟨[0,1,2,3],(.dat Z1 (.dat Z2 lX)),.nil⟩,⟨[8,9],FV,Bt⟩,m94⟩
def an4:Nat→Abs.fo
 |0=>.mk (bA [(11,⟨[11,10,2,5,3,8,13],(.dat aR acS),K8⟩),(9,⟨[60,11,10,2,5,3,8],(.dat .bool (.dat aR QS)),K8⟩),(3,⟨[33,8,2,5,3,4],(.dat .bool QS),Zc⟩),(1,⟨[21,8,2,5,3,4],(.dat .bool QS),Zc⟩)]) (bA [(13,(⟨[10,2,5,3,8,11],acS,K8⟩,some (.one (.exit 1) ⟨[11,10,2,5,3,8],(.dat aR QS),K8⟩)))]) (bA [(7,⟨⟨[11,10,2,5,3,8],(.dat aR QS),K8⟩,(.one (.exit 0) ⟨[8,10],MF,PD⟩)⟩)]) (fun
  |11,4=>1
  |_,_=>0)
 |1=>.mk bE bE bE (fun
  |6,3=>3
  |4,1=>2
  |_,_=>0)
 |2=>.mk bE (bA [(3,(⟨[2,1],I7,P8⟩,none))]) bE fq
 |3=>.mk (bA [(4,⟨[30,6,3,7],(.dat .bool U6),P8⟩)]) (bA [(6,(⟨[6,3],I7,P8⟩,none)),(4,(⟨[6,3,7],U6,P8⟩,none))]) bE fq
 |_=>{}
theorem anj:dz 94 anq:=okW an4 (bq aci (bq Xf (bq RZ (bq VX (bq X0 dQ)))))
def wD(v:ab6):Option (ab6⊕(Fx⊕rz)):=
let a:=(decide (v.1.1<(v.1.2.1.length:Int)))
bif a then Abs.rowAt v.1.2.1 v.1.1 fun b _=>
bif b.1.toList==v.1.2.2.1.toList then Abs.rowAt v.1.2.1 v.1.1 fun c _=>
some (.inr (.inl (c.2,())))
else some (.inl ((aP (v.1.1+1),v.1.2),()))
else(some (.inr (.inr ((),()))))
def TV(v:((Y9×ByteArray×Unit)×Unit)):Option Fx:=
(aC wD ((0,v.1),())).bind fun a=>
aA a (fun b=>(some b)) (fun c=>(some ((ByteArray.empty,()),())))
def aji:Abs.Spec:=⟨0,⟨[0,1],(.dat jE iF),.nil⟩,⟨[4],iF,.nil⟩,TV⟩
def aiT:Nat→Abs.fo
 |0=>.mk bE bE (bA [(2,⟨⟨[5,0,1],(.dat aR (.dat jE iF)),.nil⟩,(.more .ret ⟨[4],iF,.nil⟩ Ro1)⟩)]) fq
 |_=>{}
theorem aea:dz 203 aji:=okW aiT dQ
def ja(v:ajX):Option (ajX⊕((ByteArray×ByteArray×Int×Unit)×SG)):=
bif decide (v.1.1≤(v.1.2.1.size:Int))then((bif decide (0≤v.1.2.2.1∧v.1.2.2.1<v.1.2.2.2.1.size)then
let b:=(((((v.1.2.2.2.1[v.1.2.2.1.toNat]?.getD 0).toNat:Nat):Int):Int)==42)
bif b then((bif decide (0≤v.1.1∧v.1.1<v.2.2.1.length)then
(v.2.2.1[v.1.1.toNat]?).bind fun c=>
bif c then bif decide (0≤v.1.1∧v.1.1<v.2.1.length)then
bif decide (v.1.1.toNat<v.2.1.length)then
some ((v.1.2.1,v.1.2.2.1,v.1.2.2.2.1,v.1.1,()),v.2.1.set v.1.1.toNat true,v.2.2)
else none
else none
else bif decide (v.1.1>0)then bif decide ((0:Int)≤(aP (v.1.1-1))∧((aP (v.1.1-1)):Int)<v.2.1.length)then
(v.2.1[(aP (v.1.1-1)).toNat]?).bind fun d=>
bif decide (0≤v.1.1∧v.1.1<v.2.1.length)then
bif decide (v.1.1.toNat<v.2.1.length)then
some ((v.1.2.1,v.1.2.2.1,v.1.2.2.2.1,v.1.1,()),v.2.1.set v.1.1.toNat d,v.2.2)
else none
else none
else none
else bif decide (0≤v.1.1∧v.1.1<v.2.1.length)then
bif decide (v.1.1.toNat<v.2.1.length)then
some ((v.1.2.1,v.1.2.2.1,v.1.2.2.2.1,v.1.1,()),v.2.1.set v.1.1.toNat false,v.2.2)
else none
else none
else none):Option aeV).bind fun e=>
some e
else bif decide (v.1.1>0)then((bif decide ((0:Int)≤(aP (v.1.1-1))∧((aP (v.1.1-1)):Int)<v.2.2.1.length)then
(v.2.2.1[(aP (v.1.1-1)).toNat]?).bind fun f=>
bif f then bif decide (0≤v.1.2.2.1∧v.1.2.2.1<v.1.2.2.2.1.size)then
let g:=(((((v.1.2.2.2.1[v.1.2.2.1.toNat]?.getD 0).toNat:Nat):Int):Int)==63)
bif g then bif decide (0≤v.1.1∧v.1.1<v.2.1.length)then
bif decide (v.1.1.toNat<v.2.1.length)then
some ((v.1.2.1,v.1.2.2.1,v.1.2.2.2.1,v.1.1,()),v.2.1.set v.1.1.toNat true,v.2.2)
else none
else none
else bif decide (0≤v.1.2.2.1∧v.1.2.2.1<v.1.2.2.2.1.size)then
bif decide ((0:Int)≤(aP (v.1.1-1))∧((aP (v.1.1-1)):Int)<v.1.2.1.size)then
let h:=(((((v.1.2.2.2.1[v.1.2.2.1.toNat]?.getD 0).toNat:Nat):Int):Int)==(((v.1.2.1[(aP (v.1.1-1)).toNat]?.getD 0).toNat:Nat):Int))
bif decide (0≤v.1.1∧v.1.1<v.2.1.length)then
bif decide (v.1.1.toNat<v.2.1.length)then
some ((v.1.2.1,v.1.2.2.1,v.1.2.2.2.1,v.1.1,()),v.2.1.set v.1.1.toNat h,v.2.2)
else none
else none
else none
else none
else none
else bif decide (0≤v.1.1∧v.1.1<v.2.1.length)then
bif decide (v.1.1.toNat<v.2.1.length)then
some ((v.1.2.1,v.1.2.2.1,v.1.2.2.2.1,v.1.1,()),v.2.1.set v.1.1.toNat false,v.2.2)
else none
else none
else none):Option aeV).bind fun j=>
some j
else some ((v.1.2.1,v.1.2.2.1,v.1.2.2.2.1,v.1.1,()),v.2)
else none):Option aeV).bind fun a=>
some (.inl ((aP (a.1.2.2.2.1+1),a.1.1,a.1.2.1,a.1.2.2.1,()),a.2))
else(some (.inr ((v.1.2.1,v.1.2.2.2.1,v.1.2.2.1,()),v.2.1,())))
def BF(v:(Rv×SG)):Option ((Rv×SG)⊕((ByteArray×Unit)×SG)):=
let b:=(decide (v.1.2.1<(v.1.2.2.1.size:Int)))
bif b then bif decide ((0:Int)≤(aP ((v.1.1.size:Int)+1))∧((aP ((v.1.1.size:Int)+1)):Int)≤(aP ((v.1.1.size:Int)+1))∧((aP ((v.1.1.size:Int)+1)):Int)≤4294967296)then
(aC ja ((0,v.1),List.replicate (aP ((v.1.1.size:Int)+1)).toNat (false:Bool),v.2)).bind fun a=>
some (.inl ((a.1.1,aP (a.1.2.2.1+1),a.1.2.1,()),a.2))
else none
else(some (.inr ((v.1.1,()),v.2)))
def Ws(v:RQ):Option eT:=
bif decide ((0:Int)≤(aP ((v.1.2.1.size:Int)+1))∧((aP ((v.1.2.1.size:Int)+1)):Int)≤(aP ((v.1.2.1.size:Int)+1))∧((aP ((v.1.2.1.size:Int)+1)):Int)≤4294967296)then
bif decide ((0:Int)≤0∧(0:Int)<(List.replicate (aP ((v.1.2.1.size:Int)+1)).toNat (false:Bool)).length)then
bif decide (0<(List.replicate (aP ((v.1.2.1.size:Int)+1)).toNat (false:Bool)).length)then
(aC BF ((v.1.2.1,0,v.1.1,()),(List.replicate (aP ((v.1.2.1.size:Int)+1)).toNat (false:Bool)).set 0 true,())).bind fun a=>
bif decide ((0:Int)≤(a.1.1.size:Int)∧(a.1.1.size:Int)<a.2.1.length)then
(a.2.1[(a.1.1.size:Int).toNat]?).bind fun b=>
some ((b,()),())
else none
else none
else none
else none
def ahA:Abs.Spec:=⟨0,⟨[0,1],Oc,.nil⟩,⟨[4],fu,.nil⟩,Ws⟩
def akd:Nat→Abs.fo
 |0=>.mk (bA [(13,⟨[7,5,1,6,0,8],aeU,SH⟩),(11,⟨[7,5,1,6,0,8],aeU,SH⟩)]) (bA [(9,(⟨[7,5,1,6,0,8],aeU,SH⟩,none))]) (bA [(4,⟨⟨[5,1,6,0],(.st Tv (.dat .str EC)),aa7⟩,(.one (.exit 0) ⟨[1,5],(.dat .str (.st Tv .nil)),aa7⟩)⟩),(8,⟨⟨[8,7,5,1,6,0],(.dat aR (.st Tv (.st (.own .bool (1,0)) (.dat .str EC)))),SH⟩,(.one (.exit 2) ⟨[1,0,6,7],(.dat .str (.dat .str (.dat aR (.st Tv .nil)))),aa7⟩)⟩)]) fq
 |_=>{}
theorem akA:dz 204 ahA:=okW akd dQ
def aay(v:((Rv×Y9×Unit)×Unit)):Option eT:=
(TV ((v.1.2.1,v.1.1.1,()),())).bind fun a=>
bif v.1.1.2.1==0 then some ((a.1.1.toList==v.1.1.2.2.1.toList,()),())
else(bif v.1.1.2.1==1 then some ((!(a.1.1.toList==v.1.1.2.2.1.toList),()),())
else bif v.1.1.2.1==2 then(Ws ((v.1.1.2.2.1,a.1),())).bind fun b=>
some b
else bif v.1.1.2.1==3 then(Ws ((v.1.1.2.2.1,a.1),())).bind fun c=>
some ((!c.1.1,()),())
else some ((false,()),()))
def aku:Abs.Spec:=⟨0,⟨[0,1],(.dat MC lJ),.nil⟩,⟨[4],fu,.nil⟩,aay⟩
theorem ajG:dz 163 aku:=okW tT (bq aea (bq akA dQ))
def uR(v:((Int×Y9×Y5×Unit)×Unit)):Option (((Int×Y9×Y5×Unit)×Unit)⊕(eT⊕rz)):=
let a:=(decide (v.1.1<(v.1.2.2.1.length:Int)))
bif a then Abs.rowAt v.1.2.2.1 v.1.1 fun b _=>
(aay ((b,v.1.2.1,()),())).bind fun c=>
bif !c.1.1 then some (.inr (.inl ((false,()),())))
else some (.inl ((aP (v.1.1+1),v.1.2),()))
else(some (.inr (.inr ((),()))))
def MI(v:((Y5×Y9×Unit)×Unit)):Option eT:=
(aC uR ((0,v.1.2.1,v.1.1,()),())).bind fun a=>
aA a (fun b=>(some b)) (fun c=>(some ((true,()),())))
def adI:Abs.Spec:=⟨0,⟨[0,1],(.dat (.row MC) lJ),.nil⟩,⟨[4],fu,.nil⟩,MI⟩
def akm:Nat→Abs.fo
 |0=>.mk bE bE (bA [(2,⟨⟨[5,1,0],(.dat aR (.dat jE RH)),.nil⟩,Ro4⟩)]) fq
 |_=>{}
theorem Zt:dz 108 adI:=okW akm (bq ajG dQ)
def Ch(v:adY):Option (adY⊕SS):=
let d:=(decide (v.1.1<(v.1.2.2.2.2.2.1.length:Int)))
bif d then((Abs.rowAt v.1.2.2.2.2.2.1 v.1.1 fun b _=>
((bif decide (b.2.1≤v.1.2.2.2.2.1)then bif decide (v.1.2.2.2.2.1<b.2.2.1)then(MI ((b.2.2.2.2.1,v.1.2.2.2.1,()),())).bind fun e=>
bif e.1.1 then bif !v.1.2.2.1 then some ((true,v.1.2.2.2.1,v.1.2.2.2.2.1,v.1.2.2.2.2.2.1,v.1.1,v.1.2.1,v.1.2.2.1,()),(b,()),())
else some ((decide (b.1<v.1.2.1),v.1.2.2.2.1,v.1.2.2.2.2.1,v.1.2.2.2.2.2.1,v.1.1,v.1.2.1,v.1.2.2.1,()),(b,()),())
else some ((false,v.1.2.2.2.1,v.1.2.2.2.2.1,v.1.2.2.2.2.2.1,v.1.1,v.1.2.1,v.1.2.2.1,()),(b,()),())
else some ((false,v.1.2.2.2.1,v.1.2.2.2.2.1,v.1.2.2.2.2.2.1,v.1.1,v.1.2.1,v.1.2.2.1,()),(b,()),())
else some ((false,v.1.2.2.2.1,v.1.2.2.2.2.1,v.1.2.2.2.2.2.1,v.1.1,v.1.2.1,v.1.2.2.1,()),(b,()),())):Option ((Bool×Y9×Int×mM×Int×Int×Bool×Unit)×Jw)).bind fun a=>
bif a.1.1 then some ((a.2.1.1.1,true,a.1.2.1,a.1.2.2.1,a.1.2.2.2.1,a.1.2.2.2.2.1,()),())
else some ((a.1.2.2.2.2.2.1,a.1.2.2.2.2.2.2.1,a.1.2.1,a.1.2.2.1,a.1.2.2.2.1,a.1.2.2.2.2.1,()),())):Option ((Int×Bool×Y9×Int×mM×Int×Unit)×Unit)).bind fun c=>
some (.inl ((aP (c.1.2.2.2.2.2.1+1),c.1.1,c.1.2.1,c.1.2.2.1,c.1.2.2.2.1,c.1.2.2.2.2.1,()),()))
else(some (.inr ((v.1.2.2.1,v.1.2.1,()),())))
def aaM(v:((mM×Y9×Int×Unit)×Unit)):Option U5:=
(aC Ch ((0,0,false,v.1.2.1,v.1.2.2.1,v.1.1,()),())).bind fun a=>
some ((a.1.2.1,a.1.1,()),())
def ai9:Abs.Spec:=⟨0,⟨[0,1,2],(.dat zk Qg),.nil⟩,⟨[6,7],FH,.nil⟩,aaM⟩
def aim:Nat→Abs.fo
 |0=>.mk (bA [(6,⟨[47,1,2,0,10,11,8,9],(.dat .bool (.dat jE (.dat aR (.dat zk YW)))),Nt⟩)]) (bA [(4,(⟨[8,9,1,2,0,10],adO,.nil⟩,none))]) (bA [(3,⟨⟨[10,8,9,1,2,0],(.dat aR (.dat aR (.dat .bool (.dat jE (.dat aR NS))))),.nil⟩,(.one (.exit 0) ⟨[9,8],MK,.nil⟩)⟩)]) fq
 |_=>{}
theorem ah1:dz 156 ai9:=okW aim (bq Zt dQ)
def wQ(v:ad7):Option (ad7⊕(eT⊕rz)):=
let a:=(decide (v.1.1<(v.1.2.1.length:Int)))
bif a then Abs.rowAt v.1.2.1 v.1.1 fun b _=>
(TV ((v.1.2.2.2.1,b,()),())).bind fun c=>
Abs.rowAt v.1.2.1 v.1.1 fun d _=>
(TV ((v.1.2.2.1,d,()),())).bind fun e=>
bif !(c.1.1.toList==e.1.1.toList)then some (.inr (.inl ((false,()),())))
else some (.inl ((aP (v.1.1+1),v.1.2),()))
else(some (.inr (.inr ((),()))))
def aaz(v:((List ByteArray×Y9×Y9×Unit)×Unit)):Option eT:=
(aC wQ ((0,v.1.1,v.1.2.2.1,v.1.2.1,()),())).bind fun a=>
aA a (fun b=>(some b)) (fun c=>(some ((true,()),())))
def ajC:Abs.Spec:=⟨0,⟨[0,1,2],(.dat Hq (.dat jE lJ)),.nil⟩,⟨[6],fu,.nil⟩,aaz⟩
def ahH:Nat→Abs.fo
 |0=>.mk bE bE (bA [(2,⟨⟨[7,0,2,1],(.dat aR (.dat Hq (.dat jE lJ))),.nil⟩,aaU⟩)]) fq
 |_=>{}
theorem ak6:dz 191 ajC:=okW ahH (bq aea dQ)
def qw(v:aeu):Option (aeu⊕(eT⊕acL)):=
let b:=(decide (v.1.1<(v.1.2.1.length:Int)))
bif b then((Abs.rowAt v.1.2.2.2.2.1 v.1.2.2.2.1 fun c _=>
Abs.rowAt v.1.2.1 v.1.1 fun d _=>
(MI ((c.1,d,()),())).bind fun e=>
bif e.1.1 then Abs.rowAt v.1.2.2.2.2.1 v.1.2.2.2.1 fun f _=>
Abs.rowAt v.1.2.1 v.1.1 fun g _=>
(MI ((f.2.1,g,()),())).bind fun h=>
bif !h.1.1 then Abs.rowAt v.1.2.2.2.2.1 v.1.2.2.2.1 fun j _=>
Abs.rowAt v.1.2.1 v.1.1 fun k _=>
(aaz ((j.2.2.1,v.1.2.2.1,k,()),())).bind fun l=>
some ((l.1.1,v.1.2.1,v.1.2.2.1,v.1.2.2.2.1,v.1.2.2.2.2.1,v.1.1,()),())
else some ((false,v.1.2.1,v.1.2.2.1,v.1.2.2.2.1,v.1.2.2.2.2.1,v.1.1,()),())
else some ((false,v.1.2.1,v.1.2.2.1,v.1.2.2.2.1,v.1.2.2.2.2.1,v.1.1,()),())):Option ((Bool×List Y9×Y9×Int×ED×Int×Unit)×Unit)).bind fun a=>
bif a.1.1 then some (.inr (.inl ((true,()),())))
else some (.inl ((aP (a.1.2.2.2.2.2.1+1),a.1.2.1,a.1.2.2.1,a.1.2.2.2.1,a.1.2.2.2.2.1,()),()))
else(some (.inr (.inr ((v.1.2.1,v.1.2.2.1,v.1.2.2.2.2.1,v.1.2.2.2.1,()),()))))
def wE(v:adC):Option (adC⊕(eT⊕rz)):=
let b:=(decide (v.1.1<(v.1.2.2.2.1.length:Int)))
bif b then((Abs.rowAt v.1.2.2.2.1 v.1.1 fun c _=>
(MI ((c.2.1,v.1.2.2.1,()),())).bind fun d=>
bif !d.1.1 then some (.inl ((v.1.2.1,v.1.2.2.1,v.1.2.2.2.1,v.1.1,()),()))
else(aC qw ((0,v.1.2.1,v.1.2.2.1,v.1.1,v.1.2.2.2),())).bind fun e=>
aA e (fun f=>(some (.inr f))) (fun g=>(some (.inl g)))):Option (acL⊕eT)).bind fun h=>
aA h (fun a=>(some (.inl ((aP (a.1.2.2.2.1+1),a.1.1,a.1.2.1,a.1.2.2.1,()),())))) (fun j=>(some (.inr (.inl j))))
else(some (.inr (.inr ((),()))))
def aaI(v:((ED×Y9×List Y9×Unit)×Unit)):Option eT:=
(aC wE ((0,v.1.2.2.1,v.1.2.1,v.1.1,()),())).bind fun a=>
aA a (fun b=>(some b)) (fun c=>(some ((false,()),())))
def ajH:Abs.Spec:=⟨0,⟨[0,1,2],(.dat En (.dat jE (.dat rC .nil))),.nil⟩,⟨[6],fu,.nil⟩,aaI⟩
def akZ:Nat→Abs.fo
 |0=>.mk (bA [(8,⟨[64,2,1,7,0,8],(.dat .bool (.dat rC (.dat jE (.dat aR Ud)))),.nil⟩)]) (bA [(3,(⟨[2,1,0,7],(.dat rC (.dat jE Ud)),.nil⟩,some (.one .ret ⟨[6],fu,.nil⟩)))]) (bA [(2,⟨⟨[7,2,1,0],(.dat aR (.dat rC (.dat jE NM))),.nil⟩,aaU⟩),(6,⟨⟨[8,2,1,7,0],(.dat aR (.dat rC (.dat jE (.dat aR NM)))),.nil⟩,(.more .ret ⟨[6],fu,.nil⟩ (.one (.exit 2) ⟨[2,1,0,7],(.dat rC (.dat jE Ud)),.nil⟩))⟩)]) fq
 |_=>{}
theorem ah7:dz 157 ajH:=okW akZ (bq Zt (bq ak6 dQ))
def m95(v:adH):Option eT:=
(aaM ((v.1.2.1,v.1.2.2.1,v.1.2.2.2.2),())).bind fun a=>
((bif a.1.2.1 then some ((true,()),())
else(aaI ((v.1.1,v.1.2.2.1,v.1.2.2.2.1,()),())).bind fun b=>
some b):Option eT).bind fun c=>
some c
def amq:Abs.Spec:=⟨0,⟨[0,1,2,3,4],ade,.nil⟩,⟨[10],fu,.nil⟩,m95⟩
def anO:Nat→Abs.fo
 |0=>.mk (bA [(2,⟨[10],fu,.nil⟩)]) bE bE fq
 |_=>{}
theorem amJ:dz 95 amq:=okW anO (bq ah1 (bq ah7 dQ))
def Am(v:adj):Option (adj⊕(eT⊕rz)):=
let a:=(decide (v.1.1<(v.1.2.2.1.length:Int)))
bif a then Abs.rowAt v.1.2.2.1 v.1.1 fun b _=>
bif b.toList==v.1.2.1.toList then some (.inr (.inl ((true,()),())))
else some (.inl ((aP (v.1.1+1),v.1.2),()))
else(some (.inr (.inr ((),()))))
def V6(v:afv):Option eT:=
(aC Am ((0,v.1.2.1,v.1.1,()),())).bind fun a=>
aA a (fun b=>(some b)) (fun c=>(some ((false,()),())))
def aja:Abs.Spec:=⟨0,⟨[0,1],(.dat Hq iF),.nil⟩,⟨[4],fu,.nil⟩,V6⟩
def aju:Nat→Abs.fo
 |0=>.mk bE bE (bA [(2,⟨⟨[5,1,0],(.dat aR (.dat .str Iy)),.nil⟩,Ro4⟩)]) fq
 |_=>{}
theorem ajZ:dz 158 aja:=okW aju dQ
def uL(v:adD):Option (adD⊕(TQ×Y34)):=
let c:=(decide (v.1.1<(v.2.2.1.1.2.2.1.length:Int)))
bif c then((Abs.rowAt v.2.2.1.1.2.2.1 v.1.1 fun a _=>
(V6 ((v.1.2.2.1,a.1,()),())).bind fun d=>
bif d.1.1 then some ((v.1.2.1,v.1.2.2.1,v.1.2.2.2.1,v.1.1,()),v.2)
else bif a.2.2.2.2.1 then bif decide (v.2.2.2.2.2.2.2.1.length+ [a.1].length≤4294967296)then
((bif v.1.2.1 then some ((true,v.1.2.2.1,v.1.2.2.2.1,v.1.1,()),v.2.1,v.2.2.1,v.2.2.2.1,v.2.2.2.2.1,v.2.2.2.2.2.1,v.2.2.2.2.2.2.1,v.2.2.2.2.2.2.2.1++ [a.1],v.2.2.2.2.2.2.2.2)
else some ((!a.2.2.2.2.2.1,v.1.2.2.1,v.1.2.2.2.1,v.1.1,()),v.2.1,v.2.2.1,v.2.2.2.1,v.2.2.2.2.1,v.2.2.2.2.2.1,v.2.2.2.2.2.2.1,v.2.2.2.2.2.2.2.1++ [a.1],v.2.2.2.2.2.2.2.2)):Option ada).bind fun e=>
some e
else none
else bif decide (v.2.2.2.2.2.2.2.2.1.length+ [a.1].length≤4294967296)then
some ((true,v.1.2.2.1,v.1.2.2.2.1,v.1.1,()),v.2.1,v.2.2.1,v.2.2.2.1,v.2.2.2.2.1,v.2.2.2.2.2.1,v.2.2.2.2.2.2.1,v.2.2.2.2.2.2.2.1,v.2.2.2.2.2.2.2.2.1++ [a.1],v.2.2.2.2.2.2.2.2.2)
else none):Option ada).bind fun b=>
some (.inl ((aP (b.1.2.2.2.1+1),b.1.1,b.1.2.1,b.1.2.2.1,()),b.2))
else(some (.inr ((v.1.2.2.2.1,v.1.2.1,()),v.2.2.2.1,v.2.1,v.2.2.1,v.2.2.2.2.1,v.2.2.2.2.2.1,v.2.2.2.2.2.2.1,v.2.2.2.2.2.2.2.2.2.1,v.2.2.2.2.2.2.2.1,v.2.2.2.2.2.2.2.2.1,())))
def vF(v:(Y4×Y34)):Option ((Y4×Y34)⊕(wI×Yw)):=
let d:=(decide (v.1.1<(v.2.2.2.1.1.2.2.1.length:Int)))
bif d then((Abs.rowAt v.2.2.2.1.1.2.2.1 v.1.1 fun a _=>
(V6 ((v.2.2.2.2.2.2.2.2.2.1,a.1,()),())).bind fun e=>
bif e.1.1 then some ((v.1.2.1,v.1.2.2.1,v.1.1,()),v.2)
else((bif a.2.2.2.2.2.1 then some ((v.1.2.1,v.1.2.2.1,v.1.1,()),v.2.1,v.2.2.1,v.2.2.2.1,v.2.2.2.2.1,v.2.2.2.2.2.1,v.2.2.2.2.2.2.1,((a.1,a.2.1,a.2.2.1,a.2.2.2.1,a.2.2.2.2.1,true,()),()),v.2.2.2.2.2.2.2)
else(V6 ((v.2.2.2.2.2.2.2.2.1,a.1,()),())).bind fun f=>
some ((v.1.2.1,v.1.2.2.1,v.1.1,()),v.2.1,v.2.2.1,v.2.2.2.1,v.2.2.2.2.1,v.2.2.2.2.2.1,v.2.2.2.2.2.2.1,((a.1,a.2.1,a.2.2.1,a.2.2.2.1,a.2.2.2.2.1,f.1),()),v.2.2.2.2.2.2.2)):Option (IW×(r9×zT×(Y3×Unit)×r9×zT×(Y8×Unit)×(mq×Unit)×List mq×List ByteArray×List ByteArray×Unit))).bind fun b=>
bif decide (b.2.2.2.2.2.2.2.2.1.length+([b.2.2.2.2.2.2.2.1.1]:List mq).length≤4294967296)then
let g:=(b.2.2.2.2.2.2.2.2.1++([b.2.2.2.2.2.2.2.1.1]:List mq))
some (b.1,b.2.1,b.2.2.1,b.2.2.2.1,b.2.2.2.2.1,b.2.2.2.2.2.1,b.2.2.2.2.2.2.1,g,b.2.2.2.2.2.2.2.2.2)
else none):Option (IW×Y34)).bind fun c=>
some (.inl ((aP (c.1.2.2.1+1),c.1.1,c.1.2.1,()),c.2))
else(some (.inr (v.1.2,v.2.1,v.2.2.2.2.1,v.2.2.2.2.2.1,v.2.2.1,v.2.2.2.2.2.2)))
def vz(v:((Int×Bool×Bool×Int×Unit)×Yw)):Option (((Int×Bool×Bool×Int×Unit)×Yw)⊕((Bool×Int×Bool×Unit)×akO)):=
let b:=(decide (v.1.1<((v.2.2.2.2.2.2.1.length:Nat):Int)))
bif b then((bif v.1.2.1 then some ((true,v.1.2.2.1,v.1.2.2.2.1,v.1.1,()),v.2)
else bif decide (0≤v.1.1∧v.1.1<v.2.2.2.2.2.2.1.length)then
(v.2.2.2.2.2.2.1[v.1.1.toNat]?).bind fun c=>
some ((!c.2.2.2.2.2.1,v.1.2.2.1,v.1.2.2.2.1,v.1.1,()),v.2)
else none):Option (WK×Yw)).bind fun a=>
some (.inl ((aP (a.1.2.2.2.1+1),a.1.1,a.1.2.1,a.1.2.2.1,()),a.2))
else(some (.inr ((v.1.2.2.1,v.1.2.2.2.1,v.1.2.1,()),v.2.2.1,v.2.2.2.1,v.2.2.2.2.1,v.2.1,v.2.2.2.2.2.1,v.2.2.2.2.2.2.2.1,v.2.2.2.2.2.2.2.2.1,v.2.2.2.2.2.2.1,())))
def m96(v:aiK):Option (wI×(r9×zT×List mq×List ByteArray×List ByteArray×Unit)):=
(((m88 ((v.1.1,()),())).bind fun n=>
bif !n.1.1 then some ((true,v.1.2.2.2.1,v.1.2.2.1,()),((0,ByteArray.empty,0,0,()),()),((0,0,0,ByteArray.empty,()),()),(v.1.1,()),(v.1.2.1,()),())
else(UC ((v.1.2.1,()),())).bind fun o=>
some ((!o.1.1,v.1.2.2.2.1,v.1.2.2.1,()),((0,ByteArray.empty,0,0,()),()),((0,0,0,ByteArray.empty,()),()),(v.1.1,()),(v.1.2.1,()),())):Option (aeA×ad2)).bind fun d=>
bif d.1.1 then some ((false,8,()),((0,ByteArray.empty,0,0,()),()),((0,0,0,ByteArray.empty,()),()),[],[],[],())
else((FY (d.1.2.2,())).bind fun p=>
bif !p.1.1 then some ((false,1,()),((0,ByteArray.empty,0,0,()),()),((0,0,0,ByteArray.empty,()),()),[],[],[],())
else(Uc (d.2.2.2.1,())).bind fun j=>
((bif d.2.2.2.1.1.2.2.2.1==(-1)then some ((true,d.1.2),d.2.1,d.2.2.1,j.2.1,d.2.2.2.1,d.2.2.2.2.1,j.2.2)
else let q:=(decide (d.2.2.2.1.1.2.2.2.1>d.1.2.2.1))
some ((q,d.1.2),d.2.1,d.2.2.1,j.2.1,d.2.2.2.1,d.2.2.2.2.1,j.2.2)):Option (aeA×(r9×zT×r9×(Y3×Unit)×(Y8×Unit)×List mq×Unit))).bind fun e=>
bif e.1.1 then some ((false,0,()),e.2.2.2.1,((0,0,0,ByteArray.empty,()),()),e.2.2.2.2.2.2.1,[],[],())
else(aC uL ((0,false,e.1.2),((e.1.2.2.1,e.2.2.2.2.1.1.1,e.2.2.2.2.2.1.1.2.2.1,e.2.2.2.2.1.1.2.1,()),()),e.2.2.2.2.1,e.2.2.2.1,e.2.1,e.2.2.1,e.2.2.2.2.2.1,[],[],e.2.2.2.2.2.2)).bind fun f=>
((((let r:=(decide (((f.2.2.2.2.2.2.2.2.1.length:Nat):Int)>0))
bif r then bif f.2.2.2.1.1.2.2.2.2.1 !=(-1)then let s:=(aP (f.2.2.2.1.1.2.2.2.2.1+f.2.2.2.2.2.2.1.1.2.2.2.2.2.2.1))
some ((decide (s≤f.1.1),f.1),f.2)
else some ((false,f.1),f.2)
else some ((false,f.1),f.2)):Option ((Bool×Int×Bool×Unit)×Y34)).bind fun h=>
bif h.1.1 then some ((true,h.1.2.1,()),h.2)
else some ((h.1.2.2.1,h.1.2.1,()),h.2)):Option (wI×Y34)).bind fun a=>
((bif a.1.1 then(aC vF ((0,a.1),((a.2.1.1.1,a.2.1.1.2.1,a.2.1.1.2.2.1,a.1.2),()),a.2.2.1,a.2.2.2.1,a.2.2.2.2.1,a.2.2.2.2.2.1,a.2.2.2.2.2.2.1,[],a.2.2.2.2.2.2.2.2)).bind fun t=>
some t
else some (a.1,a.2.1,a.2.2.2.2.1,a.2.2.2.2.2.1,((0,0,0,ByteArray.empty,()),()),a.2.2.2.2.2.2.1,a.2.2.2.2.2.2.2.1,[],[],())):Option (wI×Yw)).bind fun m=>
(aC vz ((0,false,m.1),m.2)).bind fun g=>
let k:=(aP (g.2.2.2.2.1.1.2.2.2.1+g.2.2.2.2.2.1.1.2.2.2.2.2.2.1))
((((bif g.1.2.2.1 then some ((true,g.1.1,g.1.2.1,k,()),g.2)
else some ((decide (k≤g.1.2.1),g.1.1,g.1.2.1,k,()),g.2)):Option (WK×akO)).bind fun b=>
bif b.1.1 then let u:=(aP (b.1.2.2.1+b.2.2.2.2.2.1.1.2.2.2.2.2.1))
some ((b.1.2.1,u,b.1.2.2.1,()),b.2.1,b.2.2.1,b.2.2.2.1,b.2.2.2.2.1,b.2.2.2.2.2.2)
else some ((b.1.2.1,b.1.2.2.2.1,b.1.2.2.1,()),b.2.1,b.2.2.1,b.2.2.2.1,b.2.2.2.2.1,b.2.2.2.2.2.2)):Option (IW×(r9×zT×zT×r9×List ByteArray×List ByteArray×List mq×Unit))).bind fun c=>
let w:=(if c.1.2.1>(aP (c.1.2.2.1+1))then c.1.2.1 else aP (c.1.2.2.1+1))
(Qh ((w,()),())).bind fun x=>
((let y:=(((c.2.2.2.2.2.2.2.1.length:Nat):Int)==0)
bif y then some ((),c.2.2.2.2.2.2.2.1,((0,ByteArray.empty,0,0,()),()),((c.2.2.2.2.1.1.1,c.2.2.2.2.1.1.2.1,-1,c.2.2.2.2.1.1.2.2.2),()),())
else some ((),c.2.2.2.2.2.2.2.1,((0,ByteArray.empty,0,0,()),()),((c.2.2.2.2.1.1.1,c.2.2.2.2.1.1.2.1,x.1.1,c.2.2.2.2.1.1.2.2.2),()),())):Option KW).bind fun l=>
bif decide (l.2.1.length=c.2.2.2.2.2.2.2.1.length)&&true then
some ((c.1.1,0,()),l.2.2.2.1,c.2.2.2.1,l.2.1,c.2.2.2.2.2.1,c.2.2.2.2.2.2.1,())
else none)
def amR:Abs.Spec:=⟨0,⟨[0,1,2,3],aiU,.nil⟩,⟨[8,9,10,11],(.st ig (.st sG MK)),(.box 5 aiO (.box 6 agf (.arr Z6 false KP)))⟩,m96⟩
def anf:Nat→Abs.fo
 |0=>.mk (bA [(38,⟨[181,8,9,14,13,12,2,5,21],aht,ae4⟩),(36,⟨[12,19,8,9,14,13,2,5,20],(.st ig (.dat .bool (.st yg (.st IZ (.dat .bool (.st (.ptr (3,0) 6 0 0) (.dat aR (.st (.ptr (4,0) 8 0 0) dx)))))))),aa0⟩),(29,⟨[12,13,4,8,9,14,2,5,17,18],(.st ig (.st sG (.st qK (.st EH (.st Md (.dat .bool (.dat aR (.st Ia (.dat aR (.st (.ptr (6,0) 6 0 0) .nil)))))))))),(.box 5 ak1 (.box 6 (.agg (.dat aR (.dat aR (.dat aR (.dat .str (.st (.own .str (8,0)) (.st (.own .str (9,0)) .nil)))))) .nil) (.box 5 oN (.box 5 DU (.box 6 Nz (.box 8 uo (.box 6 (.dat Z6 .nil) (.arr Z6 false KP))))))))⟩),(20,⟨[115,12,13,4,8,9,2,5,14],(.dat .bool ahp),Xo⟩),(19,⟨[14,13,3,4,12,8,9,2,5,15],ahF,ag5⟩),(6,⟨[47,8,9,12,3,4,2,5],(.dat .bool (.st ig (.st sG (.st qK (.dat Hq (.st EH ZL)))))),(.box 5 DU (.box 6 Nz (.box 5 (.agg (.dat aR (.dat .str (.st (.own Z6 (5,0)) lX))) .nil) (.box 5 oN (.box 8 uo yA)))))⟩),(1,⟨[29,8,9,3,4,2,5],(.dat .bool (.st ig (.st sG (.dat Hq (.st qK (.dat aR (.st (.ptr (3,0) 8 0 0) .nil))))))),(.box 5 DU (.box 6 Nz (.box 5 oN KT)))⟩)]) (bA [(40,(⟨[8,9,14,13,12,21,2],acM,(.box 5 DU (.box 6 Nz (.box 6 akM (.box 5 (.agg (.dat aR (.dat .str (.st (.own Z6 (6,0)) lX))) .nil) (.arr .str false (.arr .str false yA))))))⟩,none)),(32,(⟨[12,8,9,14,13,2,5],(.st ig afs),aa0⟩,none)),(26,(⟨[12,13,4,8,9,14,2,5,17],(.st ig (.st sG (.st qK adF))),Xo⟩,none)),(22,(⟨[12,13,4,8,9,14,2,5],akv,Xo⟩,none)),(12,(⟨[14,13,3,4,12,8,9,2,5,15],ahF,ag5⟩,none))]) (bA [(34,⟨⟨[20,12,19,8,9,14,13,2,5],(.dat aR (.st ig (.dat .bool afs))),aa0⟩,(.one (.exit 5) ⟨[8,9,14,13,12,2,5,19],(.st ig (.st sG (.dat .bool (.st IZ (.st EH (.dat aR (.st (.ptr (4,0) 8 0 0) fu))))))),ae4⟩)⟩),(25,⟨⟨[17,12,13,4,8,9,14,2,5],(.dat aR akv),Xo⟩,(.one (.exit 3) ⟨[12,8,9,14,13,2,5],(.st ig afs),aa0⟩)⟩),(11,⟨⟨[15,14,13,3,4,12,8,9,2,5],(.dat aR (.dat .bool (.st Vp (.dat Hq (.st yg (.st qK (.st EH (.st Md (.dat aR (.st Ia .nil)))))))))),ag5⟩,(.one (.exit 0) ⟨[12,13,4,8,9,2,5,14],ahp,Xo⟩)⟩)]) (fun
  |41,1=>1
  |_,_=>0)
 |1=>.mk bE (bA [(3,(⟨[2,1],I7,P8⟩,none))]) bE fq
 |_=>{}
theorem amT:dz 96 amR:=okW anf (bq aci (bq Xf (bq RZ (bq VX (bq ajZ (bq X0 dQ))))))
def uS(v:adz):Option (adz⊕(jq×(JL×Cn×Tw×rA×List Y3×Unit))):=
let b:=(decide (v.1.1<(v.2.2.2.1.1.2.1.length:Int)))
bif b then Abs.rowAt v.2.2.2.1.1.2.1 v.1.1 fun c _=>
Abs.rowAt v.2.2.2.1.1.2.1 v.1.1 fun d _=>
Abs.rowAt v.2.2.1.1.1 d.1 fun e _=>
(m94 ((c,e,v.1.2.1,v.2.2.1.1.2.2),())).bind fun a=>
bif decide (v.2.2.2.2.2.1.length+([(a.2.1.1.1,a.2.1.1.2.1,a.2.2.1,a.2.1.1.2.2)]:List Y3).length≤4294967296)then
let f:=(v.2.2.2.2.2.1++([(a.2.1.1.1,a.2.1.1.2.1,a.2.2.1,a.2.1.1.2.2)]:List Y3))
some (.inl ((aP (v.1.1+1),v.1.2),v.2.1,v.2.2.1,v.2.2.2.1,v.2.2.2.2.1,f,()))
else none
else(some (.inr (v.1.2,v.2.2.2.1,v.2.2.1,v.2.1,v.2.2.2.2)))
def qy(v:(Cy×YI)):Option ((Cy×YI)⊕(Cy×YI)):=
((let b:=(decide (v.1.1<((v.2.2.2.1.length:Nat):Int)))
bif b then bif decide (0≤v.1.1∧v.1.1<v.2.2.2.1.length)then
(v.2.2.2.1[v.1.1.toNat]?).bind fun c=>
some ((Op.bytesLess c.toList v.2.2.2.2.2.1.1.1.toList,v.1.2.1,v.1.2.2.1,v.1.1,()),v.2)
else none
else some ((false,v.1.2.1,v.1.2.2.1,v.1.1,()),v.2)):Option (afL×YI)).bind fun a=>
bif a.1.1 then some (.inl ((aP (a.1.2.2.2.1+1),a.1.2.1,a.1.2.2.1,()),a.2))
else(some (.inr (a.1.2,a.2)))
def Ce(v:(sZ×UQ)):Option ((sZ×UQ)⊕(jq×UQ)):=
bif decide (0≤v.1.2.1∧v.1.2.1<v.2.1.length)then
(v.2.1[v.1.2.1.toNat]?).bind fun g=>
let h:=(decide (v.1.1<(g.2.2.1.length:Int)))
bif h then((bif decide (0≤v.1.2.1∧v.1.2.1<v.2.1.length)then
(v.2.1[v.1.2.1.toNat]?).bind fun j=>
Abs.rowAt j.2.2.1 v.1.1 fun k _=>
(aC qy ((0,v.1.2.1,v.1.1,()),v.2.1,v.2.2.1,v.2.2.2.1,v.2.2.2.2.1,(k,()),())).bind fun b=>
((bif !b.2.2.2.2.2.1.1.2.2.2.2.1 then some ((true,b.1),b.2)
else let l:=(decide (b.1.2.2.1<((b.2.2.2.1.length:Nat):Int)))
bif l then bif decide (0≤b.1.2.2.1∧b.1.2.2.1<b.2.2.2.1.length)then
(b.2.2.2.1[b.1.2.2.1.toNat]?).bind fun m=>
some ((m.toList==b.2.2.2.2.2.1.1.1.toList,b.1),b.2)
else none
else some ((false,b.1),b.2)):Option (afL×YI)).bind fun a=>
bif a.1.1 then some ((a.1.2.1,a.1.2.2.1,()),a.2.1,a.2.2.1,a.2.2.2.1,a.2.2.2.2.1,())
else bif decide (a.2.2.2.1.length+ [ByteArray.empty].length≤4294967296)then
bif decide ((0:Int)≤(aP (a.1.2.2.2.1+1)))then
bif decide ((aP (a.1.2.2.2.1+1)).toNat≤(a.2.2.2.1++ [ByteArray.empty]).length∧(a.2.2.2.1++ [ByteArray.empty]).length≤(a.2.2.2.1++ [ByteArray.empty]).length)then
bif decide ((0:Int)≤a.1.2.2.2.1)then
bif decide (a.1.2.2.2.1.toNat≤(a.2.2.2.1++ [ByteArray.empty]).length∧(a.2.2.2.1++ [ByteArray.empty]).length≤(a.2.2.2.1++ [ByteArray.empty]).length)then
bif decide (a.1.2.2.2.1.toNat+((a.2.2.2.1++ [ByteArray.empty]).length-a.1.2.2.2.1.toNat)≤(a.2.2.2.1++ [ByteArray.empty]).length)then
bif decide ((aP (a.1.2.2.2.1+1)).toNat+((a.2.2.2.1++ [ByteArray.empty]).length-(aP (a.1.2.2.2.1+1)).toNat)≤(a.2.2.2.1++ [ByteArray.empty]).length)then
let d:=(bM (a.2.2.2.1++ [ByteArray.empty]) (aP (a.1.2.2.2.1+1)).toNat ((((a.2.2.2.1++ [ByteArray.empty]).drop a.1.2.2.2.1.toNat).take ((a.2.2.2.1++ [ByteArray.empty]).length-a.1.2.2.2.1.toNat)).take ((a.2.2.2.1++ [ByteArray.empty]).length-(aP (a.1.2.2.2.1+1)).toNat)))
bif decide (0≤a.1.2.2.2.1∧a.1.2.2.2.1<d.length)then
bif decide (a.1.2.2.2.1.toNat<d.length)then
bif decide (a.2.2.1.length+([[]]:List Y9).length≤4294967296)then
let c:=(a.2.2.1++([[]]:List Y9))
bif decide ((0:Int)≤(aP (a.1.2.2.2.1+1)))then
bif decide ((aP (a.1.2.2.2.1+1)).toNat≤c.length∧c.length≤c.length)then
bif decide ((0:Int)≤a.1.2.2.2.1)then
bif decide (a.1.2.2.2.1.toNat≤c.length∧c.length≤c.length)then
bif decide (a.1.2.2.2.1.toNat+(c.length-a.1.2.2.2.1.toNat)≤c.length)then
bif decide ((aP (a.1.2.2.2.1+1)).toNat+(c.length-(aP (a.1.2.2.2.1+1)).toNat)≤c.length)then
let e:=(bM c (aP (a.1.2.2.2.1+1)).toNat (((c.drop a.1.2.2.2.1.toNat).take (c.length-a.1.2.2.2.1.toNat)).take (c.length-(aP (a.1.2.2.2.1+1)).toNat)))
bif decide (0+a.2.2.2.2.2.1.1.2.1.length≤4294967296)then
bif decide (0≤a.1.2.2.2.1∧a.1.2.2.2.1<e.length)then
bif decide (a.1.2.2.2.1.toNat<e.length)then
some ((a.1.2.1,a.1.2.2.1,()),a.2.1,e.set a.1.2.2.2.1.toNat a.2.2.2.2.2.1.1.2.1,d.set a.1.2.2.2.1.toNat a.2.2.2.2.2.1.1.1,a.2.2.2.2.1,())
else none
else none
else none
else none
else none
else none
else none
else none
else none
else none
else none
else none
else none
else none
else none
else none
else none
else none
else none
else none):Option (sZ×UQ)).bind fun f=>
some (.inl ((aP (f.1.2.1+1),f.1.1,()),f.2))
else some (.inr (v.1.2,v.2))
else none
def EL(v:(jq×UQ)):Option ((jq×UQ)⊕(Unit×(List Y3×List Y9×Unit))):=
let b:=(decide (v.1.1<((v.2.1.length:Nat):Int)))
bif b then(aC Ce ((0,v.1),v.2)).bind fun a=>
some (.inl ((aP (a.1.1+1),()),a.2))
else(some (.inr ((),v.2.1,v.2.2.1,())))
def uF(v:aeI):Option (aeI⊕(sZ×(List Y9×JL×Cn×Tw×rA×List Eo×List ByteArray×(Y3×Unit)×List Y3×Unit))):=
let c:=(decide (v.1.1<(v.2.1.1.2.2.1.length:Int)))
bif c then((Abs.rowAt v.2.1.1.2.2.1 v.1.1 fun d _=>
(m95 ((v.2.2.2.2.2.1.1.2.1,v.2.2.2.2.1.1.2.2.1,d.2.1,v.2.2.2.1,v.1.2.1,()),())).bind fun e=>
bif e.1.1 then Abs.rowAt v.2.1.1.2.2.1 v.1.1 fun b _=>
bif decide (v.2.2.1.length+ [b.1].length≤4294967296)then
some ((v.1.2.1,v.1.2.2.1,v.1.1,()),v.2.1,v.2.2.1++ [b.1],v.2.2.2)
else none
else some ((v.1.2.1,v.1.2.2.1,v.1.1,()),v.2)):Option aeI).bind fun a=>
some (.inl ((aP (a.1.2.2.1+1),a.1.1,a.1.2.1,()),a.2))
else(some (.inr (v.1.2,v.2.2.2.1,v.2.2.2.2.1,v.2.2.2.2.2.1,v.2.2.2.2.2.2.1,v.2.2.2.2.2.2.2.1,v.2.2.2.2.2.2.2.2.1,v.2.2.1,v.2.1,v.2.2.2.2.2.2.2.2.2)))
def uQ(v:ag7):Option (ag7⊕(jq×Y1)):=
let d:=(decide (v.1.2.1<((v.2.2.2.2.2.2.2.1.length:Nat):Int)))
bif d then((bif decide (0≤v.1.2.1∧v.1.2.1<v.2.2.2.2.2.2.2.1.length)then
(v.2.2.2.2.2.2.2.1[v.1.2.1.toNat]?).bind fun e=>
(aC uF ((0,v.1),(e,()),[],v.2.1,v.2.2.1,v.2.2.2.1,v.2.2.2.2.2.1,v.2.2.2.2.2.2.1,v.2.2.2.2.1,v.2.2.2.2.2.2.2)).bind fun a=>
Abs.rowAt a.2.2.2.1.1.1 a.2.2.2.2.2.2.2.2.1.1.1 fun f _=>
(m96 ((a.2.2.2.2.2.2.2.2.1.1,f,a.1.1,a.2.2.2.2.2.2.2.1,()),())).bind fun b=>
bif decide (0≤a.1.2.1∧a.1.2.1<a.2.2.2.2.2.2.2.2.2.1.length)then
bif decide (a.1.2.1.toNat<a.2.2.2.2.2.2.2.2.2.1.length)then
bif b.1.1 then bif decide (a.2.2.2.2.2.2.1.length+([(b.2.2.1.1.1,b.2.2.1.1.2.1,b.2.2.1.1.2.2.1,b.2.2.1.1.2.2.2.1,b.2.2.2.2)]:List Eo).length≤4294967296)then
let g:=(a.2.2.2.2.2.2.1++([(b.2.2.1.1.1,b.2.2.1.1.2.1,b.2.2.1.1.2.2.1,b.2.2.1.1.2.2.2.1,b.2.2.2.2)]:List Eo))
some (a.1,a.2.1,a.2.2.1,a.2.2.2.1,g,a.2.2.2.2.1,a.2.2.2.2.2.1,a.2.2.2.2.2.2.2.2.2.1.set a.1.2.1.toNat (b.2.1.1.1,b.2.1.1.2.1,b.2.2.2.1,b.2.1.1.2.2),())
else none
else some (a.1,a.2.1,a.2.2.1,a.2.2.2.1,a.2.2.2.2.2.2.1,a.2.2.2.2.1,a.2.2.2.2.2.1,a.2.2.2.2.2.2.2.2.2.1.set a.1.2.1.toNat (b.2.1.1.1,b.2.1.1.2.1,b.2.2.2.1,b.2.1.1.2.2),())
else none
else none
else none):Option ag7).bind fun c=>
some (.inl ((c.1.1,aP (c.1.2.1+1),()),c.2))
else(some (.inr ((v.1.1,()),v.2.2.2.2.2.2.1,v.2.2.2.2.1,v.2.2.2.2.2.1,v.2.2.2.1,v.2.2.2.2.2.2.2)))
def wX(v:XG):Option adE:=
let c:=(decide (v.1.1<((v.2.1.length:Nat):Int)))
bif c then((bif decide (0≤v.1.1∧v.1.1<v.2.1.length)then
(v.2.1[v.1.1.toNat]?).bind fun d=>
(m89 ((v.2.2.2.1.1,d,v.1.2),())).bind fun e=>
bif !e.1.1 then bif decide (0≤v.1.1∧v.1.1<v.2.1.length)then
(v.2.1[v.1.1.toNat]?).bind fun b=>
bif decide (v.2.2.1.length+([b]:List Y3).length≤4294967296)then
let f:=(v.2.2.1++([b]:List Y3))
some ((v.1.2.1,v.1.1,()),v.2.1,f,v.2.2.2)
else none
else none
else some ((v.1.2.1,v.1.1,()),v.2)
else none):Option XG).bind fun a=>
some (.inl ((aP (a.1.2.1+1),a.1.1,()),a.2))
else(some (.inr ((),v.2.1,v.2.2.1,())))
def m42(v:Y0):Option ae1:=
(m37 ((v.1.1,v.1.2.1,()),())).bind fun e=>
bif !e.1.1 then some ((8,()),((0,[],0,()),()),[],[],())
else(bif decide (v.1.2.2.1<v.1.2.1.1)then some ((6,()),((0,[],0,()),()),[],[],())
else bif decide (v.1.2.2.1>8589934592)then some ((1,()),((0,[],0,()),()),[],[],())
else(aC uS ((0,v.1.2.2),((v.1.2.2.1,v.1.2.1.2.2),()),(v.1.1,()),(v.1.2.1,()),((0,0,()),()),[],())).bind fun a=>
(aC EL ((0,()),a.2.2.2.2.2.1,[],[],a.2.2.2.1,())).bind fun c=>
bif decide (c.2.1.length=a.2.2.2.2.2.1.length)&&true then
(aC uQ ((a.1.1,0,()),c.2.2.1,a.2.1,a.2.2.1,[],a.2.2.2.1,a.2.2.2.2.1,c.2.1,())).bind fun b=>
(aC wX ((0,b.1),b.2.2.2.2.2.1,[],b.2.2.2.2.1,())).bind fun d=>
bif decide (d.2.1.length=b.2.2.2.2.2.1.length)&&true then
some ((0,()),b.2.2.2.1,b.2.2.1,d.2.2)
else none
else none)
def aoe:Abs.Spec:=⟨0,⟨[0,1,2],(.dat Ug (.dat Z17 dx)),.nil⟩,⟨[6,7,8],UH,aiv⟩,m42⟩
def an1:Nat→Abs.fo
 |0=>.mk bE (bA [(19,(⟨[2,13,4,3,14,9,6,15],(.dat aR (.st afE (.st oD (.st oO (.st (.own zR (3,0)) (.st Wy (.st Tt dx))))))),aiJ⟩,none)),(24,(⟨[16,17,2,13,4,3,9,6,15,14,18],(.st ig (.st V9 (.dat aR (.st (.own jE (2,0)) (.st HV (.st IX (.st Tt (.st (.ptr (6,0) 4 0 0) (.dat aR (.st (.own zR (7,0)) dx)))))))))),Rb7⟩,none))]) (bA [(18,⟨⟨[2,13,4,3,15,14,9,6],(.dat aR (.st afE (.st oD (.st oO (.dat aR (.st (.own zR (3,0)) (.st Wy (.st Tt .nil)))))))),aiJ⟩,(.one (.exit 3) ⟨[6,14,9,2,3],(.st gX (.st MX (.st zf (.dat aR (.st Gh .nil))))),VA⟩)⟩),(23,⟨⟨[18,16,17,2,13,4,3,9,6,15,14],(.dat aR (.st ig (.st V9 (.dat aR (.st (.own jE (2,0)) (.st HV (.st IX (.st Tt (.st (.ptr (6,0) 4 0 0) (.dat aR (.st (.own zR (7,0)) .nil))))))))))),Rb7⟩,(.one (.exit 5) ⟨[2,13,4,3,9,6,15,14,17,16],(.dat aR (.st afE (.st oD (.st oO (.st HV (.st Wy (.dat aR (.st (.own zR (5,0)) (.st (.own .str (6,0)) (.st (.ptr (7,0) 5 0 0) .nil)))))))))),(.arr jE false (.box 4 yh (.box 3 lN (.box 4 (.agg (.dat aR (.st (.own Z1 (8,0)) y5)) .nil) (.box 4 Co (.arr zR false (.arr .str false (.box 5 oN Cg))))))))⟩)⟩),(11,⟨⟨[10,9,3,2,4,6],(.dat aR (.st gX (.st IV (.dat aR (.st zf PK))))),(.box 4 aeb (.box 3 lN (.box 4 yh (.box 4 Co Cg))))⟩,(.one (.exit 1) ⟨[2,4,3,9,6],(.dat aR (.st gX (.st IV (.st zf PK)))),(.box 4 yh (.box 3 lN (.box 4 aeb (.box 4 Co Cg))))⟩)⟩)]) (fun
  |31,4=>2
  |15,1=>1
  |_,_=>0)
 |1=>.mk (bA [(13,⟨[68,3,4,5,1,6,7,8],(.dat .bool afp),aaY⟩),(11,⟨[48,3,4,5,1,6,7,8],(.dat .bool afp),aaY⟩)]) (bA [(8,(⟨[3,4,5,1,6],(.st U7 (.st Ll (.dat aR (.st HV dx)))),aaA⟩,none))]) (bA [(4,⟨⟨[3,4,5,1],(.st U7 (.st Ll (.dat aR PK))),aaA⟩,(.one (.exit 0) ⟨[3],(.st U7 .nil),(.arr Z1 false (.arr jE false .nil))⟩)⟩),(7,⟨⟨[6,3,4,5,1],(.dat aR (.st U7 (.st Ll (.dat aR PK)))),aaA⟩,(.one (.exit 2) ⟨[3,4,1,5],(.st U7 (.st Ll (.st HV dx))),aaA⟩)⟩),(11,⟨⟨[8,3,4,5,1,6,7],(.dat aR (.st U7 (.st Ll (.dat aR (.st HV (.dat aR (.st Md .nil))))))),aaY⟩,(.one (.exit 4) ⟨[3,4,5,1,6,7,8],afp,aaY⟩)⟩)]) fq
 |2=>.mk bE (bA [(4,(⟨[1,7,2,3,8],acQ,abE⟩,none))]) (bA [(3,⟨⟨[8,1,7,2,3],ael,abE⟩,acV⟩)]) fq
 |_=>{}
theorem aoj:dz 42 aoe:=okW an1 (bq aj9 (bq anj (bq amJ (bq amT (bq ag9 dQ)))))
def uz(v:((Int×Int×List Y8×Unit)×E5)):Option (((Int×Int×List Y8×Unit)×E5)⊕M8):=
let b:=(decide (v.1.1<(v.1.2.2.1.length:Int)))
bif b then((Abs.rowAt v.1.2.2.1 v.1.1 fun c _=>
bif c.1==v.1.2.1 then bif decide (v.2.1.length+ [v.1.1].length≤4294967296)then
some ((v.1.2.1,v.1.2.2.1,v.1.1,()),v.2.1++ [v.1.1],())
else none
else some ((v.1.2.1,v.1.2.2.1,v.1.1,()),v.2)):Option ((Int×List Y8×Int×Unit)×E5)).bind fun a=>
some (.inl ((aP (a.1.2.2.1+1),a.1.1,a.1.2.1,()),a.2))
else(some (.inr ((),v.2)))
def acy(v:((List Y8×Int×Unit)×Unit)):Option M8:=
(aC uz ((0,v.1.2.1,v.1.1,()),[],())).bind fun a=>
some ((),a.2)
def aee:Abs.Spec:=⟨0,⟨[0,1],V8,.nil⟩,⟨[4],Mk,Ak⟩,acy⟩
def ald:Nat→Abs.fo
 |0=>.mk bE (bA [(4,(⟨[5,1,0,6],(.st Lj (.dat aR V8)),Ak⟩,none))]) (bA [(3,⟨⟨[6,5,1,0],(.dat aR (.st Lj (.dat aR Oa))),Ak⟩,(.one (.exit 0) ⟨[5],Mk,Ak⟩)⟩)]) fq
 |_=>{}
theorem ajQ:dz 107 aee:=okW ald dQ
def rF(rc:VT→Option M8)(v:aec):Option (aec⊕(jq×E5)):=
let x61:=(decide (v.1.1<((v.2.1.length:Nat):Int)))
bif x61 then((bif decide (0≤v.1.1∧v.1.1<v.2.1.length)then
(v.2.1[v.1.1.toNat]?).bind fun e62=>
Abs.rowAt v.1.2.2.1 e62 fun e63 _=>
(MI ((e63.2.1,v.1.2.2.2.1,()),())).bind fun u64=>
bif !u64.1.1 then some (.inl ((v.1.2.1,v.1.2.2.1,v.1.2.2.2.1,v.1.1,()),v.2.1,v.2.2.1,()))
else bif decide (0≤v.1.1∧v.1.1<v.2.1.length)then
(v.2.1[v.1.1.toNat]?).bind fun e65=>
(rc ((v.1.2.2.1,e65,v.1.2.2.2.1,()),())).bind fun u66=>
bif decide (v.2.2.1.length+u66.2.1.length≤4294967296)then
bif decide (0≤v.1.1∧v.1.1<v.2.1.length)then
(v.2.1[v.1.1.toNat]?).bind fun e67=>
Abs.rowAt v.1.2.2.1 e67 fun e68 _=>
bif !e68.2.2.2.2.2.2.2.1 then some (.inr ((v.1.2.1,()),v.2.2.1++u66.2.1,()))
else some (.inl ((v.1.2.1,v.1.2.2.1,v.1.2.2.2.1,v.1.1,()),v.2.1,v.2.2.1++u66.2.1,()))
else none
else none
else none
else none):Option (((Int×List Y8×Y9×Int×Unit)×aby)⊕(jq×E5))).bind fun r71=>
aA r71 (fun v69=>(some (.inl ((aP (v69.1.2.2.2.1+1),v69.1.1,v69.1.2.1,v69.1.2.2.1,()),v69.2.1,v69.2.2.1,())))) (fun d70=>(some (.inr ((d70.1.1,()),d70.2.1,()))))
else(some (.inr ((v.1.2.1,()),v.2.2.1,())))
def i58:Abs.Sg:=⟨[0,1,2],(.dat BX (.dat aR lJ)),.nil⟩
def o58:Abs.Sg:=⟨[6],Mk,Ak⟩
def af0(rc:VT→Option M8)(v:VT):Option M8:=
(acy ((v.1.1,(v.1.2.1,())),())).bind fun u60=>
(aC (rF rc) ((0,(v.1.2.1,(v.1.1,(v.1.2.2.1,())))),(u60.2.1,([],())))).bind fun d72=>
bif ((((d72.2.1.length:Nat):Int):Int)==0)then(some ((),([d72.1.1],())))
else(some ((),(d72.2.1,())))
def UK(n:Nat):VT→Option M8:=Nat.rec (motive:=fun _=>VT→Option M8) (fun _=>none) (fun _ rc=>af0 rc) n
def m58:VT→Option M8:=UK 400
def adv(n:Nat):Abs.Spec:=⟨0,i58,o58,UK n⟩
def amH:Abs.Spec:=⟨0,i58,o58,m58⟩
def amF:Nat→Abs.fo
 |0=>.mk bE (bA [(5,(⟨[1,8,0,2,7,9],(.dat aR (.st Lj (.dat BX (.dat jE (.st (.own aR (1,0)) dx))))),Sb⟩,some Ro6))]) (bA [(4,⟨⟨[9,1,8,0,2,7],(.dat aR (.dat aR (.st Lj (.dat BX (.dat jE (.st (.own aR (1,0)) .nil)))))),Sb⟩,Ro6⟩)]) fq
 |_=>{}
theorem adB:∀n,Abs.gN Tryz.prog 58 (adv n)
 |0=>fun _ _ _ _ _ _ h=>by cases h
 |n+1=>Abs.xR (C:=XC) (mv:=T9) KY (n:=12) (an:=amF) (T:=Abs.wH [(58,adv n),(107,aee),(108,adI)]) good C9 (Abs.l9 _ (by simp only[List.forall_mem_cons];exact⟨adB n,ajQ,Zt,fun _ h=>by cases h⟩)) rfl (by intro v;kernel_rfl)
theorem amx:Abs.gN Tryz.prog 58 amH:=adB 400
def m19(v:((List Y8×Y9×Unit)×Unit)):Option M8:=
(((m56 ((v.1.1,()),())).bind fun b=>
bif b.1.1 !=0 then some ((true,v.1.2.1,v.1.1,()),())
else(m57 (v.1.2,())).bind fun c=>
some ((!c.1.1,v.1.2.1,v.1.1,()),())):Option ((Bool×Y9×List Y8×Unit)×Unit)).bind fun a=>
bif a.1.1 then some ((),[],())
else((m58 ((a.1.2.2.1,0,a.1.2.1,()),())).bind fun d=>
some ((),d.2.1,()))
def alO:Abs.Spec:=⟨0,⟨[0,1],(.dat BX lJ),.nil⟩,⟨[4],Mk,Ak⟩,m19⟩
def amA:Nat→Abs.fo
 |0=>.mk (bA [(1,⟨[12,1,0],(.dat .bool (.dat jE Oa)),.nil⟩)]) bE bE fq
 |_=>{}
theorem am6:dz 19 alO:=okW amA (bq afa (bq Um (bq amx dQ)))
def m91(v:Q9):Option (Unit×(r9×Unit)):=
some ((),((v.1.1,v.1.2.1,-1,-1,()),()),())
def alL:Abs.Spec:=⟨0,⟨[0,1],EC,.nil⟩,⟨[4],Oi,(.box 5 DU .nil)⟩,m91⟩
theorem amj:dz 91 alL:=okW tT dQ
def xQ(v:((Int×ByteArray×Unit)×Ri)):Option (((Int×ByteArray×Unit)×Ri)⊕((ByteArray×Int×Unit)×Ri)):=
((let b:=(decide (v.1.1<((v.2.1.length:Nat):Int)))
bif b then bif decide (0≤v.1.1∧v.1.1<v.2.1.length)then
(v.2.1[v.1.1.toNat]?).bind fun c=>
some ((Op.bytesLess c.1.toList v.1.2.1.toList,v.1.2.1,v.1.1,()),v.2)
else none
else some ((false,v.1.2.1,v.1.1,()),v.2)):Option (YH×Ri)).bind fun a=>
bif a.1.1 then some (.inl ((aP (a.1.2.2.1+1),a.1.2.1,()),a.2))
else(some (.inr (a.1.2,a.2)))
def m92(v:((Y3×Y8×Y9×Bool×Int×Unit)×Unit)):Option Er:=
(((m88 ((v.1.1,()),())).bind fun ad=>
bif !ad.1.1 then some ((true,v.1.2.2.2.2.1,v.1.2.2.1,v.1.2.2.2.1,()),((0,ByteArray.empty,0,0,()),()),(v.1.2.1,()),(v.1.1,()),())
else(UC ((v.1.2.1,()),())).bind fun ae=>
bif !ae.1.1 then some ((true,v.1.2.2.2.2.1,v.1.2.2.1,v.1.2.2.2.1,()),((0,ByteArray.empty,0,0,()),()),(v.1.2.1,()),(v.1.1,()),())
else(m57 ((v.1.2.2.1,()),())).bind fun af=>
some ((!af.1.1,v.1.2.2.2.2.1,v.1.2.2.1,v.1.2.2.2.1,()),((0,ByteArray.empty,0,0,()),()),(v.1.2.1,()),(v.1.1,()),())):Option ((Bool×Int×Y9×Bool×Unit)×WB)).bind fun c=>
bif c.1.1 then some ((8,()),((0,ByteArray.empty,0,0,()),()),[],())
else((FY ((c.1.2.1,()),())).bind fun ag=>
bif !ag.1.1 then some ((1,()),((0,ByteArray.empty,0,0,()),()),[],())
else(Uc c.2.2.2).bind fun j=>
(m59 ((c.1.2.2.1,()),())).bind fun t=>
(aC xQ ((0,t.1),j.2.2)).bind fun k=>
((let ah:=(decide (k.1.2.1<((k.2.1.length:Nat):Int)))
bif ah then bif decide (0≤k.1.2.1∧k.1.2.1<k.2.1.length)then
(k.2.1[k.1.2.1.toNat]?).bind fun ai=>
some ((k.1.2.1,ai.1.toList==k.1.1.toList,()),k.2)
else none
else some ((k.1.2.1,false,()),k.2)):Option (TQ×Ri)).bind fun b=>
bif decide (b.2.1.length=j.2.2.1.length)&&true then
bif !b.1.2.1 then bif !c.1.2.2.2.1 then((bif ((b.2.1.length:Nat):Int)==0 then some ((),b.2.1,((0,ByteArray.empty,0,0,()),()),((j.2.1.1.1,j.2.1.1.2.1,-1,j.2.1.1.2.2.2),()),())
else some ((),b.2.1,((0,ByteArray.empty,0,0,()),()),j.2.1,())):Option KW).bind fun x=>
bif decide (x.2.1.length=b.2.1.length)&&true then
some ((0,()),x.2.2.2.1,x.2.1,())
else none
else let aj:=(decide (((b.2.1.length:Nat):Int)≥256))
bif aj then some ((5,()),((0,ByteArray.empty,0,0,()),()),[],())
else bif decide (b.2.1.length+([(ByteArray.empty,[],0,0,false,false,())]:List mq).length≤4294967296)then
let h:=(b.2.1++([(ByteArray.empty,[],0,0,false,false,())]:List mq))
bif decide ((0:Int)≤(aP (b.1.1+1)))then
bif decide ((aP (b.1.1+1)).toNat≤h.length∧h.length≤h.length)then
bif decide ((0:Int)≤b.1.1)then
bif decide (b.1.1.toNat≤h.length∧h.length≤h.length)then
bif decide (b.1.1.toNat+(h.length-b.1.1.toNat)≤h.length)then
bif decide ((aP (b.1.1+1)).toNat+(h.length-(aP (b.1.1+1)).toNat)≤h.length)then
let s:=(bM h (aP (b.1.1+1)).toNat (((h.drop b.1.1.toNat).take (h.length-b.1.1.toNat)).take (h.length-(aP (b.1.1+1)).toNat)))
bif decide (0+c.1.2.2.1.length≤4294967296)then
bif decide (0≤b.1.1∧b.1.1<s.length)then
bif decide (b.1.1.toNat<s.length)then
((bif j.2.1.1.2.2.2.1 !=(-1)then let ab:=(aP (j.2.1.1.2.2.2.1+c.2.2.1.1.2.2.2.2.2.1))
let ak:=(if ab>c.1.2.1 then ab else c.1.2.1)
some ((ak,()),s.set b.1.1.toNat (t.1.1,c.1.2.2.1,c.1.2.1,c.1.2.1,true,false,()),((0,ByteArray.empty,0,0,()),()),j.2.1,())
else some ((aP (c.1.2.1+c.2.2.1.1.2.2.2.2.1),()),s.set b.1.1.toNat (t.1.1,c.1.2.2.1,c.1.2.1,c.1.2.1,true,false,()),((0,ByteArray.empty,0,0,()),()),j.2.1,())):Option (jq×Yq9)).bind fun q=>
((((bif q.2.2.2.1.1.2.2.1==(-1)then some ((true,q.1),q.2)
else let al:=(decide (q.1.1<q.2.2.2.1.1.2.2.1))
some ((al,q.1),q.2)):Option (wI×Yq9)).bind fun o=>
bif o.1.1 then(Qh (o.1.2,())).bind fun am=>
some ((),o.2.1,o.2.2.1,((o.2.2.2.1.1.1,o.2.2.2.1.1.2.1,am.1.1,o.2.2.2.1.1.2.2.2),()),())
else some ((),o.2)):Option KW).bind fun y=>
bif decide (y.2.1.length=(s.set b.1.1.toNat (t.1.1,c.1.2.2.1,c.1.2.1,c.1.2.1,true,false,())).length)&&true then
some ((0,()),y.2.2.2.1,y.2.1,())
else none
else none
else none
else none
else none
else none
else none
else none
else none
else none
else none
else bif decide (0≤b.1.1∧b.1.1<b.2.1.length)then
(b.2.1[b.1.1.toNat]?).bind fun l=>
((((((b.2.1.set b.1.1.toNat (l.1,l.2.1,l.2.2.1,c.1.2.1,l.2.2.2.2))[b.1.1.toNat]?).bind fun an=>
bif an.2.2.2.2.1 then some ((!c.1.2.2.2.1,c.1.2.1,b.1.1,b.1.1.toNat,c.1.2.2.2),c.2.1,c.2.2.1,j.2.1,b.2.1.set b.1.1.toNat (l.1,l.2.1,l.2.2.1,c.1.2.1,l.2.2.2.2),())
else some ((false,c.1.2.1,b.1.1,b.1.1.toNat,c.1.2.2.2),c.2.1,c.2.2.1,j.2.1,b.2.1.set b.1.1.toNat (l.1,l.2.1,l.2.2.1,c.1.2.1,l.2.2.2.2),())):Option ((Bool×Int×Int×Nat×Bool×Unit)×ZH)).bind fun a=>
bif a.1.1 then((bif decide (0≤a.1.2.2.1∧a.1.2.2.1<a.2.2.2.2.1.length)then
(a.2.2.2.2.1[a.1.2.2.1.toNat]?).bind fun ao=>
bif !ao.2.2.2.2.2.1 then bif decide ((0:Int)≤a.1.2.2.1)then
bif decide (0≤a.1.2.2.1.toNat∧a.1.2.2.1.toNat≤a.2.2.2.2.1.length)then
bif decide ((0:Int)≤(aP (a.1.2.2.1+1)))then
bif decide ((aP (a.1.2.2.1+1)).toNat≤a.2.2.2.2.1.length∧a.2.2.2.2.1.length≤a.2.2.2.2.1.length)then
bif decide ((aP (a.1.2.2.1+1)).toNat+(a.2.2.2.2.1.length-(aP (a.1.2.2.1+1)).toNat)≤a.2.2.2.2.1.length)then
bif decide (0=0∧a.1.2.2.1.toNat≤a.2.2.2.2.1.length∧a.1.2.2.1.toNat+((a.2.2.2.2.1.drop (aP (a.1.2.2.1+1)).toNat).take (a.2.2.2.2.1.length-(aP (a.1.2.2.1+1)).toNat)).length≤4294967296)then
let u:=(a.2.2.2.2.1.take a.1.2.2.1.toNat++((a.2.2.2.2.1.drop (aP (a.1.2.2.1+1)).toNat).take (a.2.2.2.2.1.length-(aP (a.1.2.2.1+1)).toNat)))
((bif ((u.length:Nat):Int)==0 then some ((),u,((0,ByteArray.empty,0,0,()),()),((a.2.2.2.1.1.1,a.2.2.2.1.1.2.1,-1,a.2.2.2.1.1.2.2.2),()),())
else some ((),u,((0,ByteArray.empty,0,0,()),()),a.2.2.2.1,())):Option KW).bind fun z=>
bif decide (z.2.1.length=u.length)&&true then
bif decide (a.2.2.2.2.1.length=a.2.2.2.2.1.length)&&true then
some ((0,()),z.2.2.2.1,z.2.1,())
else none
else none
else none
else none
else none
else none
else none
else none
else(a.2.2.2.2.1[a.1.2.2.1.toNat]?).bind fun d=>
((a.2.2.2.2.1.set a.1.2.2.1.toNat (d.1,d.2.1,d.2.2.1,d.2.2.2.1,false,d.2.2.2.2.2))[a.1.2.2.1.toNat]?).bind fun e=>
(((a.2.2.2.2.1.set a.1.2.2.1.toNat (d.1,d.2.1,d.2.2.1,d.2.2.2.1,false,d.2.2.2.2.2)).set a.1.2.2.1.toNat (e.1,e.2.1,e.2.2.1,e.2.2.2.1,e.2.2.2.2.1,false,()))[a.1.2.2.1.toNat]?).bind fun n=>
((bif a.2.2.2.1.1.2.2.2.1 !=(-1)then let ac:=(aP (a.2.2.2.1.1.2.2.2.1+a.2.2.1.1.2.2.2.2.2.1))
let ap:=(if ac>a.1.2.1 then ac else a.1.2.1)
some ((ap,()),((a.2.2.2.2.1.set a.1.2.2.1.toNat (d.1,d.2.1,d.2.2.1,d.2.2.2.1,false,d.2.2.2.2.2)).set a.1.2.2.1.toNat (e.1,e.2.1,e.2.2.1,e.2.2.2.1,e.2.2.2.2.1,false,())).set a.1.2.2.1.toNat (n.1,n.2.1,a.1.2.1,n.2.2.2),((0,ByteArray.empty,0,0,()),()),a.2.2.2.1,())
else some ((aP (a.1.2.1+a.2.2.1.1.2.2.2.2.1),()),((a.2.2.2.2.1.set a.1.2.2.1.toNat (d.1,d.2.1,d.2.2.1,d.2.2.2.1,false,d.2.2.2.2.2)).set a.1.2.2.1.toNat (e.1,e.2.1,e.2.2.1,e.2.2.2.1,e.2.2.2.2.1,false,())).set a.1.2.2.1.toNat (n.1,n.2.1,a.1.2.1,n.2.2.2),((0,ByteArray.empty,0,0,()),()),a.2.2.2.1,())):Option (jq×Yq9)).bind fun r=>
((((bif r.2.2.2.1.1.2.2.1==(-1)then some ((true,r.1),r.2)
else let aq:=(decide (r.1.1<r.2.2.2.1.1.2.2.1))
some ((aq,r.1),r.2)):Option (wI×Yq9)).bind fun p=>
bif p.1.1 then(Qh (p.1.2,())).bind fun ar=>
some ((),p.2.1,p.2.2.1,((p.2.2.2.1.1.1,p.2.2.2.1.1.2.1,ar.1.1,p.2.2.2.1.1.2.2.2),()),())
else some ((),p.2)):Option KW).bind fun w=>
bif decide (w.2.1.length=(((a.2.2.2.2.1.set a.1.2.2.1.toNat (d.1,d.2.1,d.2.2.1,d.2.2.2.1,false,d.2.2.2.2.2)).set a.1.2.2.1.toNat (e.1,e.2.1,e.2.2.1,e.2.2.2.1,e.2.2.2.2.1,false,())).set a.1.2.2.1.toNat (n.1,n.2.1,a.1.2.1,n.2.2.2)).length)&&true then
bif decide (w.2.1.length=a.2.2.2.2.1.length)&&true then
some ((0,()),w.2.2.2.1,w.2.1,())
else none
else none
else none):Option Er).bind fun au=>
some (.inr au)
else(((a.2.2.2.2.1[a.1.2.2.2.1]?).bind fun av=>
bif !av.2.2.2.2.1 then some ((a.1.2.2.2.2.1,a.1.2.1,a.1.2.2.2.1,()),a.2.1,a.2.2.2)
else some ((false,a.1.2.1,a.1.2.2.2.1,()),a.2.1,a.2.2.2)):Option ((Bool×Int×Nat×Unit)×aad)).bind fun f=>
bif f.1.1 then(f.2.2.2.1[f.1.2.2.1]?).bind fun g=>
((f.2.2.2.1.set f.1.2.2.1 (g.1,g.2.1,g.2.2.1,g.2.2.2.1,true,g.2.2.2.2.2))[f.1.2.2.1]?).bind fun m=>
(((f.2.2.2.1.set f.1.2.2.1 (g.1,g.2.1,g.2.2.1,g.2.2.2.1,true,g.2.2.2.2.2)).set f.1.2.2.1 (m.1,m.2.1,m.2.2.1,m.2.2.2.1,m.2.2.2.2.1,true,()))[f.1.2.2.1]?).bind fun aa=>
some (.inl ((),f.2.1,f.2.2.1,((f.2.2.2.1.set f.1.2.2.1 (g.1,g.2.1,g.2.2.1,g.2.2.2.1,true,g.2.2.2.2.2)).set f.1.2.2.1 (m.1,m.2.1,m.2.2.1,m.2.2.2.1,m.2.2.2.2.1,true,())).set f.1.2.2.1 (aa.1,aa.2.1,f.1.2.1,aa.2.2.2),()))
else some (.inl ((),f.2))):Option (Vj⊕Er)).bind fun aw=>
aA aw (fun ax=>(some ((0,()),ax.2.2))) (fun ay=>(some ay))
else none
else none)
def alH:Abs.Spec:=⟨0,⟨[0,1,2,3,4],(.dat Z1 (.dat Z2 (.dat jE MK))),.nil⟩,⟨[10,11],FV,Bt⟩,m92⟩
def amO:Nat→Abs.fo
 |0=>.mk (bA [(21,⟨[109,10,12,4,16],(.dat .bool (.st ig (.st yg (.dat aR (.eptr (2,0) 6 0 .nil))))),PD⟩),(20,⟨[10,11],FV,Bt⟩),(19,⟨[95,10,4,14,6,12,16,3],(.dat .bool (.st ig (.dat aR (.dat aR (.st Qi (.st qK (.eptr (3,0) 6 0 fu))))))),(.box 5 DU (.box 8 uo (.box 5 acJ yA)))⟩),(1,⟨[29,10,4,6,2,3,5],(.dat .bool (.st ig (.dat aR (.st Qi (.dat jE (.dat .bool (.st qK .nil))))))),Zc⟩)]) (bA [(23,(⟨[10,12],MF,PD⟩,some (.one .ret ⟨[10,11],FV,Bt⟩)))]) bE (fun
  |20,4=>4
  |16,3=>3
  |10,1=>2
  |7,3=>1
  |_,_=>0)
 |1=>.mk (bA [(4,⟨[4,5],FH,yA⟩),(2,⟨[19,1,0,6],(.dat .bool (.dat .str (.st Io dx))),yA⟩)]) bE (bA [(2,⟨⟨[6,1,0],(.dat aR (.dat .str (.st Io .nil))),yA⟩,(.one (.exit 0) ⟨[1,6,0],(.dat .str (.dat aR (.st Io .nil))),yA⟩)⟩)]) fq
 |2=>.mk bE (bA [(3,(⟨[2,1],I7,P8⟩,none))]) bE fq
 |3=>.mk (bA [(4,⟨[30,6,3,7],(.dat .bool U6),P8⟩)]) (bA [(6,(⟨[6,3],I7,P8⟩,none)),(4,(⟨[6,3,7],U6,P8⟩,none))]) bE fq
 |4=>.mk bE bE bE (fun
  |6,3=>6
  |4,1=>5
  |_,_=>0)
 |5=>.mk bE (bA [(3,(⟨[2,1],I7,P8⟩,none))]) bE fq
 |6=>.mk (bA [(4,⟨[30,6,3,7],(.dat .bool U6),P8⟩)]) (bA [(6,(⟨[6,3],I7,P8⟩,none)),(4,(⟨[6,3,7],U6,P8⟩,none))]) bE fq
 |_=>{}
theorem amQ:dz 92 alH:=okW amO (bq aci (bq Xf (bq Um (bq RZ (bq VX (bq agl (bq X0 dQ)))))))
def qx(v:aeH):Option (aeH⊕aeH):=
((let b:=(decide (v.1.1<((v.2.2.2.2.2.2.2.1.length:Nat):Int)))
bif b then bif decide (0≤v.1.1∧v.1.1<v.2.2.2.2.2.2.2.1.length)then
(v.2.2.2.2.2.2.2.1[v.1.1.toNat]?).bind fun c=>
bif decide (0≤v.1.2.1∧v.1.2.1<v.2.2.2.2.1.length)then
(v.2.2.2.2.1[v.1.2.1.toNat]?).bind fun d=>
(m90 ((c,d,v.1.2.2),())).bind fun e=>
some ((e.1.1,v.1.2.1,v.1.2.2.1,v.1.1,()),v.2)
else none
else none
else some ((false,v.1.2.1,v.1.2.2.1,v.1.1,()),v.2)):Option ((Bool×Int×ByteArray×Int×Unit)×abV)).bind fun a=>
bif a.1.1 then some (.inl ((aP (a.1.2.2.2.1+1),a.1.2.1,a.1.2.2.1,()),a.2))
else(some (.inr ((a.1.2.1,a.1.2.2.2.1,a.1.2.2.1,()),a.2)))
def q8(v:acf):Option (acf⊕(TK⊕(Unit×(rA×Tw×Cn×List Y3×Unit)))):=
let k:=(decide (v.1.1<((v.2.2.2.2.1.length:Nat):Int)))
bif k then((bif decide (0≤v.1.1∧v.1.1<v.2.2.2.2.1.length)then
(v.2.2.2.2.1[v.1.1.toNat]?).bind fun l=>
Abs.rowAt v.2.2.2.2.2.1.1.1 l fun h _=>
(m20 ((h,v.2.2.2.1.1.2.1,()),())).bind fun m=>
(aC qx ((0,v.1.1,m.1),v.2.1,v.2.2.1,v.2.2.2.1,v.2.2.2.2.1,v.2.2.2.2.2.1,(h,()),v.2.2.2.2.2.2)).bind fun b=>
((((let n:=(b.1.2.1==((b.2.2.2.2.2.2.2.1.length:Nat):Int))
bif n then some ((true,b.1),b.2)
else bif decide (0≤b.1.2.1∧b.1.2.1<b.2.2.2.2.2.2.2.1.length)then
(b.2.2.2.2.2.2.2.1[b.1.2.1.toNat]?).bind fun o=>
bif decide (0≤b.1.1∧b.1.1<b.2.2.2.2.1.length)then
(b.2.2.2.2.1[b.1.1.toNat]?).bind fun p=>
bif o.1 !=p then some ((true,b.1),b.2)
else bif decide (0≤b.1.2.1∧b.1.2.1<b.2.2.2.2.2.2.2.1.length)then
(b.2.2.2.2.2.2.2.1[b.1.2.1.toNat]?).bind fun q=>
some ((!(q.2.1.toList==b.1.2.2.1.toList),b.1),b.2)
else none
else none
else none):Option ((Bool×Int×Int×ByteArray×Unit)×abV)).bind fun a=>
bif a.1.1 then bif !a.2.2.2.1.1.2.2.1 then some (.inr ((a.1.2.1,()),a.2.1,a.2.2.1,a.2.2.2.1,a.2.2.2.2.1,a.2.2.2.2.2.1,a.2.2.2.2.2.2.2))
else bif decide (a.2.2.2.2.2.2.2.1.length+([(0,ByteArray.empty,[],0,0,())]:List Y3).length≤4294967296)then
let d:=(a.2.2.2.2.2.2.2.1++([(0,ByteArray.empty,[],0,0,())]:List Y3))
bif decide ((0:Int)≤(aP (a.1.2.2.1+1)))then
bif decide ((aP (a.1.2.2.1+1)).toNat≤d.length∧d.length≤d.length)then
bif decide ((0:Int)≤a.1.2.2.1)then
bif decide (a.1.2.2.1.toNat≤d.length∧d.length≤d.length)then
bif decide (a.1.2.2.1.toNat+(d.length-a.1.2.2.1.toNat)≤d.length)then
bif decide ((aP (a.1.2.2.1+1)).toNat+(d.length-(aP (a.1.2.2.1+1)).toNat)≤d.length)then
let f:=(bM d (aP (a.1.2.2.1+1)).toNat (((d.drop a.1.2.2.1.toNat).take (d.length-a.1.2.2.1.toNat)).take (d.length-(aP (a.1.2.2.1+1)).toNat)))
bif decide (0≤a.1.2.1∧a.1.2.1<a.2.2.2.2.1.length)then
(a.2.2.2.2.1[a.1.2.1.toNat]?).bind fun r=>
(m91 ((r,a.1.2.2.2),())).bind fun g=>
bif decide (0≤a.1.2.2.1∧a.1.2.2.1<f.length)then
bif decide (a.1.2.2.1.toNat<f.length)then
some (.inl ((a.1.2.1,a.1.2.2.1,()),a.2.1,a.2.2.1,a.2.2.2.1,a.2.2.2.2.1,a.2.2.2.2.2.1,a.2.2.2.2.2.2.1,f.set a.1.2.2.1.toNat (g.2.1.1.1,g.2.1.1.2.1,[],g.2.1.1.2.2),()))
else none
else none
else none
else none
else none
else none
else none
else none
else none
else none
else some (.inl ((a.1.2.1,a.1.2.2.1,()),a.2))):Option ((sZ×abV)⊕acf)).bind fun s=>
aA s (fun c=>(bif decide (0≤c.1.2.1∧c.1.2.1<c.2.2.2.2.2.2.2.1.length)then
(c.2.2.2.2.2.2.2.1[c.1.2.1.toNat]?).bind fun t=>
(m92 ((t,c.2.2.2.2.2.2.1.1,c.2.2.2.1.1.2.1,c.2.2.2.1.1.2.2.1,c.2.2.2.1.1.1,()),())).bind fun e=>
bif e.1.1 !=0 then some (.inr ((5,()),((0,0,()),()),()))
else bif decide (0≤c.1.2.1∧c.1.2.1<c.2.2.2.2.2.2.2.1.length)then
bif decide (c.1.2.1.toNat<c.2.2.2.2.2.2.2.1.length)then
some (.inl ((c.1.1,()),c.2.1,c.2.2.1,c.2.2.2.1,c.2.2.2.2.1,c.2.2.2.2.2.1,c.2.2.2.2.2.2.2.1.set c.1.2.1.toNat (e.2.1.1.1,e.2.1.1.2.1,e.2.2.1,e.2.1.1.2.2),()))
else none
else none
else none)) (fun u=>(some (.inl u)))
else none):Option (acf⊕TK)).bind fun w=>
aA w (fun j=>(some (.inl ((aP (j.1.1+1),()),j.2)))) (fun x=>(some (.inr (.inl x))))
else(some (.inr (.inr ((),v.2.1,v.2.2.1,v.2.2.2.2.2))))
def TM(v:XG):Option adE:=
let c:=(decide (v.1.1<((v.2.1.length:Nat):Int)))
bif c then((bif decide (0≤v.1.1∧v.1.1<v.2.1.length)then
(v.2.1[v.1.1.toNat]?).bind fun d=>
(m89 ((v.2.2.2.1.1,d,v.1.2),())).bind fun e=>
bif !e.1.1 then bif decide (0≤v.1.1∧v.1.1<v.2.1.length)then
(v.2.1[v.1.1.toNat]?).bind fun b=>
bif decide (v.2.2.1.length+([b]:List Y3).length≤4294967296)then
let f:=(v.2.2.1++([b]:List Y3))
some ((v.1.2.1,v.1.1,()),v.2.1,f,v.2.2.2)
else none
else none
else some ((v.1.2.1,v.1.1,()),v.2)
else none):Option XG).bind fun a=>
some (.inl ((aP (a.1.2.1+1),a.1.1,()),a.2))
else(some (.inr ((),v.2.1,v.2.2.1,())))
def m41(v:((ZE×Pd×CO×Unit)×Unit)):Option (jq×(Tw×List Y3×Unit)):=
(((m37 ((v.1.1,v.1.2.1,()),())).bind fun e=>
bif !e.1.1 then some ((true,()),((0,0,()),()),v.1.2.2,(v.1.1,()),(v.1.2.1,()),())
else(m57 ((v.1.2.2.1.2.1,()),())).bind fun f=>
some ((!f.1.1,()),((0,0,()),()),v.1.2.2,(v.1.1,()),(v.1.2.1,()),())):Option (nW×(rA×(CO×Unit)×Cn×JL×Unit))).bind fun a=>
bif a.1.1 then some ((8,()),((0,[],0,()),()),[],())
else(let g:=(decide (a.2.2.1.1.1<a.2.2.2.2.1.1.1))
bif g then some ((6,()),((0,[],0,()),()),[],())
else bif decide (a.2.2.1.1.1>8589934592)then some ((1,()),((0,[],0,()),()),[],())
else bif decide (0+a.2.2.2.2.1.1.2.1.length≤4294967296)then
(m19 ((a.2.2.2.1.1.1,a.2.2.1.1.2.1,()),())).bind fun h=>
(aC q8 ((0,()),a.2.1,((a.2.2.1.1.1,a.2.2.2.2.1.1.2.2),()),a.2.2.1,h.2.1,a.2.2.2.1,a.2.2.2.2.1.1.2.1,())).bind fun j=>
aA j (fun c=>(some (c.1,((c.2.1.1.1,[],c.2.1.1.2),()),[],()))) (fun b=>((aC TM ((0,b.2.2.1.1.1,()),b.2.2.2.2.1,[],b.2.2.2.1,())).bind fun d=>
bif decide (d.2.1.length=b.2.2.2.2.1.length)&&true then
let k:=(decide (((d.2.2.1.length:Nat):Int)>64))
bif k then some ((5,()),((0,[],0,()),()),[],())
else some ((0,()),b.2.2.1,d.2.2)
else none))
else none)
def ani:Abs.Spec:=⟨0,⟨[0,1,2],(.dat Ug (.dat Z17 (.dat Vo .nil))),.nil⟩,⟨[6,7],R3,(.box 4 (.agg (.dat aR (.st LP y5)) .nil) Cg)⟩,m41⟩
def alI:Nat→Abs.fo
 |0=>.mk (bA [(19,⟨[118,6,8,5,9,3,10,13,11,12],(.dat .bool ajL),Ye⟩),(17,⟨[88,6,8,5,9,3,10,11,12,13],(.dat .bool (.st gX (.st oD (.st oO (.st (.own aR (3,0)) (.st IX (.dat aR (.st Ia VD)))))))),Ye⟩),(1,⟨[16,6,5,3,4],(.dat .bool (.st gX (.st IV (.st oO PK)))),(.box 4 Co (.box 3 (.dat Vo .nil) K6))⟩)]) (bA [(13,(⟨[6,8,5,9,3,10],ajy,agk⟩,some (.one .ret ⟨[6,7],R3,Vh⟩))),(24,(⟨[6,8,5,9,3,10,13,11],(.st gX (.st oD (.st oO (.st (.own aR (3,0)) (.st IX (.dat aR (.dat aR (.st Ia .nil)))))))),Ye⟩,some (.one (.exit 2) ⟨[6,8,5,9,3,10],ajy,agk⟩)))]) (bA [(12,⟨⟨[10,6,8,5,9,3],(.dat aR (.st gX (.st oD (.st oO (.st (.own aR (3,0)) (.st IX .nil)))))),agk⟩,(.more .ret ⟨[6,7],R3,Vh⟩ (.one (.exit 1) ⟨[6,8,3],(.st gX (.st oD (.st oO .nil))),(.box 4 Co (.box 4 aes (.box 3 lN Cg)))⟩))⟩),(17,⟨⟨[13,6,8,5,9,3,10,11,12],(.dat aR (.st gX (.st oD (.st oO (.st (.own aR (3,0)) (.st IX (.dat aR (.st Ia iF)))))))),Ye⟩,(.one (.exit 3) ⟨[6,8,5,9,3,10,13,11,12],ajL,Ye⟩)⟩)]) (fun
  |28,5=>1
  |_,_=>0)
 |1=>.mk bE (bA [(4,(⟨[1,7,2,3,8],acQ,abE⟩,none))]) (bA [(3,⟨⟨[8,1,7,2,3],ael,abE⟩,acV⟩)]) fq
 |_=>{}
theorem aoz:dz 41 ani:=okW alI (bq aj9 (bq Um (bq am6 (bq air (bq ajh (bq amj (bq amQ (bq ag9 dQ))))))))
def lF(v:aeZ):Option (aeZ⊕(((List CO×Int×Int×Int×Unit)×Y1)⊕Z0)):=
(m46 (((v.2.2.2.1.1.1,v.2.2.2.2.2.1,v.2.2.2.1.1.2),()),())).bind fun c=>
((bif !c.1.2.1 then some ((true,v.1.1,v.1.2.1,v.1.2.2.1,v.1.2.2.2.1,v.1.2.2.2.2.1,c.1.1,()),v.2)
else some ((decide (c.1.1≥v.1.2.2.2.2.1),v.1.1,v.1.2.1,v.1.2.2.1,v.1.2.2.2.1,v.1.2.2.2.2.1,c.1.1,()),v.2)):Option ((Bool×List CO×Int×Int×Int×Int×Int×Unit)×Y1)).bind fun a=>
bif a.1.1 then some (.inr (.inl ((a.1.2.1,a.1.2.2.1,a.1.2.2.2.1,a.1.2.2.2.2.1,()),a.2)))
else(bif a.1.2.2.1==1000 then some (.inr (.inr ((5,()),((0,0,()),()),[],())))
else let d:=(if a.2.2.2.1.1.1>a.1.2.2.2.2.2.2.1 then a.2.2.2.1.1.1 else a.1.2.2.2.2.2.2.1)
(m42 ((a.2.2.2.2.1.1,(a.2.2.2.1.1.1,a.2.2.2.2.2.1,a.2.2.2.1.1.2),d,()),())).bind fun b=>
bif b.1.1 !=0 then some (.inr (.inr (b.1,((0,0,()),()),[],())))
else bif decide (a.2.2.1.length+b.2.2.1.length≤4294967296)then
some (.inl ((a.1.2.1,aP (a.1.2.2.1+1),a.1.2.2.2.1,a.1.2.2.2.2.1,a.1.2.2.2.2.2.1,()),a.2.1,a.2.2.1++b.2.2.1,b.2.1,a.2.2.2.2.1,b.2.2.2))
else none)
def o9(v:acT):Option (acT⊕((Unit×(rA×List Eo×Tw×List Y3×Unit))⊕Z0)):=
let c:=(decide (v.1.1≤(v.1.2.1.length:Int)))
bif c then((let d:=(decide (v.1.1<(v.1.2.1.length:Int)))
bif d then Abs.rowAt v.1.2.1 v.1.1 fun e _=>
some ((v.1.2.1,v.1.2.2.1,v.1.2.2.2.1,v.1.1,e.1,()),v.2)
else some ((v.1.2.1,v.1.2.2.1,v.1.2.2.2.1,v.1.1,aP (v.1.2.2.2.1+1),()),v.2)):Option aeZ).bind fun f=>
(aC lF f).bind fun g=>
aA g (fun a=>(let h:=(a.1.2.2.2.1==(a.1.1.length:Int))
bif h then some (.inr (.inl ((),a.2.1,a.2.2.1,a.2.2.2.1,a.2.2.2.2.2)))
else Abs.rowAt a.1.1 a.1.2.2.2.1 fun j _=>
(m41 ((a.2.2.2.2.1.1,(a.2.2.2.1.1.1,a.2.2.2.2.2.1,a.2.2.2.1.1.2),j,()),())).bind fun b=>
bif b.1.1 !=0 then some (.inr (.inr (b.1,((0,0,()),()),[],())))
else some (.inl ((aP (a.1.2.2.2.1+1),a.1.1,a.1.2.1,a.1.2.2.1,()),a.2.1,a.2.2.1,b.2.1,a.2.2.2.2.1,b.2.2)))) (fun k=>(some (.inr (.inr k))))
else(some (.inr (.inl ((),v.2.1,v.2.2.1,v.2.2.2.1,v.2.2.2.2.2))))
def m16(v:adt):Option ae1:=
(m35 ((v.1.1,()),())).bind fun d=>
bif d.1.1 !=0 then some (d.1,((0,[],0,()),()),[],[],())
else(bif decide ((v.1.2.1.length:Int)>256)then some ((5,()),((0,[],0,()),()),[],[],())
else((bif decide (v.1.2.2.1<0)then some ((true,v.1.2),((0,0,()),()),(v.1.1,()),())
else some ((decide (v.1.2.2.1>8589934592),v.1.2),((0,0,()),()),(v.1.1,()),())):Option ((Bool×List CO×Int×Unit)×(rA×Cn×Unit))).bind fun a=>
bif a.1.1 then some ((1,()),((0,[],0,()),()),[],[],())
else(m33 ((),())).bind fun e=>
(aC o9 ((0,a.1.2.1,0,a.1.2.2),a.2.1,[],((e.2.1.1.1,[],e.2.1.1.2),()),a.2.2.1,[],())).bind fun f=>
aA f (fun c=>(some ((0,()),c.2.2.2.1,c.2.2.1,c.2.2.2.2))) (fun b=>(some (b.1,((b.2.1.1.1,[],b.2.1.1.2),()),b.2.2.1,[],()))))
def anP:Abs.Spec:=⟨0,⟨[0,1,2],(.dat Ug (.dat yc dx)),.nil⟩,⟨[6,7,8],UH,aiv⟩,m16⟩
def amk:Nat→Abs.fo
 |0=>.mk (bA [(18,⟨[68,6,11,10,1,3,12,2,13,14,15],(.dat .bool (.st gX (.st MX (.st zf (.dat yc (.st Gh (.dat aR (.dat aR EA)))))))),VA⟩),(6,⟨[37,6,1,3,2],(.dat .bool (.st gX (.dat yc (.st IV dx)))),(.box 4 Co YE)⟩)]) (bA [(17,(⟨[6,11,10,1,3,12,2,13,14],ajE,VA⟩,none))]) (bA [(12,⟨⟨[6,11,10,13,1,3,12,2],(.st gX (.st MX (.st zf (.dat aR (.dat yc (.st Gh lX)))))),VA⟩,(.more (.exit 0) ⟨[6,11,10],(.st gX (.st MX (.st zf .nil))),(.box 4 Co (.arr zR false (.box 4 aes Cg)))⟩ adq)⟩),(17,⟨⟨[6,11,10,1,3,12,2,13,14],ajE,VA⟩,(.more (.exit 2) ⟨[6,11,10,1,3,12,2,13],(.st gX (.st MX (.st zf (.dat yc (.st Gh EA))))),VA⟩ adq)⟩)]) fq
 |_=>{}
theorem ok16:dz 16 anP:=okW amk (bq aia (bq anU (bq aor (bq aoj (bq aoz dQ)))))
def Ac(v:acZ):Option (acZ⊕(eT⊕((mM×mM×Int×Unit)×Unit))):=
let c:=(decide (v.1.1<(v.2.2.1.1.2.2.2.2.1.length:Int)))
bif c then Abs.rowAt v.2.2.1.1.2.2.2.2.1 v.1.1 fun a _=>
Abs.rowAt v.2.1.1.2.2.2.2.1 v.1.1 fun b _=>
let d:=(!((a.1==b.1)&&((a.2.1==b.2.1)&&((a.2.2.1==b.2.2.1)&&true))))
bif d then some (.inr (.inl ((false,()),())))
else some (.inl ((aP (v.1.1+1),v.1.2),v.2))
else(some (.inr (.inr (v.1.2,()))))
def Fb(v:((Int×mM×mM×Unit)×Unit)):Option (((Int×mM×mM×Unit)×Unit)⊕(eT⊕rz)):=
let e:=(decide (v.1.1<(v.1.2.2.1.length:Int)))
bif e then Abs.rowAt v.1.2.2.1 v.1.1 fun a _=>
Abs.rowAt v.1.2.1 v.1.1 fun b _=>
((bif a.1 !=b.1 then some ((true,v.1.2.1,v.1.2.2.1,v.1.1,()),(b,()),(a,()),())
else bif a.2.1 !=b.2.1 then some ((true,v.1.2.1,v.1.2.2.1,v.1.1,()),(b,()),(a,()),())
else bif a.2.2.1 !=b.2.2.1 then some ((true,v.1.2.1,v.1.2.2.1,v.1.1,()),(b,()),(a,()),())
else bif a.2.2.2.1 !=b.2.2.2.1 then some ((true,v.1.2.1,v.1.2.2.1,v.1.1,()),(b,()),(a,()),())
else let f:=((a.2.2.2.2.1.length:Int) !=(b.2.2.2.2.1.length:Int))
some ((f,v.1.2.1,v.1.2.2.1,v.1.1,()),(b,()),(a,()),())):Option ((Bool×mM×mM×Int×Unit)×(YV×YV×Unit))).bind fun c=>
bif c.1.1 then some (.inr (.inl ((false,()),())))
else(aC Ac ((0,c.1.2),c.2)).bind fun g=>
aA g (fun h=>(some (.inr (.inl h)))) (fun d=>(some (.inl ((aP (d.1.2.2.1+1),d.1.1,d.1.2.1,()),()))))
else(some (.inr (.inr ((),()))))
def m53(v:((mM×mM×Unit)×Unit)):Option eT:=
let a:=((v.1.1.length:Int) !=(v.1.2.1.length:Int))
bif a then some ((false,()),())
else((aC Fb ((0,v.1.2.1,v.1.1,()),())).bind fun b=>
aA b (fun c=>(some c)) (fun d=>(some ((true,()),()))))
def anH:Abs.Spec:=⟨0,⟨[0,1],(.dat zk NS),.nil⟩,⟨[4],fu,.nil⟩,m53⟩
def alU:Nat→Abs.fo
 |0=>.mk (bA [(7,⟨[62,7,6,1,0,5],(.dat .bool (.st ig (.st yg (.dat zk y5)))),(.box 5 (.dat Z4 .nil) Nt)⟩)]) bE (bA [(4,⟨⟨[5,1,0],(.dat aR (.dat zk NS)),.nil⟩,Ro4⟩),(10,⟨⟨[8,7,6,1,0,5],(.dat aR (.st ig (.st yg (.dat zk y5)))),(.box 5 (.dat Z4 .nil) Nt)⟩,(.more .ret ⟨[4],fu,.nil⟩ (.one (.exit 2) ⟨[1,0,5],(.dat zk y5),.nil⟩))⟩)]) fq
 |_=>{}
theorem amd:dz 53 anH:=okW alU dQ
def F7(v:((Int×Y9×Y9×Unit)×Unit)):Option (((Int×Y9×Y9×Unit)×Unit)⊕(eT⊕rz)):=
let c:=(decide (v.1.1<(v.1.2.2.1.length:Int)))
bif c then Abs.rowAt v.1.2.2.1 v.1.1 fun a _=>
Abs.rowAt v.1.2.1 v.1.1 fun b _=>
let d:=(!((a.1==b.1)&&((a.2.1==b.2.1)&&true)))
bif d then some (.inr (.inl ((false,()),())))
else some (.inl ((aP (v.1.1+1),v.1.2),()))
else(some (.inr (.inr ((),()))))
def m49(v:((Y9×Y9×Unit)×Unit)):Option eT:=
let a:=((v.1.1.length:Int) !=(v.1.2.1.length:Int))
bif a then some ((false,()),())
else((aC F7 ((0,v.1.2.1,v.1.1,()),())).bind fun b=>
aA b (fun c=>(some c)) (fun d=>(some ((true,()),()))))
def am4:Abs.Spec:=⟨0,⟨[0,1],(.dat jE lJ),.nil⟩,⟨[4],fu,.nil⟩,m49⟩
def aoq:Nat→Abs.fo
 |0=>.mk bE bE (bA [(4,⟨⟨[5,1,0],(.dat aR (.dat jE lJ)),.nil⟩,Ro4⟩)]) fq
 |_=>{}
theorem amc:dz 49 am4:=okW aoq dQ
def F5(v:(jq×abf)):Option ((jq×abf)⊕(eT⊕rz)):=
let d:=(decide (v.1.1<(v.2.2.1.1.2.2.1.length:Int)))
bif d then Abs.rowAt v.2.2.1.1.2.2.1 v.1.1 fun a _=>
Abs.rowAt v.2.1.1.2.2.1 v.1.1 fun b _=>
((bif !(a.1.toList==b.1.toList)then some ((true,v.1),v.2)
else(m49 ((a.2.1,b.2.1,()),())).bind fun e=>
bif !e.1.1 then some ((true,v.1),v.2)
else bif a.2.2.1 !=b.2.2.1 then some ((true,v.1),v.2)
else bif a.2.2.2.1 !=b.2.2.2.1 then some ((true,v.1),v.2)
else bif !(a.2.2.2.2.1==b.2.2.2.2.1)then some ((true,v.1),v.2)
else some ((!(a.2.2.2.2.2.1==b.2.2.2.2.2.1),v.1),v.2)):Option (wI×abf)).bind fun c=>
bif c.1.1 then some (.inr (.inl ((false,()),())))
else some (.inl ((aP (c.1.2.1+1),()),c.2))
else(some (.inr (.inr ((),()))))
def m54(v:((Y3×Y3×Unit)×Unit)):Option eT:=
((bif v.1.1.1 !=v.1.2.1.1 then some ((true,()),v.1.2,(v.1.1,()),())
else bif !(v.1.1.2.1.toList==v.1.2.1.2.1.toList)then some ((true,()),v.1.2,(v.1.1,()),())
else bif v.1.1.2.2.2.1 !=v.1.2.1.2.2.2.1 then some ((true,()),v.1.2,(v.1.1,()),())
else bif v.1.1.2.2.2.2.1 !=v.1.2.1.2.2.2.2.1 then some ((true,()),v.1.2,(v.1.1,()),())
else let b:=((v.1.1.2.2.1.length:Int) !=(v.1.2.1.2.2.1.length:Int))
some ((b,()),v.1.2,(v.1.1,()),())):Option (nW×abf)).bind fun a=>
bif a.1.1 then some ((false,()),())
else((aC F5 ((0,()),a.2)).bind fun c=>
aA c (fun d=>(some d)) (fun e=>(some ((true,()),()))))
def anz:Abs.Spec:=⟨0,⟨[0,1],(.dat Z1 oN),.nil⟩,⟨[4],fu,.nil⟩,m54⟩
def anr:Nat→Abs.fo
 |0=>.mk (bA [(7,⟨[100,3,2,5],(.dat .bool ahe),(.box 5 oN y9)⟩),(1,⟨[42,3,2],(.dat .bool MF),(.box 5 oN y9)⟩)]) bE (bA [(4,⟨⟨[5,3,2],(.dat aR MF),(.box 5 oN y9)⟩,Ro4⟩)]) fq
 |_=>{}
theorem an5:dz 54 anz:=okW anr (bq amc dQ)
def Fw(v:(jq×(JL×JL×Unit))):Option ((jq×(JL×JL×Unit))⊕(eT⊕rz)):=
let a:=(decide (v.1.1<(v.2.2.1.1.2.1.length:Int)))
bif a then Abs.rowAt v.2.2.1.1.2.1 v.1.1 fun b _=>
Abs.rowAt v.2.1.1.2.1 v.1.1 fun c _=>
(m54 ((b,c,()),())).bind fun d=>
bif !d.1.1 then some (.inr (.inl ((false,()),())))
else some (.inl ((aP (v.1.1+1),()),v.2))
else(some (.inr (.inr ((),()))))
def m17(v:((Pd×Pd×Unit)×Unit)):Option eT:=
((bif v.1.1.1 !=v.1.2.1.1 then some ((true,()),v.1.2,(v.1.1,()),())
else bif v.1.1.2.2.2.1 !=v.1.2.1.2.2.2.1 then some ((true,()),v.1.2,(v.1.1,()),())
else let b:=((v.1.1.2.1.length:Int) !=(v.1.2.1.2.1.length:Int))
bif b then some ((true,()),v.1.2,(v.1.1,()),())
else(m53 ((v.1.1.2.2.1,v.1.2.1.2.2.1,()),())).bind fun c=>
some ((!c.1.1,()),v.1.2,(v.1.1,()),())):Option (nW×(JL×JL×Unit))).bind fun a=>
bif a.1.1 then some ((false,()),())
else((aC Fw ((0,()),a.2)).bind fun d=>
aA d (fun e=>(some e)) (fun f=>(some ((true,()),()))))
def aoa:Abs.Spec:=⟨0,⟨[0,1],(.dat Z17 yh),.nil⟩,⟨[4],fu,.nil⟩,m17⟩
def an0:Nat→Abs.fo
 |0=>.mk (bA [(1,⟨[34,3,2],(.dat .bool (.st gX WE)),(.box 4 yh Oh)⟩)]) bE (bA [(4,⟨⟨[5,3,2],(.dat aR (.st gX WE)),(.box 4 yh Oh)⟩,Ro4⟩)]) fq
 |_=>{}
theorem amY:dz 17 aoa:=okW an0 (bq amd (bq an5 dQ))
def Fa(v:(jq×UZ)):Option ((jq×UZ)⊕(eT⊕(Unit×UZ))):=
let a:=(decide (v.1.1<(v.2.2.1.1.2.2.2.2.1.length:Int)))
bif a then Abs.rowAt v.2.2.1.1.2.2.2.2.1 v.1.1 fun b _=>
Abs.rowAt v.2.1.1.2.2.2.2.1 v.1.1 fun c _=>
bif !(b.toList==c.toList)then some (.inr (.inl ((false,()),())))
else some (.inl ((aP (v.1.1+1),()),v.2))
else(some (.inr (.inr ((),v.2))))
def Fe(v:(jq×UZ)):Option ((jq×UZ)⊕(eT⊕rz)):=
let a:=(decide (v.1.1<(v.2.2.1.1.2.2.2.2.2.1.length:Int)))
bif a then Abs.rowAt v.2.2.1.1.2.2.2.2.2.1 v.1.1 fun b _=>
Abs.rowAt v.2.1.1.2.2.2.2.2.1 v.1.1 fun c _=>
bif !(b.toList==c.toList)then some (.inr (.inl ((false,()),())))
else some (.inl ((aP (v.1.1+1),()),v.2))
else(some (.inr (.inr ((),()))))
def m55(v:((Eo×Eo×Unit)×Unit)):Option eT:=
((bif v.1.1.1 !=v.1.2.1.1 then some ((true,()),v.1.2,(v.1.1,()),())
else bif v.1.1.2.1 !=v.1.2.1.2.1 then some ((true,()),v.1.2,(v.1.1,()),())
else bif v.1.1.2.2.1 !=v.1.2.1.2.2.1 then some ((true,()),v.1.2,(v.1.1,()),())
else bif !(v.1.1.2.2.2.1.toList==v.1.2.1.2.2.2.1.toList)then some ((true,()),v.1.2,(v.1.1,()),())
else let b:=((v.1.1.2.2.2.2.1.length:Int) !=(v.1.2.1.2.2.2.2.1.length:Int))
bif b then some ((true,()),v.1.2,(v.1.1,()),())
else let c:=((v.1.1.2.2.2.2.2.1.length:Int) !=(v.1.2.1.2.2.2.2.2.1.length:Int))
some ((c,()),v.1.2,(v.1.1,()),())):Option (nW×UZ)).bind fun a=>
bif a.1.1 then some ((false,()),())
else((aC Fa ((0,()),a.2)).bind fun d=>
aA d (fun e=>(some e)) (fun f=>((aC Fe ((0,()),f.2)).bind fun g=>
aA g (fun h=>(some h)) (fun j=>(some ((true,()),()))))))
def aoo:Abs.Spec:=⟨0,⟨[0,1],(.dat zR (.dat zR .nil)),.nil⟩,⟨[4],fu,.nil⟩,m55⟩
def aol:Nat→Abs.fo
 |0=>.mk (bA [(1,⟨[50,3,2],(.dat .bool abn),Rb9⟩)]) bE (bA [(9,⟨⟨[6,3,2],(.dat aR abn),Rb9⟩,(.more .ret ⟨[4],fu,.nil⟩ (.one (.exit 2) ⟨[],.nil,.nil⟩))⟩),(4,⟨⟨[5,3,2],(.dat aR abn),Rb9⟩,(.more .ret ⟨[4],fu,.nil⟩ (.one (.exit 0) ⟨[3,2],abn,Rb9⟩))⟩)]) fq
 |_=>{}
theorem anl:dz 55 aoo:=okW aol dQ
def ER(v:adg):Option (adg⊕(eT⊕rz)):=
let a:=(decide (v.1.1<(v.1.2.2.1.length:Int)))
bif a then Abs.rowAt v.1.2.2.1 v.1.1 fun b _=>
Abs.rowAt v.1.2.1 v.1.1 fun c _=>
(m55 ((b,c,()),())).bind fun d=>
bif !d.1.1 then some (.inr (.inl ((false,()),())))
else some (.inl ((aP (v.1.1+1),v.1.2),()))
else(some (.inr (.inr ((),()))))
def m18(v:((List Eo×List Eo×Unit)×Unit)):Option eT:=
let a:=((v.1.1.length:Int) !=(v.1.2.1.length:Int))
bif a then some ((false,()),())
else((aC ER ((0,v.1.2.1,v.1.1,()),())).bind fun b=>
aA b (fun c=>(some c)) (fun d=>(some ((true,()),()))))
def aof:Abs.Spec:=⟨0,⟨[0,1],(.dat (.row zR) (.dat (.row zR) .nil)),.nil⟩,⟨[4],fu,.nil⟩,m18⟩
def ant:Nat→Abs.fo
 |0=>.mk bE bE (bA [(4,⟨⟨[5,1,0],(.dat aR (.dat (.row zR) (.dat (.row zR) .nil))),.nil⟩,Ro4⟩)]) fq
 |_=>{}
theorem amt:dz 18 aof:=okW ant (bq anl dQ)
def Aw(v:ads):Option (ads⊕(eT⊕((Int×Wl×Int×Unit)×Xn))):=
bif decide (v.1.1<2)then Abs.rowAt ([v.1.2.2.1.1,v.1.2.2.1.2.1]:List Int) v.1.1 fun d _=>
(m15 (((v.2.2.1,v.2.2.2.1,v.2.1.1),v.1.2.1,d,()),())).bind fun a=>
(m16 (((v.2.2.1,v.2.2.2.1,v.2.1.1),v.1.2.1,d,()),())).bind fun c=>
((bif decide (a.2.1.1.2.1.1+a.2.1.1.2.1.2≤a.2.2.2.1.length)then
(m17 (((a.2.1.1.1,(a.2.2.2.1.drop a.2.1.1.2.1.1).take a.2.1.1.2.1.2,a.2.2.2.2.1,a.2.1.1.2.2),(c.2.1.1.1,c.2.2.2.1,c.2.1.1.2),()),())).bind fun e=>
bif !e.1.1 then some ((true,v.1.2.1,v.1.2.2.1,v.1.2.2.2.1,v.1.2.2.2.2.1,v.1.2.2.2.2.2.1,v.1.1,()),v.2)
else(m18 ((a.2.2.1,c.2.2.1,()),())).bind fun f=>
bif !f.1.1 then some ((true,v.1.2.1,v.1.2.2.1,v.1.2.2.2.1,v.1.2.2.2.2.1,v.1.2.2.2.2.2.1,v.1.1,()),v.2)
else some ((a.1.1 !=c.1.1,v.1.2.1,v.1.2.2.1,v.1.2.2.2.1,v.1.2.2.2.2.1,v.1.2.2.2.2.2.1,v.1.1,()),v.2)
else none):Option ((Bool×List CO×sZ×Int×Wl×Int×Int×Unit)×Xn)).bind fun b=>
bif b.1.1 then some (.inr (.inl ((false,()),())))
else some (.inl ((aP (b.1.2.2.2.2.2.2.1+1),b.1.2.1,b.1.2.2.1,b.1.2.2.2.1,b.1.2.2.2.2.1,b.1.2.2.2.2.2.1,()),b.2))
else(some (.inr (.inr (v.1.2.2.2,v.2))))
def CJ(v:((Int×Int×Wl×Unit)×Xn)):Option (((Int×Int×Wl×Unit)×Xn)⊕(eT⊕rz)):=
bif decide (v.1.1<3)then Abs.rowAt ([v.1.2.2.1.1,v.1.2.2.1.2.1,v.1.2.2.1.2.2.1]:List (List CO)) v.1.1 fun b _=>
(m14 ((v.1.2.1,3000,()),())).bind fun c=>
(aC Aw ((0,b,(c.1.1,-1,()),v.1.2.1,v.1.2.2.1,v.1.1,()),v.2)).bind fun d=>
aA d (fun e=>(some (.inr (.inl e)))) (fun a=>(some (.inl ((aP (a.1.2.2.1+1),a.1.1,a.1.2.1,()),a.2))))
else(some (.inr (.inr ((),()))))
def m3(v:((List Int×List CO×Int×Unit)×Unit)):Option eT:=
(((m9 ((v.1.1,()),())).bind fun d=>
bif !d.1.1 then some ((true,v.1.2.2.1,v.1.2.1,v.1.1,()),())
else some ((decide ((v.1.2.1.length:Int)>30),v.1.2.2.1,v.1.2.1,v.1.1,()),())):Option ((Bool×Int×List CO×List Int×Unit)×Unit)).bind fun a=>
bif a.1.1 then(m10 ((),())).bind fun e=>
some e
else((m11 (a.1.2.2.2,())).bind fun f=>
(m12 ((3,()),f.2)).bind fun c=>
(m13 ((12,()),c.2.1,())).bind fun b=>
bif decide (0+b.2.2.1.length≤4294967296)then
bif decide (b.2.2.1.length+a.1.2.2.1.length≤4294967296)then
(aC CJ ((0,a.1.2.1,(b.2.2.1,a.1.2.2.1,b.2.2.1++a.1.2.2.1,()),()),c.2.2)).bind fun g=>
aA g (fun h=>(some h)) (fun k=>((m10 ((),())).bind fun j=>
some j))
else none
else none)
def sp3:Abs.Spec:=⟨0,⟨[0,1,2],(.dat rIz (.dat yc dx)),.nil⟩,⟨[6],fu,.nil⟩,m3⟩
def an3:Nat→Abs.fo
 |0=>.mk (bA [(14,⟨[81,11,8,47,2,41,42,48],(.dat .bool (.dat yc (.st yP (.dat (.cons aR (.cons aR .unit)) (.dat aR (.dat Rt5 lX)))))),aaN⟩),(1,⟨[27,2,1,0],(.dat .bool (.dat aR (.dat yc (.dat rIz .nil)))),.nil⟩)]) bE (bA [(7,⟨⟨[8,42,2,41],(.st yP (.dat aR (.dat aR (.dat Rt5 .nil)))),aaN⟩,aaU⟩),(10,⟨⟨[48,11,8,47,2,41,42],(.dat aR (.dat yc (.st yP (.dat (.cons aR (.cons aR .unit)) (.dat aR (.dat Rt5 dx)))))),aaN⟩,(.more .ret ⟨[6],fu,.nil⟩ (.one (.exit 2) ⟨[8,2,41,42],(.st yP (.dat aR (.dat Rt5 dx))),aaN⟩))⟩)]) fq
 |_=>{}
theorem ok3:dz 3 sp3:=okW an3 (bq ok9 (bq alN (bq anF (bq amu (bq ao1 (bq ao5 (bq akV (bq ok16 (bq amY (bq amt dQ))))))))))
end
end Go.Proofs.YtchnmpafhfjimaaGreatDoor
