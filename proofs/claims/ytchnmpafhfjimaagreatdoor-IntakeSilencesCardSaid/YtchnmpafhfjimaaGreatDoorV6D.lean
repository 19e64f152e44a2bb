/- Lemmas for the statement of the last text of this claim. -/
import Derived.Test.YtchnmpafhfjimaaGreatDoorV6C
set_option linter.unusedSimpArgs false
set_option linter.unusedVariables false
namespace Go.Proofs.YtchnmpafhfjimaaGreatDoor.Fr
open Go Go.Abs Go.RowKit Go.Maps
theorem aax:Maps.Keyed Tryz.prog 9:=string_keyed Tryz.underlying9
set_option maxHeartbeats 6400000 in
set_option maxRecDepth 1000000 in
theorem Q5(w:World)(a b:Int)(gs sl:Value)(l:List kC)(hsl:sl.oneCell'=true)(hv:PR w Fb gs (bD Jt l false))(hb:ve l=true):Calls Tryz.prog 47 #[.agg #[.int .i64 a,gs,sl,.int .i64 b]] w (zI l w):=by
 have hmm:= @run_makeMap Tryz.prog;obtain⟨ga,gb,go,gcap,rfl,ha,hc⟩:=QV hv
 have H:Hid ((l≠ []→ga=some ⟨gb,go,none⟩)∧∀(p:Nat) (g:kC),l[p]?=some g→∃mv,w.cell? ⟨gb,go+p*5,none⟩=some (.int .i64 g.1)∧w.cell? ⟨gb,go+p*5+1,none⟩=some (.string g.2.1)∧
   w.cell? ⟨gb,go+p*5+2,none⟩=some mv∧w.cell? ⟨gb,go+p*5+3,none⟩=some (.int .i64 g.2.2.2.1)∧w.cell? ⟨gb,go+p*5+4,none⟩=some (.int .i64 g.2.2.2.2.1)∧mv.oneCell'=true∧PR w Fb mv (bD Uo g.2.2.1 false)):=⟨ha,hc⟩
 have HB:Hid (ve l=true):=hb;have hpb:=(aal hb).len;clear ha hc hv hb;obtain⟨i9,hi9,hz9,hs9,hb9⟩:=info_parts (P:=Tryz.prog) (e:=9) (z:=.string ⟨#[]⟩) (size:=1) (bytes:=16) (by kernel_rfl);obtain⟨i51,hi51,hz51,hs51,hb51⟩:=info_parts (P:=Tryz.prog) (e:=51) (z:=.slice none 0 0) (size:=1) (bytes:=24) (by kernel_rfl)
 go_enter Tryz.func47,Tryz.ntmps47
 go_wp2
 go_loopg [4,18] l.length (fun g kv i wr=>∃(p:Nat) (kv':Value),p≤l.length∧g=l.length-p∧i= .int .i64 p∧kv'=kv∧Hid (FI w wr kv' (bI (l.take p))))
 case atStart=>
  refine⟨0,_,aiN _,rfl,rfl,rfl,?_⟩;have h1:=World.ownsMap_made (H:=Value) (w.alloc (.cells #[.int .i64 a,.slice ga l.length gcap,sl,.int .i64 b] 40)) Tryz.prog 9 RV;simp only[World.size_alloc]at h1;exact FI.start ((fB (fB (World.Since.refl _ w) (aiy _) (World.grownBy_alloc _ _ none) (fun k e=>by cases e)) (by simp) (World.grownBy_alloc _ _ none) (fun k e=>by cases e))) (by simp) h1
 case round=>
  obtain⟨p,kv,hp,rfl,rfl,rfl,HF⟩:=hrel;by_cases hlt:p<l.length
  ·obtain⟨g,hg⟩:∃g,l[p]?=some g:=⟨_,aiw hlt⟩
   have hne:l≠ []:=fun e=>by rw[e]at hlt;simp at hlt
   have:=H.out.1 hne;subst this;obtain⟨mv,c0,c1,c2,c3,c4,om,hmv⟩:=H.out.2 p g hg;have hgb:gb<w.heap.size:=World.block_lt_of_cell? _ _ c0;obtain⟨ma,mb,mo,mcap,rfl,hma,hmc⟩:=QF hmv;have hs:=HF.out.since;have k0:wr.cell? ⟨gb,go+p*5,none⟩=some (.int .i64 g.1):=by rw[hs.cell (a:=⟨gb,go+p*5,none⟩) hgb];exact c0
   have k1:wr.cell? ⟨gb,go+p*5+1,none⟩=some (.string g.2.1):=by rw[hs.cell (a:=⟨gb,go+p*5+1,none⟩) hgb];exact c1
   have k2:wr.cell? ⟨gb,go+p*5+2,none⟩=some (.slice ma g.2.2.1.length mcap):=by rw[hs.cell (a:=⟨gb,go+p*5+2,none⟩) hgb];exact c2
   have k3:wr.cell? ⟨gb,go+p*5+3,none⟩=some (.int .i64 g.2.2.2.1):=by rw[hs.cell (a:=⟨gb,go+p*5+3,none⟩) hgb];exact c3
   have k4:wr.cell? ⟨gb,go+p*5+4,none⟩=some (.int .i64 g.2.2.2.2.1):=by rw[hs.cell (a:=⟨gb,go+p*5+4,none⟩) hgb];exact c4
   have HM:Hid ((g.2.2.1≠ []→ma=some ⟨mb,mo,none⟩)∧∀(q:Nat) (m:jB),g.2.2.1[q]?=some m→∃lv,w.cell? ⟨mb,mo+q*6,none⟩=some (.string m.1)∧w.cell? ⟨mb,mo+q*6+1,none⟩=some lv∧
    w.cell? ⟨mb,mo+q*6+2,none⟩=some (.int .i64 m.2.2.1)∧w.cell? ⟨mb,mo+q*6+3,none⟩=some (.int .i64 m.2.2.2.1)∧w.cell? ⟨mb,mo+q*6+4,none⟩=some (.bool m.2.2.2.2.1)∧w.cell? ⟨mb,mo+q*6+5,none⟩=some (.bool m.2.2.2.2.2.1)∧lv.oneCell'=true∧PR w Fb lv (bD iV m.2.1 false)):=⟨hma,hmc⟩
   clear c0 c1 c2 c3 c4 om hmv hma hmc hs
   go_wp2
   have HG:Hid (FI w (wr.alloc (.cells #[.int .i64 g.1,.string g.2.1,.slice ma g.2.2.1.length mcap,.int .i64 g.2.2.2.1,.int .i64 g.2.2.2.2.1] 110)) kv (bI (l.take p))):=HF.out.same (World.grownBy_alloc _ _ none);have HT:Hid (l[p]?=some g):=hg;clear HF k0 k1 k2 k3 k4 hg
   go_loopg [4,25] g.2.2.1.length (fun c kx j wi=>∃(q:Nat) (kv':Value),q≤g.2.2.1.length∧c=g.2.2.1.length-q∧j= .int .i64 q∧kv'=kx∧Hid (FI w wi kv' (bI (l.take p)++(g.2.2.1.take q).filter fun m=>m.2.2.2.2.1)))
   case atStart=>exact⟨0,_,aiN _,rfl,rfl,rfl,by rw[ajL,List.filter_nil,aiO];exact HG.out⟩
   case round=>
    clear HG;obtain⟨q,kx,hq,rfl,rfl,rfl,HI⟩:=hrel;by_cases hqt:q<g.2.2.1.length
    ·obtain⟨m,hm⟩:∃m,g.2.2.1[q]?=some m:=⟨_,aiw hqt⟩
     have hne2:g.2.2.1≠ []:=fun e=>by rw[e]at hqt;simp at hqt
     have:=HM.out.1 hne2;subst this;obtain⟨lv,c0,c1,c2,c3,c4,c5,olv,hlv⟩:=HM.out.2 q m hm;obtain⟨la,lb,lo,lcap,rfl,_,_⟩:=uw hlv;have hmb:mb<w.heap.size:=World.block_lt_of_cell? _ _ c0;have hs:=HI.out.since;have k0:wr.cell? ⟨mb,mo+q*6,none⟩=some (.string m.1):=by rw[hs.cell (a:=⟨mb,mo+q*6,none⟩) hmb];exact c0
     have k1:wr.cell? ⟨mb,mo+q*6+1,none⟩=some (.slice la m.2.1.length lcap):=by rw[hs.cell (a:=⟨mb,mo+q*6+1,none⟩) hmb];exact c1
     have k2:wr.cell? ⟨mb,mo+q*6+2,none⟩=some (.int .i64 m.2.2.1):=by rw[hs.cell (a:=⟨mb,mo+q*6+2,none⟩) hmb];exact c2
     have k3:wr.cell? ⟨mb,mo+q*6+3,none⟩=some (.int .i64 m.2.2.2.1):=by rw[hs.cell (a:=⟨mb,mo+q*6+3,none⟩) hmb];exact c3
     have k4:wr.cell? ⟨mb,mo+q*6+4,none⟩=some (.bool m.2.2.2.2.1):=by rw[hs.cell (a:=⟨mb,mo+q*6+4,none⟩) hmb];exact c4
     have k5:wr.cell? ⟨mb,mo+q*6+5,none⟩=some (.bool m.2.2.2.2.2.1):=by rw[hs.cell (a:=⟨mb,mo+q*6+5,none⟩) hmb];exact c5
     clear c0 c1 c2 c3 c4 c5 hs;have hB:=aal HB.out;have hbm:=hB.mem g (air HT.out) m (air hm);have hql:g.2.2.1.length≤4294967296:=by exact aja (Yj HT.out) hB.all
     have hpl:=aja (Om HT.out q) hB.all;have hkl:=M4 (bI (l.take p)++(g.2.2.1.take q).filter fun m=>m.2.2.2.2.1) [];simp only[List.length_nil,ajH]at hkl;have hkey:keyOf Tryz.prog 9 (.string m.1)=some (kl m.1):=WideMaps.keyOf_string_mk (P:=Tryz.prog) Tryz.underlying9 (by unfold maxLen;omega);obtain⟨D,d1,d2,d3⟩:=HI.out.map;have hx:=HI.out.keys;have hsz:=HI.out.size;have HR:Hid (PR w Fb (.slice la m.2.1.length lcap) (bD iV m.2.1 false)):=hlv;have HMm:Hid (g.2.2.1[q]?=some m):=hm;have HD2:Hid (∀k,Maps.has D (kl k)=(bH (bI (l.take p)++(g.2.2.1.take q).filter fun m=>m.2.2.2.2.1) []).any fun x=>decide (x=k)):=d2;have HD3:Hid (∀k∈bH (bI (l.take p)++(g.2.2.1.take q).filter fun m=>m.2.2.2.2.1) [],∃lv,D.atKey (kl k) zS= .held lv∧PR w Fb lv (bD iV (iT (bI (l.take p)++(g.2.2.1.take q).filter fun m=>m.2.2.2.2.1) k) false)):=d3
     obtain⟨pre,hpre⟩:∃pre,pre=bI (l.take p)++(g.2.2.1.take q).filter fun m=>m.2.2.2.2.1:=⟨_,rfl⟩
     rw[←hpre]at d1 hx hkl HD2 HD3 HI hpl;have HP:Hid (pre=bI (l.take p)++(g.2.2.1.take q).filter fun m=>m.2.2.2.2.1):=hpre;clear hlv hm d2 d3 hB hpre;generalize hhas:Maps.has D (kl m.1)=seen
     go_wp2_with (first
      |(at_lookup;refine wpList_lookup_own_ok _ rfl _ _ 154 rfl 9 51 aax Tryz.underlying154 RV (Tryz.zeroValue51 _) zS [] rfl (w.heap.size+1) _ D rfl (d1.alloc _) _ _ rfl hkey ?_;intro v ps hv;rw[hhas])
      | (at_mapUpdate;refine wpList_mapUpdate_own _ rfl _ _ _ 154 rfl 9 51 aax Tryz.underlying154 RV (w.heap.size+1) _ D rfl (d1.alloc _) (by unfold maxLen;omega) _ _ _ rfl rfl hkey (.held (.slice la m.2.1.length lcap)) [] rfl ?_;intro w1 hown1 hgrow1
         have k6:w1.cell? ⟨wr.heap.size,0,none⟩=some (.string m.1):=jS hgrow1 (by simp) (by intro e;have:=Option.some.inj e;omega) (QC _ _ _ _);have hs1:=hgrow1.size)
      |(at_builtin;refine wpList_append_lies _ rfl _ _ 50 rfl (w.heap.size+2) 9 i9 (.string ⟨#[]⟩) 1 16 Tryz.underlying50 hi9 hz9 hs9 hb9 rfl (by decide) kx _ _ rfl (((hx.alloc _).kept hgrow1 (by cases hkb:kx.ownBlock with|none=>exact .inl rfl|some k=>exact .inr (by have:=(hx.lt k hkb).1;simp;omega))).alloc _) ⟨w1.heap.size,0,none⟩ 1 1 [.string m.1] rfl rfl KA (by intro u hu;simp at hu;subst hu;rfl) (by decide) (by unfold maxLen;omega) (by omega) (by simp at hs1 ⊢;omega) _ rfl ?_;intro g2 cap2 w2 hown2 hgrow2 hat2 hlt2))
     ·have hf:m.2.2.2.2.1=true:=by assumption
      have hno:m.1∉bH pre []:=fun c=>by
       have h1:=HD2.out m.1;rw[C9.2 c,hhas]at h1;have h2:(!seen)=true:=by assumption
       rw[h1]at h2;cases h2
      go_roundg (g.2.2.1.length-(q+1))
      case measure=>omega
      case rel=>
       refine⟨q+1,_,by omega,rfl,by go_num,rfl,?_⟩;rw[su HMm.out,if_pos hf,←aiI,←HP.out];exact HI.out.new hno d1 HD2.out HD3.out HR.out (World.grownBy_alloc _ _ none) hown1 hgrow1 (World.grownBy_alloc _ _ none) hgrow2 hown2
     ·have hf:m.2.2.2.2.1=true:=by assumption
      have hyes:m.1∈bH pre []:=by
       have h1:=HD2.out m.1;have h2:(!seen)=false:=by assumption
       rw[hhas]at h1;cases seen
       ·cases h2
       ·exact C9.1 h1.symm
      go_roundg (g.2.2.1.length-(q+1))
      case measure=>omega
      case rel=>
       refine⟨q+1,_,by omega,rfl,by go_num,rfl,?_⟩;rw[su HMm.out,if_pos hf,←aiI,←HP.out];exact(HI.out.same (World.grownBy_alloc _ _ none)).seen hyes
     ·have hf:m.2.2.2.2.1=false:=by
       have h:¬ m.2.2.2.2.1=true:=by assumption
       simpa using h
      go_roundg (g.2.2.1.length-(q+1))
      case measure=>omega
      case rel=>
       refine⟨q+1,_,by omega,rfl,by go_num,rfl,?_⟩;rw[su HMm.out,if_neg (by rw[hf];simp),aiO,←HP.out];exact HI.out.same (World.grownBy_alloc _ _ none)
    ·have hqe:q=g.2.2.1.length:=by omega
     have HE:Hid (FI w wr kx (bI (l.take (p+1)))):=by
      have:=HI.out;rw[hqe,ajl,←Sz HT.out]at this;exact this
     clear HI
     go_wp2
     go_roundg (l.length-(p+1))
     case measure=>omega
     case rel=>exact⟨p+1,_,by omega,rfl,by go_num,rfl,HE.out⟩
  ·have hpe:p=l.length:=by omega
   have HE:Hid (FI w wr kv (bI l)):=by
    have:=HF.out;rw[hpe,ajl]at this;exact this
   have hB:=aal HB.out
   have hkl:(jE l).length≤4294967296:=by
    have h1:=M4 (bI l) [];have h2:=OJ l;have h3:=hB.all;simp only[List.length_nil,ajH]at h1;exact aja h1 (aja h2 h3)
   clear HF;have hsort:=M5 HE.out.keys hkl;obtain⟨ka,kg,kcap,rfl,hka⟩:=UA HE.out.keys;have HK:Hid ((jE l).length≠0→ka=some ⟨kg,0,none⟩):=hka;clear hka;obtain⟨N,hN⟩:∃N,N=(jE l).length:=⟨_,rfl⟩
   go_wp2_with (go_at_call 102;refine hsort.mono ?_;rintro e w1 ⟨rfl,hown1,hgrow1⟩)
   have HS:Hid (w.Since w.heap.size w1∧w1.ownsRow (w.heap.size+2) 9 1 (.slice ka (jE l).length kcap) (jE l).length ((sorted (jE l)).map encStr)∧∃D,w1.ownsMap Tryz.prog 9 RV (w.heap.size+1) (bI l).length D∧
     ∀k∈jE l,∃lv,D.atKey (kl k) zS= .held lv∧PR w Fb lv (bD iV (iT (bI l) k) false)):=by
    obtain⟨D,d1,d2,d3⟩:=HE.out.map;have hlt:=HE.out.keys.lt;have hsz:=HE.out.size;refine⟨fB HE.out.since (by omega) hgrow1 (fun k e=>by have:=(hlt k e).1;omega),hown1,D,d1.kept hgrow1 ?_,d3⟩;intro e;have:=(hlt _ e.symm).1;omega
   clear HE hsort hown1 hgrow1
   go_loopg [11,58] (jE l).length (fun c ov i wo=>∃(q:Nat) (ov':Value),q≤(jE l).length∧c=(jE l).length-q∧i= .int .i64 q∧ov'=ov∧Hid (OI l w1 wo ov' q))
   case atStart=>exact⟨0,_,aiN _,rfl,rfl,rfl,OI.start l w1⟩
   case round=>
    obtain⟨q,ov,hq,rfl,rfl,rfl,HO⟩:=hrel;by_cases hqt:q<(jE l).length
    ·have hkq:q<(sorted (jE l)).length:=by rw[wJ];exact hqt
     obtain⟨k,hk⟩:∃k,(sorted (jE l))[q]?=some k:=⟨_,aiw hkq⟩
     have hmem:=MI (air hk);obtain⟨gx,hgx,mx,hmx,emx⟩:=Yv hmem;have hkb:=(hB.mem gx hgx mx hmx).1;rw[emx]at hkb;have:=HK.out (by omega);subst this;obtain⟨s1,s2,D,s3,s4⟩:=HS.out
     have k0:wr.cell? ⟨kg,q,none⟩=some (.string ⟨k.toArray⟩):=by
      have h1:w1.cell? ⟨kg,q,none⟩=((sorted (jE l)).map encStr)[q]?:=s2.cellAt q (by omega);rw[ait,hk]at h1;exact jS HO.out.grown (s2.lt kg rfl).2 (by simp) h1
     have hkey:keyOf Tryz.prog 9 (.string ⟨k.toArray⟩)=some (kl ⟨k.toArray⟩):=WideMaps.keyOf_string_mk (P:=Tryz.prog) Tryz.underlying9 (by unfold maxLen;omega);obtain⟨v,ps,hrun,hv⟩:=(s3.kept HO.out.grown (by simp)).lookup aax Tryz.underlying154 (Tryz.zeroValue51 _) (zd:=zS) (zp:=[]) rfl hkey;obtain⟨lv,e1,e2⟩:=s4 _ hmem;rw[e1]at hv;have hve:v=lv:=(show v=lv∧ps=[] by simpa[RV]using hv).1;subst hve;obtain⟨la,lb,lo,lcap,rfl,_,_⟩:=uw e2;have hsw:w.Since w.heap.size wr:=fB s1 s1.size HO.out.grown (fun k e=>by cases e);have hclone:=JY (Vl e2 hsw) (WV hB k);obtain⟨xs,hx,hr⟩:=HO.out.rows;have HR:Hid (∀(p:Nat) (y:Value),xs[p]?=some y→∃k,(sorted (jE l))[p]?=some k∧kX wr w1.heap.size ov.ownBlock y (vz l k)):=hr;have HKQ:Hid ((sorted (jE l))[q]?=some k):=hk;have hsz:=HO.out.grown.size;clear s1 s2 s3 s4 hv e2 hsw hr hk hmem emx hgx hmx
     go_wp2_with (first
      | (go_at_call 103;refine hclone.mono ?_;rintro e w2 ⟨v',rfl,hpr,ho,hbel⟩
         obtain⟨va,vb,vo,vcap,rfl,_,_⟩:=uw hpr;have hg2:=KD hbel;have HL:Hid (kX w2 wr.heap.size none (.slice va (iT (bI l) ⟨k.toArray⟩).length vcap) (vz l k)):=aau hpr;have hsz2:=hg2.size)
      |(at_builtin;refine wpList_append_lies _ rfl _ _ 94 rfl w1.heap.size 51 i51 (.slice none 0 0) 1 24 Tryz.underlying94 hi51 hz51 hs51 hb51 rfl (by decide) ov q xs rfl ((hx.kept hg2 (by cases ov.ownBlock with|none=>exact .inl rfl|some k=>exact .inr (by simp))).alloc _) ⟨w2.heap.size,0,none⟩ 1 1 [.slice va (iT (bI l) ⟨k.toArray⟩).length vcap] rfl rfl KA (by intro u hu;simp at hu;subst hu;rfl) (by decide) (by unfold maxLen;omega) (by omega) (by simp;omega) _ rfl ?_;intro g3 cap3 w3 hown3 hgrow3 hat3 hlt3))
     go_roundg ((jE l).length-(q+1))
     case measure=>omega
     case rel=>exact⟨q+1,_,by omega,rfl,by go_num,rfl,HO.out.step hx HR.out HKQ.out HL.out hg2 hgrow3 hown3 hat3⟩
    ·have hqe:q=(jE l).length:=by omega
     have HD:Hid (OI l w1 wr ov (sorted (jE l)).length):=by rw[wJ,←hqe];exact HO.out
     clear HO
     go_wp2
     go_ret
     exact HD.out.done HS.out.1
theorem abn:dJ Tryz.prog 47 Pb:=Yg (entered Tryz.func47 rfl (by decide)) Q5
end Go.Proofs.YtchnmpafhfjimaaGreatDoor.Fr
namespace Go.Proofs.YtchnmpafhfjimaaGreatDoor
open Go Go.Abs
noncomputable section
abbrev aV:Abs.Ty:=.int .i64
abbrev rIz:Abs.Ty:=.row aV
abbrev PV:Abs.Ty:=.row .str
abbrev Z9:Abs.Ty:=(.cons aV (.cons aV (.cons aV (.cons .str (.cons (.row .str) (.cons (.row .str) .unit))))))
abbrev Uu:Abs.Ty:=(.cons .str (.cons .str .unit))
abbrev Z6:Abs.Ty:=(.cons .str (.cons (.row Uu) (.cons aV (.cons aV (.cons .bool (.cons .bool .unit))))))
abbrev Z1:Abs.Ty:=(.cons aV (.cons .str (.cons (.row Z6) (.cons aV (.cons aV .unit)))))
abbrev LX:Type:=(Int×Int×Int×ByteArray×(List ByteArray)×(List ByteArray)×Unit)
abbrev A8:Type:=((Int×ByteArray×Int×Int×Unit)×Unit)
abbrev LZ:Type:=((Int×Int×Int×ByteArray×Unit)×Unit)
abbrev Z20:Abs.Ty:=(.cons (.row aV) (.cons aV .unit))
abbrev zl:Type:=((Int×Int×Unit)×Unit)
abbrev gN:Type:=((Bool×Unit)×(Unit))
abbrev VP:Type:=(((List Int)×Int×Unit)×Unit)
abbrev OB:Abs.Ty:=(.cons .str (.cons aV (.cons .str .unit)))
abbrev Z2:Abs.Ty:=(.cons aV (.cons (.row OB) (.cons aV (.cons (.row .str) (.cons aV (.cons aV (.cons aV (.cons .bool .unit))))))))
abbrev Z3:Abs.Ty:=(.cons aV (.cons aV (.cons aV (.cons aV (.cons (.row OB) .unit)))))
abbrev Z8:Abs.Ty:=(.cons (.row OB) (.cons (.row OB) (.cons (.row .str) .unit)))
abbrev Yn:Abs.Ty:=(.cons (.row Z2) (.cons (.row Z8) (.cons aV .unit)))
abbrev ZK:Abs.Ty:=(.cons aV (.cons (.row Z1) (.cons (.row Z3) (.cons aV .unit))))
abbrev Z27:Abs.Ty:=(.cons aV (.cons (.row Uu) (.cons .bool .unit)))
abbrev wR:Type:=(ByteArray×ByteArray×Unit)
abbrev gM:Type:=(List wR)
abbrev KE:Type:=(ByteArray×Int×ByteArray×Unit)
abbrev Y7:Type:=(List KE)
abbrev Y4:Type:=(Int×Y7×Int×(List ByteArray)×Int×Int×Int×Bool×Unit)
abbrev uh:Type:=(List (Int×Int×Int×Int×Y7×Unit))
abbrev FK:Type:=(Y7×Y7×(List ByteArray)×Unit)
abbrev Zg:Type:=((List Y4)×(List FK)×Int×Unit)
abbrev CG:Type:=((ByteArray×Unit)×(Unit))
abbrev VN:Type:=(ByteArray×gM×Int×Int×Bool×Bool×Unit)
abbrev Y5:Type:=(List VN)
abbrev o5:Type:=(Int×ByteArray×Y5×Int×Int×Unit)
abbrev Y25:Type:=(Int×(List o5)×uh×Int×Unit)
abbrev N8:Type:=((List o5)×(Zg×Unit)×zl×uh×Unit)
abbrev VL:Type:=(Y5×LZ×(List ByteArray)×(List ByteArray)×Unit)
abbrev J2:Type:=((Unit)×((List Int)×Unit))
abbrev dw:Abs.Sh:=(.dat aV .nil)
abbrev oI:Abs.Sh:=(.dat aV dw)
abbrev Xt:Abs.Sh:=(.agg (.dat aV (.dat aV (.dat aV (.dat .str (.st .nil (.st .nil .nil)))))) .nil)
abbrev Qb5:Abs.iY:=(.box 9 (.agg (.dat (.row Z2) (.dat (.row Z8) (.dat aV (.dat aV (.part Z1 (1,0) (.st (.own Z3 (2,0)) (.dat aV (.st (.own Z9 (3,0)) dw)))))))) .nil) (.arr Z1 false (.arr Z3 false (.arr Z9 false .nil))))
abbrev J3:Abs.Sh:=(.agg (.dat aV (.dat .str (.st .nil oI))) .nil)
abbrev iU:Abs.Sh:=(.dat .bool .nil)
abbrev qV:Abs.Sh:=(.agg (.dat aV (.st .nil (.st .nil dw))) .nil)
abbrev Xd:Abs.Sh:=(.agg (.dat aV (.dat aV (.dat aV (.dat .str (.st (.own .str (5,0)) (.st (.own .str (6,0)) .nil)))))) .nil)
abbrev Hw:Abs.iY:=(.box 5 (.agg (.dat aV (.dat .str (.st (.own Z6 (1,0)) oI))) .nil) (.arr Z6 false .nil))
abbrev qw:Abs.oG:=(.ptr (0,0) 5 0 0)
abbrev ja:Abs.Sh:=(.dat .str .nil)
abbrev ag4:Abs.Sh:=(.agg (.dat aV (.dat aV (.dat aV (.dat .str (.st (.own .str (4,0)) (.st (.own .str (5,0)) .nil)))))) .nil)
abbrev qK:Abs.Sh:=(.dat (.row Uu) .nil)
abbrev jF:Abs.oG:=(.ptr (0,0) 4 0 0)
abbrev LU:Abs.iY:=(.arr aV false .nil)
abbrev Pp:Abs.iY:=(.arr .str false (.arr .str false .nil))
abbrev Qb6:Abs.iY:=(.box 6 (.agg (.dat aV (.dat aV (.dat aV (.dat .str (.st (.own .str (2,0)) (.st (.own .str (3,0)) .nil)))))) .nil) Pp)
abbrev EF:Abs.iY:=(.box 5 (.dat Z1 .nil) .nil)
abbrev RL:Abs.oG:=(.own aV (0,0))
abbrev Ym:Abs.iY:=(.box 5 J3 (.box 5 (.agg (.dat aV (.dat .str (.st (.own Z6 (2,0)) oI))) .nil) (.arr Z6 false .nil)))
abbrev Yq:Abs.Sh:=(.agg (.dat aV (.dat .str (.st (.own Z6 (0,0)) oI))) .nil)
abbrev UC:Abs.oG:=(.ptr (0,0) 2 0 0)
abbrev Yz:Abs.Sh:=(.dat aV (.st (.own Z1 (0,0)) (.st (.clo 132 [((1,0),3,0,0),((2,0),4,0,0)]) dw)))
abbrev Jy:Abs.oG:=(.ptr (2,0) 3 0 0)
abbrev xX:Abs.iY:=(.arr Z3 false .nil)
abbrev SF:Abs.iY:=(.box 4 (.agg (.dat aV (.st (.own Z1 (1,0)) (.st (.own Z3 (2,0)) dw))) .nil) (.arr Z1 false xX))
abbrev abv:Abs.oG:=(.own Uu (0,0))
abbrev Fy:Abs.oG:=(.ptr (1,0) 6 0 0)
abbrev abH:Abs.iY:=(.box 4 (.agg (.dat aV (.part Z1 (2,0) (.st (.own Z3 (3,0)) dw))) .nil) (.arr Z9 false (.arr Z1 false xX)))
abbrev Ib:Abs.Sh:=(.dat aV oI)
abbrev SX:Abs.oG:=(.own Z9 (1,0))
abbrev PU:Abs.Sh:=(.dat Z20 .nil)
abbrev BV:Abs.iY:=(.box 2 PU .nil)
abbrev Cg:Abs.Sh:=(.dat Z2 .nil)
abbrev XQ:Abs.iY:=(.box 5 (.agg (.dat aV (.dat .str (.st (.own Z6 (3,0)) oI))) .nil) (.box 8 Cg (.box 5 J3 (.arr Z6 false .nil))))
abbrev aav:Abs.iY:=(.box 5 J3 (.box 6 Xt (.box 6 Xd (.box 5 (.agg (.dat aV (.dat .str (.part Z6 (7,0) oI))) .nil) (.box 8 Cg (.arr .str false (.arr .str false (.arr Z6 false .nil))))))))
abbrev xC:Abs.oG:=(.ptr (1,0) 4 0 0)
abbrev RF:Abs.iY:=(.arr Uu false .nil)
abbrev JD:Abs.oG:=(.ptr (1,0) 5 0 0)
abbrev Vw:Abs.Sh:=(.dat PV .nil)
abbrev qL:Abs.Sh:=(.dat Yn .nil)
abbrev Tv:Abs.iY:=(.arr Z1 false (.box 3 qL (.box 4 (.agg (.dat aV (.st (.own Z1 (0,0)) (.st (.own Z3 (3,0)) dw))) .nil) xX)))
abbrev XK:Abs.iY:=(.box 4 qV (.box 4 (.agg (.dat aV (.st (.own Z1 (5,0)) (.st (.own Z3 (6,0)) dw))) .nil) (.box 3 (.dat Z27 .nil) (.box 3 qL (.arr aV false (.arr Z1 false xX))))))
abbrev aak:Abs.iY:=(.box 3 qL (.box 4 (.dat ZK .nil) .nil))
abbrev KO:Abs.Sh:=(.dat aV ja)
abbrev Lf:Abs.oG:=(.ptr (2,0) 5 0 0)
abbrev YQ:Abs.Sh:=(.st (.clo 132 [((1,0),3,0,0),((2,0),4,0,0)]) .nil)
abbrev BZ:Abs.oG:=(.ptr (0,0) 3 0 0)
abbrev lU:Type:=(Int×Unit)
abbrev Yq2:Type:=((((List Y4)×(List FK)×Int×Int×(Nat×Nat)×Int×Int×Unit)×Unit)×(List o5)×uh×(List LX)×Unit)
abbrev zo:Type:=((Unit)×(Unit))
abbrev Yq4:Type:=((Int×ByteArray×(Nat×Nat)×Int×Int×Unit)×Unit)
abbrev zk:Type:=(Int×Int×Unit)
abbrev Rt:Type:=(((List Y4)×Int×gM×Unit)×(Unit))
abbrev QL:Type:=(Int×gM×Bool×Unit)
abbrev Pe:Type:=(Zg×Unit)
abbrev wQ:Type:=(lU×(Unit))
abbrev PY:Type:=((Int×(Nat×Nat)×Int×Unit)×Unit)
abbrev Mh:Type:=(zl×(List o5)×uh×Unit)
abbrev Fv:Type:=(gM×Unit)
abbrev aaD:Type:=(Y5×LZ×LZ×(Y4×Unit)×A8×(List ByteArray)×(List ByteArray)×Unit)
abbrev abK:Type:=(ByteArray×ByteArray×ByteArray×ByteArray×Unit)
abbrev Vs:Type:=(zl×zl×(QL×Unit)×Pe×(List Int)×(List o5)×uh×Unit)
abbrev JS:Type:=(o5×Unit)
abbrev Ch:Type:=((List Int)×Unit)
abbrev Lb:Type:=((Int×Y7×Int×Unit)×(Unit))
abbrev tu:Type:=(Bool×Unit)
abbrev UB:Type:=(Int×Int×Int×Unit)
abbrev TV:Type:=(Int×Int×Int×Int×Y7×Unit)
abbrev Uw:Type:=(VP×Unit)
abbrev Qo:Type:=((ByteArray×Int×Unit)×(Unit))
abbrev Qk:Type:=((Int×ByteArray×Unit)×(Unit))
abbrev adQ:Type:=(LZ×Yq4×Y5×A8×LZ×(Y4×Unit)×(List ByteArray)×(List ByteArray)×Unit)
abbrev aaQ:Type:=(A8×LZ×LZ×Yq4×(Y4×Unit)×(List ByteArray)×(List ByteArray)×Y5×Unit)
abbrev aeo:Type:=((Int×(List QL)×Int×Int×Unit)×(zl×(((List Y4)×(List FK)×Int×Int×(Nat×Nat)×Int×Int×Unit)×Unit)×Pe×(List o5)×uh×(List LX)×Unit))
abbrev YU:Type:=((List Int)×(List Int)×Unit)
abbrev ab0:Type:=((ByteArray×Int×ByteArray×Int×Unit)×((List Bool)×(List Bool)×Unit))
abbrev Vm:Type:=((List ByteArray)×Unit)
abbrev Lc:Type:=(lU×(A8×Y5×Unit))
abbrev Ih:Type:=(Bool×Int×Unit)
abbrev S9:Type:=(Y25×Unit)
abbrev aaZ:Type:=(Pe×S9×Unit)
abbrev DY:Type:=(lU×Unit)
abbrev abB:Type:=(gM×(List LX)×DY×(List Int)×(Y4×Unit)×(LX×Unit)×(List Y4)×Unit)
abbrev abY:Type:=(gM×(List LX)×DY×(List Int)×(Y4×Unit)×(List Y4)×Unit)
abbrev WQ:Type:=(gM×(List LX)×DY×(List Int)×(List Y4)×Unit)
abbrev Vy:Type:=(A8×(Y4×Unit)×A8×Y5×Unit)
abbrev Sm:Type:=(VP×(List ByteArray)×Unit)
abbrev Uf:Type:=(JS×Unit)
abbrev YA:Type:=((Int×ByteArray×Int×Unit)×(Unit))
abbrev Y8:Type:=((Int×gM×ByteArray×Unit)×(Unit))
abbrev acv:Type:=((Int×(List o5)×Int×Unit)×aaZ)
abbrev Y2:Type:=((Int×Bool×Unit)×(Unit))
abbrev abZ:Type:=((List o5)×uh×(List ByteArray)×zl×Pe×Unit)
abbrev aai:Type:=(DY×gM×PY×(List Y4)×(List o5)×uh×Unit)
abbrev Nk:Type:=((Y4×Unit)×Unit)
abbrev aeC:Type:=((List LX)×zl×Pe×(List o5)×zl×uh×Unit)
abbrev af9:Type:=(Int×(List gM)×Y5×Int×Unit)
abbrev adk:Type:=((Int×gM×(List gM)×(List gM)×(List FK)×Int×Int×Int×Unit)×((FK×Unit)×Unit))
abbrev aam:Type:=(A8×A8×Y5×Unit)
abbrev Fq:Type:=(uh×Unit)
abbrev aby:Type:=(PY×(List LX)×(List o5)×uh×Unit)
abbrev Wl:Type:=(((List Y4)×Unit)×(Unit))
abbrev Te:Type:=(Bool×Int×Int×Unit)
abbrev afL:Type:=((Int×ByteArray×Int×ByteArray×Unit)×((List Bool)×(List Bool)×Unit))
abbrev Ji:Type:=(lU×Uw)
abbrev aem:Type:=((Bool×Int×ByteArray×Int×Int×Int×Int×Int×Int×Int×Unit)×abB)
abbrev YM:Type:=(VP×(List FK)×Unit)
abbrev aaA:Type:=((List o5)×lU×Unit)
abbrev XJ:Type:=(VP×(List QL)×Unit)
abbrev Zc:Type:=(Fv×Fv×Unit)
abbrev adr:Type:=((Int×(List ByteArray)×(List ByteArray)×Int×Unit)×(Unit))
abbrev QB:Type:=((Unit)×Uw)
abbrev Xc:Type:=(VP×(List Y4)×Unit)
abbrev aer:Type:=((Int×Int×Int×ByteArray×Int×Int×Int×Int×Int×Unit)×abY)
abbrev SG:Type:=(Pe×JS×Unit)
abbrev Ye:Type:=((KE×Unit)×(Unit))
abbrev abM:Type:=((Zg×Y25×Int×Unit)×(Unit))
abbrev adx:Type:=((Int×Int×Int×Int×ByteArray×ByteArray×Unit)×(Unit))
abbrev ad8:Type:=((Int×(List ByteArray)×ByteArray×Int×Unit)×(Unit))
abbrev Sc:Type:=(VP×gM×Unit)
abbrev Yb:Type:=((List Bool)×Unit)
abbrev ado:Type:=((gM×(List gM)×(List FK)×Int×Int×Unit)×(Unit))
abbrev ac8:Type:=((Int×gM×(List gM)×(List FK)×Int×Unit)×(Unit))
abbrev UH:Type:=(Int×Y5×Int×Unit)
abbrev PG:Type:=(UH×(Unit))
abbrev adP:Type:=((Int×Bool×(List ByteArray)×Int×Int×Unit)×aaD)
abbrev adV:Type:=((Bool×(List ByteArray)×Int×Int×Int×Unit)×aaD)
abbrev Q9:Type:=(UB×Mh)
abbrev Tf:Type:=(Fv×(Unit))
abbrev SI:Type:=((Unit)×Fv)
abbrev aep:Type:=((Int×Int×Bool×gM×Int×uh×Int×Unit)×(Unit))
abbrev af6:Type:=((Int×(List Y4)×(List Y4)×Int×Unit)×(Unit))
abbrev acy:Type:=((Int×Int×Bool×(List o5)×Int×Unit)×(Unit))
abbrev agN:Type:=((o5×Y4×Int×(List ByteArray)×Unit)×(Unit))
abbrev aea:Type:=(((List ByteArray)×ByteArray×Unit)×(Unit))
abbrev acM:Type:=((Int×(List ByteArray)×gM×Int×Unit)×Fv)
abbrev adv:Type:=((gM×(List ByteArray)×Int×Int×Unit)×Fv)
abbrev Xq:Type:=(Int×abK×Unit)
abbrev aah:Type:=((ByteArray×Y5×Int×Int×Int×Unit)×(Unit))
abbrev aaf:Type:=((Bool×ByteArray×ByteArray×Unit)×(Unit))
abbrev Zp:Type:=((Int×ByteArray×Unit)×((LX×Unit)×Unit))
abbrev Zu:Type:=(UB×(Pe×zl×(List o5)×zl×uh×Unit))
abbrev ZL:Type:=((Int×(Nat×Nat)×Bool×Int×Int×Unit)×adQ)
abbrev ZG:Type:=((Int×ByteArray×ByteArray×Unit)×(Unit))
abbrev Zk:Type:=((Unit)×((List o5)×uh×zl×PY×Unit))
abbrev ZP:Type:=((Int×Int×(List Y4)×gM×Int×Unit)×YU)
abbrev Zn:Type:=((Bool×ByteArray×Int×Int×Unit)×(Unit))
abbrev Kj:Type:=(Fv×Unit)
abbrev ZO:Type:=((Int×gM×(List ByteArray)×Unit)×Fv)
abbrev ZB:Type:=((Int×(List ByteArray)×Int×Unit)×Zc)
abbrev Zy:Type:=((Int×ByteArray×gM×Int×Unit)×(Unit))
abbrev U7:Type:=((VN×Unit)×(Unit))
abbrev Zq:Type:=((gM×(List ByteArray)×Unit)×(Unit))
abbrev ZW:Type:=((Int×(List ByteArray)×Unit)×(Unit))
abbrev Zj:Type:=((zk×N8)⊕((lU×N8)⊕((Unit)×N8)))
abbrev Z0:Type:=((Int×(List gM)×Int×Int×Unit)×aeC)
abbrev OO:Type:=(VP×Y7×Unit)
abbrev Zr:Type:=(zk×(zl×(List o5)×zl×uh×Unit))
abbrev R4:Type:=(JS×(Unit))
abbrev aad:Type:=((Int×Int×(List Y4)×Int×Unit)×Ch)
abbrev Zf:Type:=((Int×Int×(List Y4)×gM×Unit)×YU)
abbrev Oo:Type:=((Unit)×aam)
abbrev Zw:Type:=((ByteArray×Int×Int×Int×Unit)×aaA)
abbrev Zi:Type:=((Int×(List FK)×Int×Unit)×(Unit))
abbrev aag:Type:=((Bool×Int×ByteArray×Unit)×(Unit))
abbrev Zz:Type:=((Bool×gM×(List Y4)×Unit)×(Unit))
abbrev ZV:Type:=((Bool×ByteArray×Int×Unit)×(Unit))
abbrev ZM:Type:=((Bool×Int×Int×Int×Int×Unit)×Mh)
abbrev Vp:Type:=((TV×Unit)×Unit)
abbrev Ro1:Abs.kI:=(.one (.exit 0) ⟨[],.nil,.nil⟩)
abbrev Ab:Abs.Ty:=(.row Uu)
abbrev Rb3:Abs.iY:=(.box 6 (.agg (.dat aV (.dat aV (.dat aV (.dat .str (.st (.own .str (6,0)) (.st (.own .str (7,0)) .nil)))))) .nil) (.box 5 (.agg (.dat aV (.dat .str (.part Z6 (2,0) oI))) .nil) (.arr Z6 false (.box 5 J3 (.box 6 Xt (.box 8 Cg Pp))))))
abbrev ZA:Abs.kI:=(.more .ret ⟨[4],dw,.nil⟩ Ro1)
abbrev Ro5:Abs.kI:=(.more .ret ⟨[2],iU,.nil⟩ Ro1)
abbrev Rb6:Abs.iY:=(.box 3 (.agg (.st (.own Z2 (3,0)) (.st .nil dw)) .nil) (.arr Uu true (.box 4 (.agg (.dat aV (.part Z1 (4,0) (.st (.own Z3 (5,0)) dw))) .nil) (.arr Z2 true (.arr Z1 true (.arr Z3 true .nil))))))
abbrev Zx:Abs.iY:=(.arr .str false .nil)
abbrev VA:Abs.Sh:=(.dat ZK .nil)
abbrev Za:Abs.oG:=(.ptr (0,0) 6 0 0)
abbrev afv:Abs.iY:=(.arr Z9 false (.box 4 (.agg (.dat aV (.st (.own Z1 (3,0)) (.st (.own Z3 (5,0)) dw))) .nil) (.box 3 qL (.arr Z1 false (.box 4 qV xX)))))
abbrev ab9:Abs.iY:=(.arr Z6 false (.box 6 Xd (.box 6 Xt (.box 8 Cg (.box 5 Yq Pp)))))
abbrev Tj:Abs.oG:=(.ptr (3,0) 5 0 0)
abbrev FN:Abs.Ty:=(.row Z2)
abbrev aaG:Abs.Sh:=(.st (.ptr (0,0) 8 0 0) .nil)
abbrev BO:Abs.Ty:=(.row Z6)
abbrev adf:Abs.iY:=(.arr Z1 false (.arr Z3 false (.box 4 qV (.box 4 (.agg (.dat aV (.part Z1 (0,0) (.st (.own Z3 (1,0)) dw))) .nil) .nil))))
abbrev aaW:Abs.oG:=(.ptr (4,0) 8 0 0)
abbrev aaI:Abs.kI:=(.more .ret ⟨[4],iU,.nil⟩ Ro1)
abbrev aez:Abs.Sh:=(.agg (.dat aV (.dat aV (.dat aV (.dat .str (.st (.own .str (3,0)) (.st (.own .str (4,0)) .nil)))))) .nil)
abbrev JE:Abs.Sh:=(.st qw .nil)
abbrev JZ:Abs.iY:=(.arr Z6 false Qb6)
abbrev Qc:Abs.iY:=(.box 1 dw .nil)
abbrev Ve:Abs.iY:=(.box 8 Cg .nil)
abbrev LM:Abs.iY:=(.box 1 qK .nil)
abbrev abo:Abs.Sh:=(.dat aV (.dat (.row OB) (.st (.clo 189 []) dw)))
abbrev L8:Abs.Sh:=(.dat aV iU)
abbrev SL:Abs.Ty:=(.row Z1)
abbrev zH:Abs.Ty:=(.row Ab)
abbrev Iy:Abs.oG:=(.own Z1 (0,0))
abbrev ac5:Abs.iY:=(.arr Z1 false (.arr Z3 false (.arr .str false (.box 4 (.agg (.dat aV (.st Iy (.st (.own Z3 (1,0)) dw))) .nil) (.box 3 qL .nil)))))
abbrev Uy:Abs.Sh:=(.st UC .nil)
abbrev Yc:Abs.Sh:=(.dat .str (.dat (.int .u8) .nil))
abbrev Xm:Abs.Sh:=(.st qw (.st JD .nil))
abbrev NE:Abs.oG:=(.ptr (2,0) 4 0 0)
abbrev Ml:Abs.Sh:=(.dat .str ja)
abbrev TY:Abs.oG:=(.ptr (1,0) 8 0 0)
abbrev abE:Abs.Sh:=(.dat FN .nil)
abbrev ac7:Abs.Sh:=(.dat aV (.dat BO (.st (.clo 114 []) dw)))
abbrev afy:Abs.Sh:=(.dat .bool (.st qw (.st Fy (.st Lf (.dat aV (.st (.ptr (3,0) 8 0 0) Vw))))))
abbrev Qv:Abs.oG:=(.own Z1 (1,0))
abbrev TL:Abs.Sh:=(.st RL .nil)
abbrev Ro8:Abs.kI:=(.one (.exit 0) ⟨[1,7],(.dat aV TL),LU⟩)
abbrev PL:Abs.iY:=(.arr Z6 false .nil)
abbrev Qz:Abs.iY:=(.arr Z1 false xX)
abbrev X5:Abs.oG:=(.clo 183 [((1,0),6,0,0)])
abbrev aeV:Abs.Ty:=(.cons .str (.cons .str Uu))
abbrev abq:Abs.oG:=(.own Uu (1,0))
abbrev Qe:Abs.oG:=(.ptr (3,0) 3 0 0)
abbrev Py:Abs.oG:=(.ptr (3,0) 4 0 0)
abbrev Yl:Abs.oG:=(.ptr (0,0) 9 0 0)
abbrev YE:Abs.iY:=(.box 3 (.dat Z8 .nil) .nil)
abbrev KQ:Abs.oG:=(.own Z6 (0,0))
abbrev aef:Abs.oG:=(.own .str (0,0))
abbrev aeT:Abs.Sh:=(.agg (.dat aV (.st (.own Z1 (3,0)) (.st (.own Z3 (4,0)) dw))) .nil)
abbrev afd:Abs.Sh:=(.dat .bool (.st qw (.dat aV (.st TY (.dat aV (.st Lf .nil))))))
abbrev af0:Abs.Sh:=(.st qw (.dat aV (.st TY (.dat aV (.dat BO (.st Lf oI))))))
abbrev zQ:Abs.Ty:=(.row Z3)
abbrev Vv:Abs.Sh:=(.dat Z1 .nil)
abbrev P9:Abs.Sh:=(.st qw dw)
abbrev abJ:Abs.kI:=(.one (.exit 0) ⟨[0],ja,.nil⟩)
abbrev NN:Abs.oG:=(.ptr (2,0) 6 0 0)
abbrev adX:Abs.Sh:=(.dat .bool (.st Fy (.dat PV (.st KQ (.st NN (.dat aV (.st (.ptr (3,0) 8 0 0) (.st (.ptr (4,0) 5 0 0) oI))))))))
abbrev ac2:Abs.Sh:=(.st qw (.st Fy (.dat .bool (.st NN (.st Tj (.dat aV (.st aaW .nil)))))))
abbrev af5:Abs.oG:=(.ptr (1,0) 3 0 0)
abbrev Rm:Abs.oG:=(.own Z3 (0,0))
abbrev aa2:Abs.Sh:=(.dat FN dw)
abbrev acN:Abs.kI:=(.more .ret ⟨[4],dw,Tv⟩ (.one (.exit 0) ⟨[],.nil,Tv⟩))
abbrev ad7:Abs.kI:=(.one (.exit 0) ⟨[5,0],(.dat aV (.st Iy .nil)),Tv⟩)
abbrev Es:Abs.Ty:=(.row Z8)
abbrev ac9:Abs.Sh:=(.st UC dw)
abbrev Qg:Abs.Sh:=(.dat Ab dw)
abbrev XC:Abs.Sh:=(.dat .bool dw)
abbrev adT:Abs.iY:=(.arr aV false LU)
abbrev acd:Abs.iY:=(.box 5 (.dat Z3 .nil) .nil)
abbrev afD:Abs.iY:=(.arr Z1 false (.arr Z3 false (.arr Z9 false .nil)))
abbrev VJ:Abs.Sh:=(.dat .str dw)
abbrev aaX:Abs.Sh:=(.dat OB .nil)
abbrev aaF:Abs.Sh:=(.st abv .nil)
abbrev aaj:Abs.kI:=(.one .ret ⟨[4],dw,Qb5⟩)
abbrev afc:Abs.Sh:=(.dat BO dw)
abbrev ae0:Abs.Sh:=(.dat SL dw)
abbrev adp:Abs.Sh:=(.dat .bool (.dat aV (.st jF (.st Qv Ib))))
abbrev aaV:Abs.Sh:=(.dat .bool (.st Yl oI))
abbrev aaz:Abs.Sh:=(.st JD (.st Lf .nil))
abbrev aeg:Abs.oG:=(.ptr (2,0) 8 0 0)
abbrev Z7:Abs.Sh:=(.dat aV (.dat aV (.st jF (.st Qv dw))))
def note:FuncId→Abs.Note
 |4=>⟨true,[0,1,4,5,6,7,8,9,10,12,13,15,16,17,18,19,21,22,25,46,69,78,79,80,81,92,93,94,95,107,123,132,141,155],false,fun _=> []⟩
 |6=>⟨true,[0,1,4,5,6,7,8,9,10,11,13,14,15,16,17,18,19,20,21,23,24,25,26,27,28,29,30,33,166,168,177,197,200],false,fun|7=> [(0,1),(0,4),(1,4),(0,11),(1,11),(4,11),(6,11)]|_=> []⟩
 |9=>⟨true,[0,2],false,fun _=> []⟩
 |10=>⟨true,[0,1,2,4,5,6,7,8,9,10,11,12,13],false,fun|4=> [(0,1),(0,3),(1,3),(0,10),(1,10),(3,10),(5,10)]|_=> []⟩
 |11=>⟨true,[0,2],false,fun _=> []⟩
 |12=>⟨true,[0,1,4],false,fun _=> []⟩
 |13=>⟨true,[0,1,4,5,6,7,13],false,fun _=> []⟩
 |14=>⟨true,[0,1,4],false,fun _=> []⟩
 |15=>⟨true,[0,1,2,3,6,7,8,9,10,12,13,14,17,22,27,39,40,41,42,50,67,76],false,fun|8=> [(0,1)]|22=> [(7,8)]|_=> []⟩
 |19=>⟨true,[0,1,4,12],false,fun _=> []⟩
 |20=>⟨true,[0,1,2,4,7],false,fun _=> []⟩
 |21=>⟨true,[0,1,2,4,5,6,13,22],false,fun _=> []⟩
 |24=>⟨true,[0,2,3,4],false,fun _=> []⟩
 |25=>⟨true,[0,1,2,3,4,5,6,7,8,9,10,11,17,33],false,fun|13=> [(2,3)]|_=> []⟩
 |26=>⟨true,[0],false,fun _=> []⟩
 |27=>⟨true,[0,1,2,3,4,5,6,7,8,10,11,12,13,14,15,25,32,44,45,46,47,72,74,105,119],false,fun|15=> [(1,5),(1,6)]|16=> [(1,20),(4,20),(6,20),(9,20),(11,20),(13,20),(15,20),(16,20)]|_=> []⟩
 |28=>⟨true,[0,1,2,3,4,6,7,8,9,10,14,20],false,fun _=> []⟩
 |29=>⟨true,[0,1,2,3,4,6,7,8,9,13,25],false,fun _=> []⟩
 |30=>⟨true,[0,1,2,3,4,5,7,9,10,11,12,27],false,fun _=> []⟩
 |32=>⟨true,[0,1,4],false,fun _=> []⟩
 |34=>⟨true,[0,1,2,3,4,9,15,24],false,fun _=> []⟩
 |36=>⟨true,[0,1,2,3,4,5,6,7,37,54,56,57,58,59,98,102],false,fun _=> []⟩
 |38=>⟨true,[0,1,4,5,19,40],false,fun _=> []⟩
 |39=>⟨true,[0,2,3,5,6,7,8,9,17],false,fun _=> []⟩
 |40=>⟨true,[0,1,4],false,fun _=> []⟩
 |47=>⟨true,[0,1,2,3,4,6,8,10,11,13,16,17,18,19,23,24,25,26,41,56,57,58,59],true,fun _=> []⟩
 |50=>⟨true,[0,1,4,5,6,7,16],false,fun _=> []⟩
 |51=>⟨true,[0,2,3,4,5,9],false,fun _=> []⟩
 |52=>⟨true,[0,1,4,5,6,7,8,23,35],false,fun|7=> [(3,19),(7,19),(13,19),(15,19)]|_=> []⟩
 |56=>⟨true,[0,2,3,4,7,10,14,47,54,61],false,fun _=> []⟩
 |57=>⟨true,[0,2,3,6,10,54],false,fun _=> []⟩
 |58=>⟨true,[0,1,2,6,7,8,9,16,29,47,50],false,fun _=> []⟩
 |59=>⟨true,[0,2,3,4,7,11,15],false,fun|9=> [(5,12)]|_=> []⟩
 |60=>⟨true,[0,1,4,5,6,7,11,17,29],false,fun _=> []⟩
 |62=>⟨true,[0,2,3,5,6,7,8,11],false,fun _=> []⟩
 |63=>⟨true,[0,1,3,4,5,6,7,17],false,fun|1=> [(1,2),(1,3)]|_=> []⟩
 |64=>⟨true,[0,1,2,3,4,14,15,16,17],true,fun|1=> [(2,4)]|5=> [(1,4)]|_=> []⟩
 |65=>⟨true,[0,1,4,5,9,10,11,12,29],true,fun _=> []⟩
 |66=>⟨true,[0,2,3,4,7,8,9,10,11,44],false,fun _=> []⟩
 |67=>⟨true,[0,1,2,4,5,10],false,fun _=> []⟩
 |68=>⟨true,[0,1,4,12],false,fun _=> []⟩
 |69=>⟨true,[0,1,2,4,7],false,fun _=> []⟩
 |70=>⟨true,[0,1,2,4,6,7],true,fun _=> []⟩
 |71=>⟨true,[0,1,2,6,7,8,9,16,22,31,68],true,fun _=> []⟩
 |72=>⟨true,[0,1,4],false,fun _=> []⟩
 |73=>⟨true,[0,1,2,3,4,5,6,10,11,12,13,14,15,16,31,46,59,68],false,fun _=> []⟩
 |74=>⟨true,[0,1,2,3,4],true,fun _=> []⟩
 |75=>⟨true,[0,1,2,3,4,6,7,8,9,10,11,12,13,14,15,16,23,24,25,26,52,53,54,55,83],false,fun|6=> [(1,13)]|13=> [(0,12),(2,12),(4,12),(6,12),(0,19),(2,19),(4,19),(6,19),(8,19),(9,19),(10,19),(12,19),(13,19),(0,20),(2,20),(4,20),(6,20),(8,20),(9,20),(10,20),(12,20),(13,20),(19,20)]|_=> []⟩
 |76=>⟨true,[0,1,2,4,6,7,8,9,10,14,19,22,38],false,fun _=> []⟩
 |78=>⟨true,[0,2,3,4,5,6,10,14,15,16,17,25,33],false,fun _=> []⟩
 |79=>⟨true,[0,2,4,5,8,9,10,11,12,18],false,fun _=> []⟩
 |81=>⟨true,[0,2,3,5,6,9,10,11,12,13,20],false,fun _=> []⟩
 |82=>⟨true,[0,1,2,3,4,25,27,28,29,30,52],false,fun _=> []⟩
 |83=>⟨true,[0,1,2,3,4,6],true,fun _=> []⟩
 |84=>⟨true,[0,1,2,3,6,10],false,fun _=> []⟩
 |85=>⟨true,[0,1,4],false,fun _=> []⟩
 |86=>⟨true,[0,1,2,3,4],true,fun|1=> [(8,10)]|_=> []⟩
 |97=>⟨true,[0,1,4,5,6,12],false,fun _=> []⟩
 |98=>⟨true,[0,2],false,fun|1=> [(0,2),(0,6),(4,6),(0,7),(2,7),(4,7),(6,7),(0,9),(4,9),(7,9),(0,11)]|_=> []⟩
 |102=>⟨true,[0,2],false,fun _=> []⟩
 |103=>⟨true,[0,2,4],false,fun _=> []⟩
 |104=>⟨true,[0,1,2,3,13,18,27,28,33],false,fun _=> []⟩
 |105=>⟨true,[0,2,3,21,25,55],false,fun _=> []⟩
 |106=>⟨true,[0,2,3,6,10,22],false,fun _=> []⟩
 |107=>⟨true,[0,1,4,5,6,10,19],false,fun _=> []⟩
 |108=>⟨true,[0,1,4,5,9,18],false,fun _=> []⟩
 |109=>⟨true,[0,2,3,4,8,20],false,fun _=> []⟩
 |111=>⟨true,[0,2,3,4,8,9,10],false,fun _=> []⟩
 |112=>⟨true,[0,2,4],false,fun _=> []⟩
 |113=>⟨true,[0,1,2,3,10,11,12],true,fun|5=> [(1,9)]|_=> []⟩
 |114=>⟨true,[0,1,2],true,fun _=> []⟩
 |115=>⟨true,[0,2,3,4,21,23,24,25,47],false,fun _=> []⟩
 |116=>⟨true,[0,2,3,5,6,7,18],false,fun _=> []⟩
 |117=>⟨true,[0,1,2,6,7,9,12,13,14,15,25,37,41],false,fun _=> []⟩
 |118=>⟨true,[0,2,3,5,8,9,10,11,12],false,fun|7=> [(2,6)]|_=> []⟩
 |119=>⟨true,[0,1,4,5,7,8,9,10,11,17],false,fun _=> []⟩
 |120=>⟨true,[0,1,2,6,7,8,9,10,11,17,31],true,fun _=> []⟩
 |121=>⟨true,[0,1,2,3,5],true,fun _=> []⟩
 |123=>⟨true,[0,1],false,fun _=> []⟩
 |124=>⟨true,[0,1,2],false,fun _=> []⟩
 |125=>⟨true,[0,1,2,6],false,fun _=> []⟩
 |126=>⟨true,[0,1,2,4,5],false,fun _=> []⟩
 |127=>⟨true,[0,1,2,3,4,6,10,31,38,50],true,fun _=> []⟩
 |128=>⟨true,[0,1,2,6,7,8,9,16,22,31,68],true,fun _=> []⟩
 |129=>⟨true,[0,1,2,4,6,15,29],false,fun _=> []⟩
 |130=>⟨true,[0,1,2,4],true,fun _=> []⟩
 |131=>⟨true,[0,1,4,5,6,7,12,19,29],true,fun _=> []⟩
 |132=>⟨true,[0,1,2,3,4],true,fun _=> []⟩
 |133=>⟨true,[0,1,2,3,4,5,8,9,10,12,13,14,15,25,38,41,42,43,44,66],false,fun _=> []⟩
 |134=>⟨true,[0,1,2,3,4,5,8,9,10,11,12,13,14,15,16,17,18,29,45,56,65,66,67,68,101],false,fun|15=> [(1,10)]|23=> [(1,2),(2,4)]|_=> []⟩
 |135=>⟨true,[0,1,2,3,4,5,6,8,9,11,13,14,15,16,28],true,fun _=> []⟩
 |136=>⟨true,[0,1,4,5,7,8,9,16],false,fun _=> []⟩
 |137=>⟨true,[0,1,2,3],true,fun _=> []⟩
 |138=>⟨true,[0,1,2,6,7,16],true,fun _=> []⟩
 |139=>⟨true,[0,1,2,4,5,28,39,49],false,fun _=> []⟩
 |140=>⟨true,[0,1,2,3,14,31],false,fun _=> []⟩
 |142=>⟨true,[0,2,3,7,31],false,fun _=> []⟩
 |143=>⟨true,[0,1,2,4,5,15,36,41,46],false,fun _=> []⟩
 |144=>⟨true,[0,1,2],false,fun|1=> [(6,8)]|_=> []⟩
 |145=>⟨true,[0,1,2],true,fun _=> []⟩
 |146=>⟨true,[0,1,4,5,6,11,12,13,16,19],false,fun _=> []⟩
 |147=>⟨true,[0,1,4,5,7,8,9,16],true,fun _=> []⟩
 |160=>⟨true,[0,1,2,3,8,9,10,11,12,13,14,15,16,17,18,23,29,35,50,68,72,87,113],false,fun _=> []⟩
 |161=>⟨true,[0,2],false,fun _=> []⟩
 |162=>⟨true,[0,1,2],false,fun _=> []⟩
 |163=>⟨true,[0,1,2,4,5,11,12,18,24,30],false,fun _=> []⟩
 |165=>⟨true,[0,2,4],false,fun _=> []⟩
 |166=>⟨true,[0,2,4],false,fun _=> []⟩
 |167=>⟨true,[0,2,4],false,fun _=> []⟩
 |168=>⟨true,[0,1,4,5,6,7,8,9,10,11,18],false,fun _=> []⟩
 |169=>⟨true,[0,1,3,4],false,fun _=> []⟩
 |170=>⟨true,[0,2,3,4,7,8,9,20],false,fun _=> []⟩
 |171=>⟨true,[0,1,4,5,7,8,10,12,13,15,22,29,39,40,41,42,49,63,64,65,66],false,fun _=> []⟩
 |172=>⟨true,[0,1,4],false,fun _=> []⟩
 |173=>⟨true,[0,1],false,fun _=> []⟩
 |174=>⟨true,[0,1,2,6,7,8,9,10,11,17,31],false,fun _=> []⟩
 |175=>⟨true,[0,1,2,4],true,fun _=> []⟩
 |176=>⟨true,[0,1,2,6,7,16],true,fun _=> []⟩
 |178=>⟨true,[0,1],false,fun _=> []⟩
 |179=>⟨true,[0,2,4],false,fun _=> []⟩
 |180=>⟨true,[0,1,4,5,7,8,9,16],true,fun _=> []⟩
 |181=>⟨true,[0,1,2,3,4,5,8,9,10,11,13,14,24,25,26,27,37,42],true,fun|13=> [(7,11)]|_=> []⟩
 |182=>⟨true,[0,1,4,5,6,7,12,19,29],true,fun _=> []⟩
 |183=>⟨true,[0,1,2,3],true,fun _=> []⟩
 |184=>⟨true,[0,1,2],false,fun _=> []⟩
 |185=>⟨true,[0,1,2,3,4,10,12],false,fun _=> []⟩
 |186=>⟨true,[0,1,4],false,fun _=> []⟩
 |187=>⟨true,[0,1,2],false,fun _=> []⟩
 |188=>⟨true,[0,2,3,4,5,6,7,8,27],false,fun _=> []⟩
 |189=>⟨true,[0,1,2],false,fun _=> []⟩
 |190=>⟨true,[0,2],false,fun _=> []⟩
 |192=>⟨true,[0,1,2,6,7,12,30],false,fun _=> []⟩
 |193=>⟨true,[0,1,2,6,7,8,9,10,19,30],false,fun _=> []⟩
 |194=>⟨true,[0,1,2,6,7,8,9,10,15,33,43],false,fun _=> []⟩
 |195=>⟨true,[0,1,2,6,7,8,9,10,11,12,32,34,49,51,54],false,fun _=> []⟩
 |196=>⟨true,[0,1,2,6,7,13],false,fun _=> []⟩
 |197=>⟨true,[0,1,2,6,7,8,9,10,14,32,37,41,61,65,78,98,103,116],false,fun _=> []⟩
 |198=>⟨true,[0,1,4],false,fun _=> []⟩
 |199=>⟨true,[0,1,2,3,8,9,10,43,59,64],false,fun _=> []⟩
 |200=>⟨true,[0,1,2,3,8,9,10,11,43,60,65,112,129,134],false,fun _=> []⟩
 |201=>⟨true,[0,2,4,8],false,fun _=> []⟩
 |202=>⟨true,[0,2,4,8,14],false,fun _=> []⟩
 |203=>⟨true,[0,1,4,5,9,18],false,fun _=> []⟩
 |204=>⟨true,[0,1,4,5,6,7,8,18,28,34,54],false,fun _=> []⟩
 |205=>⟨true,[0,1,2,3],true,fun _=> []⟩
 |206=>⟨true,[0,1,2,4,5,11,12,18,24,30],false,fun _=> []⟩
 |207=>⟨true,[0,1,4],false,fun _=> []⟩
 |208=>⟨true,[0,2],false,fun _=> []⟩
 |209=>⟨true,[0,1,7,21],false,fun _=> []⟩
 |210=>⟨true,[0,1,4,5],false,fun _=> []⟩
 |211=>⟨true,[0,1,4,5,7,8,9,16],false,fun _=> []⟩
 |212=>⟨true,[0,2,3,9],true,fun _=> []⟩
 |213=>⟨true,[0,1],false,fun _=> []⟩
 |214=>⟨true,[0,1,2,6,7,9,10,11,12,13,41],false,fun _=> []⟩
 |215=>⟨true,[0,1,2,6,8,10,11,12,13,14,21,22,23,24,25,45],false,fun _=> []⟩
 |216=>⟨true,[0,1,4,5,7,8,9,16],false,fun _=> []⟩
 |217=>⟨true,[0,1,2],false,fun _=> []⟩
 |218=>⟨true,[0,2],false,fun _=> []⟩
 |219=>⟨true,[0,1,2,3,8,9,16,36,52],false,fun _=> []⟩
 |220=>⟨true,[0,2],false,fun _=> []⟩
 |221=>⟨true,[0,2],false,fun _=> []⟩
 |222=>⟨true,[0,1,2,6],false,fun _=> []⟩
 |223=>⟨true,[0,1,2,3,4,10],false,fun _=> []⟩
 |224=>⟨true,[0,1,4,6,7,8,9,10,16],false,fun _=> []⟩
 |225=>⟨true,[0,1,4,5,6,7,8,12,13,28,52],false,fun _=> []⟩
 |226=>⟨true,[0,6,19],false,fun _=> []⟩
 |227=>⟨true,[0,1,4],false,fun|0=> [(8,12)]|_=> []⟩
 |228=>⟨true,[0,2,3,9],true,fun _=> []⟩
 |229=>⟨true,[0,1,2,3,4,6],false,fun _=> []⟩
 |230=>⟨true,[0,1,2,3,8,9,18],false,fun _=> []⟩
 |231=>⟨true,[0,1,4,5,6,12,21,34],false,fun _=> []⟩
 |234=>⟨true,[0,1,4],false,fun _=> []⟩
 |235=>⟨true,[0,1,2,4],true,fun|1=> [(2,3)]|_=> []⟩
 |236=>⟨true,[0,1,4,13],false,fun _=> []⟩
 |237=>⟨true,[0,1,4,16],false,fun _=> []⟩
 |238=>⟨true,[0,2,3,4,5,9,16],false,fun _=> []⟩
 |239=>⟨true,[0,1,4,7,12],false,fun _=> []⟩
 |240=>⟨true,[0,1,4,7,15],false,fun _=> []⟩
 |241=>⟨true,[0,1,4,5,6,9,18],false,fun _=> []⟩
 |242=>⟨true,[0,1,4,5,6,9,17,26],false,fun _=> []⟩
 |243=>⟨true,[0,1,4,5,7,8,9,16],false,fun _=> []⟩
 |244=>⟨true,[0,1,4],false,fun _=> []⟩
 |245=>⟨true,[0,2,3,10],false,fun _=> []⟩
 |246=>⟨true,[0,1,4],false,fun _=> []⟩
 |247=>⟨true,[0,2,3,4,5,6,10,18,27,33,35,48],false,fun _=> []⟩
 |248=>⟨true,[0,2,3,4,5,6,7,8,9,10,11,12,16,23,45,57,59,75,77,98],false,fun _=> []⟩
 |249=>⟨true,[0,1,4,5,6,7,8,9,10,11,12,13,14,15,16,26,33,43,51,64,98,108,124,139,143,156,160,171,175,176,177,181,183],false,fun _=> []⟩
 |250=>⟨true,[0,2],false,fun _=> []⟩
 |251=>⟨true,[0,1,4],false,fun _=> []⟩
 |252=>⟨true,[0,2,3,10],false,fun _=> []⟩
 |253=>⟨true,[0,2],false,fun _=> []⟩
 |255=>⟨true,[0,1,4],false,fun _=> []⟩
 |_=>⟨false,[],false,fun _=> []⟩
theorem good:Abs.Good Tryz.prog note:=Abs.X7 (by kernel_rfl)
theorem BN:(Tryz.prog).follows .mixedOrders=true:=by kernel_rfl
def Tg:FuncId→Option Nat:=Abs.adA [(52,1)]
def XL:FuncId→Option Abs.fF:=Abs.Hq [(170,Abs.BB Abs.IB),(171,Abs.BB Abs.NY),(176,Abs.Qp Z6),(47,Abs.Pb),(238,Abs.Af),(240,Abs.Af),(239,Abs.Af),(242,Abs.Af),(241,Abs.Af),(71,Abs.uE Z1),(128,Abs.uE Z6),(138,Abs.Qp Z3)]
theorem Pm:∀f q,XL f=some q→Abs.dJ Tryz.prog f q:=Abs.Pz _ (by
 intro p hp;simp only[aiV,List.not_mem_nil,or_false]at hp;rcases hp with rfl|rfl|rfl|rfl|rfl|rfl|rfl|rfl|rfl|rfl|rfl|rfl
 ·exact Xn
 ·exact YF
 ·exact WC Z6 rfl
 ·exact Fr.abn
 ·exact Abs.oW
 ·exact Abs.oW
 ·exact Abs.oW
 ·exact Abs.oW
 ·exact Abs.oW
 ·exact Ig.abt Z1 rfl
 ·exact Wi Z6 rfl
 ·exact Id.Ww Z3 rfl
)
abbrev fE(f:FuncId)(s:Abs.Spec):Prop:=Abs.gI Tryz.prog f s
def bL{β:Type}:List (Nat×β)→Nat→Option β
 | [],_=>none
 |(k,x)::r,n=>bif n==k then some x else bL r n
def bF{α β:Type}:α→Option β:=fun _=>none
def jC:Nat→Nat→Nat:=fun _ _=>0
def BH:Nat→Abs.iR:=fun _=>{}
theorem okW{l:List (FuncId×Abs.Spec)}(an:Nat→Abs.iR){f:FuncId}{sp:Abs.Spec}(hl:∀p∈l,fE p.1 p.2)(hon:(note f).on=true:=by rfl)(h:∀v,(Abs.bodyC Tryz.prog note XL Tg (Abs.vg l) an 12 f sp.keep sp.σi sp.σo v).mean=sp.m v:=by intro v;kernel_rfl):fE f sp:=
 Abs.Ad (C:=XL) (mv:=Tg) Pm (n:=12) good BN (Abs.nH l hl) hon h
theorem fV:∀p∈([]:List (FuncId×Abs.Spec)),fE p.1 p.2:=fun _ h=>by cases h
theorem bK{f:FuncId}{sp:Abs.Spec}{l:List (FuncId×Abs.Spec)}(h:fE f sp)(t:∀p∈l,fE p.1 p.2):∀p∈(f,sp)::l,fE p.1 p.2:=List.forall_mem_cons.2 ⟨h,t⟩
def i9:Abs.Sg:=⟨[0],(.dat rIz .nil),.nil⟩
def m9(v:(Ch×Unit)):Option gN:=
some ((decide ((v.1.1.length:Int)≤500),()),())
def sp9:Abs.Spec:=⟨0,i9,⟨[2],iU,.nil⟩,m9⟩
theorem ok9:fE 9 sp9:=okW BH fV
def r9(v:YA):Option (YA⊕(gN⊕zo)):=
bif decide (v.1.1<v.1.2.2.1)then bif decide (0≤v.1.1∧v.1.1<v.1.2.1.size)then
((let b:=(decide (((((v.1.2.1[v.1.1.toNat]?.getD 0).toNat:Nat):Int):Int)<97))
bif b then let c:=(decide (((((v.1.2.1[v.1.1.toNat]?.getD 0).toNat:Nat):Int):Int)<48))
bif c then let d:=(((((v.1.2.1[v.1.1.toNat]?.getD 0).toNat:Nat):Int):Int) !=95)
some ((d,v.1.2.1,v.1.2.2.1,v.1.1,()),())
else let e:=(decide (((((v.1.2.1[v.1.1.toNat]?.getD 0).toNat:Nat):Int):Int)>57))
bif e then let f:=(((((v.1.2.1[v.1.1.toNat]?.getD 0).toNat:Nat):Int):Int) !=95)
some ((f,v.1.2.1,v.1.2.2.1,v.1.1,()),())
else some ((false,v.1.2.1,v.1.2.2.1,v.1.1,()),())
else let g:=(decide (((((v.1.2.1[v.1.1.toNat]?.getD 0).toNat:Nat):Int):Int)>122))
bif g then let h:=(decide (((((v.1.2.1[v.1.1.toNat]?.getD 0).toNat:Nat):Int):Int)<48))
bif h then let j:=(((((v.1.2.1[v.1.1.toNat]?.getD 0).toNat:Nat):Int):Int) !=95)
some ((j,v.1.2.1,v.1.2.2.1,v.1.1,()),())
else let k:=(decide (((((v.1.2.1[v.1.1.toNat]?.getD 0).toNat:Nat):Int):Int)>57))
bif k then let l:=(((((v.1.2.1[v.1.1.toNat]?.getD 0).toNat:Nat):Int):Int) !=95)
some ((l,v.1.2.1,v.1.2.2.1,v.1.1,()),())
else some ((false,v.1.2.1,v.1.2.2.1,v.1.1,()),())
else some ((false,v.1.2.1,v.1.2.2.1,v.1.1,()),())):Option Zn).bind fun a=>
bif a.1.1 then some (.inr (.inl ((false,()),())))
else some (.inl ((aP (a.1.2.2.2.1+1),a.1.2.1,a.1.2.2.1,()),()))
else none
else(some (.inr (.inr ((),()))))
def Qu(v:CG):Option gN:=
((bif v.1.1.toList==ByteArray.empty.toList then some ((true,v.1),())
else bif decide ((v.1.1.size:Int)>24)then some ((true,v.1),())
else bif decide ((0:Int)≤0∧(0:Int)<v.1.1.size)then
let b:=(decide (((((v.1.1[0]?.getD 0).toNat:Nat):Int):Int)<97))
bif b then some ((true,v.1),())
else bif decide ((0:Int)≤0∧(0:Int)<v.1.1.size)then
let c:=(decide (((((v.1.1[0]?.getD 0).toNat:Nat):Int):Int)>122))
some ((c,v.1),())
else none
else none):Option ((Bool×ByteArray×Unit)×Unit)).bind fun a=>
bif a.1.1 then some ((false,()),())
else((aB r9 ((0,a.1.2.1,(a.1.2.1.size:Int),()),())).bind fun d=>
ax d (fun e=>(some e)) (fun f=>(some ((true,()),()))))
def acH:Abs.Spec:=⟨0,⟨[0],ja,.nil⟩,⟨[2],iU,.nil⟩,Qu⟩
def ae7:Nat→Abs.iR
 |0=>.mk (bL [(7,⟨[47,0,23,24],(.dat .bool (.dat .str oI)),.nil⟩),(1,⟨[21,0],(.dat .bool ja),.nil⟩)]) bF (bL [(4,⟨⟨[24,0,23],(.dat aV VJ),.nil⟩,Ro5⟩)]) jC
 |_=>{}
theorem Va:fE 115 acH:=okW ae7 fV
def sN(v:YA):Option (YA⊕(gN⊕CG)):=
bif decide (v.1.1<v.1.2.2.1)then((bif decide (0≤v.1.1∧v.1.1<v.1.2.1.size)then
let b:=(decide (((((v.1.2.1[v.1.1.toNat]?.getD 0).toNat:Nat):Int):Int)<32))
bif b then some ((true,v.1.2.1,v.1.2.2.1,v.1.1,()),())
else bif decide (0≤v.1.1∧v.1.1<v.1.2.1.size)then
let c:=(decide (((((v.1.2.1[v.1.1.toNat]?.getD 0).toNat:Nat):Int):Int)>126))
some ((c,v.1.2.1,v.1.2.2.1,v.1.1,()),())
else none
else none):Option Zn).bind fun a=>
bif a.1.1 then some (.inr (.inl ((false,()),())))
else some (.inl ((aP (a.1.2.2.2.1+1),a.1.2.1,a.1.2.2.1,()),()))
else(some (.inr (.inr ((v.1.2.1,()),()))))
def Ur(v:CG):Option gN:=
(aB sN ((0,v.1.1,(v.1.1.size:Int),()),())).bind fun a=>
ax a (fun b=>(some b)) (fun c=>(some ((decide ((c.1.1.size:Int)≤64),()),())))
def afb:Abs.Spec:=⟨0,⟨[0],ja,.nil⟩,⟨[2],iU,.nil⟩,Ur⟩
def ad5:Nat→Abs.iR
 |0=>.mk (bL [(4,⟨[18,0,5,6],(.dat .bool (.dat .str oI)),.nil⟩)]) bF (bL [(2,⟨⟨[6,0,5],(.dat aV VJ),.nil⟩,(.more .ret ⟨[2],iU,.nil⟩ abJ)⟩)]) jC
 |_=>{}
theorem Ze:fE 116 afb:=okW ad5 fV
def UD(v:Ye):Option gN:=
(((Qu ((v.1.1.1,()),())).bind fun a=>
bif a.1.1 then bif decide (v.1.1.2.1≥0)then bif decide (v.1.1.2.1≤3)then(Ur (v.1.1.2.2,())).bind fun b=>
some b
else some ((false,()),())
else some ((false,()),())
else some ((false,()),())):Option gN).bind fun c=>
some c
def afi:Abs.Spec:=⟨0,⟨[0],aaX,.nil⟩,⟨[2],iU,.nil⟩,UD⟩
def ae6:Nat→Abs.iR
 |0=>.mk (bL [(1,⟨[2],iU,.nil⟩)]) bF bF jC
 |_=>{}
theorem ZH:fE 217 afi:=okW ae6 (bK Va (bK Ze fV))
def YP(v:Ye):Option gN:=
(UD v).bind fun a=>
some ((!a.1.1,()),())
def ac0:Abs.Spec:=⟨0,⟨[0],aaX,.nil⟩,⟨[2],iU,.nil⟩,YP⟩
theorem afA:fE 187 ac0:=okW BH (bK ZH fV)
def Wq(v:CG):Option gN:=
(Qu v).bind fun a=>
some a
def aev:Abs.Spec:=⟨0,⟨[0],ja,.nil⟩,⟨[2],iU,.nil⟩,Wq⟩
theorem adq:fE 218 aev:=okW BH (bK Va fV)
def qX(v:adr):Option (adr⊕(gN⊕zo)):=
bif decide (v.1.1<v.1.2.2.2.1)then Abs.rowAt v.1.2.2.1 v.1.1 fun b _=>
(((Wq ((b,()),())).bind fun d=>
bif !d.1.1 then some ((true,v.1.2.1,v.1.2.2.1,v.1.2.2.2.1,v.1.1,()),())
else bif decide (v.1.1>0)then Abs.rowAt v.1.2.1 (aP (v.1.1-1)) fun c _=>
some ((Op.bytesLess b.toList c.toList||b.toList==c.toList,v.1.2.1,v.1.2.2.1,v.1.2.2.2.1,v.1.1,()),())
else some ((false,v.1.2.1,v.1.2.2.1,v.1.2.2.2.1,v.1.1,()),())):Option ((Bool×List ByteArray×List ByteArray×Int×Int×Unit)×Unit)).bind fun a=>
bif a.1.1 then some (.inr (.inl ((false,()),())))
else some (.inl ((aP (a.1.2.2.2.2.1+1),a.1.2.1,a.1.2.2.1,a.1.2.2.2.1,()),()))
else(some (.inr (.inr ((),()))))
def TU(v:(Vm×Unit)):Option gN:=
(aB qX ((0,v.1.1,v.1.1,(v.1.1.length:Int),()),())).bind fun a=>
ax a (fun b=>(some b)) (fun c=>(some ((true,()),())))
def afr:Abs.Spec:=⟨0,⟨[0],Vw,.nil⟩,⟨[2],iU,.nil⟩,TU⟩
def afF:Nat→Abs.iR
 |0=>.mk (bL [(4,⟨[27,0,5,6,7],(.dat .bool (.dat PV (.dat PV oI))),.nil⟩)]) bF (bL [(2,⟨⟨[7,0,5,6],(.dat aV (.dat PV (.dat PV dw))),.nil⟩,Ro5⟩)]) jC
 |_=>{}
theorem ZE:fE 188 afr:=okW afF (bK adq fV)
def tX(v:Lb):Option (Lb⊕(wQ⊕zo)):=
bif decide (v.1.1<v.1.2.2.1)then Abs.rowAt v.1.2.1 v.1.1 fun a _=>
(YP ((a,()),())).bind fun b=>
bif b.1.1 then some (.inr (.inl ((v.1.1,()),())))
else some (.inl ((aP (v.1.1+1),v.1.2),()))
else(some (.inr (.inr ((),()))))
def Wv(v:((Y4×Int×Unit)×Unit)):Option wQ:=
((bif v.1.2.1==0 then bif v.1.1.1 !=(-1)then some ((true,()),(v.1.1,()),())
else bif decide (v.1.2.1>0)then bif decide (v.1.1.1<0)then some ((true,()),(v.1.1,()),())
else some ((decide (v.1.1.1≥v.1.2.1),()),(v.1.1,()),())
else some ((false,()),(v.1.1,()),())
else bif decide (v.1.2.1>0)then bif decide (v.1.1.1<0)then some ((true,()),(v.1.1,()),())
else some ((decide (v.1.1.1≥v.1.2.1),()),(v.1.1,()),())
else some ((false,()),(v.1.1,()),())):Option (tu×Nk)).bind fun c=>
bif c.1.1 then some ((3,()),())
else(((let d:=(decide ((c.2.1.1.2.1.length:Int)>8))
bif d then some ((true,()),c.2)
else let e:=(decide ((c.2.1.1.2.2.2.1.length:Int)>12))
some ((e,()),c.2)):Option (tu×Nk)).bind fun b=>
bif b.1.1 then some ((5,()),())
else(((((aB tX ((0,b.2.1.1.2.1,(b.2.1.1.2.1.length:Int),()),())).bind fun f=>
ax f (fun g=>(some ((decide (g.1.1≥0),()),()))) (fun o=>(some ((false,()),())))):Option gN).bind fun h=>
bif h.1.1 then some ((true,()),b.2)
else(TU ((b.2.1.1.2.2.2.1,()),())).bind fun j=>
some ((!j.1.1,()),b.2)):Option (tu×Nk)).bind fun a=>
bif a.1.1 then some ((8,()),())
else((bif decide (a.2.1.1.2.2.1<0)then some ((true,()),())
else bif decide (a.2.1.1.2.2.2.2.1<0)then some ((true,()),())
else let k:=(decide (a.2.1.1.2.2.2.2.1>a.2.1.1.2.2.2.2.2.1))
bif k then some ((true,()),())
else let l:=(decide (a.2.1.1.2.2.2.2.2.1>a.2.1.1.2.2.2.2.2.2.1))
bif l then some ((true,()),())
else let m:=(decide (a.2.1.1.2.2.2.2.2.2.1>604800))
bif m then some ((true,()),())
else some ((a.2.1.1.2.2.2.2.2.2.1==0,()),())):Option gN).bind fun n=>
bif n.1.1 then some ((1,()),())
else some ((0,()),()))
def adE:Abs.Spec:=⟨0,⟨[0,1],(.dat Z2 dw),.nil⟩,⟨[4],dw,.nil⟩,Wv⟩
def ae9:Nat→Abs.iR
 |0=>.mk (bL [(7,⟨[49],iU,.nil⟩),(5,⟨[39,2],(.dat .bool aaG),Ve⟩),(3,⟨[28,2],(.dat .bool aaG),Ve⟩),(1,⟨[5,2],(.dat .bool aaG),Ve⟩)]) bF bF (fun
  |5,2=>1
  |_,_=>0)
 |1=>.mk (bL [(1,⟨[4],iU,.nil⟩)]) bF bF (fun
  |1,2=>2
  |_,_=>0)
 |2=>.mk bF bF (bL [(2,⟨⟨[8,0,1,7],(.dat aV (.dat (.row OB) (.st (.clo 187 []) dw))),.nil⟩,ZA⟩)]) jC
 |_=>{}
theorem aeO:fE 139 adE:=okW ae9 (bK afA (bK ZE fV))
def Cx(v:af6):Option (af6⊕(wQ⊕Wl)):=
bif decide (v.1.1<v.1.2.2.2.1)then Abs.rowAt v.1.2.1 v.1.1 fun b _=>
(Wv ((b,v.1.1,()),())).bind fun a=>
bif a.1.1 !=0 then some (.inr (.inl a))
else some (.inl ((aP (v.1.1+1),v.1.2),()))
else(some (.inr (.inr ((v.1.2.2.1,()),()))))
def m78(v:Wl):Option wQ:=
bif (v.1.1.length:Int)==0 then some ((7,()),())
else(bif decide ((v.1.1.length:Int)>24)then some ((5,()),())
else(aB Cx ((0,v.1.1,v.1.1,(v.1.1.length:Int),()),())).bind fun a=>
ax a (fun b=>(some b)) (fun c=>(Abs.rowAt c.1.1 0 fun d _=>
bif decide ((d.2.1.length:Int)>0)then some ((8,()),())
else some ((0,()),()))))
def agv:Abs.Spec:=⟨0,⟨[0],abE,.nil⟩,⟨[2],dw,.nil⟩,m78⟩
def ah6:Nat→Abs.iR
 |0=>.mk bF bF (bL [(6,⟨⟨[16,14,0,15],(.dat aV (.dat FN aa2)),.nil⟩,(.more .ret ⟨[2],dw,.nil⟩ (.one (.exit 1) ⟨[0],abE,.nil⟩))⟩)]) jC
 |_=>{}
theorem aay:fE 78 agv:=okW ah6 (bK aeO fV)
def QU(v:Ye):Option gN:=
(UD v).bind fun a=>
some ((!a.1.1,()),())
def af3:Abs.Spec:=⟨0,⟨[0],aaX,.nil⟩,⟨[2],iU,.nil⟩,QU⟩
theorem ZR:fE 189 af3:=okW BH (bK ZH fV)
def rX(v:Lb):Option (Lb⊕(wQ⊕zo)):=
bif decide (v.1.1<v.1.2.2.1)then Abs.rowAt v.1.2.1 v.1.1 fun a _=>
(QU ((a,()),())).bind fun b=>
bif b.1.1 then some (.inr (.inl ((v.1.1,()),())))
else some (.inl ((aP (v.1.1+1),v.1.2),()))
else(some (.inr (.inr ((),()))))
def sW(v:Lb):Option (Lb⊕(wQ⊕zo)):=
bif decide (v.1.1<v.1.2.2.1)then Abs.rowAt v.1.2.1 v.1.1 fun a _=>
(QU ((a,()),())).bind fun b=>
bif b.1.1 then some (.inr (.inl ((v.1.1,()),())))
else some (.inl ((aP (v.1.1+1),v.1.2),()))
else(some (.inr (.inr ((),()))))
def YR(v:((FK×Unit)×Unit)):Option wQ:=
((bif (v.1.1.1.length:Int)==0 then some ((true,()),v)
else some (((v.1.1.2.1.length:Int)==0,()),v)):Option (tu×((FK×Unit)×Unit))).bind fun a=>
bif a.1.1 then some ((7,()),())
else(((let c:=(decide ((a.2.1.1.1.length:Int)>8))
bif c then some ((true,()),a.2)
else let d:=(decide ((a.2.1.1.2.1.length:Int)>8))
bif d then some ((true,()),a.2)
else let e:=(decide ((a.2.1.1.2.2.1.length:Int)>12))
some ((e,()),a.2)):Option (tu×((FK×Unit)×Unit))).bind fun b=>
bif b.1.1 then some ((5,()),())
else(((((aB rX ((0,b.2.1.1.1,(b.2.1.1.1.length:Int),()),())).bind fun f=>
ax f (fun g=>(some ((decide (g.1.1≥0),()),()))) (fun o=>(some ((false,()),())))):Option gN).bind fun h=>
bif h.1.1 then some ((true,()),())
else(((aB sW ((0,b.2.1.1.2.1,(b.2.1.1.2.1.length:Int),()),())).bind fun j=>
ax j (fun k=>(some ((decide (k.1.1≥0),()),()))) (fun p=>(some ((false,()),())))):Option gN).bind fun l=>
bif l.1.1 then some ((true,()),())
else(TU (b.2.1.1.2.2,())).bind fun m=>
some ((!m.1.1,()),())):Option gN).bind fun n=>
bif n.1.1 then some ((8,()),())
else some ((0,()),()))
def adh:Abs.Spec:=⟨0,⟨[0],(.dat Z8 .nil),.nil⟩,⟨[2],dw,.nil⟩,YR⟩
def ada:Nat→Abs.iR
 |0=>.mk (bL [(5,⟨[31],iU,.nil⟩),(3,⟨[14,1],(.dat .bool (.st BZ .nil)),YE⟩),(1,⟨[3,1],(.dat .bool (.st BZ .nil)),YE⟩)]) bF bF (fun
  |5,6=>3
  |5,2=>1
  |_,_=>0)
 |1=>.mk (bL [(1,⟨[4],iU,.nil⟩)]) bF bF (fun
  |1,2=>2
  |_,_=>0)
 |2=>.mk bF bF (bL [(2,⟨⟨[8,0,1,7],abo,.nil⟩,ZA⟩)]) jC
 |3=>.mk (bL [(1,⟨[4],iU,.nil⟩)]) bF bF (fun
  |1,2=>4
  |_,_=>0)
 |4=>.mk bF bF (bL [(2,⟨⟨[8,0,1,7],abo,.nil⟩,ZA⟩)]) jC
 |_=>{}
theorem adG:fE 140 adh:=okW ada (bK ZR (bK ZE fV))
def CB(v:Zi):Option (Zi⊕(wQ⊕zo)):=
bif decide (v.1.1<v.1.2.2.1)then Abs.rowAt v.1.2.1 v.1.1 fun b _=>
(YR ((b,()),())).bind fun a=>
bif a.1.1 !=0 then some (.inr (.inl a))
else some (.inl ((aP (v.1.1+1),v.1.2),()))
else(some (.inr (.inr ((),()))))
def m79(v:((List FK×Unit)×Unit)):Option wQ:=
bif decide ((v.1.1.length:Int)>12)then some ((5,()),())
else((aB CB ((0,v.1.1,(v.1.1.length:Int),()),())).bind fun a=>
ax a (fun b=>(some b)) (fun c=>(some ((0,()),()))))
def ahA:Abs.Spec:=⟨0,⟨[0],(.dat Es .nil),.nil⟩,⟨[2],dw,.nil⟩,m79⟩
def agz:Nat→Abs.iR
 |0=>.mk bF bF (bL [(4,⟨⟨[11,9,10],(.dat aV (.dat Es dw)),.nil⟩,(.more .ret ⟨[2],dw,.nil⟩ Ro1)⟩)]) jC
 |_=>{}
theorem aho:fE 79 ahA:=okW agz (bK adG fV)
def m34(v:(Pe×Unit)):Option wQ:=
(m78 ((v.1.1.1,()),())).bind fun a=>
bif a.1.1 !=0 then some a
else((m79 ((v.1.1.2.1,()),())).bind fun b=>
bif b.1.1 !=0 then some b
else((bif decide (v.1.1.2.2.1<0)then some ((true,()),())
else some ((decide (v.1.1.2.2.1>604800),()),())):Option gN).bind fun c=>
bif c.1.1 then some ((1,()),())
else some ((0,()),()))
def agE:Abs.Spec:=⟨0,⟨[0],qL,.nil⟩,⟨[2],dw,.nil⟩,m34⟩
def ahk:Nat→Abs.iR
 |0=>.mk (bL [(7,⟨[24],iU,.nil⟩)]) bF bF jC
 |_=>{}
theorem abe:fE 34 agE:=okW ahk (bK aay (bK aho fV))
def m26(v:zo):Option (Unit×(zl×Unit)):=
some ((),((0,1,()),()),())
def agb:Abs.Spec:=⟨0,⟨[],.nil,.nil⟩,⟨[0],(.st jF .nil),(.box 4 qV .nil)⟩,m26⟩
theorem abN:fE 26 agb:=okW BH fV
def Co(v:acy):Option (acy⊕(Ih×Unit)):=
bif decide (v.1.1<v.1.2.2.2.2.1)then((Abs.rowAt v.1.2.2.2.1 v.1.1 fun b _=>
((bif b.2.2.2.1 !=(-1)then bif !v.1.2.2.1 then some ((true,v.1.2.2.2.1,v.1.2.2.2.2.1,v.1.1,v.1.2.1,v.1.2.2.1,()),(b,()),())
else some ((decide (b.2.2.2.1<v.1.2.1),v.1.2.2.2.1,v.1.2.2.2.2.1,v.1.1,v.1.2.1,v.1.2.2.1,()),(b,()),())
else some ((false,v.1.2.2.2.1,v.1.2.2.2.2.1,v.1.1,v.1.2.1,v.1.2.2.1,()),(b,()),())):Option ((Bool×List o5×Int×Int×Int×Bool×Unit)×Uf)).bind fun a=>
bif a.1.1 then some ((a.2.1.1.2.2.2.1,true,a.1.2.1,a.1.2.2.1,a.1.2.2.2.1,()),())
else some ((a.1.2.2.2.2.1,a.1.2.2.2.2.2.1,a.1.2.1,a.1.2.2.1,a.1.2.2.2.1,()),())):Option ((Int×Bool×List o5×Int×Int×Unit)×Unit)).bind fun c=>
some (.inl ((aP (c.1.2.2.2.2.1+1),c.1.1,c.1.2.1,c.1.2.2.1,c.1.2.2.2.1,()),()))
else(some (.inr ((v.1.2.2.1,v.1.2.1,()),())))
def Vf(v:(S9×Unit)):Option Y2:=
(aB Co ((0,0,false,v.1.1.2.1,(v.1.1.2.1.length:Int),()),())).bind fun a=>
some ((a.1.2.1,a.1.1,()),())
def agT:Abs.Spec:=⟨0,⟨[0],VA,.nil⟩,⟨[2,3],L8,.nil⟩,Vf⟩
def ahE:Nat→Abs.iR
 |0=>.mk (bL [(5,⟨[27,9,10,11,7,4,5],(.dat .bool (.dat SL (.dat aV (.dat aV (.st qw L8))))),EF⟩)]) (bL [(7,(⟨[4,5,9,10,11],(.dat aV (.dat .bool (.dat SL oI))),.nil⟩,none))]) (bL [(3,⟨⟨[11,4,5,9,10],(.dat aV (.dat aV (.dat .bool ae0))),.nil⟩,(.one (.exit 0) ⟨[5,4],XC,.nil⟩)⟩)]) jC
 |_=>{}
theorem aaH:fE 30 agT:=okW ahE fV
def Xf(v:((List o5×Unit)×Unit)):Option (Unit×(List o5×Unit)):=
bif decide (v.1.1.length≤4294967296)then some ((),v.1)else none
def adH:Abs.Spec:=⟨0,⟨[0],(.dat SL .nil),.nil⟩,⟨[2],(.st Iy .nil),(.arr Z1 false .nil)⟩,Xf⟩
theorem acJ:Abs.gI Tryz.prog 112 adH:=
 Abs.sG (N:=note) (t:=Z1) BN (Abs.p8 (n:=12) (an:=fun _=>{}) (T:=Abs.vg []) good BN (Abs.nH _ (fun _ h=>by cases h)) rfl (by intro v;kernel_rfl)) (by kernel_rfl) (by kernel_rfl)
def aaT(v:(Fq×Unit)):Option (Unit×Fq):=
bif decide (v.1.1.length≤4294967296)then some ((),v.1)else none
def aew:Abs.Spec:=⟨0,⟨[0],(.dat zQ .nil),.nil⟩,⟨[2],(.st Rm .nil),xX⟩,aaT⟩
theorem acQ:Abs.gI Tryz.prog 165 aew:=
 Abs.sG (N:=note) (t:=Z3) BN (Abs.p8 (n:=12) (an:=fun _=>{}) (T:=Abs.vg []) good BN (Abs.nH _ (fun _ h=>by cases h)) rfl (by intro v;kernel_rfl)) (by kernel_rfl) (by kernel_rfl)
def abA(v:((Y7×Unit)×Unit)):Option (Unit×(Y7×Unit)):=
bif decide (v.1.1.length≤4294967296)then some ((),v.1)else none
def aeF:Abs.Spec:=⟨0,⟨[0],(.dat (.row OB) .nil),.nil⟩,⟨[2],(.st (.own OB (0,0)) .nil),(.arr OB false .nil)⟩,abA⟩
theorem adj:Abs.gI Tryz.prog 166 aeF:=
 Abs.sG (N:=note) (t:=OB) BN (Abs.p8 (n:=12) (an:=fun _=>{}) (T:=Abs.vg []) good BN (Abs.nH _ (fun _ h=>by cases h)) rfl (by intro v;kernel_rfl)) (by kernel_rfl) (by kernel_rfl)
def xq(v:(zk×Fq)):Option ((zk×Fq)⊕(Unit×Fq)):=
bif decide (v.1.1<v.1.2.1)then bif decide (0≤v.1.1∧v.1.1<v.2.1.length)then
(v.2.1[v.1.1.toNat]?).bind fun b=>
(abA (b.2.2.2.2,())).bind fun c=>
bif decide (0≤v.1.1∧v.1.1<v.2.1.length)then
(v.2.1[v.1.1.toNat]?).bind fun a=>
some (.inl ((aP (v.1.1+1),v.1.2),v.2.1.set v.1.1.toNat (a.1,a.2.1,a.2.2.1,a.2.2.2.1,c.2),()))
else none
else none
else(some (.inr ((),v.2)))
def Ms(v:(Fq×Unit)):Option (Unit×Fq):=
(aaT v).bind fun a=>
(aB xq ((0,((a.2.1.length:Nat):Int),()),a.2)).bind fun b=>
some ((),b.2)
def aeN:Abs.Spec:=⟨0,⟨[0],(.dat zQ .nil),.nil⟩,⟨[2],(.st Rm .nil),xX⟩,Ms⟩
def ae5:Nat→Abs.iR
 |0=>.mk bF bF (bL [(3,⟨⟨[9,3,8],(.dat aV (.st Rm dw)),xX⟩,(.one (.exit 0) ⟨[3],(.st Rm .nil),xX⟩)⟩)]) jC
 |_=>{}
theorem Ta:fE 111 aeN:=okW ae5 (bK acQ (bK adj fV))
def ab6(v:((Y5×Unit)×Unit)):Option (Unit×(Y5×Unit)):=
bif decide (v.1.1.length≤4294967296)then some ((),v.1)else none
def afo:Abs.Spec:=⟨0,⟨[0],(.dat BO .nil),.nil⟩,⟨[2],(.st KQ .nil),PL⟩,ab6⟩
theorem adK:Abs.gI Tryz.prog 167 afo:=
 Abs.sG (N:=note) (t:=Z6) BN (Abs.p8 (n:=12) (an:=fun _=>{}) (T:=Abs.vg []) good BN (Abs.nH _ (fun _ h=>by cases h)) rfl (by intro v;kernel_rfl)) (by kernel_rfl) (by kernel_rfl)
def RD(v:Tf):Option SI:=
bif decide (v.1.1.length≤4294967296)then some ((),v.1)else none
def acP:Abs.Spec:=⟨0,⟨[0],qK,.nil⟩,⟨[2],aaF,RF⟩,RD⟩
theorem ZY:Abs.gI Tryz.prog 103 acP:=
 Abs.sG (N:=note) (t:=Uu) BN (Abs.p8 (n:=12) (an:=fun _=>{}) (T:=Abs.vg []) good BN (Abs.nH _ (fun _ h=>by cases h)) rfl (by intro v;kernel_rfl)) (by kernel_rfl) (by kernel_rfl)
def yh(v:(zk×aam)):Option ((zk×aam)⊕Oo):=
bif decide (v.1.1<v.1.2.1)then bif decide (0≤v.1.1∧v.1.1<v.2.2.2.1.length)then
(v.2.2.2.1[v.1.1.toNat]?).bind fun b=>
(RD ((b.2.1,()),())).bind fun c=>
bif decide (0≤v.1.1∧v.1.1<v.2.2.2.1.length)then
(v.2.2.2.1[v.1.1.toNat]?).bind fun a=>
some (.inl ((aP (v.1.1+1),v.1.2),v.2.1,v.2.2.1,v.2.2.2.1.set v.1.1.toNat (a.1,c.2.1,a.2.2),()))
else none
else none
else(some (.inr ((),v.2.2.1,v.2.1,v.2.2.2)))
def MO(v:R4):Option (Unit×(A8×Y5×Unit)):=
(ab6 ((v.1.1.2.2.1,()),())).bind fun a=>
(aB yh ((0,((a.2.1.length:Nat):Int),()),((v.1.1.1,v.1.1.2.1,v.1.1.2.2.2),()),((0,ByteArray.empty,0,0,()),()),a.2)).bind fun b=>
some ((),b.2.2)
def aeQ:Abs.Spec:=⟨0,⟨[0],Vv,.nil⟩,⟨[2],JE,Hw⟩,MO⟩
def adu:Nat→Abs.iR
 |0=>.mk bF bF (bL [(3,⟨⟨[11,1,2,10],(.dat aV (.st qw (.st JD dw))),(.box 5 (.agg (.dat aV (.dat .str (.st (.own Z6 (2,0)) oI))) .nil) (.box 5 J3 PL))⟩,(.one (.exit 0) ⟨[2,1],Xm,Ym⟩)⟩)]) jC
 |_=>{}
theorem OC:fE 113 aeQ:=okW adu (bK adK (bK ZY fV))
def Cw(v:Zr):Option (Zr⊕(Unit×(zl×zl×List o5×uh×Unit))):=
bif decide (v.1.1<v.1.2.1)then bif decide (0≤v.1.1∧v.1.1<v.2.2.1.length)then
(v.2.2.1[v.1.1.toNat]?).bind fun b=>
(MO ((b,()),())).bind fun a=>
bif decide (0≤v.1.1∧v.1.1<v.2.2.1.length)then
bif decide (v.1.1.toNat<v.2.2.1.length)then
some (.inl ((aP (v.1.1+1),v.1.2),v.2.1,v.2.2.1.set v.1.1.toNat (a.2.1.1.1,a.2.1.1.2.1,a.2.2.1,a.2.1.1.2.2),v.2.2.2))
else none
else none
else none
else(some (.inr ((),v.2.2.2.1,v.2.1,v.2.2.1,v.2.2.2.2)))
def i64:Abs.Sg:=⟨[0],VA,.nil⟩
def m64(v:(S9×Unit)):Option (Unit×Mh):=
(Xf ((v.1.1.2.1,()),())).bind fun a=>
(Ms ((v.1.1.2.2.1,()),())).bind fun b=>
(aB Cw ((0,((a.2.1.length:Nat):Int),()),((v.1.1.1,v.1.1.2.2.2),()),a.2.1,((0,0,()),()),b.2)).bind fun c=>
some ((),c.2.2)
def agm:Abs.Spec:=⟨0,i64,⟨[2],(.st jF .nil),SF⟩,m64⟩
def ahF:Nat→Abs.iR
 |0=>.mk bF bF (bL [(3,⟨⟨[16,1,14,2,15],(.dat aV (.st jF (.st Qv (.st NE dw)))),(.box 4 (.agg (.dat aV (.st Qv (.st (.own Z3 (3,0)) dw))) .nil) (.arr Z1 false (.box 4 qV xX)))⟩,(.one (.exit 0) ⟨[2,1],(.st jF (.st xC .nil)),(.box 4 qV (.box 4 (.agg (.dat aV (.st (.own Z1 (2,0)) (.st (.own Z3 (3,0)) dw))) .nil) Qz))⟩)⟩)]) jC
 |_=>{}
theorem XO:fE 64 agm:=okW ahF (bK acJ (bK Ta (bK OC fV)))
def CK(v:(UB×Unit)):Option gN:=
((bif decide (v.1.1≥v.1.2.1)then some ((decide (v.1.1≤v.1.2.2.1),()),())
else some ((false,()),())):Option gN).bind fun a=>
some a
def aeu:Abs.Spec:=⟨0,⟨[0,1,2],Ib,.nil⟩,⟨[6],iU,.nil⟩,CK⟩
def adb:Nat→Abs.iR
 |0=>.mk (bL [(1,⟨[6],iU,.nil⟩)]) bF bF jC
 |_=>{}
theorem Kz:fE 125 aeu:=okW adb fV
def xZ(v:((Int×gM×gM×Int×Unit)×Unit)):Option (((Int×gM×gM×Int×Unit)×Unit)⊕(gN⊕zo)):=
bif decide (v.1.1<v.1.2.2.2.1)then Abs.rowAt v.1.2.2.1 v.1.1 fun a _=>
(((Qu ((a.1,()),())).bind fun d=>
bif !d.1.1 then some ((true,v.1.2.1,v.1.2.2.1,v.1.2.2.2.1,v.1.1,()),())
else(Ur (a.2,())).bind fun e=>
bif !e.1.1 then some ((true,v.1.2.1,v.1.2.2.1,v.1.2.2.2.1,v.1.1,()),())
else bif a.2.1.toList==ByteArray.empty.toList then some ((true,v.1.2.1,v.1.2.2.1,v.1.2.2.2.1,v.1.1,()),())
else bif decide (v.1.1>0)then Abs.rowAt v.1.2.1 (aP (v.1.1-1)) fun c _=>
some ((Op.bytesLess a.1.toList c.1.toList||a.1.toList==c.1.toList,v.1.2.1,v.1.2.2.1,v.1.2.2.2.1,v.1.1,()),())
else some ((false,v.1.2.1,v.1.2.2.1,v.1.2.2.2.1,v.1.1,()),())):Option ((Bool×gM×gM×Int×Int×Unit)×Unit)).bind fun b=>
bif b.1.1 then some (.inr (.inl ((false,()),())))
else some (.inl ((aP (b.1.2.2.2.2.1+1),b.1.2.1,b.1.2.2.1,b.1.2.2.2.1,()),()))
else(some (.inr (.inr ((),()))))
def Y0(v:Tf):Option gN:=
bif decide ((v.1.1.length:Int)>12)then some ((false,()),())
else((aB xZ ((0,v.1.1,v.1.1,(v.1.1.length:Int),()),())).bind fun a=>
ax a (fun b=>(some b)) (fun c=>(some ((true,()),()))))
def agJ:Abs.Spec:=⟨0,⟨[0],qK,.nil⟩,⟨[2],iU,.nil⟩,Y0⟩
def ahl:Nat→Abs.iR
 |0=>.mk (bL [(6,⟨[44,0,8,9,10],(.dat .bool (.dat Ab (.dat Ab oI))),.nil⟩)]) bF (bL [(4,⟨⟨[10,0,8,9],(.dat aV (.dat Ab Qg)),.nil⟩,Ro5⟩)]) jC
 |_=>{}
theorem Qd:fE 66 agJ:=okW ahl (bK Va (bK Ze fV))
def sH(v:((Int×gM×Int×Unit)×Vm)):Option (((Int×gM×Int×Unit)×Vm)⊕(Unit×Vm)):=
bif decide (v.1.1<v.1.2.2.1)then Abs.rowAt v.1.2.1 v.1.1 fun a _=>
bif decide (a.1.size+1≤4294967296)then
bif decide (a.2.1.size≤4294967296)then
bif decide ((a.1++(bs [61])).size+(jN a.2.1).size≤4294967296)then
bif decide (v.2.1.length+ [((a.1++(bs [61]))++(jN a.2.1))].length≤4294967296)then
let b:=(v.2.1++ [((a.1++(bs [61]))++(jN a.2.1))])
some (.inl ((aP (v.1.1+1),v.1.2),b,()))
else none
else none
else none
else none
else(some (.inr ((),v.2)))
def QI(v:Tf):Option CG:=
(Y0 v).bind fun b=>
bif !b.1.1 then some ((ByteArray.empty,()),())
else((aB sH ((0,v.1.1,(v.1.1.length:Int),()),[],())).bind fun a=>
bif decide (List.length a.2.1≤4294967296∧(qH a.2.1 (bs [44])).size≤140737488355328)then
bif decide (1+(qH a.2.1 (bs [44])).size≤4294967296)then
bif decide (((bs [123])++(qH a.2.1 (bs [44]))).size+1≤4294967296)then
let c:=(((bs [123])++(qH a.2.1 (bs [44])))++(bs [125]))
some ((c,()),())
else none
else none
else none)
def aeP:Abs.Spec:=⟨0,⟨[0],qK,.nil⟩,⟨[2],ja,.nil⟩,QI⟩
def acV:Nat→Abs.iR
 |0=>.mk bF bF (bL [(5,⟨⟨[11,3,9,10],(.dat aV (.st aef Qg)),Zx⟩,(.one (.exit 0) ⟨[3],(.st aef .nil),Zx⟩)⟩)]) jC
 |_=>{}
theorem Tt:fE 118 aeP:=okW acV (bK Qd fV)
def X0(v:U7):Option gN:=
(((Y0 ((v.1.1.2.1,()),())).bind fun a=>
bif a.1.1 then(QI ((v.1.1.2.1,()),())).bind fun b=>
bif b.1.1.toList==v.1.1.1.toList then(CK ((v.1.1.2.2.1,0,8589934592,()),())).bind fun c=>
bif c.1.1 then(CK ((v.1.1.2.2.2.1,0,8589934592,()),())).bind fun d=>
bif d.1.1 then bif v.1.1.2.2.2.2.1 then some ((true,()),())
else some ((!v.1.1.2.2.2.2.2.1,()),())
else some ((false,()),())
else some ((false,()),())
else some ((false,()),())
else some ((false,()),())):Option gN).bind fun e=>
some e
def aeL:Abs.Spec:=⟨0,⟨[0],(.dat Z6 .nil),.nil⟩,⟨[2],iU,.nil⟩,X0⟩
def adL:Nat→Abs.iR
 |0=>.mk (bL [(1,⟨[2],iU,.nil⟩)]) bF bF jC
 |_=>{}
theorem aeG:fE 144 aeL:=okW adL (bK Qd (bK Tt (bK Kz fV)))
def yG(v:(UH×Uf)):Option ((UH×Uf)⊕(gN⊕zo)):=
bif decide (v.1.1<v.1.2.2.1)then Abs.rowAt v.1.2.1 v.1.1 fun b _=>
(((X0 ((b,()),())).bind fun d=>
bif !d.1.1 then some ((true,v.1.2.1,v.1.2.2.1,v.1.1,()),v.2)
else bif decide (v.1.1>0)then Abs.rowAt v.2.1.1.2.2.1 (aP (v.1.1-1)) fun c _=>
some ((Op.bytesLess b.1.toList c.1.toList||b.1.toList==c.1.toList,v.1.2.1,v.1.2.2.1,v.1.1,()),v.2)
else some ((false,v.1.2.1,v.1.2.2.1,v.1.1,()),v.2)):Option ((Bool×Y5×Int×Int×Unit)×Uf)).bind fun a=>
bif a.1.1 then some (.inr (.inl ((false,()),())))
else some (.inl ((aP (a.1.2.2.2.1+1),a.1.2.1,a.1.2.2.1,()),a.2))
else(some (.inr (.inr ((),()))))
def m82(v:R4):Option gN:=
((let b:=(decide ((v.1.1.2.2.1.length:Int)>256))
bif b then some ((true,()),v)
else bif decide (v.1.1.1<0)then some ((true,()),v)
else(CK ((v.1.1.2.2.2.1,-1,8589934592,()),())).bind fun c=>
bif !c.1.1 then some ((true,()),v)
else(CK ((v.1.1.2.2.2.2.1,-1,8589934592,()),())).bind fun d=>
some ((!d.1.1,()),v)):Option (tu×Uf)).bind fun a=>
bif a.1.1 then some ((false,()),())
else((aB yG ((0,a.2.1.1.2.2.1,(a.2.1.1.2.2.1.length:Int),()),a.2)).bind fun e=>
ax e (fun f=>(some f)) (fun g=>(some ((true,()),()))))
def afY:Abs.Spec:=⟨0,⟨[0],Vv,.nil⟩,⟨[2],iU,.nil⟩,m82⟩
def agL:Nat→Abs.iR
 |0=>.mk (bL [(6,⟨[52,1,27,28,29],(.dat .bool (.st qw (.dat BO oI))),EF⟩),(1,⟨[25,1],(.dat .bool JE),EF⟩)]) bF (bL [(4,⟨⟨[29,1,27,28],(.dat aV (.st qw afc)),EF⟩,Ro5⟩)]) jC
 |_=>{}
theorem Xk:fE 82 afY:=okW agL (bK Kz (bK aeG fV))
def Rb(v:((Y4×Unit)×Unit)):Option gN:=
(m78 ((([(-1,[],v.1.1.2.2)]:List Y4),()),())).bind fun a=>
some ((a.1.1==0,()),())
def afj:Abs.Spec:=⟨0,⟨[0],Cg,.nil⟩,⟨[2],iU,.nil⟩,Rb⟩
theorem T9:fE 124 afj:=okW BH (bK aay fV)
def TD(v:CG):Option gN:=
some ((!(v.1.1.toList==v.1.1.toList),()),())
def aej:Abs.Spec:=⟨0,⟨[0],ja,.nil⟩,⟨[2],iU,.nil⟩,TD⟩
theorem afm:fE 190 aej:=okW BH fV
def Ui(v:(wR×Unit)):Option wQ:=
(TD ((v.1.1,()),())).bind fun b=>
(TD (v.1.2,())).bind fun a=>
bif b.1.1 then bif a.1.1 then some ((0,()),())
else some ((-1,()),())
else(bif a.1.1 then some ((1,()),())
else bif Op.bytesLess v.1.1.toList v.1.2.1.toList then some ((-1,()),())
else bif !(Op.bytesLess v.1.1.toList v.1.2.1.toList||v.1.1.toList==v.1.2.1.toList)then some ((1,()),())
else some ((0,()),()))
def aee:Abs.Spec:=⟨0,⟨[0,1],Ml,.nil⟩,⟨[4],dw,.nil⟩,Ui⟩
theorem ZN:fE 146 aee:=okW BH (bK afm fV)
def VF(v:((VN×ByteArray×Unit)×Unit)):Option wQ:=
(Ui ((v.1.1.1,v.1.2),())).bind fun a=>
some a
def aeH:Abs.Spec:=⟨0,⟨[0,1],(.dat Z6 ja),.nil⟩,⟨[4],dw,.nil⟩,VF⟩
theorem afe:fE 175 aeH:=okW BH (bK ZN fV)
def mH(v:aah):Option (aah⊕((ByteArray×Int×Y5×Int×Unit)×Unit)):=
bif decide (v.1.2.2.2.1<v.1.2.2.1)then let a:=(IntKind.wrap .u64 (aP (v.1.2.2.2.1+v.1.2.2.1)))
bif decide ((0:Int)≤1)then
Abs.rowAt v.1.2.1 (aP (xW .u64 (a) (1))) fun b _=>
(VF ((b,v.1.1,()),())).bind fun c=>
bif decide (c.1.1<0)then some (.inl ((v.1.1,v.1.2.1,v.1.2.2.1,aP ((aP (xW .u64 (a) (1)))+1),v.1.2.2.2.2),()))
else some (.inl ((v.1.1,v.1.2.1,aP (xW .u64 (a) (1)),v.1.2.2.2),()))
else none
else(some (.inr ((v.1.1,v.1.2.2.2.1,v.1.2.1,v.1.2.2.2.2),())))
def Lj(v:((o5×ByteArray×Unit)×Unit)):Option Y2:=
(aB mH ((v.1.2.1,v.1.1.2.2.1,(v.1.1.2.2.1.length:Int),0,(v.1.1.2.2.1.length:Int),()),())).bind fun a=>
((bif decide (a.1.2.1<a.1.2.2.2.1)then Abs.rowAt a.1.2.2.1 a.1.2.1 fun b _=>
(VF ((b,a.1.1,()),())).bind fun c=>
some ((a.1.2.1,c.1.1==0,()),())
else some ((a.1.2.1,false,()),())):Option Y2).bind fun d=>
some d
def aeM:Abs.Spec:=⟨0,⟨[0,1],(.dat Z1 ja),.nil⟩,⟨[4,5],L8,.nil⟩,Lj⟩
def adW:Nat→Abs.iR
 |0=>.mk bF bF bF (fun
  |1,3=>1
  |_,_=>0)
 |1=>.mk (bL [(8,⟨[6,7],L8,.nil⟩)]) bF (bL [(3,⟨⟨[1,0,2,10,9,8],(.dat .str (.dat BO (.st (.clo 175 []) Ib))),.nil⟩,(.one (.exit 0) ⟨[1,9,0,2,8],(.dat .str (.dat aV (.dat BO (.st (.clo 175 []) dw)))),.nil⟩)⟩)]) jC
 |_=>{}
theorem ZC:fE 126 aeM:=okW adW (bK afe fV)
def Kv(v:wQ):Option wQ:=
bif decide (v.1.1>8589934592)then some ((-1,()),())
else(some v)
def acw:Abs.Spec:=⟨0,⟨[0],dw,.nil⟩,⟨[2],dw,.nil⟩,Kv⟩
theorem Tx:fE 179 acw:=okW BH fV
def ab3(v:R4):Option gN:=
some (((v.1.1.2.2.1.length:Int)==0,()),())
def afn:Abs.Spec:=⟨0,⟨[0],Vv,.nil⟩,⟨[2],iU,.nil⟩,ab3⟩
theorem afw:fE 145 afn:=okW BH fV
def oU(v:((Int×Int×Int×Y5×Int×Unit)×Vy)):Option (((Int×Int×Int×Y5×Int×Unit)×Vy)⊕Oo):=
bif decide (v.1.1<v.1.2.2.2.2.1)then((Abs.rowAt v.1.2.2.2.1 v.1.1 fun k _=>
(Lj (((v.2.1.1.1,v.2.1.1.2.1,v.2.2.2.2.1,v.2.1.1.2.2),k.1,()),())).bind fun j=>
((bif j.1.2.1 then bif k.2.2.2.2.1 then let n:=(decide (k.2.2.2.1≤(aP (v.1.2.1-v.1.2.2.1))))
some ((n,v.1.2.1,v.1.2.2.1,v.1.2.2.2.1,v.1.2.2.2.2.1,v.1.1,j.1.1,()),v.2)
else some ((false,v.1.2.1,v.1.2.2.1,v.1.2.2.2.1,v.1.2.2.2.2.1,v.1.1,j.1.1,()),v.2)
else some ((false,v.1.2.1,v.1.2.2.1,v.1.2.2.2.1,v.1.2.2.2.2.1,v.1.1,j.1.1,()),v.2)):Option ((Bool×Int×Int×Y5×Int×Int×Int×Unit)×Vy)).bind fun a=>
bif a.1.1 then((bif decide (0≤a.1.2.2.2.2.2.2.1∧a.1.2.2.2.2.2.2.1<a.2.2.2.2.1.length)then
(a.2.2.2.2.1[a.1.2.2.2.2.2.2.1.toNat]?).bind fun o=>
bif o.2.2.2.2.1==false then bif decide (a.2.2.2.2.1.length=a.2.2.2.2.1.length)&&true then
some ((a.1.2.1,a.1.2.2.1,a.1.2.2.2.1,a.1.2.2.2.2.1,a.1.2.2.2.2.2.1,()),a.2)
else none
else(a.2.2.2.2.1[a.1.2.2.2.2.2.2.1.toNat]?).bind fun p=>
bif !p.2.2.2.2.2.1 then bif decide (0≤a.1.2.2.2.2.2.2.1∧a.1.2.2.2.2.2.2.1<(aP (a.1.2.2.2.2.2.2.1+1))∧((aP (a.1.2.2.2.2.2.2.1+1)):Int)≤a.2.2.2.2.1.length∧a.2.2.2.2.1.length≤4294967296)then
bif decide (a.2.2.2.2.1.length=a.2.2.2.2.1.length)&&true then
bif decide (a.2.2.2.2.1.length=a.2.2.2.2.1.length)&&true then
some ((a.1.2.1,a.1.2.2.1,a.1.2.2.2.1,a.1.2.2.2.2.1,a.1.2.2.2.2.2.1,()),a.2.1,a.2.2.1,a.2.2.2.1,a.2.2.2.2.1.take a.1.2.2.2.2.2.2.1.toNat++a.2.2.2.2.1.drop (aP (a.1.2.2.2.2.2.2.1+1)).toNat,())
else none
else none
else none
else(a.2.2.2.2.1[a.1.2.2.2.2.2.2.1.toNat]?).bind fun b=>
((a.2.2.2.2.1.set a.1.2.2.2.2.2.2.1.toNat (b.1,b.2.1,b.2.2.1,b.2.2.2.1,false,b.2.2.2.2.2))[a.1.2.2.2.2.2.2.1.toNat]?).bind fun c=>
(((a.2.2.2.2.1.set a.1.2.2.2.2.2.2.1.toNat (b.1,b.2.1,b.2.2.1,b.2.2.2.1,false,b.2.2.2.2.2)).set a.1.2.2.2.2.2.2.1.toNat (c.1,c.2.1,c.2.2.1,c.2.2.2.1,c.2.2.2.2.1,false,()))[a.1.2.2.2.2.2.2.1.toNat]?).bind fun e=>
((bif a.2.1.1.2.2.2.1 !=(-1)then let m:=(aP (a.2.1.1.2.2.2.1+a.2.2.1.1.2.2.2.2.2.1))
let q:=(if m>a.1.2.1 then m else a.1.2.1)
some ((q,()),a.2.1,((a.2.2.2.2.1.set a.1.2.2.2.2.2.2.1.toNat (b.1,b.2.1,b.2.2.1,b.2.2.2.1,false,b.2.2.2.2.2)).set a.1.2.2.2.2.2.2.1.toNat (c.1,c.2.1,c.2.2.1,c.2.2.2.1,c.2.2.2.2.1,false,())).set a.1.2.2.2.2.2.2.1.toNat (e.1,e.2.1,a.1.2.1,e.2.2.2),())
else some ((aP (a.1.2.1+a.2.2.1.1.2.2.2.2.1),()),a.2.1,((a.2.2.2.2.1.set a.1.2.2.2.2.2.2.1.toNat (b.1,b.2.1,b.2.2.1,b.2.2.2.1,false,b.2.2.2.2.2)).set a.1.2.2.2.2.2.2.1.toNat (c.1,c.2.1,c.2.2.1,c.2.2.2.1,c.2.2.2.2.1,false,())).set a.1.2.2.2.2.2.2.1.toNat (e.1,e.2.1,a.1.2.1,e.2.2.2),())):Option Lc).bind fun f=>
((bif f.2.1.1.2.2.1 !=(-1)then let r:=(if f.2.1.1.2.2.1<f.1.1 then f.2.1.1.2.2.1 else f.1.1)
some ((r,()),f.2)
else some f):Option Lc).bind fun g=>
(Kv (g.1,())).bind fun s=>
bif decide (g.2.2.1.length=(((a.2.2.2.2.1.set a.1.2.2.2.2.2.2.1.toNat (b.1,b.2.1,b.2.2.1,b.2.2.2.1,false,b.2.2.2.2.2)).set a.1.2.2.2.2.2.2.1.toNat (c.1,c.2.1,c.2.2.1,c.2.2.2.1,c.2.2.2.2.1,false,())).set a.1.2.2.2.2.2.2.1.toNat (e.1,e.2.1,a.1.2.1,e.2.2.2)).length)&&true then
bif decide (g.2.2.1.length=a.2.2.2.2.1.length)&&true then
some ((a.1.2.1,a.1.2.2.1,a.1.2.2.2.1,a.1.2.2.2.2.1,a.1.2.2.2.2.2.1,()),((g.2.1.1.1,g.2.1.1.2.1,s.1.1,g.2.1.1.2.2.2),()),a.2.2.1,a.2.2.2.1,g.2.2)
else none
else none
else none):Option ((Int×Int×Y5×Int×Int×Unit)×Vy)).bind fun d=>
((let t:=(((d.2.2.2.2.1.length:Nat):Int)==0)
bif decide (d.2.2.2.2.1.length=d.2.2.2.2.1.length)&&true then
bif t then some ((),d.2.2.2.2.1,((0,ByteArray.empty,0,0,()),()),((d.2.1.1.1,d.2.1.1.2.1,-1,d.2.1.1.2.2.2),()),())
else some ((),d.2.2.2.2.1,((0,ByteArray.empty,0,0,()),()),d.2.1,())
else none):Option (Unit×(Y5×A8×A8×Unit))).bind fun l=>
bif decide (l.2.1.length=d.2.2.2.2.1.length)&&true then
some (d.1,l.2.2.2.1,d.2.2.1,d.2.2.2.1,l.2.1,())
else none
else some ((a.1.2.1,a.1.2.2.1,a.1.2.2.2.1,a.1.2.2.2.2.1,a.1.2.2.2.2.2.1,()),a.2)):Option ((Int×Int×Y5×Int×Int×Unit)×Vy)).bind fun h=>
some (.inl ((aP (h.1.2.2.2.2.1+1),h.1.1,h.1.2.1,h.1.2.2.1,h.1.2.2.2.1,()),h.2))
else(some (.inr ((),v.2.2.2.1,v.2.1,v.2.2.2.2)))
def WY(v:((o5×Y4×Int×Int×Unit)×Unit)):Option Lc:=
(((m82 ((v.1.1,()),())).bind fun d=>
bif !d.1.1 then some ((true,v.1.2.2),((0,ByteArray.empty,0,0,()),()),(v.1.2.1,()),(v.1.1,()),())
else(Rb ((v.1.2.1,()),())).bind fun e=>
some ((!e.1.1,v.1.2.2),((0,ByteArray.empty,0,0,()),()),(v.1.2.1,()),(v.1.1,()),())):Option (Te×(A8×(Y4×Unit)×JS×Unit))).bind fun b=>
bif b.1.1 then some ((8,()),((0,ByteArray.empty,0,0,()),()),[],())
else((((CK ((b.1.2.1,0,8589934592,()),())).bind fun f=>
bif !f.1.1 then some ((true,b.1.2),b.2)
else(CK ((b.1.2.2.1,0,604800,()),())).bind fun g=>
some ((!g.1.1,b.1.2),b.2)):Option (Te×(A8×(Y4×Unit)×JS×Unit))).bind fun a=>
bif a.1.1 then some ((1,()),((0,ByteArray.empty,0,0,()),()),[],())
else(MO a.2.2.2).bind fun c=>
bif a.1.2.2.1==0 then some ((0,()),c.2)
else(aB oU ((0,a.1.2.1,a.1.2.2.1,a.2.2.2.1.1.2.2.1,(a.2.2.2.1.1.2.2.1.length:Int),()),c.2.1,a.2.2.1,a.2.1,c.2.2)).bind fun h=>
some ((0,()),h.2.2))
def aeD:Abs.Spec:=⟨0,⟨[0,1,2,3],(.dat Z1 (.dat Z2 oI)),.nil⟩,⟨[8,9],P9,Hw⟩,WY⟩
def acz:Nat→Abs.iR
 |0=>.mk (bL [(13,⟨[10,2,5,3,41,8,42,43],af0,XQ⟩),(12,⟨[66,10,2,5,3,41,8,42,43,13],(.dat .bool (.st qw (.dat aV (.st TY (.dat aV (.dat BO (.st Lf Ib))))))),XQ⟩),(3,⟨[25,8,2,5,3,4],afd,(.box 5 J3 (.box 8 Cg EF))⟩),(1,⟨[15,8,2,5,3,4],afd,(.box 5 J3 (.box 8 Cg EF))⟩)]) (bL [(15,(⟨[10,2,5,3,41,8,42,43],af0,XQ⟩,none))]) (bL [(9,⟨⟨[43,10,2,5,3,41,8,42],(.dat aV (.st qw (.dat aV (.st TY (.dat aV (.dat BO (.st Lf dw))))))),XQ⟩,(.one (.exit 1) ⟨[8,10],Xm,Ym⟩)⟩)]) (fun
  |14,1=>3
  |13,3=>1
  |_,_=>0)
 |1=>.mk bF bF bF (fun
  |3,3=>2
  |_,_=>0)
 |2=>.mk bF (bL [(6,(⟨[6,0],(.dat aV JE),Hw⟩,none)),(4,(⟨[0,6],P9,Hw⟩,none))]) bF jC
 |3=>.mk bF (bL [(3,(⟨[2,1],aaz,(.arr Z6 false (.box 5 J3 (.box 5 Yq .nil)))⟩,none))]) bF (fun
  |1,1=>4
  |_,_=>0)
 |_=>{}
theorem afa:fE 133 aeD:=okW acz (bK Xk (bK T9 (bK Kz (bK OC (bK ZC (bK Tx fV))))))
def rH(v:Zy):Option (Zy⊕(CG⊕zo)):=
bif decide (v.1.1<v.1.2.2.2.1)then Abs.rowAt v.1.2.2.1 v.1.1 fun a _=>
bif a.1.toList==v.1.2.1.toList then some (.inr (.inl (a.2,())))
else some (.inl ((aP (v.1.1+1),v.1.2),()))
else(some (.inr (.inr ((),()))))
def Ri(v:((gM×ByteArray×Unit)×Unit)):Option CG:=
(aB rH ((0,v.1.2.1,v.1.1,(v.1.1.length:Int),()),())).bind fun a=>
ax a (fun b=>(some b)) (fun c=>(some ((ByteArray.empty,()),())))
def ady:Abs.Spec:=⟨0,⟨[0,1],(.dat Ab ja),.nil⟩,⟨[4],ja,.nil⟩,Ri⟩
def aeJ:Nat→Abs.iR
 |0=>.mk bF bF (bL [(2,⟨⟨[9,1,7,8],(.dat aV (.dat .str Qg)),.nil⟩,(.more .ret ⟨[4],ja,.nil⟩ Ro1)⟩)]) jC
 |_=>{}
theorem ZX:fE 224 ady:=okW aeJ fV
def qQ(v:Qo):Option (Qo⊕CG):=
((bif decide ((v.1.1.size:Int)>0)then bif decide ((0:Int)≤(aP ((v.1.1.size:Int)-1))∧((aP ((v.1.1.size:Int)-1)):Int)<v.1.1.size)then
let b:=(((((v.1.1[(aP ((v.1.1.size:Int)-1)).toNat]?.getD 0).toNat:Nat):Int):Int)==v.1.2.1)
some ((b,v.1.2.1,v.1.1,()),())
else none
else some ((false,v.1.2.1,v.1.1,()),())):Option aag).bind fun a=>
bif a.1.1 then bif decide ((0:Int)≤(aP ((a.1.2.2.1.size:Int)-1)))then
bif decide (0≤(aP ((a.1.2.2.1.size:Int)-1)).toNat∧(aP ((a.1.2.2.1.size:Int)-1)).toNat≤a.1.2.2.1.size)then
let c:=(a.1.2.2.1.extract 0 (aP ((a.1.2.2.1.size:Int)-1)).toNat)
some (.inl ((c,a.1.2.1,()),()))
else none
else none
else(some (.inr (a.1.2.2,())))
def YZ(v:Qo):Option CG:=
(aB qQ v).bind fun a=>
some a
def aff:Abs.Spec:=⟨0,⟨[0,1],Yc,.nil⟩,⟨[4],ja,.nil⟩,YZ⟩
def af8:Nat→Abs.iR
 |0=>.mk (bL [(1,⟨[16,1,0],(.dat .bool (.dat (.int .u8) ja)),.nil⟩)]) bF (bL [(1,⟨⟨[0,1],Yc,.nil⟩,abJ⟩)]) jC
 |_=>{}
theorem adn:fE 237 aff:=okW af8 fV
def sZ(v:Qo):Option (Qo⊕CG):=
((bif decide ((v.1.1.size:Int)>0)then bif decide ((0:Int)≤0∧(0:Int)<v.1.1.size)then
let b:=(((((v.1.1[0]?.getD 0).toNat:Nat):Int):Int)==v.1.2.1)
some ((b,v.1.2.1,v.1.1,()),())
else none
else some ((false,v.1.2.1,v.1.1,()),())):Option aag).bind fun a=>
bif a.1.1 then bif decide (1≤a.1.2.2.1.size∧a.1.2.2.1.size≤a.1.2.2.1.size)then
some (.inl ((a.1.2.2.1.extract 1 a.1.2.2.1.size,a.1.2.1,()),()))
else none
else(some (.inr (a.1.2.2,())))
def Yp(v:Qo):Option CG:=
(aB sZ v).bind fun a=>
some a
def aey:Abs.Spec:=⟨0,⟨[0,1],Yc,.nil⟩,⟨[4],ja,.nil⟩,Yp⟩
def adZ:Nat→Abs.iR
 |0=>.mk (bL [(1,⟨[13,1,0],(.dat .bool (.dat (.int .u8) ja)),.nil⟩)]) bF (bL [(1,⟨⟨[0,1],Yc,.nil⟩,abJ⟩)]) jC
 |_=>{}
theorem afG:fE 236 aey:=okW adZ fV
def Uc(v:(wR×Unit)):Option CG:=
((bif v.1.1.toList==ByteArray.empty.toList then some ((true,v.1),())
else some ((v.1.2.1.toList==ByteArray.empty.toList,v.1),())):Option aaf).bind fun a=>
bif a.1.1 then some ((a.1.2.1,()),())
else(((bif (a.1.2.2.1.size:Int)==1 then bif decide ((0:Int)≤0∧(0:Int)<a.1.2.2.1.size)then
let c:=(decide (((((a.1.2.2.1[0]?.getD 0).toNat:Nat):Int):Int)<128))
some ((c,a.1.2.2.1,a.1.2.1,()),())
else none
else some ((false,a.1.2.2.1,a.1.2.1,()),())):Option aaf).bind fun b=>
bif b.1.1 then bif decide ((0:Int)≤0∧(0:Int)<b.1.2.1.size)then
(YZ ((b.1.2.2.1,(((b.1.2.1[0]?.getD 0).toNat:Nat):Int),()),())).bind fun d=>
bif decide ((0:Int)≤0∧(0:Int)<b.1.2.1.size)then
(Yp ((d.1.1,(((b.1.2.1[0]?.getD 0).toNat:Nat):Int),()),())).bind fun e=>
some e
else none
else none
else none)
def af4:Abs.Spec:=⟨0,⟨[0,1],Ml,.nil⟩,⟨[4],ja,.nil⟩,Uc⟩
def af7:Nat→Abs.iR
 |0=>.mk (bL [(3,⟨[21,1,0],(.dat .bool Ml),.nil⟩),(1,⟨[12,0,1],(.dat .bool Ml),.nil⟩)]) bF bF jC
 |_=>{}
theorem ae1:fE 231 af4:=okW af7 (bK adn (bK afG fV))
def fQ(v:adx):Option (adx⊕(gN⊕Qk)):=
let c:=(decide (v.1.2.1<(v.1.2.2.2.2.1.size:Int)))
bif c then((let d:=(decide (v.1.1<(v.1.2.2.2.2.2.1.size:Int)))
bif d then bif decide (0≤v.1.1∧v.1.1<v.1.2.2.2.2.2.1.size)then
let e:=(((((v.1.2.2.2.2.2.1[v.1.1.toNat]?.getD 0).toNat:Nat):Int):Int)==42)
some ((e,v.1.2.1,v.1.2.2.2.2.1,v.1.2.2.2.2.2.1,v.1.1,v.1.2.2.1,v.1.2.2.2.1,()),())
else none
else some ((false,v.1.2.1,v.1.2.2.2.2.1,v.1.2.2.2.2.2.1,v.1.1,v.1.2.2.1,v.1.2.2.2.1,()),())):Option ((Bool×Int×ByteArray×ByteArray×Int×Int×Int×Unit)×Unit)).bind fun a=>
bif a.1.1 then some (.inl ((aP (a.1.2.2.2.2.1+1),a.1.2.1,a.1.2.2.2.2.1,a.1.2.1,a.1.2.2.1,a.1.2.2.2.1,()),()))
else((let f:=(decide (a.1.2.2.2.2.1<(a.1.2.2.2.1.size:Int)))
bif f then bif decide (0≤a.1.2.2.2.2.1∧a.1.2.2.2.2.1<a.1.2.2.2.1.size)then
let g:=(((((a.1.2.2.2.1[a.1.2.2.2.2.1.toNat]?.getD 0).toNat:Nat):Int):Int)==63)
bif g then some ((true,a.1.2.2.2.2.2.1,a.1.2.2.2.2.2.2.1,a.1.2.2.1,a.1.2.2.2.1,a.1.2.1,a.1.2.2.2.2.1,()),())
else bif decide (0≤a.1.2.2.2.2.1∧a.1.2.2.2.2.1<a.1.2.2.2.1.size)then
bif decide (0≤a.1.2.1∧a.1.2.1<a.1.2.2.1.size)then
let h:=(((((a.1.2.2.2.1[a.1.2.2.2.2.1.toNat]?.getD 0).toNat:Nat):Int):Int)==(((a.1.2.2.1[a.1.2.1.toNat]?.getD 0).toNat:Nat):Int))
some ((h,a.1.2.2.2.2.2.1,a.1.2.2.2.2.2.2.1,a.1.2.2.1,a.1.2.2.2.1,a.1.2.1,a.1.2.2.2.2.1,()),())
else none
else none
else none
else some ((false,a.1.2.2.2.2.2.1,a.1.2.2.2.2.2.2.1,a.1.2.2.1,a.1.2.2.2.1,a.1.2.1,a.1.2.2.2.2.1,()),())):Option ((Bool×Int×Int×ByteArray×ByteArray×Int×Int×Unit)×Unit)).bind fun b=>
bif b.1.1 then some (.inl ((aP (b.1.2.2.2.2.2.2.1+1),aP (b.1.2.2.2.2.2.1+1),b.1.2.1,b.1.2.2.1,b.1.2.2.2.1,b.1.2.2.2.2.1,()),()))
else bif decide (b.1.2.1≥0)then some (.inl ((aP (b.1.2.1+1),aP (b.1.2.2.1+1),b.1.2.1,aP (b.1.2.2.1+1),b.1.2.2.2.1,b.1.2.2.2.2.1,()),()))
else some (.inr (.inl ((false,()),())))
else(some (.inr (.inr ((v.1.1,v.1.2.2.2.2.2),()))))
def Si(v:(wR×Unit)):Option gN:=
(aB fQ ((0,0,-1,0,v.1.2.1,v.1.1,()),())).bind fun b=>
ax b (fun c=>(some c)) (fun a=>(bif decide ((0:Int)≤a.1.1)then
bif decide (a.1.1.toNat≤a.1.2.1.size∧a.1.2.1.size≤a.1.2.1.size)then
(Uc ((a.1.2.1.extract a.1.1.toNat a.1.2.1.size,bs [42],()),())).bind fun d=>
some ((d.1.1.toList==ByteArray.empty.toList,()),())
else none
else none))
def afu:Abs.Spec:=⟨0,⟨[0,1],Ml,.nil⟩,⟨[4],iU,.nil⟩,Si⟩
def acB:Nat→Abs.iR
 |0=>.mk (bL [(7,⟨[28,7,8,1,0,6,5],(.dat .bool (.dat aV (.dat aV (.dat .str (.dat .str oI))))),.nil⟩),(4,⟨[13,6,1,0,5,7,8],(.dat .bool (.dat aV (.dat .str (.dat .str Ib)))),.nil⟩)]) bF (bL [(2,⟨⟨[5,6,7,8,1,0],(.dat aV (.dat aV (.dat aV (.dat aV Ml)))),.nil⟩,(.more .ret ⟨[4],iU,.nil⟩ (.one (.exit 0) ⟨[5,0],KO,.nil⟩))⟩)]) jC
 |_=>{}
theorem aeX:fE 225 afu:=okW acB (bK ae1 fV)
def Xw(v:((KE×gM×Unit)×Unit)):Option gN:=
(Ri ((v.1.2.1,v.1.1.1,()),())).bind fun a=>
bif v.1.1.2.1==0 then some ((a.1.1.toList==v.1.1.2.2.1.toList,()),())
else(bif v.1.1.2.1==1 then some ((!(a.1.1.toList==v.1.1.2.2.1.toList),()),())
else bif v.1.1.2.1==2 then(Si ((v.1.1.2.2.1,a.1),())).bind fun b=>
some b
else bif v.1.1.2.1==3 then(Si ((v.1.1.2.2.1,a.1),())).bind fun c=>
some ((!c.1.1,()),())
else some ((false,()),()))
def adt:Abs.Spec:=⟨0,⟨[0,1],(.dat OB qK),.nil⟩,⟨[4],iU,.nil⟩,Xw⟩
theorem ae3:fE 206 adt:=okW BH (bK ZX (bK aeX fV))
def oZ(v:((Int×Y7×Int×Unit)×Kj)):Option (((Int×Y7×Int×Unit)×Kj)⊕((lU×Kj)⊕(Unit×Kj))):=
bif decide (v.1.1<v.1.2.2.1)then Abs.rowAt v.1.2.1 v.1.1 fun a _=>
(Xw ((a,v.2.1),())).bind fun b=>
bif !b.1.1 then some (.inr (.inl ((v.1.1,()),v.2)))
else some (.inl ((aP (v.1.1+1),v.1.2),v.2))
else(some (.inr (.inr ((),v.2))))
def JO(v:((Y7×gM×Unit)×Unit)):Option gN:=
(((aB oZ ((0,v.1.1,(v.1.1.length:Int),()),v.1.2,())).bind fun b=>
ax b (fun a=>(some ((decide (a.1.1≥0),()),a.2))) (fun c=>(some ((false,()),c.2)))):Option (tu×Kj)).bind fun d=>
some ((!d.1.1,()),())
def Z5:Abs.Spec:=⟨0,⟨[0,1],(.dat (.row OB) qK),.nil⟩,⟨[4],iU,.nil⟩,JO⟩
def acE:Nat→Abs.iR
 |0=>.mk bF bF bF (fun
  |1,2=>1
  |_,_=>0)
 |1=>.mk (bL [(1,⟨[4],iU,LM⟩)]) bF bF (fun
  |1,2=>2
  |_,_=>0)
 |2=>.mk bF bF (bL [(2,⟨⟨[8,0,1,7],(.dat aV (.dat (.row OB) (.st (.clo 205 [((0,0),1,0,0)]) dw))),LM⟩,(.more .ret ⟨[4],dw,LM⟩ (.one (.exit 0) ⟨[],.nil,LM⟩))⟩)]) (fun
  |4,5=>3
  |_,_=>0)
 |_=>{}
theorem U6:fE 169 Z5:=okW acE (bK ae3 fV)
def xg(v:aep):Option (aep⊕(Ih×Unit)):=
bif decide (v.1.1<v.1.2.2.2.2.2.2.1)then((Abs.rowAt v.1.2.2.2.2.2.1 v.1.1 fun b _=>
((bif decide (b.2.1≤v.1.2.2.2.2.1)then bif decide (v.1.2.2.2.2.1<b.2.2.1)then(JO ((b.2.2.2.2.1,v.1.2.2.2.1,()),())).bind fun d=>
bif d.1.1 then bif !v.1.2.2.1 then some ((true,v.1.2.2.2.1,v.1.2.2.2.2.1,v.1.2.2.2.2.2.1,v.1.2.2.2.2.2.2.1,v.1.1,v.1.2.1,v.1.2.2.1,()),(b,()),())
else some ((decide (b.1<v.1.2.1),v.1.2.2.2.1,v.1.2.2.2.2.1,v.1.2.2.2.2.2.1,v.1.2.2.2.2.2.2.1,v.1.1,v.1.2.1,v.1.2.2.1,()),(b,()),())
else some ((false,v.1.2.2.2.1,v.1.2.2.2.2.1,v.1.2.2.2.2.2.1,v.1.2.2.2.2.2.2.1,v.1.1,v.1.2.1,v.1.2.2.1,()),(b,()),())
else some ((false,v.1.2.2.2.1,v.1.2.2.2.2.1,v.1.2.2.2.2.2.1,v.1.2.2.2.2.2.2.1,v.1.1,v.1.2.1,v.1.2.2.1,()),(b,()),())
else some ((false,v.1.2.2.2.1,v.1.2.2.2.2.1,v.1.2.2.2.2.2.1,v.1.2.2.2.2.2.2.1,v.1.1,v.1.2.1,v.1.2.2.1,()),(b,()),())):Option ((Bool×gM×Int×uh×Int×Int×Int×Bool×Unit)×Vp)).bind fun a=>
bif a.1.1 then some ((a.2.1.1.1,true,a.1.2.1,a.1.2.2.1,a.1.2.2.2.1,a.1.2.2.2.2.1,a.1.2.2.2.2.2.1,()),())
else some ((a.1.2.2.2.2.2.2.1,a.1.2.2.2.2.2.2.2.1,a.1.2.1,a.1.2.2.1,a.1.2.2.2.1,a.1.2.2.2.2.1,a.1.2.2.2.2.2.1,()),())):Option ((Int×Bool×gM×Int×uh×Int×Int×Unit)×Unit)).bind fun c=>
some (.inl ((aP (c.1.2.2.2.2.2.2.1+1),c.1.1,c.1.2.1,c.1.2.2.1,c.1.2.2.2.1,c.1.2.2.2.2.1,c.1.2.2.2.2.2.1,()),()))
else(some (.inr ((v.1.2.2.1,v.1.2.1,()),())))
def WZ(v:((uh×gM×Int×Unit)×Unit)):Option Y2:=
(aB xg ((0,0,false,v.1.2.1,v.1.2.2.1,v.1.1,(v.1.1.length:Int),()),())).bind fun a=>
some ((a.1.2.1,a.1.1,()),())
def adF:Abs.Spec:=⟨0,⟨[0,1,2],(.dat zQ Qg),.nil⟩,⟨[6,7],L8,.nil⟩,WZ⟩
def aed:Nat→Abs.iR
 |0=>.mk (bL [(4,⟨[41,1,2,10,11,12,9,6,7],(.dat .bool (.dat Ab (.dat aV (.dat zQ (.dat aV (.dat aV (.st qw L8))))))),acd⟩)]) (bL [(6,(⟨[6,7,1,2,10,11,12],(.dat aV (.dat .bool (.dat Ab (.dat aV (.dat zQ oI))))),.nil⟩,none))]) (bL [(2,⟨⟨[12,6,7,1,2,10,11],(.dat aV (.dat aV (.dat .bool (.dat Ab (.dat aV (.dat zQ dw)))))),.nil⟩,(.one (.exit 0) ⟨[7,6],XC,.nil⟩)⟩)]) jC
 |_=>{}
theorem aec:fE 214 adF:=okW aed (bK U6 fV)
def oV(v:ZB):Option (ZB⊕((lU×Zc)⊕(Unit×Zc))):=
bif decide (v.1.1<v.1.2.2.1)then Abs.rowAt v.1.2.1 v.1.1 fun a _=>
(Ri ((v.2.1.1,a,()),())).bind fun b=>
(Ri ((v.2.2.1.1,a,()),())).bind fun c=>
bif !(b.1.1.toList==c.1.1.toList)then some (.inr (.inl ((v.1.1,()),v.2)))
else some (.inl ((aP (v.1.1+1),v.1.2),v.2))
else(some (.inr (.inr ((),v.2))))
def Ws(v:((gM×gM×List ByteArray×Unit)×Unit)):Option gN:=
(((aB oV ((0,v.1.2.2.1,(v.1.2.2.1.length:Int),()),(v.1.1,()),(v.1.2.1,()),())).bind fun b=>
ax b (fun a=>(some ((decide (a.1.1≥0),()),a.2))) (fun c=>(some ((false,()),c.2)))):Option (tu×Zc)).bind fun d=>
some ((!d.1.1,()),())
def afg:Abs.Spec:=⟨0,⟨[0,1,2],(.dat Ab (.dat Ab Vw)),.nil⟩,⟨[6],iU,.nil⟩,Ws⟩
def adY:Nat→Abs.iR
 |0=>.mk bF bF bF (fun
  |1,2=>1
  |_,_=>0)
 |1=>.mk (bL [(1,⟨[4],iU,(.box 1 qK LM)⟩)]) bF bF (fun
  |1,2=>2
  |_,_=>0)
 |2=>.mk bF bF (bL [(2,⟨⟨[8,0,1,7],(.dat aV (.dat PV (.st (.clo 235 [((0,0),1,0,0),((1,0),1,0,0)]) dw))),(.box 1 qK LM)⟩,(.more .ret ⟨[4],dw,(.box 1 qK LM)⟩ (.one (.exit 0) ⟨[],.nil,(.box 1 qK LM)⟩))⟩)]) (fun
  |4,5=>3
  |_,_=>0)
 |_=>{}
theorem ads:fE 229 afg:=okW adY (bK ZX fV)
def oK(v:adk):Option (adk⊕(gN⊕ado)):=
bif decide (v.1.1<v.1.2.2.2.2.2.2.2.1)then Abs.rowAt v.1.2.2.1 v.1.1 fun b _=>
(((JO ((v.2.1.1.1,b,()),())).bind fun c=>
bif c.1.1 then(JO ((v.2.1.1.2.1,b,()),())).bind fun d=>
bif !d.1.1 then(Ws ((v.1.2.1,b,v.2.1.1.2.2),())).bind fun e=>
some ((e.1.1,v.1.2.1,v.1.2.2.1,v.1.2.2.2.1,v.1.2.2.2.2.1,v.1.2.2.2.2.2.1,v.1.2.2.2.2.2.2.1,v.1.2.2.2.2.2.2.2.1,v.1.1,()),v.2)
else some ((false,v.1.2.1,v.1.2.2.1,v.1.2.2.2.1,v.1.2.2.2.2.1,v.1.2.2.2.2.2.1,v.1.2.2.2.2.2.2.1,v.1.2.2.2.2.2.2.2.1,v.1.1,()),v.2)
else some ((false,v.1.2.1,v.1.2.2.1,v.1.2.2.2.1,v.1.2.2.2.2.1,v.1.2.2.2.2.2.1,v.1.2.2.2.2.2.2.1,v.1.2.2.2.2.2.2.2.1,v.1.1,()),v.2)):Option ((Bool×gM×List gM×List gM×List FK×Int×Int×Int×Int×Unit)×((FK×Unit)×Unit))).bind fun a=>
bif a.1.1 then some (.inr (.inl ((true,()),())))
else some (.inl ((aP (a.1.2.2.2.2.2.2.2.2.1+1),a.1.2.1,a.1.2.2.1,a.1.2.2.2.1,a.1.2.2.2.2.1,a.1.2.2.2.2.2.1,a.1.2.2.2.2.2.2.1,a.1.2.2.2.2.2.2.2.1,()),a.2))
else(some (.inr (.inr ((v.1.2.1,v.1.2.2.2.1,v.1.2.2.2.2.1,v.1.2.2.2.2.2.1,v.1.2.2.2.2.2.2.1,()),()))))
def tK(v:ac8):Option (ac8⊕(gN⊕zo)):=
bif decide (v.1.1<v.1.2.2.2.2.1)then((Abs.rowAt v.1.2.2.2.1 v.1.1 fun b _=>
(JO ((b.2.1,v.1.2.1,()),())).bind fun c=>
bif !c.1.1 then some (.inl ((v.1.2.1,v.1.2.2.1,v.1.2.2.2.1,v.1.2.2.2.2.1,v.1.1,()),()))
else(aB oK ((0,v.1.2.1,v.1.2.2.1,v.1.2.2.1,v.1.2.2.2.1,v.1.2.2.2.2.1,v.1.1,(v.1.2.2.1.length:Int),()),(b,()),())).bind fun d=>
ax d (fun e=>(some (.inr e))) (fun f=>(some (.inl f)))):Option (ado⊕gN)).bind fun g=>
ax g (fun a=>(some (.inl ((aP (a.1.2.2.2.2.1+1),a.1.1,a.1.2.1,a.1.2.2.1,a.1.2.2.2.1,()),())))) (fun h=>(some (.inr (.inl h))))
else(some (.inr (.inr ((),()))))
def Ya(v:((List FK×gM×List gM×Unit)×Unit)):Option gN:=
(aB tK ((0,v.1.2.1,v.1.2.2.1,v.1.1,(v.1.1.length:Int),()),())).bind fun a=>
ax a (fun b=>(some b)) (fun c=>(some ((false,()),())))
def aeI:Abs.Spec:=⟨0,⟨[0,1,2],(.dat Es (.dat Ab (.dat zH .nil))),.nil⟩,⟨[6],iU,.nil⟩,Ya⟩
def acR:Nat→Abs.iR
 |0=>.mk (bL [(8,⟨[45,8,1,22,2,11,12,13,23,24],(.dat .bool (.st BZ (.dat Ab (.dat zH (.dat zH (.dat Es (.dat aV Ib))))))),YE⟩)]) (bL [(11,(⟨[1,2,11,12,13],(.dat Ab (.dat zH (.dat Es oI))),.nil⟩,some (.one .ret ⟨[6],iU,.nil⟩)))]) (bL [(2,⟨⟨[13,1,2,11,12],(.dat aV (.dat Ab (.dat zH (.dat Es dw)))),.nil⟩,(.more .ret ⟨[6],iU,.nil⟩ Ro1)⟩),(6,⟨⟨[24,8,1,22,2,11,12,13,23],(.dat aV (.st BZ (.dat Ab (.dat zH (.dat zH (.dat Es Ib)))))),YE⟩,(.more .ret ⟨[6],iU,.nil⟩ (.one (.exit 2) ⟨[1,2,11,12,13],(.dat Ab (.dat zH (.dat Es oI))),.nil⟩))⟩)]) jC
 |_=>{}
theorem afB:fE 215 aeI:=okW acR (bK U6 (bK ads fV))
def YG(v:((List FK×uh×gM×List gM×Int×Unit)×Unit)):Option gN:=
(WZ ((v.1.2.1,v.1.2.2.1,v.1.2.2.2.2),())).bind fun a=>
((bif a.1.2.1 then some ((true,()),())
else(Ya ((v.1.1,v.1.2.2.1,v.1.2.2.2.1,()),())).bind fun b=>
some b):Option gN).bind fun c=>
some c
def adI:Abs.Spec:=⟨0,⟨[0,1,2,3,4],(.dat Es (.dat zQ (.dat Ab (.dat zH dw)))),.nil⟩,⟨[10],iU,.nil⟩,YG⟩
def aft:Nat→Abs.iR
 |0=>.mk (bL [(2,⟨[10],iU,.nil⟩)]) bF bF jC
 |_=>{}
theorem adB:fE 185 adI:=okW aft (bK aec (bK afB fV))
def zb(v:ad8):Option (ad8⊕(wQ⊕zo)):=
bif decide (v.1.1<v.1.2.2.2.1)then Abs.rowAt v.1.2.1 v.1.1 fun a _=>
bif v.1.2.2.1.toList==a.toList then some (.inr (.inl ((v.1.1,()),())))
else some (.inl ((aP (v.1.1+1),v.1.2),()))
else(some (.inr (.inr ((),()))))
def XF(v:aea):Option wQ:=
(aB zb ((0,v.1.1,v.1.2.1,(v.1.1.length:Int),()),())).bind fun a=>
ax a (fun b=>(some b)) (fun c=>(some ((-1,()),())))
def adz:Abs.Spec:=⟨0,⟨[0,1],(.dat PV ja),.nil⟩,⟨[4],dw,.nil⟩,XF⟩
def afq:Nat→Abs.iR
 |0=>.mk bF bF (bL [(2,⟨⟨[8,0,1,7],(.dat aV (.dat PV VJ)),.nil⟩,ZA⟩)]) jC
 |_=>{}
theorem aex:fE 211 adz:=okW afq fV
def Ip(v:aea):Option gN:=
(XF v).bind fun a=>
some ((decide (a.1.1≥0),()),())
def afI:Abs.Spec:=⟨0,⟨[0,1],(.dat PV ja),.nil⟩,⟨[4],iU,.nil⟩,Ip⟩
theorem Zo:fE 172 afI:=okW BH (bK aex fV)
def aa9(v:U7):Option gN:=
some ((!v.1.1.2.2.2.2.2.1,()),())
def afz:Abs.Spec:=⟨0,⟨[0],(.dat Z6 .nil),.nil⟩,⟨[2],iU,.nil⟩,aa9⟩
theorem afK:fE 184 afz:=okW BH fV
def rO(v:adP):Option (adP⊕(Ih×aaD)):=
bif decide (v.1.1<v.1.2.2.2.2.1)then((bif decide (0≤v.1.1∧v.1.1<v.2.1.length)then
(v.2.1[v.1.1.toNat]?).bind fun a=>
(Ip ((v.1.2.2.1,a.1,()),())).bind fun c=>
bif c.1.1 then some ((v.1.2.1,v.1.2.2.1,v.1.2.2.2.1,v.1.2.2.2.2.1,v.1.1,()),v.2)
else bif a.2.2.2.2.1 then bif decide (v.2.2.2.2.2.2.1.length+ [a.1].length≤4294967296)then
((bif v.1.2.1 then some ((true,v.1.2.2.1,v.1.2.2.2.1,v.1.2.2.2.2.1,v.1.1,()),v.2.1,v.2.2.1,v.2.2.2.1,v.2.2.2.2.1,v.2.2.2.2.2.1,v.2.2.2.2.2.2.1++ [a.1],v.2.2.2.2.2.2.2)
else some ((!a.2.2.2.2.2.1,v.1.2.2.1,v.1.2.2.2.1,v.1.2.2.2.2.1,v.1.1,()),v.2.1,v.2.2.1,v.2.2.2.1,v.2.2.2.2.1,v.2.2.2.2.2.1,v.2.2.2.2.2.2.1++ [a.1],v.2.2.2.2.2.2.2)):Option adV).bind fun d=>
some d
else none
else bif decide (v.2.2.2.2.2.2.2.1.length+ [a.1].length≤4294967296)then
some ((v.1.2.1,v.1.2.2.1,v.1.2.2.2.1,v.1.2.2.2.2.1,v.1.1,()),v.2.1,v.2.2.1,v.2.2.2.1,v.2.2.2.2.1,v.2.2.2.2.2.1,v.2.2.2.2.2.2.1,v.2.2.2.2.2.2.2.1++ [a.1],())
else none
else none):Option adV).bind fun b=>
some (.inl ((aP (b.1.2.2.2.2.1+1),b.1.1,b.1.2.1,b.1.2.2.1,b.1.2.2.2.1,()),b.2))
else(some (.inr ((v.1.2.1,v.1.2.2.2.1,()),v.2.1,v.2.2.2.1,v.2.2.1,v.2.2.2.2)))
def j5(v:(zk×VL)):Option ((zk×VL)⊕((lU×VL)⊕(Unit×VL))):=
bif decide (v.1.1<v.1.2.1)then bif decide (0≤v.1.1∧v.1.1<v.2.1.length)then
(v.2.1[v.1.1.toNat]?).bind fun a=>
(Ip ((v.2.2.2.2.1,a.1,()),())).bind fun b=>
bif decide (v.2.2.2.1.length=v.2.2.2.1.length)&&(decide (v.2.2.2.2.1.length=v.2.2.2.2.1.length)&&true)then
bif b.1.1 then some (.inr (.inl ((v.1.1,()),v.2)))
else some (.inl ((aP (v.1.1+1),v.1.2),v.2))
else none
else none
else(some (.inr (.inr ((),v.2))))
def mK(v:(zk×VL)):Option ((zk×VL)⊕(lU×VL)):=
let c:=(decide (v.1.1<((v.2.1.length:Nat):Int)))
bif c then((bif decide (0≤v.1.1∧v.1.1<v.2.1.length)then
(v.2.1[v.1.1.toNat]?).bind fun b=>
(Ip ((v.2.2.2.2.1,b.1,()),())).bind fun d=>
bif decide (v.2.2.2.1.length=v.2.2.2.1.length)&&(decide (v.2.2.2.2.1.length=v.2.2.2.2.1.length)&&true)then
bif !d.1.1 then bif decide (0≤v.1.2.1∧v.1.2.1<v.2.1.length)then
bif decide (v.1.2.1.toNat<v.2.1.length)then
some ((aP (v.1.2.1+1),v.1.1,()),v.2.1.set v.1.2.1.toNat b,v.2.2)
else none
else none
else some ((v.1.2.1,v.1.1,()),v.2)
else none
else none):Option (zk×VL)).bind fun a=>
some (.inl ((aP (a.1.2.1+1),a.1.1,()),a.2))
else(some (.inr (v.1.2,v.2)))
def pQ(v:ZL):Option (ZL⊕(Ih×aaQ)):=
bif decide (v.1.1<v.1.2.2.2.2.1)then bif decide (0≤v.1.1∧v.1.1<v.1.2.1.2)then
(v.2.2.2.1[(v.1.2.1.1+v.1.1.toNat)]?).bind fun d=>
((bif d.2.2.2.2.2.1 then bif decide (0≤v.1.1∧v.1.1<v.2.2.1.1.2.2.1.2)then
(v.2.2.2.1[(v.2.2.1.1.2.2.1.1+v.1.1.toNat)]?).bind fun b=>
some ((v.1.2.1,v.1.2.2.1,v.1.2.2.2.1,v.1.2.2.2.2.1,v.1.1,()),v.2.1,v.2.2.1,v.2.2.2.1.set (v.2.2.1.1.2.2.1.1+v.1.1.toNat) (b.1,b.2.1,b.2.2.1,b.2.2.2.1,b.2.2.2.2.1,true,()),v.2.2.2.2)
else none
else(Ip ((v.2.2.2.2.2.2.2.1,d.1,()),())).bind fun e=>
bif decide (0≤v.1.1∧v.1.1<v.2.2.1.1.2.2.1.2)then
(v.2.2.2.1[(v.2.2.1.1.2.2.1.1+v.1.1.toNat)]?).bind fun c=>
some ((v.1.2.1,v.1.2.2.1,v.1.2.2.2.1,v.1.2.2.2.2.1,v.1.1,()),v.2.1,v.2.2.1,v.2.2.2.1.set (v.2.2.1.1.2.2.1.1+v.1.1.toNat) (c.1,c.2.1,c.2.2.1,c.2.2.2.1,c.2.2.2.2.1,e.1),v.2.2.2.2)
else none):Option (((Nat×Nat)×Bool×Int×Int×Int×Unit)×adQ)).bind fun a=>
some (.inl ((aP (a.1.2.2.2.2.1+1),a.1.1,a.1.2.1,a.1.2.2.1,a.1.2.2.2.1,()),a.2))
else none
else(some (.inr ((v.1.2.2.1,v.1.2.2.2.1,()),v.2.2.2.2.1,v.2.2.2.2.2.1,v.2.1,v.2.2.1,v.2.2.2.2.2.2.1,v.2.2.2.2.2.2.2.1,v.2.2.2.2.2.2.2.2.1,v.2.2.2.1,())))
def sK(v:PG):Option (PG⊕(wQ⊕zo)):=
bif decide (v.1.1<v.1.2.2.1)then Abs.rowAt v.1.2.1 v.1.1 fun a _=>
(aa9 ((a,()),())).bind fun b=>
bif b.1.1 then some (.inr (.inl ((v.1.1,()),())))
else some (.inl ((aP (v.1.1+1),v.1.2),()))
else(some (.inr (.inr ((),()))))
def XG(v:agN):Option (Ih×(Yq4×LZ×Y5×List ByteArray×List ByteArray×Unit)):=
(((m82 ((v.1.1,()),())).bind fun s=>
bif !s.1.1 then some ((true,v.1.2.2),((0,ByteArray.empty,0,0,()),()),((0,0,0,ByteArray.empty,()),()),(v.1.1,()),(v.1.2.1,()),())
else(Rb ((v.1.2.1,()),())).bind fun t=>
some ((!t.1.1,v.1.2.2),((0,ByteArray.empty,0,0,()),()),((0,0,0,ByteArray.empty,()),()),(v.1.1,()),(v.1.2.1,()),())):Option ((Bool×Int×List ByteArray×Unit)×(A8×LZ×JS×(Y4×Unit)×Unit))).bind fun h=>
bif h.1.1 then some ((false,8,()),((0,ByteArray.empty,(0,0),0,0,()),()),((0,0,0,ByteArray.empty,()),()),[],[],[],())
else((CK ((h.1.2.1,0,8589934592,()),())).bind fun u=>
bif !u.1.1 then some ((false,1,()),((0,ByteArray.empty,(0,0),0,0,()),()),((0,0,0,ByteArray.empty,()),()),[],[],[],())
else(MO (h.2.2.2.1,())).bind fun m=>
((bif m.2.1.1.2.2.1==(-1)then some ((true,h.1.2),h.2.1,h.2.2.1,m.2.1,h.2.2.2.2.1,m.2.2)
else some ((decide (m.2.1.1.2.2.1>h.1.2.1),h.1.2),h.2.1,h.2.2.1,m.2.1,h.2.2.2.2.1,m.2.2)):Option ((Bool×Int×List ByteArray×Unit)×(A8×LZ×A8×(Y4×Unit)×Y5×Unit))).bind fun a=>
bif a.1.1 then some ((false,0,()),((a.2.2.2.1.1.1,a.2.2.2.1.1.2.1,(0,a.2.2.2.2.2.1.length),a.2.2.2.1.1.2.2),()),((0,0,0,ByteArray.empty,()),()),a.2.2.2.2.2.1,[],[],())
else(aB rO ((0,false,a.1.2.2.1,a.1.2.1,((a.2.2.2.2.2.1.length:Nat):Int),()),a.2.2.2.2.2.1,((a.1.2.1,a.2.2.2.1.1.1,a.2.2.2.2.1.1.2.2.1,a.2.2.2.1.1.2.1,()),()),((0,0,0,ByteArray.empty,()),()),a.2.2.2.2.1,a.2.2.2.1,[],[],())).bind fun e=>
((let w:=(decide (((e.2.2.2.2.2.2.1.length:Nat):Int)>0))
bif w then bif e.2.2.2.2.2.1.1.2.2.2.1 !=(-1)then let x:=(aP (e.2.2.2.2.2.1.1.2.2.2.1+e.2.2.2.2.1.1.2.2.2.2.2.2.1))
some ((decide (x≤e.1.2.1),e.1.1,()),e.2.1,e.2.2.1,e.2.2.2.1,e.2.2.2.2.2.2)
else some ((false,e.1.1,()),e.2.1,e.2.2.1,e.2.2.2.1,e.2.2.2.2.2.2)
else some ((false,e.1.1,()),e.2.1,e.2.2.1,e.2.2.2.1,e.2.2.2.2.2.2)):Option ((Bool×Bool×Unit)×(Y5×LZ×LZ×List ByteArray×List ByteArray×Unit))).bind fun l=>
((bif l.1.2.1 then some ((true,()),l.2.1,l.2.2.2)
else bif l.1.1 then some ((true,()),l.2.1,l.2.2.2)
else let y:=(decide (((l.2.2.2.2.2.1.length:Nat):Int)>0))
some ((y,()),l.2.1,l.2.2.2)):Option (tu×VL)).bind fun d=>
bif decide (d.2.1.length=a.2.2.2.2.2.1.length)&&true then
((bif d.1.1 then(((((aB j5 ((0,((d.2.1.length:Nat):Int),()),d.2)).bind fun z=>
ax z (fun n=>(bif decide (n.2.1.length=d.2.1.length)&&(decide (n.2.2.2.1.length=d.2.2.2.1.length)&&(decide (n.2.2.2.2.1.length=d.2.2.2.2.1.length)&&true))then
some n
else none)) (fun o=>(bif decide (o.2.1.length=d.2.1.length)&&(decide (o.2.2.2.1.length=d.2.2.2.1.length)&&(decide (o.2.2.2.2.1.length=d.2.2.2.2.1.length)&&true))then
some ((-1,()),o.2)
else none))):Option (lU×VL)).bind fun j=>
bif j.1.1==(-1)then bif decide (j.2.1.length=d.2.1.length)&&(decide (j.2.2.2.1.length=d.2.2.2.1.length)&&(decide (j.2.2.2.2.1.length=d.2.2.2.2.1.length)&&true))then
some ((d.1.1,a.1.2.1,()),j.2.2.1,((a.2.2.2.1.1.1,a.2.2.2.1.1.2.1,(0,j.2.1.length),a.2.2.2.1.1.2.2.1,a.1.2.1,()),()),a.2.1,a.2.2.1,a.2.2.2.2.1,j.2.2.2.1,j.2.2.2.2.1,j.2.1,())
else none
else(aB mK ((aP (j.1.1+1),j.1),j.2)).bind fun b=>
bif decide ((0:Int)≤b.1.1)then
bif decide (b.1.1.toNat≤b.2.1.length∧b.2.1.length≤b.2.1.length)then
bif decide (b.1.1.toNat+(b.2.1.length-b.1.1.toNat)≤b.2.1.length)then
let p:=(bQ b.2.1 b.1.1.toNat (List.replicate (b.2.1.length-b.1.1.toNat) ((ByteArray.empty,[],0,0,false,false,()):VN)))
bif decide ((0:Int)≤b.1.1)then
bif decide (0≤b.1.1.toNat∧b.1.1.toNat≤p.length)then
bif decide (p.length=d.2.1.length)&&(decide (b.2.2.2.1.length=d.2.2.2.1.length)&&(decide (b.2.2.2.2.1.length=d.2.2.2.2.1.length)&&true))then
some ((d.1.1,a.1.2.1,()),b.2.2.1,((a.2.2.2.1.1.1,a.2.2.2.1.1.2.1,(0,b.1.1.toNat),a.2.2.2.1.1.2.2.1,a.1.2.1,()),()),a.2.1,a.2.2.1,a.2.2.2.2.1,b.2.2.2.1,b.2.2.2.2.1,p,())
else none
else none
else none
else none
else none
else none):Option (Ih×(LZ×Yq4×A8×LZ×(Y4×Unit)×List ByteArray×List ByteArray×Y5×Unit))).bind fun k=>
(aB pQ ((0,k.2.2.1.1.2.2.1,k.1.1,k.1.2.1,((k.2.2.1.1.2.2.1.2:Nat):Int),()),k.2.1,k.2.2.1,k.2.2.2.2.2.2.2.2.1,k.2.2.2.1,k.2.2.2.2.1,k.2.2.2.2.2.1,k.2.2.2.2.2.2.1,k.2.2.2.2.2.2.2.1,())).bind fun aa=>
some aa
else some ((d.1.1,a.1.2.1,()),a.2.1,a.2.2.1,((0,0,0,ByteArray.empty,()),()),((a.2.2.2.1.1.1,a.2.2.2.1.1.2.1,(0,d.2.1.length),a.2.2.2.1.1.2.2),()),a.2.2.2.2.1,[],[],d.2.1,())):Option (Ih×aaQ)).bind fun f=>
bif decide (f.2.2.2.2.1.1.2.2.1.1+f.2.2.2.2.1.1.2.2.1.2≤f.2.2.2.2.2.2.2.2.1.length)then
(((aB sK ((0,(f.2.2.2.2.2.2.2.2.1.drop f.2.2.2.2.1.1.2.2.1.1).take f.2.2.2.2.1.1.2.2.1.2,(((f.2.2.2.2.2.2.2.2.1.drop f.2.2.2.2.1.1.2.2.1.1).take f.2.2.2.2.1.1.2.2.1.2).length:Int),()),())).bind fun ab=>
ax ab (fun ac=>(some ((decide (ac.1.1≥0),()),()))) (fun ai=>(some ((false,()),())))):Option gN).bind fun ad=>
let q:=(aP (f.2.2.2.2.1.1.2.2.2.2.1+f.2.2.2.2.2.1.1.2.2.2.2.2.2.1))
((((bif ad.1.1 then some ((true,f.1.1,f.1.2.1,q,()),f.2)
else some ((decide (q≤f.1.2.1),f.1.1,f.1.2.1,q,()),f.2)):Option ((Bool×Bool×Int×Int×Unit)×aaQ)).bind fun g=>
bif g.1.1 then let ae:=(aP (g.1.2.2.1+g.2.2.2.2.2.1.1.2.2.2.2.2.1))
some ((g.1.2.1,g.1.2.2.1,ae,()),g.2.1,g.2.2.1,g.2.2.2.1,g.2.2.2.2.1,g.2.2.2.2.2.2)
else some (g.1.2,g.2.1,g.2.2.1,g.2.2.2.1,g.2.2.2.2.1,g.2.2.2.2.2.2)):Option (Te×(A8×LZ×LZ×Yq4×List ByteArray×List ByteArray×Y5×Unit))).bind fun c=>
let af:=(if((aP (c.1.2.1+1)):Int)>c.1.2.2.1 then aP (c.1.2.1+1)else c.1.2.2.1)
(Kv ((af,()),())).bind fun ag=>
((let ah:=(((c.2.2.2.2.1.1.2.2.1.2:Nat):Int)==0)
bif decide (c.2.2.2.2.2.2.2.1.length=c.2.2.2.2.2.2.2.1.length)&&true then
bif ah then some ((),c.2.2.2.2.2.2.2.1,((0,ByteArray.empty,0,0,()),()),((c.2.2.2.2.1.1.1,c.2.2.2.2.1.1.2.1,c.2.2.2.2.1.1.2.2.1,-1,c.2.2.2.2.1.1.2.2.2.2),()),())
else some ((),c.2.2.2.2.2.2.2.1,((0,ByteArray.empty,0,0,()),()),((c.2.2.2.2.1.1.1,c.2.2.2.2.1.1.2.1,c.2.2.2.2.1.1.2.2.1,ag.1.1,c.2.2.2.2.1.1.2.2.2.2),()),())
else none):Option (Unit×(Y5×A8×Yq4×Unit))).bind fun r=>
bif decide (r.2.1.length=c.2.2.2.2.2.2.2.1.length)&&true then
some ((c.1.1,0,()),r.2.2.2.1,c.2.2.2.1,r.2.1,c.2.2.2.2.2.1,c.2.2.2.2.2.2.1,())
else none
else none
else none)
def adw:Abs.Spec:=⟨0,⟨[0,1,2,3],(.dat Z1 (.dat Z2 (.dat aV Vw))),.nil⟩,⟨[8,9,10,11],(.st qw (.st Fy XC)),(.box 5 (.agg (.dat aV (.dat .str (.part Z6 (2,0) oI))) .nil) (.box 6 aez (.arr Z6 false Pp)))⟩,XG⟩
def acU:Nat→Abs.iR
 |0=>.mk (bL [(20,⟨[101,8,9,13,12,4,2,5,17],(.dat .bool (.st qw (.st Fy (.dat .bool (.st NN (.st Tj (.dat aV (.st aaW dw)))))))),aav⟩),(15,⟨[12,4,65,8,9,13,2,5,66,67],(.st Za (.st JD (.part Z6 (2,0) (.st Tj (.st (.ptr (4,0) 6 0 0) (.dat .bool (.dat aV (.st (.ptr (5,0) 8 0 0) oI)))))))),Rb3⟩),(11,⟨[12,4,8,9,13,2,5],(.st Za (.st JD (.st Lf (.st (.ptr (3,0) 6 0 0) (.dat .bool (.dat aV (.st aaW .nil))))))),(.box 6 Xd (.box 5 (.agg (.dat aV (.dat .str (.part Z6 (7,0) oI))) .nil) (.box 5 J3 (.box 6 Xt (.box 8 Cg (.arr .str false (.arr .str false PL)))))))⟩),(6,⟨[45,8,9,4,2,5,3],afy,(.box 5 J3 (.box 6 Xt (.box 5 (.agg (.dat aV (.dat .str (.st (.own Z6 (4,0)) oI))) .nil) (.box 8 Cg PL))))⟩),(1,⟨[18,8,9,4,2,5,3],afy,(.box 5 J3 (.box 6 Xt (.box 5 Vv Ve)))⟩)]) (bL [(22,(⟨[8,9,13,12,4,2,17],(.st qw (.st Fy (.dat .bool (.st NN (.st Tj oI))))),(.box 5 J3 (.box 6 Xt (.box 6 ag4 (.box 5 (.agg (.dat aV (.dat .str (.part Z6 (6,0) oI))) .nil) (.arr .str false (.arr .str false PL))))))⟩,none)),(18,(⟨[8,9,13,12,4,2,5],ac2,aav⟩,none))]) (bL [(13,⟨⟨[67,12,4,65,8,9,13,2,5,66],(.dat aV (.st Za (.st JD (.part Z6 (2,0) (.st Tj (.st (.ptr (4,0) 6 0 0) (.dat .bool (.dat aV (.st (.ptr (5,0) 8 0 0) dw))))))))),Rb3⟩,(.one (.exit 1) ⟨[8,9,13,12,4,2,5],ac2,aav⟩)⟩)]) (fun
  |23,1=>8
  |18,2=>6
  |11,3=>2
  |8,4=>1
  |_,_=>0)
 |1=>.mk (bL [(13,⟨[8,9],(.st Fy iU),JZ⟩),(12,⟨[8,10,14,11],(.st Fy (.st NN (.dat .bool iU))),(.arr Z6 false (.box 6 Xt (.box 6 aez Pp)))⟩),(10,⟨[11,10,3,24,8,2,5,4,25,26],adX,ab9⟩)]) (bL [(11,(⟨[11,10,3,24,8,2,5,4,25,26],adX,ab9⟩,none))]) (bL [(4,⟨⟨[26,11,10,3,24,8,2,5,4,25],(.dat aV (.dat .bool (.st Fy (.dat PV (.st KQ (.st NN (.dat aV (.st (.ptr (3,0) 8 0 0) (.st (.ptr (4,0) 5 0 0) dw))))))))),ab9⟩,(.one (.exit 0) ⟨[8,10,11,2,5,4],(.st Fy (.st NN (.dat .bool (.dat aV (.st (.ptr (3,0) 8 0 0) (.st (.ptr (4,0) 5 0 0) .nil)))))),(.arr Z6 false (.box 6 Xt (.box 6 Xd (.box 8 Cg (.box 5 Yq Pp)))))⟩)⟩)]) jC
 |2=>.mk (bL [(1,⟨[0,5,1],(.st KQ (.dat aV (.st X5 .nil))),JZ⟩)]) (bL [(6,(⟨[5,0,1,6],(.dat aV (.st KQ (.st X5 dw))),JZ⟩,none))]) (bL [(5,⟨⟨[6,5,0,1],(.dat aV (.dat aV (.st KQ (.st X5 .nil)))),JZ⟩,(.one (.exit 0) ⟨[5,0],(.dat aV (.st KQ .nil)),JZ⟩)⟩)]) (fun
  |8,2=>5
  |1,2=>3
  |_,_=>0)
 |3=>.mk bF bF (bL [(2,⟨⟨[8,0,1,7],(.dat aV (.st KQ (.st X5 dw))),JZ⟩,(.more .ret ⟨[4],dw,JZ⟩ (.one (.exit 0) ⟨[],.nil,JZ⟩))⟩)]) (fun
  |4,5=>4
  |_,_=>0)
 |6=>.mk (bL [(1,⟨[4],iU,.nil⟩)]) bF bF (fun
  |1,2=>7
  |_,_=>0)
 |7=>.mk bF bF (bL [(2,⟨⟨[8,0,1,7],(.dat aV (.dat BO (.st (.clo 184 []) dw))),.nil⟩,ZA⟩)]) jC
 |8=>.mk bF (bL [(3,(⟨[2,1],aaz,(.arr Z6 false (.box 5 J3 (.box 5 (.agg (.dat aV (.dat .str (.part Z6 (0,0) oI))) .nil) .nil)))⟩,none))]) bF (fun
  |1,1=>9
  |_,_=>0)
 |_=>{}
theorem aeZ:fE 134 adw:=okW acU (bK Xk (bK T9 (bK Kz (bK OC (bK Zo (bK afK (bK Tx fV)))))))
def WK(v:((Zg×o5×Int×Unit)×Unit)):Option gN:=
(((ab3 ((v.1.2.1,()),())).bind fun a=>
bif a.1.1 then bif v.1.2.1.2.2.2.2.1==(-1)then some ((true,()),())
else Abs.rowAt v.1.1.1 v.1.2.1.1 fun b _=>
let c:=(decide (((aP (v.1.2.1.2.2.2.2.1+b.2.2.2.2.2.1)):Int)≤v.1.2.2.1))
some ((c,()),())
else some ((false,()),())):Option gN).bind fun d=>
some d
def ag8:Abs.Spec:=⟨0,⟨[0,1,2],(.dat Yn (.dat Z1 dw)),.nil⟩,⟨[6],iU,.nil⟩,WK⟩
def ah3:Nat→Abs.iR
 |0=>.mk (bL [(1,⟨[6],iU,.nil⟩)]) bF bF jC
 |_=>{}
theorem abT:fE 83 ag8:=okW ah3 (bK afw fV)
def xG(v:Zu):Option (Zu⊕(lU×(zl×Pe×zl×List o5×uh×Unit))):=
bif decide (v.1.1<v.1.2.2.1)then bif decide (0≤v.1.1∧v.1.1<v.2.2.2.1.length)then
(v.2.2.2.1[v.1.1.toNat]?).bind fun b=>
Abs.rowAt v.2.1.1.1 b.1 fun c _=>
(WY ((b,c,v.1.2.1,v.2.1.1.2.2),())).bind fun a=>
bif decide (0≤v.1.1∧v.1.1<v.2.2.2.1.length)then
bif decide (v.1.1.toNat<v.2.2.2.1.length)then
some (.inl ((aP (v.1.1+1),v.1.2),v.2.1,v.2.2.1,v.2.2.2.1.set v.1.1.toNat (a.2.1.1.1,a.2.1.1.2.1,a.2.2.1,a.2.1.1.2.2),v.2.2.2.2))
else none
else none
else none
else(some (.inr ((v.1.2.1,()),v.2.2.1,v.2.1,v.2.2.2.2.1,v.2.2.2.1,v.2.2.2.2.2)))
def za(v:(af9×abZ)):Option ((af9×abZ)⊕(Unit×(List o5×uh×List ByteArray×Unit))):=
bif decide (v.1.1<v.1.2.2.2.1)then((Abs.rowAt v.1.2.2.1 v.1.1 fun b _=>
(YG ((v.2.2.2.2.2.1.1.2.1,v.2.2.1,b.2.1,v.1.2.1,v.2.2.2.2.1.1.1,()),())).bind fun c=>
bif c.1.1 then bif decide (v.2.2.2.1.length+ [b.1].length≤4294967296)then
some ((v.1.2.1,v.1.2.2.1,v.1.2.2.2.1,v.1.1,()),v.2.1,v.2.2.1,v.2.2.2.1++ [b.1],v.2.2.2.2)
else none
else some ((v.1.2.1,v.1.2.2.1,v.1.2.2.2.1,v.1.1,()),v.2)):Option ((List gM×Y5×Int×Int×Unit)×abZ)).bind fun a=>
some (.inl ((aP (a.1.2.2.2.1+1),a.1.1,a.1.2.1,a.1.2.2.1,()),a.2))
else(some (.inr ((),v.2.1,v.2.2.1,v.2.2.2.1,())))
def qY(v:Z0):Option (Z0⊕(Unit×(zl×List LX×zl×Pe×List o5×uh×Unit))):=
bif decide (v.1.1<v.1.2.2.2.1)then((bif decide (0≤v.1.1∧v.1.1<v.2.2.2.2.1.length)then
(v.2.2.2.2.1[v.1.1.toNat]?).bind fun d=>
Abs.rowAt v.2.2.2.1.1.1 d.1 fun e _=>
(aB za ((0,v.1.2.1,d.2.2.1,(d.2.2.1.length:Int),()),v.2.2.2.2.1,v.2.2.2.2.2.2.1,[],v.2.2.1,v.2.2.2.1,())).bind fun b=>
bif decide (b.2.1.length=v.2.2.2.2.1.length)&&(decide (b.2.2.1.length=v.2.2.2.2.2.2.1.length)&&true)then
(XG ((d,e,v.1.2.2.1,b.2.2.2),())).bind fun a=>
bif decide (0≤v.1.1∧v.1.1<b.2.1.length)then
bif decide (a.2.1.1.2.2.1.1+a.2.1.1.2.2.1.2≤a.2.2.2.1.length)then
bif decide (v.1.1.toNat<b.2.1.length)then
bif a.1.1 then bif decide (v.2.1.length+([(a.2.2.1.1.1,a.2.2.1.1.2.1,a.2.2.1.1.2.2.1,a.2.2.1.1.2.2.2.1,a.2.2.2.2)]:List LX).length≤4294967296)then
let f:=(v.2.1++([(a.2.2.1.1.1,a.2.2.1.1.2.1,a.2.2.1.1.2.2.1,a.2.2.1.1.2.2.2.1,a.2.2.2.2)]:List LX))
some ((v.1.2.1,v.1.2.2.1,v.1.2.2.2.1,v.1.1,()),f,v.2.2.1,v.2.2.2.1,b.2.1.set v.1.1.toNat (a.2.1.1.1,a.2.1.1.2.1,(a.2.2.2.1.drop a.2.1.1.2.2.1.1).take a.2.1.1.2.2.1.2,a.2.1.1.2.2.2),v.2.2.2.2.2.1,b.2.2.1,())
else none
else some ((v.1.2.1,v.1.2.2.1,v.1.2.2.2.1,v.1.1,()),v.2.1,v.2.2.1,v.2.2.2.1,b.2.1.set v.1.1.toNat (a.2.1.1.1,a.2.1.1.2.1,(a.2.2.2.1.drop a.2.1.1.2.2.1.1).take a.2.1.1.2.2.1.2,a.2.1.1.2.2.2),v.2.2.2.2.2.1,b.2.2.1,())
else none
else none
else none
else none
else none):Option ((List gM×Int×Int×Int×Unit)×aeC)).bind fun c=>
some (.inl ((aP (c.1.2.2.2.1+1),c.1.1,c.1.2.1,c.1.2.2.1,()),c.2))
else(some (.inr ((),v.2.2.2.2.2.1,v.2.1,v.2.2.1,v.2.2.2.1,v.2.2.2.2.1,v.2.2.2.2.2.2)))
def ql(v:(zk×N8)):Option Zj:=
bif decide (v.1.1<v.1.2.1)then bif decide (0≤v.1.1∧v.1.1<v.2.1.length)then
(v.2.1[v.1.1.toNat]?).bind fun a=>
(WK ((v.2.2.1.1,a,v.2.2.2.1.1.1,()),())).bind fun b=>
bif decide (v.2.1.length=v.2.1.length)&&(decide (v.2.2.2.2.1.length=v.2.2.2.2.1.length)&&true)then
bif b.1.1 then some (.inr (.inl ((v.1.1,()),v.2)))
else some (.inl ((aP (v.1.1+1),v.1.2),v.2))
else none
else none
else(some (.inr (.inr ((),v.2))))
def uy(v:(zk×N8)):Option ((zk×N8)⊕(lU×N8)):=
let c:=(decide (v.1.1<((v.2.1.length:Nat):Int)))
bif c then((bif decide (0≤v.1.1∧v.1.1<v.2.1.length)then
(v.2.1[v.1.1.toNat]?).bind fun b=>
(WK ((v.2.2.1.1,b,v.2.2.2.1.1.1,()),())).bind fun d=>
bif decide (v.2.1.length=v.2.1.length)&&(decide (v.2.2.2.2.1.length=v.2.2.2.2.1.length)&&true)then
bif !d.1.1 then bif decide (0≤v.1.2.1∧v.1.2.1<v.2.1.length)then
bif decide (v.1.2.1.toNat<v.2.1.length)then
some ((aP (v.1.2.1+1),v.1.1,()),v.2.1.set v.1.2.1.toNat b,v.2.2)
else none
else none
else some ((v.1.2.1,v.1.1,()),v.2)
else none
else none):Option (zk×N8)).bind fun a=>
some (.inl ((aP (a.1.2.1+1),a.1.1,()),a.2))
else(some (.inr (v.1.2,v.2)))
def m75(v:abM):Option (Unit×aby):=
(m64 ((v.1.2.1,()),())).bind fun f=>
(aB xG ((0,v.1.2.2.1,((f.2.2.1.length:Nat):Int),()),(v.1.1,()),((v.1.2.2.1,f.2.1.1.2),()),f.2.2.1,((0,0,()),()),f.2.2.2)).bind fun c=>
bif ve c.2.2.2.2.1 then
bif decide (c.2.2.2.2.1.length=c.2.2.2.2.1.length)&&(decide (c.2.2.2.2.2.1.length=c.2.2.2.2.2.1.length)&&true)then
(aB qY ((0,nP c.2.2.2.2.1,c.1.1,((c.2.2.2.2.1.length:Nat):Int),()),[],c.2.1,c.2.2.1,c.2.2.2.2.1,c.2.2.2.1,c.2.2.2.2.2)).bind fun b=>
(((((aB ql ((0,((b.2.2.2.2.2.1.length:Nat):Int),()),b.2.2.2.2.2.1,b.2.2.2.2.1,b.2.2.2.1,b.2.2.2.2.2.2)).bind fun k=>
ax k (fun g=>(bif decide (g.2.1.length=b.2.2.2.2.2.1.length)&&(decide (g.2.2.2.2.1.length=b.2.2.2.2.2.2.1.length)&&true)then
some g
else none)) (fun h=>(bif decide (h.2.1.length=b.2.2.2.2.2.1.length)&&(decide (h.2.2.2.2.1.length=b.2.2.2.2.2.2.1.length)&&true)then
some ((-1,()),h.2)
else none))):Option (lU×N8)).bind fun d=>
bif d.1.1==(-1)then bif decide (d.2.1.length=b.2.2.2.2.2.1.length)&&(decide (d.2.2.2.2.1.length=b.2.2.2.2.2.2.1.length)&&true)then
some ((),d.2.1,d.2.2.2.2.1,((0,0,()),()),((d.2.2.2.1.1.1,(0,d.2.1.length),d.2.2.2.1.1.2),()),())
else none
else(aB uy ((aP (d.1.1+1),d.1),d.2)).bind fun a=>
bif decide ((0:Int)≤a.1.1)then
bif decide (a.1.1.toNat≤a.2.1.length∧a.2.1.length≤a.2.1.length)then
bif decide (a.1.1.toNat+(a.2.1.length-a.1.1.toNat)≤a.2.1.length)then
let j:=(bQ a.2.1 a.1.1.toNat (List.replicate (a.2.1.length-a.1.1.toNat) ((0,ByteArray.empty,[],0,0,()):o5)))
bif decide ((0:Int)≤a.1.1)then
bif decide (0≤a.1.1.toNat∧a.1.1.toNat≤j.length)then
bif decide (j.length=b.2.2.2.2.2.1.length)&&(decide (a.2.2.2.2.1.length=b.2.2.2.2.2.2.1.length)&&true)then
some ((),j,a.2.2.2.2.1,((0,0,()),()),((a.2.2.2.1.1.1,(0,a.1.1.toNat),a.2.2.2.1.1.2),()),())
else none
else none
else none
else none
else none
else none):Option Zk).bind fun e=>
bif decide (e.2.1.length=b.2.2.2.2.2.1.length)&&(decide (e.2.2.1.length=b.2.2.2.2.2.2.1.length)&&true)then
some ((),e.2.2.2.2.1,b.2.2.1,e.2.1,e.2.2.1,())
else none
else none
else none
def ag7:Abs.Spec:=⟨0,⟨[0,1,2],(.dat Yn (.dat ZK dw)),.nil⟩,⟨[6,7],(.st jF (.st SX .nil)),abH⟩,m75⟩
def agZ:Nat→Abs.iR
 |0=>.mk bF (bL [(17,(⟨[11,4,10,3,2,52,6,53,54],(.st (.own Z9 (0,0)) (.st xC (.dat zH (.st Jy (.dat aV (.st (.own Z1 (3,0)) (.st (.ptr (4,0) 4 0 0) oI))))))),afv⟩,none))]) (bL [(11,⟨⟨[54,11,4,10,3,2,52,6,53],(.dat aV (.st (.own Z9 (0,0)) (.st xC (.dat zH (.st Jy (.dat aV (.st (.own Z1 (3,0)) (.st (.ptr (4,0) 4 0 0) dw)))))))),afv⟩,(.one (.exit 2) ⟨[6,11,4,3],(.st jF (.st SX (.st NE (.st Qe .nil)))),(.box 4 qV (.arr Z9 false (.box 4 (.agg (.dat aV (.st (.own Z1 (4,0)) (.st (.own Z3 (5,0)) dw))) .nil) (.box 3 qL Qz))))⟩)⟩),(4,⟨⟨[25,3,2,4,23,6,24],(.dat aV (.st BZ (.dat aV (.st xC (.st (.own Z1 (2,0)) (.st Py dw)))))),(.box 3 qL (.box 4 (.agg (.dat aV (.st (.own Z1 (2,0)) (.st (.own Z3 (4,0)) dw))) .nil) (.arr Z1 false (.box 4 qV xX))))⟩,(.one (.exit 0) ⟨[4,3,2,6],(.st jF (.st af5 (.dat aV (.st NE .nil)))),(.box 4 aeT (.box 3 qL (.box 4 qV Qz)))⟩)⟩)]) (fun
  |18,2=>2
  |13,12=>1
  |_,_=>0)
 |1=>.mk bF (bL [(7,(⟨[9,5,3,4,13,14,15],(.st (.own .str (2,0)) (.st Py (.dat zH (.st (.ptr (4,0) 3 0 0) (.dat BO oI))))),ac5⟩,none))]) (bL [(3,⟨⟨[15,9,5,3,4,13,14],(.dat aV (.st (.own .str (2,0)) (.st Py (.dat zH (.st (.ptr (4,0) 3 0 0) afc))))),ac5⟩,(.one (.exit 0) ⟨[9],(.st (.own .str (2,0)) .nil),(.arr Z1 false (.arr Z3 false Zx))⟩)⟩)]) jC
 |2=>.mk (bL [(1,⟨[4,3],(.st NE (.st Py .nil)),adf⟩)]) bF bF (fun
  |1,3=>3
  |_,_=>0)
 |3=>.mk (bL [(1,⟨[0,5,1],(.st Iy (.dat aV YQ)),Tv⟩)]) (bL [(6,(⟨[5,0,1,6],Yz,Tv⟩,none))]) (bL [(5,⟨⟨[6,5,0,1],(.dat aV (.dat aV (.st Iy YQ))),Tv⟩,ad7⟩)]) (fun
  |8,2=>6
  |1,2=>4
  |_,_=>0)
 |4=>.mk bF bF (bL [(2,⟨⟨[8,0,1,7],Yz,Tv⟩,acN⟩)]) (fun
  |4,5=>5
  |_,_=>0)
 |_=>{}
theorem acI:fE 75 ag7:=okW agZ (bK XO (bK afa (bK adB (bK aeZ (bK abT fV)))))
def tZ(v:Lb):Option (Lb⊕(wQ⊕zo)):=
bif decide (v.1.1<v.1.2.2.1)then Abs.rowAt v.1.2.1 v.1.1 fun a _=>
(QU ((a,()),())).bind fun b=>
bif b.1.1 then some (.inr (.inl ((v.1.1,()),())))
else some (.inl ((aP (v.1.1+1),v.1.2),()))
else(some (.inr (.inr ((),()))))
def Yy(v:((TV×Int×Unit)×Unit)):Option wQ:=
((bif decide (v.1.1.1<1)then some ((true,()),(v.1.1,()),())
else some ((decide (v.1.1.1≤v.1.2.1),()),(v.1.1,()),())):Option (tu×Vp)).bind fun a=>
bif a.1.1 then some ((6,()),())
else(((bif decide (a.2.1.1.2.1<0)then some ((true,()),a.2)
else let c:=(decide (a.2.1.1.2.1≥a.2.1.1.2.2.1))
bif c then some ((true,()),a.2)
else bif decide (a.2.1.1.2.2.1>8589934592)then some ((true,()),a.2)
else some ((decide (a.2.1.1.2.2.2.1<0),()),a.2)):Option (tu×Vp)).bind fun b=>
bif b.1.1 then some ((1,()),())
else let d:=((b.2.1.1.2.2.2.2.1.length:Int)==0)
bif d then some ((7,()),())
else let e:=(decide ((b.2.1.1.2.2.2.2.1.length:Int)>8))
bif e then some ((5,()),())
else(((aB tZ ((0,b.2.1.1.2.2.2.2.1,(b.2.1.1.2.2.2.2.1.length:Int),()),())).bind fun f=>
ax f (fun g=>(some ((decide (g.1.1≥0),()),()))) (fun j=>(some ((false,()),())))):Option gN).bind fun h=>
bif h.1.1 then some ((8,()),())
else some ((0,()),()))
def acY:Abs.Spec:=⟨0,⟨[0,1],(.dat Z3 dw),.nil⟩,⟨[4],dw,.nil⟩,Yy⟩
def ad2:Nat→Abs.iR
 |0=>.mk (bL [(3,⟨[15,2],(.dat .bool JE),acd⟩),(1,⟨[5,2],(.dat .bool JE),acd⟩)]) bF bF (fun
  |9,2=>1
  |_,_=>0)
 |1=>.mk (bL [(1,⟨[4],iU,.nil⟩)]) bF bF (fun
  |1,2=>2
  |_,_=>0)
 |2=>.mk bF bF (bL [(2,⟨⟨[8,0,1,7],abo,.nil⟩,ZA⟩)]) jC
 |_=>{}
theorem adJ:fE 143 acY:=okW ad2 (bK ZR fV)
def Cy(v:((Int×Int×uh×Int×Unit)×Unit)):Option (((Int×Int×uh×Int×Unit)×Unit)⊕(wQ⊕zo)):=
bif decide (v.1.1<v.1.2.2.2.1)then Abs.rowAt v.1.2.2.1 v.1.1 fun a _=>
(Yy ((a,v.1.2.1,()),())).bind fun b=>
bif b.1.1 !=0 then some (.inr (.inl b))
else some (.inl ((aP (v.1.1+1),a.1,v.1.2.2),()))
else(some (.inr (.inr ((),()))))
def m81(v:(Fq×Unit)):Option wQ:=
bif decide ((v.1.1.length:Int)>24)then some ((5,()),())
else((aB Cy ((0,0,v.1.1,(v.1.1.length:Int),()),())).bind fun a=>
ax a (fun b=>(some b)) (fun c=>(some ((0,()),()))))
def agV:Abs.Spec:=⟨0,⟨[0],(.dat zQ .nil),.nil⟩,⟨[2],dw,.nil⟩,m81⟩
def agR:Nat→Abs.iR
 |0=>.mk bF bF (bL [(5,⟨⟨[12,3,10,11],(.dat aV (.dat aV (.dat zQ dw))),.nil⟩,(.more .ret ⟨[2],dw,.nil⟩ Ro1)⟩)]) jC
 |_=>{}
theorem abz:fE 81 agV:=okW agR (bK adJ fV)
def m84(v:((o5×Int×ByteArray×Unit)×Unit)):Option wQ:=
bif v.1.1.1 !=v.1.2.1 then some ((aP (v.1.1.1-v.1.2.1),()),())
else((Ui ((v.1.1.2.1,v.1.2.2),())).bind fun a=>
some a)
def agW:Abs.Spec:=⟨0,⟨[0,1,2],(.dat Z1 KO),.nil⟩,⟨[6],dw,.nil⟩,m84⟩
theorem aeW:fE 84 agW:=okW BH (bK ZN fV)
def tH(v:acM):Option (acM⊕SI):=
bif decide (v.1.1<v.1.2.2.2.1)then((Abs.rowAt v.1.2.2.1 v.1.1 fun b _=>
(Ip ((v.1.2.1,b.1,()),())).bind fun c=>
bif c.1.1 then bif decide (v.2.1.length+([b]:List wR).length≤4294967296)then
let d:=(v.2.1++([b]:List wR))
some ((v.1.2.1,v.1.2.2.1,v.1.2.2.2.1,v.1.1,()),d,())
else none
else some ((v.1.2.1,v.1.2.2.1,v.1.2.2.2.1,v.1.1,()),v.2)):Option ((List ByteArray×gM×Int×Int×Unit)×Fv)).bind fun a=>
some (.inl ((aP (a.1.2.2.2.1+1),a.1.1,a.1.2.1,a.1.2.2.1,()),a.2))
else(some (.inr ((),v.2)))
def Xb(v:Zq):Option SI:=
(aB tH ((0,v.1.2.1,v.1.1,(v.1.1.length:Int),()),[],())).bind fun a=>
some ((),a.2)
def adO:Abs.Spec:=⟨0,⟨[0,1],(.dat Ab Vw),.nil⟩,⟨[4],aaF,RF⟩,Xb⟩
def acK:Nat→Abs.iR
 |0=>.mk bF (bL [(7,(⟨[5,1,8,9,10],(.st abv (.dat PV (.dat Ab oI))),RF⟩,none))]) (bL [(3,⟨⟨[10,5,1,8,9],(.dat aV (.st abv (.dat PV Qg))),RF⟩,(.one (.exit 0) ⟨[5],aaF,RF⟩)⟩)]) jC
 |_=>{}
theorem acW:fE 119 adO:=okW acK (bK Zo fV)
def m69(v:((Y4×gM×Unit)×Unit)):Option CG:=
(Y0 (v.1.2,())).bind fun a=>
bif !a.1.1 then some ((ByteArray.empty,()),())
else((Xb ((v.1.2.1,v.1.1.2.2.2.1,()),())).bind fun b=>
(QI (b.2,())).bind fun c=>
some c)
def agX:Abs.Spec:=⟨0,⟨[0,1],(.dat Z2 qK),.nil⟩,⟨[4],ja,.nil⟩,m69⟩
theorem acA:fE 69 agX:=okW BH (bK Qd (bK acW (bK Tt fV)))
def xB(v:(UH×SG)):Option ((UH×SG)⊕((lU×SG)⊕(Unit×SG))):=
bif decide (v.1.1<v.1.2.2.1)then Abs.rowAt v.1.2.1 v.1.1 fun a _=>
Abs.rowAt v.2.1.1.1 v.2.2.1.1.1 fun b _=>
(m69 ((b,a.2.1,()),())).bind fun c=>
bif !(c.1.1.toList==v.2.2.1.1.2.1.toList)then some (.inr (.inl ((v.1.1,()),v.2)))
else some (.inl ((aP (v.1.1+1),v.1.2),v.2))
else(some (.inr (.inr ((),v.2))))
def qp(v:acv):Option (acv⊕(gN⊕zo)):=
bif decide (v.1.1<v.1.2.2.1)then Abs.rowAt v.1.2.1 v.1.1 fun a _=>
(((m82 ((a,()),())).bind fun e=>
bif !e.1.1 then some ((true,v.1.2.1,v.1.2.2.1,v.1.1,()),v.2.1,v.2.2.1,(a,()),())
else let f:=(decide (a.1≥(v.2.1.1.1.length:Int)))
bif f then some ((true,v.1.2.1,v.1.2.2.1,v.1.1,()),v.2.1,v.2.2.1,(a,()),())
else(WK ((v.2.1.1,a,v.2.2.1.1.1,()),())).bind fun g=>
bif g.1.1 then some ((true,v.1.2.1,v.1.2.2.1,v.1.1,()),v.2.1,v.2.2.1,(a,()),())
else bif decide (v.1.1>0)then Abs.rowAt v.2.2.1.1.2.1 (aP (v.1.1-1)) fun h _=>
(m84 ((h,a.1,a.2.1,()),())).bind fun j=>
some ((decide (j.1.1≥0),v.1.2.1,v.1.2.2.1,v.1.1,()),v.2.1,v.2.2.1,(a,()),())
else some ((false,v.1.2.1,v.1.2.2.1,v.1.1,()),v.2.1,v.2.2.1,(a,()),())):Option ((Bool×List o5×Int×Int×Unit)×(Pe×S9×JS×Unit))).bind fun b=>
bif b.1.1 then some (.inr (.inl ((false,()),())))
else(((aB xB ((0,b.2.2.2.1.1.2.2.1,(b.2.2.2.1.1.2.2.1.length:Int),()),b.2.1,b.2.2.2)).bind fun k=>
ax k (fun c=>(some ((decide (c.1.1≥0),()),c.2))) (fun l=>(some ((false,()),l.2)))):Option (tu×SG)).bind fun d=>
bif d.1.1 then some (.inr (.inl ((false,()),())))
else some (.inl ((aP (b.1.2.2.2.1+1),b.1.2.1,b.1.2.2.1,()),d.2.1,b.2.2.1,()))
else(some (.inr (.inr ((),()))))
def ZQ(v:((Zg×Y25×Unit)×Unit)):Option gN:=
(((m34 ((v.1.1,()),())).bind fun c=>
bif c.1.1 !=0 then some ((true,()),(v.1.1,()),v.1.2,())
else bif decide (v.1.2.1.1<0)then some ((true,()),(v.1.1,()),v.1.2,())
else bif decide (v.1.2.1.1>8589934592)then some ((true,()),(v.1.1,()),v.1.2,())
else let d:=(decide ((v.1.2.1.2.1.length:Int)>64))
bif d then some ((true,()),(v.1.1,()),v.1.2,())
else(m81 ((v.1.2.1.2.2.1,()),())).bind fun e=>
bif e.1.1 !=0 then some ((true,()),(v.1.1,()),v.1.2,())
else some ((decide (v.1.2.1.2.2.2.1<1),()),(v.1.1,()),v.1.2,())):Option (tu×aaZ)).bind fun a=>
bif a.1.1 then some ((false,()),())
else(((let f:=(decide ((a.2.2.1.1.2.2.1.length:Int)>0))
bif f then Abs.rowAt a.2.2.1.1.2.2.1 (aP ((a.2.2.1.1.2.2.1.length:Int)-1)) fun g _=>
some ((decide (g.1≥a.2.2.1.1.2.2.2.1),()),a.2)
else some ((false,()),a.2)):Option (tu×aaZ)).bind fun b=>
bif b.1.1 then some ((false,()),())
else(aB qp ((0,b.2.2.1.1.2.1,(b.2.2.1.1.2.1.length:Int),()),b.2)).bind fun h=>
ax h (fun j=>(some j)) (fun k=>(some ((true,()),()))))
def ahB:Abs.Spec:=⟨0,⟨[0,1],(.dat Yn VA),.nil⟩,⟨[4],iU,.nil⟩,ZQ⟩
def ag5:Nat→Abs.iR
 |0=>.mk (bL [(9,⟨[98,2,3,56,57,58,7],(.dat .bool (.st BZ (.st xC (.dat SL (.dat aV (.dat aV (.st Lf .nil))))))),(.box 3 qL (.box 4 VA EF))⟩),(4,⟨[54,2,3],(.dat .bool (.st BZ (.st xC .nil))),aak⟩),(1,⟨[37,2,3],(.dat .bool (.st BZ (.st xC .nil))),aak⟩)]) bF (bL [(7,⟨⟨[58,2,3,56,57],(.dat aV (.st BZ (.st xC ae0))),aak⟩,aaI⟩)]) (fun
  |11,3=>1
  |_,_=>0)
 |1=>.mk (bL [(1,⟨[4],iU,(.box 3 qL EF)⟩)]) bF bF (fun
  |1,2=>2
  |_,_=>0)
 |2=>.mk bF bF (bL [(2,⟨⟨[8,0,1,7],(.dat aV (.dat BO (.st (.clo 86 [((0,0),3,0,0),((1,0),5,0,0)]) dw))),(.box 3 qL EF)⟩,(.more .ret ⟨[4],dw,(.box 3 qL EF)⟩ (.one (.exit 0) ⟨[],.nil,(.box 3 qL EF)⟩))⟩)]) (fun
  |4,5=>3
  |_,_=>0)
 |_=>{}
theorem Uh:fE 36 ahB:=okW ag5 (bK abe (bK abz (bK Xk (bK abT (bK aeW (bK acA fV))))))
def m67(v:((Y25×Int×Unit)×Unit)):Option wQ:=
bif decide (v.1.2.1<v.1.1.1)then some ((6,()),())
else(bif decide (v.1.2.1>8589934592)then some ((1,()),())
else some ((0,()),()))
def agp:Abs.Spec:=⟨0,⟨[0,1],(.dat ZK dw),.nil⟩,⟨[4],dw,.nil⟩,m67⟩
theorem ac6:fE 67 agp:=okW BH fV
def uo(v:aad):Option (aad⊕J2):=
bif decide (v.1.1<v.1.2.2.2.1)then((Abs.rowAt v.1.2.2.1 v.1.1 fun b _=>
bif b.1==v.1.2.1 then bif decide (v.2.1.length+ [v.1.1].length≤4294967296)then
some ((v.1.2.1,v.1.2.2.1,v.1.2.2.2.1,v.1.1,()),v.2.1++ [v.1.1],())
else none
else some ((v.1.2.1,v.1.2.2.1,v.1.2.2.2.1,v.1.1,()),v.2)):Option ((Int×List Y4×Int×Int×Unit)×Ch)).bind fun a=>
some (.inl ((aP (a.1.2.2.2.1+1),a.1.1,a.1.2.1,a.1.2.2.1,()),a.2))
else(some (.inr ((),v.2)))
def Yi(v:((List Y4×Int×Unit)×Unit)):Option J2:=
(aB uo ((0,v.1.2.1,v.1.1,(v.1.1.length:Int),()),[],())).bind fun a=>
some ((),a.2)
def Zh:Abs.Spec:=⟨0,⟨[0,1],aa2,.nil⟩,⟨[4],TL,LU⟩,Yi⟩
def adU:Nat→Abs.iR
 |0=>.mk bF (bL [(7,(⟨[5,1,8,9,10],(.st RL (.dat aV (.dat FN oI))),LU⟩,none))]) (bL [(3,⟨⟨[10,5,1,8,9],(.dat aV (.st RL (.dat aV aa2))),LU⟩,(.one (.exit 0) ⟨[5],TL,LU⟩)⟩)]) jC
 |_=>{}
theorem aeY:fE 168 Zh:=okW adU fV
def nC(rc:Rt→Option J2)(v:ZP):Option (ZP⊕(lU×Ch)):=
bif decide (v.1.1<v.1.2.2.2.2.1)then((bif decide (0≤v.1.1∧v.1.1<v.2.2.1.length)then
(v.2.2.1[v.1.1.toNat]?).bind fun e47=>
Abs.rowAt v.1.2.2.1 e47 fun e48 _=>
(JO ((e48.2.1,v.1.2.2.2.1,()),())).bind fun u49=>
bif !u49.1.1 then some (.inl ((v.1.2.1,v.1.2.2.1,v.1.2.2.2.1,v.1.2.2.2.2.1,v.1.1,()),v.2.1,v.2.2.1,()))
else(rc ((v.1.2.2.1,e47,v.1.2.2.2.1,()),())).bind fun u50=>
bif decide (v.2.1.length+u50.2.1.length≤4294967296)then
Abs.rowAt v.1.2.2.1 e47 fun e51 _=>
bif !e51.2.2.2.2.2.2.2.1 then some (.inr ((v.1.2.1,()),v.2.1++u50.2.1,()))
else some (.inl ((v.1.2.1,v.1.2.2.1,v.1.2.2.2.1,v.1.2.2.2.2.1,v.1.1,()),v.2.1++u50.2.1,v.2.2.1,()))
else none
else none):Option (((Int×List Y4×gM×Int×Int×Unit)×YU)⊕(lU×Ch))).bind fun r54=>
ax r54 (fun v52=>(some (.inl ((aP (v52.1.2.2.2.2.1+1),v52.1.1,v52.1.2.1,v52.1.2.2.1,v52.1.2.2.2.1,()),v52.2.1,v52.2.2.1,())))) (fun d53=>(some (.inr ((d53.1.1,()),d53.2.1,()))))
else(some (.inr ((v.1.2.1,()),v.2.1,())))
def i117:Abs.Sg:=⟨[0,1,2],(.dat FN (.dat aV qK)),.nil⟩
def aeS:Abs.Sg:=⟨[6],TL,LU⟩
def Um(rc:Rt→Option J2)(v:Rt):Option J2:=
(Yi ((v.1.1,(v.1.2.1,())),())).bind fun u46=>
(aB (nC rc) ((0,(v.1.2.1,(v.1.1,(v.1.2.2.1,(((u46.2.1.length:Nat):Int),()))))),([],(u46.2.1,())))).bind fun d55=>
bif ((((d55.2.1.length:Nat):Int):Int)==0)then(some ((),([d55.1.1],())))
else(some ((),(d55.2.1,())))
def Gs(n:Nat):Rt→Option J2:=Nat.rec (motive:=fun _=>Rt→Option J2) (fun _=>none) (fun _ rc=>Um rc) n
def adM:Rt→Option J2:=Gs 400
def SA(n:Nat):Abs.Spec:=⟨0,i117,aeS,Gs n⟩
def ae4:Abs.Spec:=⟨0,i117,aeS,adM⟩
def aek:Nat→Abs.iR
 |0=>.mk bF (bL [(8,(⟨[1,0,2,7,12,13,14],(.dat aV (.dat FN (.dat Ab (.st RL (.st (.own aV (1,0)) oI))))),adT⟩,some Ro8))]) (bL [(3,⟨⟨[14,1,0,2,7,12,13],(.dat aV (.dat aV (.dat FN (.dat Ab (.st RL (.st (.own aV (1,0)) dw)))))),adT⟩,Ro8⟩)]) jC
 |_=>{}
theorem TF:∀n,Abs.gI Tryz.prog 117 (SA n)
 |0=>fun _ _ _ _ _ _ h=>by cases h
 |n+1=>Abs.Ad (C:=XL) (mv:=Tg) Pm (n:=12) (an:=aek) (T:=Abs.vg [(117,SA n),(168,Zh),(169,Z5)]) good BN (Abs.nH _ (by simp only[List.forall_mem_cons];exact⟨TF n,aeY,U6,fun _ h=>by cases h⟩)) rfl (by intro v;kernel_rfl)
theorem ac3:Abs.gI Tryz.prog 117 ae4:=TF 400
def m68(v:((List Y4×gM×Unit)×Unit)):Option J2:=
(((m78 ((v.1.1,()),())).bind fun b=>
bif b.1.1 !=0 then some ((true,v.1.2.1,v.1.1,()),())
else(Y0 (v.1.2,())).bind fun c=>
some ((!c.1.1,v.1.2.1,v.1.1,()),())):Option Zz).bind fun a=>
bif a.1.1 then some ((),[],())
else((adM ((a.1.2.2.1,0,a.1.2.1,()),())).bind fun d=>
some ((),d.2.1,()))
def ahd:Abs.Spec:=⟨0,⟨[0,1],(.dat FN qK),.nil⟩,⟨[4],TL,LU⟩,m68⟩
def ahg:Nat→Abs.iR
 |0=>.mk (bL [(1,⟨[12,1,0],(.dat .bool (.dat Ab abE)),.nil⟩)]) bF bF jC
 |_=>{}
theorem ah7:fE 68 ahd:=okW ahg (bK aay (bK Qd (bK ac3 fV)))
def m72(v:Qk):Option (Unit×(A8×Unit)):=
some ((),((v.1.1,v.1.2.1,-1,-1,()),()),())
def agG:Abs.Spec:=⟨0,⟨[0,1],KO,.nil⟩,⟨[4],JE,(.box 5 J3 .nil)⟩,m72⟩
theorem ahf:fE 72 agG:=okW BH fV
def m73(v:((o5×Y4×gM×Bool×Int×Unit)×Unit)):Option Lc:=
(((m82 ((v.1.1,()),())).bind fun y=>
bif !y.1.1 then some ((true,v.1.2.2.2.2.1,v.1.2.2.2.1,v.1.2.2.1,()),((0,ByteArray.empty,0,0,()),()),(v.1.1,()),(v.1.2.1,()),())
else(Rb ((v.1.2.1,()),())).bind fun z=>
bif !z.1.1 then some ((true,v.1.2.2.2.2.1,v.1.2.2.2.1,v.1.2.2.1,()),((0,ByteArray.empty,0,0,()),()),(v.1.1,()),(v.1.2.1,()),())
else(Y0 ((v.1.2.2.1,()),())).bind fun aa=>
some ((!aa.1.1,v.1.2.2.2.2.1,v.1.2.2.2.1,v.1.2.2.1,()),((0,ByteArray.empty,0,0,()),()),(v.1.1,()),(v.1.2.1,()),())):Option ((Bool×Int×Bool×gM×Unit)×(A8×JS×(Y4×Unit)×Unit))).bind fun c=>
bif c.1.1 then some ((8,()),((0,ByteArray.empty,0,0,()),()),[],())
else((CK ((c.1.2.1,0,8589934592,()),())).bind fun ab=>
bif !ab.1.1 then some ((1,()),((0,ByteArray.empty,0,0,()),()),[],())
else(QI (c.1.2.2.2,())).bind fun s=>
(Lj ((c.2.2.1.1,s.1),())).bind fun b=>
(MO (c.2.2.1,())).bind fun e=>
((bif b.1.2.1 then bif decide (0≤b.1.1∧b.1.1<e.2.2.1.length)then
(e.2.2.1[b.1.1.toNat]?).bind fun a=>
((bif decide (0≤b.1.1∧b.1.1<(e.2.2.1.set b.1.1.toNat (a.1,a.2.1,a.2.2.1,c.1.2.1,a.2.2.2.2)).length)then
((e.2.2.1.set b.1.1.toNat (a.1,a.2.1,a.2.2.1,c.1.2.1,a.2.2.2.2))[b.1.1.toNat]?).bind fun ac=>
bif ac.2.2.2.2.1==c.1.2.2.1 then bif decide ((e.2.2.1.set b.1.1.toNat (a.1,a.2.1,a.2.2.1,c.1.2.1,a.2.2.2.2)).length=(e.2.2.1.set b.1.1.toNat (a.1,a.2.1,a.2.2.1,c.1.2.1,a.2.2.2.2)).length)&&true then
some ((),c.2.1,e.2.1,e.2.2.1.set b.1.1.toNat (a.1,a.2.1,a.2.2.1,c.1.2.1,a.2.2.2.2),())
else none
else bif c.1.2.2.1 then((e.2.2.1.set b.1.1.toNat (a.1,a.2.1,a.2.2.1,c.1.2.1,a.2.2.2.2))[b.1.1.toNat]?).bind fun g=>
(((e.2.2.1.set b.1.1.toNat (a.1,a.2.1,a.2.2.1,c.1.2.1,a.2.2.2.2)).set b.1.1.toNat (g.1,g.2.1,g.2.2.1,g.2.2.2.1,true,g.2.2.2.2.2))[b.1.1.toNat]?).bind fun j=>
((((e.2.2.1.set b.1.1.toNat (a.1,a.2.1,a.2.2.1,c.1.2.1,a.2.2.2.2)).set b.1.1.toNat (g.1,g.2.1,g.2.2.1,g.2.2.2.1,true,g.2.2.2.2.2)).set b.1.1.toNat (j.1,j.2.1,j.2.2.1,j.2.2.2.1,j.2.2.2.2.1,true,()))[b.1.1.toNat]?).bind fun p=>
bif decide (((((e.2.2.1.set b.1.1.toNat (a.1,a.2.1,a.2.2.1,c.1.2.1,a.2.2.2.2)).set b.1.1.toNat (g.1,g.2.1,g.2.2.1,g.2.2.2.1,true,g.2.2.2.2.2)).set b.1.1.toNat (j.1,j.2.1,j.2.2.1,j.2.2.2.1,j.2.2.2.2.1,true,())).set b.1.1.toNat (p.1,p.2.1,c.1.2.1,p.2.2.2)).length=(e.2.2.1.set b.1.1.toNat (a.1,a.2.1,a.2.2.1,c.1.2.1,a.2.2.2.2)).length)&&true then
some ((),c.2.1,e.2.1,(((e.2.2.1.set b.1.1.toNat (a.1,a.2.1,a.2.2.1,c.1.2.1,a.2.2.2.2)).set b.1.1.toNat (g.1,g.2.1,g.2.2.1,g.2.2.2.1,true,g.2.2.2.2.2)).set b.1.1.toNat (j.1,j.2.1,j.2.2.1,j.2.2.2.1,j.2.2.2.2.1,true,())).set b.1.1.toNat (p.1,p.2.1,c.1.2.1,p.2.2.2),())
else none
else((e.2.2.1.set b.1.1.toNat (a.1,a.2.1,a.2.2.1,c.1.2.1,a.2.2.2.2))[b.1.1.toNat]?).bind fun ad=>
bif !ad.2.2.2.2.2.1 then bif decide (0≤b.1.1∧b.1.1<(aP (b.1.1+1))∧((aP (b.1.1+1)):Int)≤(e.2.2.1.set b.1.1.toNat (a.1,a.2.1,a.2.2.1,c.1.2.1,a.2.2.2.2)).length∧(e.2.2.1.set b.1.1.toNat (a.1,a.2.1,a.2.2.1,c.1.2.1,a.2.2.2.2)).length≤4294967296)then
bif decide ((e.2.2.1.set b.1.1.toNat (a.1,a.2.1,a.2.2.1,c.1.2.1,a.2.2.2.2)).length=(e.2.2.1.set b.1.1.toNat (a.1,a.2.1,a.2.2.1,c.1.2.1,a.2.2.2.2)).length)&&true then
bif decide ((e.2.2.1.set b.1.1.toNat (a.1,a.2.1,a.2.2.1,c.1.2.1,a.2.2.2.2)).length=(e.2.2.1.set b.1.1.toNat (a.1,a.2.1,a.2.2.1,c.1.2.1,a.2.2.2.2)).length)&&true then
some ((),c.2.1,e.2.1,(e.2.2.1.set b.1.1.toNat (a.1,a.2.1,a.2.2.1,c.1.2.1,a.2.2.2.2)).take b.1.1.toNat++(e.2.2.1.set b.1.1.toNat (a.1,a.2.1,a.2.2.1,c.1.2.1,a.2.2.2.2)).drop (aP (b.1.1+1)).toNat,())
else none
else none
else none
else((e.2.2.1.set b.1.1.toNat (a.1,a.2.1,a.2.2.1,c.1.2.1,a.2.2.2.2))[b.1.1.toNat]?).bind fun f=>
(((e.2.2.1.set b.1.1.toNat (a.1,a.2.1,a.2.2.1,c.1.2.1,a.2.2.2.2)).set b.1.1.toNat (f.1,f.2.1,f.2.2.1,f.2.2.2.1,false,f.2.2.2.2.2))[b.1.1.toNat]?).bind fun h=>
((((e.2.2.1.set b.1.1.toNat (a.1,a.2.1,a.2.2.1,c.1.2.1,a.2.2.2.2)).set b.1.1.toNat (f.1,f.2.1,f.2.2.1,f.2.2.2.1,false,f.2.2.2.2.2)).set b.1.1.toNat (h.1,h.2.1,h.2.2.1,h.2.2.2.1,h.2.2.2.2.1,false,()))[b.1.1.toNat]?).bind fun l=>
((bif e.2.1.1.2.2.2.1 !=(-1)then let u:=(aP (e.2.1.1.2.2.2.1+c.2.2.2.1.1.2.2.2.2.2.1))
let ae:=(if u>c.1.2.1 then u else c.1.2.1)
some ((ae,()),e.2.1,(((e.2.2.1.set b.1.1.toNat (a.1,a.2.1,a.2.2.1,c.1.2.1,a.2.2.2.2)).set b.1.1.toNat (f.1,f.2.1,f.2.2.1,f.2.2.2.1,false,f.2.2.2.2.2)).set b.1.1.toNat (h.1,h.2.1,h.2.2.1,h.2.2.2.1,h.2.2.2.2.1,false,())).set b.1.1.toNat (l.1,l.2.1,c.1.2.1,l.2.2.2),())
else some ((aP (c.1.2.1+c.2.2.2.1.1.2.2.2.2.1),()),e.2.1,(((e.2.2.1.set b.1.1.toNat (a.1,a.2.1,a.2.2.1,c.1.2.1,a.2.2.2.2)).set b.1.1.toNat (f.1,f.2.1,f.2.2.1,f.2.2.2.1,false,f.2.2.2.2.2)).set b.1.1.toNat (h.1,h.2.1,h.2.2.1,h.2.2.2.1,h.2.2.2.2.1,false,())).set b.1.1.toNat (l.1,l.2.1,c.1.2.1,l.2.2.2),())):Option Lc).bind fun m=>
((bif m.2.1.1.2.2.1 !=(-1)then let af:=(if m.2.1.1.2.2.1<m.1.1 then m.2.1.1.2.2.1 else m.1.1)
some ((af,()),m.2)
else some m):Option Lc).bind fun n=>
(Kv (n.1,())).bind fun ag=>
bif decide (n.2.2.1.length=((((e.2.2.1.set b.1.1.toNat (a.1,a.2.1,a.2.2.1,c.1.2.1,a.2.2.2.2)).set b.1.1.toNat (f.1,f.2.1,f.2.2.1,f.2.2.2.1,false,f.2.2.2.2.2)).set b.1.1.toNat (h.1,h.2.1,h.2.2.1,h.2.2.2.1,h.2.2.2.2.1,false,())).set b.1.1.toNat (l.1,l.2.1,c.1.2.1,l.2.2.2)).length)&&true then
bif decide (n.2.2.1.length=(e.2.2.1.set b.1.1.toNat (a.1,a.2.1,a.2.2.1,c.1.2.1,a.2.2.2.2)).length)&&true then
some ((),c.2.1,((n.2.1.1.1,n.2.1.1.2.1,ag.1.1,n.2.1.1.2.2.2),()),n.2.2)
else none
else none
else none):Option Oo).bind fun ah=>
some (.inl ((),ah.2))
else none
else((bif c.1.2.2.1 then let ai:=(((e.2.2.1.length:Nat):Int)==256)
some ((ai,c.1.2.1,b.1.1,c.1.2.2.2.1,s.1.1,c.1.2.2.1,()),c.2.1,e.2.1,c.2.2.2.1,e.2.2)
else some ((false,c.1.2.1,b.1.1,c.1.2.2.2.1,s.1.1,c.1.2.2.1,()),c.2.1,e.2.1,c.2.2.2.1,e.2.2)):Option ((Bool×Int×Int×gM×ByteArray×Bool×Unit)×(A8×A8×(Y4×Unit)×Y5×Unit))).bind fun d=>
bif d.1.1 then some (.inr ((5,()),((0,ByteArray.empty,0,0,()),()),()))
else bif d.1.2.2.2.2.2.1 then(RD ((d.1.2.2.2.1,()),())).bind fun q=>
bif decide (0≤d.1.2.2.1∧d.1.2.2.1≤d.2.2.2.2.1.length∧d.2.2.2.2.1.length≤4294967295∧([(d.1.2.2.2.2.1,q.2.1,d.1.2.1,d.1.2.1,true,false,())]:List VN).length=1)then
bif decide (d.2.2.2.2.1.length=d.2.2.2.2.1.length)&&(decide (([(d.1.2.2.2.2.1,q.2.1,d.1.2.1,d.1.2.1,true,false,())]:List VN).length=([(d.1.2.2.2.2.1,q.2.1,d.1.2.1,d.1.2.1,true,false,())]:List VN).length)&&true)then
((bif d.2.2.1.1.2.2.2.1 !=(-1)then let w:=(aP (d.2.2.1.1.2.2.2.1+d.2.2.2.1.1.2.2.2.2.2.1))
let aj:=(if w>d.1.2.1 then w else d.1.2.1)
some ((aj,()),d.2.2.1,d.2.2.2.2.1.take d.1.2.2.1.toNat++([(d.1.2.2.2.2.1,q.2.1,d.1.2.1,d.1.2.1,true,false,())]:List VN)++d.2.2.2.2.1.drop d.1.2.2.1.toNat,())
else some ((aP (d.1.2.1+d.2.2.2.1.1.2.2.2.2.1),()),d.2.2.1,d.2.2.2.2.1.take d.1.2.2.1.toNat++([(d.1.2.2.2.2.1,q.2.1,d.1.2.1,d.1.2.1,true,false,())]:List VN)++d.2.2.2.2.1.drop d.1.2.2.1.toNat,())):Option Lc).bind fun o=>
((bif o.2.1.1.2.2.1 !=(-1)then let ak:=(if o.2.1.1.2.2.1<o.1.1 then o.2.1.1.2.2.1 else o.1.1)
some ((ak,()),o.2)
else some o):Option Lc).bind fun r=>
(Kv (r.1,())).bind fun al=>
bif decide (r.2.2.1.length=(d.2.2.2.2.1.take d.1.2.2.1.toNat++([(d.1.2.2.2.2.1,q.2.1,d.1.2.1,d.1.2.1,true,false,())]:List VN)++d.2.2.2.2.1.drop d.1.2.2.1.toNat).length)&&true then
some (.inl ((),d.2.1,((r.2.1.1.1,r.2.1.1.2.1,al.1.1,r.2.1.1.2.2.2),()),r.2.2))
else none
else none
else none
else some (.inl ((),d.2.1,d.2.2.1,d.2.2.2.2))):Option (Oo⊕(lU×(A8×Unit)))).bind fun am=>
ax am (fun k=>(((let an:=(((k.2.2.2.1.length:Nat):Int)==0)
bif decide (k.2.2.2.1.length=k.2.2.2.1.length)&&true then
bif an then some ((),k.2.2.2.1,((0,ByteArray.empty,0,0,()),()),((k.2.2.1.1.1,k.2.2.1.1.2.1,-1,k.2.2.1.1.2.2.2),()),())
else some ((),k.2.2.2.1,((0,ByteArray.empty,0,0,()),()),k.2.2.1,())
else none):Option (Unit×(Y5×A8×A8×Unit))).bind fun t=>
bif decide (t.2.1.length=k.2.2.2.1.length)&&true then
some ((0,()),t.2.2.2.1,t.2.1,())
else none)) (fun x=>(some (x.1,x.2.1,[],()))))
def ahs:Abs.Spec:=⟨0,⟨[0,1,2,3,4],(.dat Z1 (.dat Z2 (.dat Ab XC))),.nil⟩,⟨[10,11],P9,Hw⟩,m73⟩
def ahC:Nat→Abs.iR
 |0=>.mk (bL [(11,⟨[59,10,5,4,6,13,2,12,3],(.dat .bool (.st qw (.st JD (.dat aV (.st aeg (.dat aV (.dat Ab (.dat .str iU)))))))),(.box 5 J3 (.box 5 (.agg (.dat aV (.dat .str (.st (.own Z6 (3,0)) oI))) .nil) (.box 8 Cg PL)))⟩),(10,⟨[10,5],Xm,Ym⟩),(1,⟨[16,10,5,4,3,6,2],(.dat .bool (.st qw (.st JD (.dat aV (.dat .bool (.st aeg qK)))))),(.box 5 J3 (.box 5 Vv Ve))⟩)]) (bL [(17,(⟨[10,5],Xm,Ym⟩,some (.one .ret ⟨[10,11],P9,(.box 5 J3 .nil)⟩)))]) bF (fun
  |17,1=>4
  |16,2=>3
  |10,4=>1
  |_,_=>0)
 |1=>.mk bF bF bF (fun
  |3,3=>2
  |_,_=>0)
 |2=>.mk bF (bL [(6,(⟨[6,0],(.dat aV JE),Hw⟩,none)),(4,(⟨[0,6],P9,Hw⟩,none))]) bF jC
 |3=>.mk bF (bL [(6,(⟨[6,0],(.dat aV JE),Hw⟩,none)),(4,(⟨[0,6],P9,Hw⟩,none))]) bF jC
 |4=>.mk bF (bL [(3,(⟨[2,1],aaz,(.arr Z6 false (.box 5 J3 (.box 5 Yq .nil)))⟩,none))]) bF (fun
  |1,1=>5
  |_,_=>0)
 |_=>{}
theorem ag3:fE 73 ahs:=okW ahC (bK Xk (bK T9 (bK Qd (bK Kz (bK Tt (bK ZC (bK OC (bK Tx (bK ZY fV)))))))))
def qb(v:Zw):Option (Zw⊕((ByteArray×Int×Int×Unit)×aaA)):=
bif decide (v.1.2.2.1<v.1.2.1)then let a:=(IntKind.wrap .u64 (aP (v.1.2.2.1+v.1.2.1)))
bif decide ((0:Int)≤1)then
bif decide ((0:Int)≤(aP (xW .u64 (a) (1)))∧((aP (xW .u64 (a) (1))):Int)<v.2.1.length)then
(v.2.1[(aP (xW .u64 (a) (1))).toNat]?).bind fun b=>
(m84 ((b,v.2.2.1.1,v.1.1,()),())).bind fun c=>
bif decide (c.1.1<0)then some (.inl ((v.1.1,v.1.2.1,aP ((aP (xW .u64 (a) (1)))+1),v.1.2.2.2),v.2))
else some (.inl ((v.1.1,aP (xW .u64 (a) (1)),v.1.2.2),v.2))
else none
else none
else(some (.inr ((v.1.1,v.1.2.2),v.2)))
def uF(v:(zk×Vs)):Option ((zk×Vs)⊕((lU×(zl×Unit))⊕(Unit×(zl×zl×Pe×List o5×uh×Unit)))):=
bif decide (v.1.1<v.1.2.1)then((bif decide (0≤v.1.1∧v.1.1<v.2.2.2.2.2.1.length)then
(v.2.2.2.2.2.1[v.1.1.toNat]?).bind fun g=>
Abs.rowAt v.2.2.2.2.1.1.1 g fun k _=>
(m69 ((k,v.2.2.2.1.1.2.1,()),())).bind fun h=>
(aB qb ((h.1.1,((v.2.2.2.2.2.2.1.length:Nat):Int),0,((v.2.2.2.2.2.2.1.length:Nat):Int),()),v.2.2.2.2.2.2.1,(g,()),())).bind fun c=>
((bif decide (c.1.2.1<c.1.2.2.1)then bif decide (0≤c.1.2.1∧c.1.2.1<c.2.1.length)then
(c.2.1[c.1.2.1.toNat]?).bind fun l=>
(m84 ((l,c.2.2.1.1,c.1.1,()),())).bind fun m=>
some ((c.1.2.1,m.1.1==0,()),c.2)
else none
else some ((c.1.2.1,false,()),c.2)):Option ((Int×Bool×Unit)×aaA)).bind fun e=>
bif decide (e.2.1.length=v.2.2.2.2.2.2.1.length)&&true then
bif decide (e.2.1.length=v.2.2.2.2.2.2.1.length)&&true then
((bif !e.1.2.1 then some ((!v.2.2.2.1.1.2.2.1,v.1.2.1,v.1.1,e.1.1,g,h.1.1,e.1.2),v.2.1,v.2.2.1,v.2.2.2.1,v.2.2.2.2.1,v.2.2.2.2.2.1,e.2.1,v.2.2.2.2.2.2.2)
else some ((false,v.1.2.1,v.1.1,e.1.1,g,h.1.1,e.1.2),v.2.1,v.2.2.1,v.2.2.2.1,v.2.2.2.2.1,v.2.2.2.2.2.1,e.2.1,v.2.2.2.2.2.2.2)):Option ((Bool×Int×Int×Int×Int×ByteArray×Bool×Unit)×Vs)).bind fun a=>
bif a.1.1 then some (.inl ((a.1.2.1,a.1.2.2.1,()),a.2))
else((bif !a.1.2.2.2.2.2.2.1 then(m72 ((a.1.2.2.2.2.1,a.1.2.2.2.2.2.1,()),())).bind fun d=>
bif decide (0≤a.1.2.2.2.1∧a.1.2.2.2.1≤a.2.2.2.2.2.2.1.length∧a.2.2.2.2.2.2.1.length≤4294967295∧([(d.2.1.1.1,d.2.1.1.2.1,[],d.2.1.1.2.2)]:List o5).length=1)then
bif decide (a.2.2.2.2.2.2.1.length=a.2.2.2.2.2.2.1.length)&&(decide (([(d.2.1.1.1,d.2.1.1.2.1,[],d.2.1.1.2.2)]:List o5).length=([(d.2.1.1.1,d.2.1.1.2.1,[],d.2.1.1.2.2)]:List o5).length)&&true)then
some ((a.1.2.1,a.1.2.2.1,a.1.2.2.2.1,a.1.2.2.2.2.1,()),a.2.1,a.2.2.1,a.2.2.2.1,a.2.2.2.2.1,a.2.2.2.2.2.1,a.2.2.2.2.2.2.1.take a.1.2.2.2.1.toNat++([(d.2.1.1.1,d.2.1.1.2.1,[],d.2.1.1.2.2)]:List o5)++a.2.2.2.2.2.2.1.drop a.1.2.2.2.1.toNat,a.2.2.2.2.2.2.2)
else none
else none
else some ((a.1.2.1,a.1.2.2.1,a.1.2.2.2.1,a.1.2.2.2.2.1,()),a.2)):Option ((Int×Int×Int×Int×Unit)×Vs)).bind fun b=>
bif decide (0≤b.1.2.2.1∧b.1.2.2.1<b.2.2.2.2.2.2.1.length)then
(b.2.2.2.2.2.2.1[b.1.2.2.1.toNat]?).bind fun n=>
Abs.rowAt b.2.2.2.2.1.1.1 b.1.2.2.2.1 fun o _=>
(m73 ((n,o,b.2.2.2.1.1.2.1,b.2.2.2.1.1.2.2.1,b.2.2.2.1.1.1,()),())).bind fun f=>
bif f.1.1 !=0 then some (.inr ((5,()),((0,0,()),()),()))
else bif decide (0≤b.1.2.2.1∧b.1.2.2.1<b.2.2.2.2.2.2.1.length)then
bif decide (b.1.2.2.1.toNat<b.2.2.2.2.2.2.1.length)then
some (.inl ((b.1.1,b.1.2.1,()),b.2.1,b.2.2.1,b.2.2.2.1,b.2.2.2.2.1,b.2.2.2.2.2.1,b.2.2.2.2.2.2.1.set b.1.2.2.1.toNat (f.2.1.1.1,f.2.1.1.2.1,f.2.2.1,f.2.1.1.2.2),b.2.2.2.2.2.2.2))
else none
else none
else none
else none
else none
else none):Option ((zk×Vs)⊕(lU×(zl×Unit)))).bind fun p=>
ax p (fun j=>(some (.inl ((aP (j.1.2.1+1),j.1.1,()),j.2)))) (fun q=>(some (.inr (.inl q))))
else(some (.inr (.inr ((),v.2.1,v.2.2.1,v.2.2.2.2.1,v.2.2.2.2.2.2))))
def Pg(v:(zk×N8)):Option Zj:=
bif decide (v.1.1<v.1.2.1)then bif decide (0≤v.1.1∧v.1.1<v.2.1.length)then
(v.2.1[v.1.1.toNat]?).bind fun a=>
(WK ((v.2.2.1.1,a,v.2.2.2.1.1.1,()),())).bind fun b=>
bif decide (v.2.1.length=v.2.1.length)&&(decide (v.2.2.2.2.1.length=v.2.2.2.2.1.length)&&true)then
bif b.1.1 then some (.inr (.inl ((v.1.1,()),v.2)))
else some (.inl ((aP (v.1.1+1),v.1.2),v.2))
else none
else none
else(some (.inr (.inr ((),v.2))))
def O6(v:(zk×N8)):Option ((zk×N8)⊕(lU×N8)):=
let c:=(decide (v.1.1<((v.2.1.length:Nat):Int)))
bif c then((bif decide (0≤v.1.1∧v.1.1<v.2.1.length)then
(v.2.1[v.1.1.toNat]?).bind fun b=>
(WK ((v.2.2.1.1,b,v.2.2.2.1.1.1,()),())).bind fun d=>
bif decide (v.2.1.length=v.2.1.length)&&(decide (v.2.2.2.2.1.length=v.2.2.2.2.1.length)&&true)then
bif !d.1.1 then bif decide (0≤v.1.2.1∧v.1.2.1<v.2.1.length)then
bif decide (v.1.2.1.toNat<v.2.1.length)then
some ((aP (v.1.2.1+1),v.1.1,()),v.2.1.set v.1.2.1.toNat b,v.2.2)
else none
else none
else some ((v.1.2.1,v.1.1,()),v.2)
else none
else none):Option (zk×N8)).bind fun a=>
some (.inl ((aP (a.1.2.1+1),a.1.1,()),a.2))
else(some (.inr (v.1.2,v.2)))
def VD(v:((Zg×Y25×QL×Unit)×Unit)):Option (lU×(PY×List o5×uh×Unit)):=
(((ZQ ((v.1.1,v.1.2.1,()),())).bind fun n=>
bif !n.1.1 then some ((true,()),((0,0,()),()),(v.1.2.1,()),v.1.2.2,(v.1.1,()),())
else(Y0 ((v.1.2.2.1.2.1,()),())).bind fun o=>
some ((!o.1.1,()),((0,0,()),()),(v.1.2.1,()),v.1.2.2,(v.1.1,()),())):Option (tu×(zl×S9×(QL×Unit)×Pe×Unit))).bind fun d=>
bif d.1.1 then some ((8,()),((0,(0,0),0,()),()),[],[],())
else((m67 ((d.2.2.1.1,d.2.2.2.1.1.1,()),())).bind fun k=>
bif k.1.1 !=0 then some (k.1,((0,(0,0),0,()),()),[],[],())
else(m64 (d.2.2.1,())).bind fun l=>
(m68 ((d.2.2.2.2.1.1.1,d.2.2.2.1.1.2.1,()),())).bind fun m=>
(aB uF ((0,((m.2.1.length:Nat):Int),()),d.2.1,((d.2.2.2.1.1.1,l.2.1.1.2),()),d.2.2.2.1,d.2.2.2.2.1,m.2.1,l.2.2)).bind fun p=>
ax p (fun f=>(some (f.1,((f.2.1.1.1,(0,0),f.2.1.1.2),()),[],[],()))) (fun b=>((((((aB Pg ((0,((b.2.2.2.2.1.length:Nat):Int),()),b.2.2.2.2.1,b.2.2.2.1,b.2.2.1,b.2.2.2.2.2)).bind fun q=>
ax q (fun g=>(bif decide (g.2.1.length=b.2.2.2.2.1.length)&&(decide (g.2.2.2.2.1.length=b.2.2.2.2.2.1.length)&&true)then
some g
else none)) (fun h=>(bif decide (h.2.1.length=b.2.2.2.2.1.length)&&(decide (h.2.2.2.2.1.length=b.2.2.2.2.2.1.length)&&true)then
some ((-1,()),h.2)
else none))):Option (lU×N8)).bind fun c=>
bif c.1.1==(-1)then bif decide (c.2.1.length=b.2.2.2.2.1.length)&&(decide (c.2.2.2.2.1.length=b.2.2.2.2.2.1.length)&&true)then
some ((),c.2.1,c.2.2.2.2.1,((0,0,()),()),((c.2.2.2.1.1.1,(0,c.2.1.length),c.2.2.2.1.1.2),()),())
else none
else(aB O6 ((aP (c.1.1+1),c.1),c.2)).bind fun a=>
bif decide ((0:Int)≤a.1.1)then
bif decide (a.1.1.toNat≤a.2.1.length∧a.2.1.length≤a.2.1.length)then
bif decide (a.1.1.toNat+(a.2.1.length-a.1.1.toNat)≤a.2.1.length)then
let j:=(bQ a.2.1 a.1.1.toNat (List.replicate (a.2.1.length-a.1.1.toNat) ((0,ByteArray.empty,[],0,0,()):o5)))
bif decide ((0:Int)≤a.1.1)then
bif decide (0≤a.1.1.toNat∧a.1.1.toNat≤j.length)then
bif decide (j.length=b.2.2.2.2.1.length)&&(decide (a.2.2.2.2.1.length=b.2.2.2.2.2.1.length)&&true)then
some ((),j,a.2.2.2.2.1,((0,0,()),()),((a.2.2.2.1.1.1,(0,a.1.1.toNat),a.2.2.2.1.1.2),()),())
else none
else none
else none
else none
else none
else none):Option Zk).bind fun e=>
bif decide (e.2.1.length=b.2.2.2.2.1.length)&&(decide (e.2.2.1.length=b.2.2.2.2.2.1.length)&&true)then
let r:=(decide (((e.2.2.2.2.1.1.2.1.2:Nat):Int)>64))
bif r then some ((5,()),((0,(0,0),0,()),()),[],[],())
else some ((0,()),e.2.2.2.2.1,e.2.1,e.2.2.1,())
else none)))
def agY:Abs.Spec:=⟨0,⟨[0,1,2],(.dat Yn (.dat ZK (.dat Z27 .nil))),.nil⟩,⟨[6,7],(.st jF dw),(.box 4 (.agg (.dat aV (.part Z1 (1,0) (.st (.own Z3 (2,0)) dw))) .nil) Qz)⟩,VD⟩
def afZ:Nat→Abs.iR
 |0=>.mk (bL [(13,⟨[72,6,4,5,3,44,45,46,12,10,11,13],(.dat .bool (.st jF (.st xC (.st Jy (.st Qe (.st (.own aV (4,0)) (.dat aV (.dat aV (.dat aV (.dat aV (.dat .str iU))))))))))),XK⟩),(1,⟨[25,6,4,5,3],(.dat .bool (.st jF (.st xC (.st Jy (.st Qe .nil))))),(.box 4 qV (.box 4 VA (.box 3 (.dat Z27 .nil) (.box 3 qL .nil))))⟩)]) (bL [(20,(⟨[6,4,5,3,44,45,46],(.st jF (.st xC (.st Jy (.st Qe (.st (.own aV (4,0)) oI))))),XK⟩,some (.one .ret ⟨[6,7],(.st jF dw),(.box 4 qV .nil)⟩))),(16,(⟨[6,4,5,3,44,45,46,12,10],(.st jF (.st xC (.st Jy (.st Qe (.st (.own aV (4,0)) (.dat aV Ib)))))),XK⟩,none))]) (bL [(9,⟨⟨[46,6,4,5,3,44,45],(.dat aV (.st jF (.st xC (.st Jy (.st Qe (.st (.own aV (4,0)) dw)))))),XK⟩,(.more .ret ⟨[6,7],(.st jF dw),(.box 4 qV .nil)⟩ (.one (.exit 0) ⟨[6,4,3],(.st jF (.st xC (.st Jy .nil))),(.box 4 qV (.box 4 aeT (.box 3 qL Qz)))⟩))⟩)]) (fun
  |21,2=>5
  |12,4=>1
  |_,_=>0)
 |1=>.mk bF bF bF (fun
  |1,3=>2
  |_,_=>0)
 |2=>.mk (bL [(8,⟨[6,7],L8,(.arr Z1 false Qc)⟩)]) bF (bL [(3,⟨⟨[1,0,2,10,9,8],(.dat .str (.st Iy (.st (.clo 121 [((1,0),1,0,0)]) Ib))),(.arr Z1 false Qc)⟩,(.one (.exit 0) ⟨[1,9,0,2,8],(.dat .str (.dat aV (.st Iy (.st (.clo 121 [((1,0),1,0,0)]) dw)))),(.arr Z1 false Qc)⟩)⟩)]) (fun
  |8,11=>4
  |5,6=>3
  |_,_=>0)
 |5=>.mk (bL [(1,⟨[4,3],(.st NE (.st Py .nil)),adf⟩)]) bF bF (fun
  |1,3=>6
  |_,_=>0)
 |6=>.mk (bL [(1,⟨[0,5,1],(.st Iy (.dat aV YQ)),Tv⟩)]) (bL [(6,(⟨[5,0,1,6],Yz,Tv⟩,none))]) (bL [(5,⟨⟨[6,5,0,1],(.dat aV (.dat aV (.st Iy YQ))),Tv⟩,ad7⟩)]) (fun
  |8,2=>9
  |1,2=>7
  |_,_=>0)
 |7=>.mk bF bF (bL [(2,⟨⟨[8,0,1,7],Yz,Tv⟩,acN⟩)]) (fun
  |4,5=>8
  |_,_=>0)
 |_=>{}
theorem aaR:fE 27 agY:=okW afZ (bK Uh (bK Qd (bK ac6 (bK XO (bK ah7 (bK acA (bK aeW (bK ahf (bK ag3 (bK abT fV))))))))))
def Xj(v:(lU×Yq2)):Option ((lU×Yq2)⊕(lU×Yq2)):=
bif decide (v.2.1.1.2.2.2.2.1.1+v.2.1.1.2.2.2.2.1.2≤v.2.2.1.length)then
(Vf (((v.2.1.1.2.2.2.1,(v.2.2.1.drop v.2.1.1.2.2.2.2.1.1).take v.2.1.1.2.2.2.2.1.2,v.2.2.2.1,v.2.1.1.2.2.2.2.2.1,()),()),())).bind fun c=>
((bif !c.1.2.1 then some ((true,v.1.1,c.1.1,()),v.2)
else some ((decide (c.1.1≥v.1.1),v.1.1,c.1.1,()),v.2)):Option (Te×Yq2)).bind fun a=>
bif a.1.1 then some (.inr ((0,()),a.2))
else let d:=(decide (((aP (a.2.1.1.2.2.2.2.2.2.1+1)):Int)>1000))
bif d then some (.inr ((5,()),((a.2.1.1.1,a.2.1.1.2.1,a.2.1.1.2.2.1,a.2.1.1.2.2.2.1,a.2.1.1.2.2.2.2.1,a.2.1.1.2.2.2.2.2.1,aP (a.2.1.1.2.2.2.2.2.2.1+1),()),()),a.2.2))
else let e:=(if a.2.1.1.2.2.2.1>a.1.2.2.1 then a.2.1.1.2.2.2.1 else a.1.2.2.1)
bif decide (a.2.1.1.2.2.2.2.1.1+a.2.1.1.2.2.2.2.1.2≤a.2.2.1.length)then
(m75 (((a.2.1.1.1,a.2.1.1.2.1,a.2.1.1.2.2.1,()),(a.2.1.1.2.2.2.1,(a.2.2.1.drop a.2.1.1.2.2.2.2.1.1).take a.2.1.1.2.2.2.2.1.2,a.2.2.2.1,a.2.1.1.2.2.2.2.2.1,()),e,()),())).bind fun b=>
bif decide (a.2.2.2.2.1.length+b.2.2.1.length≤4294967296)then
some (.inl ((a.1.2.1,()),((a.2.1.1.1,a.2.1.1.2.1,a.2.1.1.2.2.1,b.2.1.1.1,b.2.1.1.2.1,b.2.1.1.2.2.1,aP (a.2.1.1.2.2.2.2.2.2.1+1),()),()),b.2.2.2.1,b.2.2.2.2.1,a.2.2.2.2.1++b.2.2.1,()))
else none
else none
else none
def Vx(v:aeo):Option (aeo⊕((lU×(zl×List LX×Unit))⊕(lU×(zl×((List Y4×List FK×Int×Int×(Nat×Nat)×Int×Int×Unit)×Unit)×List o5×uh×List LX×Unit)))):=
bif decide (v.1.1<v.1.2.2.2.1)then Abs.rowAt v.1.2.1 v.1.1 fun c _=>
(aB Xj ((c.1,()),v.2.2.1,v.2.2.2.2)).bind fun a=>
bif decide (v.2.2.2.2.1.length=v.2.2.2.2.1.length)&&(decide (v.2.2.2.2.2.1.length=v.2.2.2.2.2.1.length)&&(decide (v.2.2.2.2.2.2.1.length=v.2.2.2.2.2.2.1.length)&&true))then
bif a.1.1 !=0 then some (.inr (.inl (a.1,((0,0,()),()),[],())))
else bif decide (a.2.1.1.2.2.2.2.1.1+a.2.1.1.2.2.2.2.1.2≤a.2.2.1.length)then
(VD ((v.2.2.2.1.1,(a.2.1.1.2.2.2.1,(a.2.2.1.drop a.2.1.1.2.2.2.2.1.1).take a.2.1.1.2.2.2.2.1.2,a.2.2.2.1,a.2.1.1.2.2.2.2.2.1,()),c,()),())).bind fun b=>
bif b.1.1 !=0 then some (.inr (.inl (b.1,((0,0,()),()),[],())))
else some (.inl ((aP (v.1.1+1),v.1.2),v.2.1,((a.2.1.1.1,a.2.1.1.2.1,a.2.1.1.2.2.1,b.2.1.1.1,b.2.1.1.2.1,b.2.1.1.2.2.1,a.2.1.1.2.2.2.2.2.2),()),v.2.2.2.1,b.2.2.1,b.2.2.2.1,a.2.2.2.2))
else none
else none
else(some (.inr (.inr ((v.1.2.2.1,()),v.2.1,v.2.2.1,v.2.2.2.2))))
def WS(v:(lU×Yq2)):Option ((lU×Yq2)⊕(lU×Yq2)):=
bif decide (v.2.1.1.2.2.2.2.1.1+v.2.1.1.2.2.2.2.1.2≤v.2.2.1.length)then
(Vf (((v.2.1.1.2.2.2.1,(v.2.2.1.drop v.2.1.1.2.2.2.2.1.1).take v.2.1.1.2.2.2.2.1.2,v.2.2.2.1,v.2.1.1.2.2.2.2.2.1,()),()),())).bind fun c=>
((bif !c.1.2.1 then some ((true,v.1.1,c.1.1,()),v.2)
else some ((decide (c.1.1≥v.1.1),v.1.1,c.1.1,()),v.2)):Option (Te×Yq2)).bind fun a=>
bif a.1.1 then some (.inr ((0,()),a.2))
else let d:=(decide (((aP (a.2.1.1.2.2.2.2.2.2.1+1)):Int)>1000))
bif d then some (.inr ((5,()),((a.2.1.1.1,a.2.1.1.2.1,a.2.1.1.2.2.1,a.2.1.1.2.2.2.1,a.2.1.1.2.2.2.2.1,a.2.1.1.2.2.2.2.2.1,aP (a.2.1.1.2.2.2.2.2.2.1+1),()),()),a.2.2))
else let e:=(if a.2.1.1.2.2.2.1>a.1.2.2.1 then a.2.1.1.2.2.2.1 else a.1.2.2.1)
bif decide (a.2.1.1.2.2.2.2.1.1+a.2.1.1.2.2.2.2.1.2≤a.2.2.1.length)then
(m75 (((a.2.1.1.1,a.2.1.1.2.1,a.2.1.1.2.2.1,()),(a.2.1.1.2.2.2.1,(a.2.2.1.drop a.2.1.1.2.2.2.2.1.1).take a.2.1.1.2.2.2.2.1.2,a.2.2.2.1,a.2.1.1.2.2.2.2.2.1,()),e,()),())).bind fun b=>
bif decide (a.2.2.2.2.1.length+b.2.2.1.length≤4294967296)then
some (.inl ((a.1.2.1,()),((a.2.1.1.1,a.2.1.1.2.1,a.2.1.1.2.2.1,b.2.1.1.1,b.2.1.1.2.1,b.2.1.1.2.2.1,aP (a.2.1.1.2.2.2.2.2.2.1+1),()),()),b.2.2.2.1,b.2.2.2.2.1,a.2.2.2.2.1++b.2.2.1,()))
else none
else none
else none
def m15(v:((Zg×List QL×Int×Unit)×Unit)):Option (lU×aby):=
(m34 ((v.1.1,()),())).bind fun e=>
bif e.1.1 !=0 then some (e.1,((0,(0,0),0,()),()),[],[],[],())
else(bif decide ((v.1.2.1.length:Int)>256)then some ((5,()),((0,(0,0),0,()),()),[],[],[],())
else((bif decide (v.1.2.2.1<0)then some ((true,v.1.2.2.1,v.1.2.1,()),((0,0,()),()),(v.1.1,()),())
else some ((decide (v.1.2.2.1>8589934592),v.1.2.2.1,v.1.2.1,()),((0,0,()),()),(v.1.1,()),())):Option ((Bool×Int×List QL×Unit)×(zl×Pe×Unit))).bind fun a=>
bif a.1.1 then some ((1,()),((0,(0,0),0,()),()),[],[],[],())
else(m26 ((),())).bind fun f=>
(aB Vx ((0,a.1.2.2.1,a.1.2.1,(a.1.2.2.1.length:Int),()),a.2.1,((a.2.2.1.1.1,a.2.2.1.1.2.1,a.2.2.1.1.2.2.1,f.2.1.1.1,(0,0),f.2.1.1.2.1,0,()),()),a.2.2.1,[],[],[],())).bind fun g=>
ax g (fun d=>(some (d.1,((d.2.1.1.1,(0,0),d.2.1.1.2),()),d.2.2.1,[],[],()))) (fun b=>((aB WS ((aP (b.1.1+1),()),b.2.2)).bind fun c=>
bif decide (b.2.2.2.1.length=b.2.2.2.1.length)&&(decide (b.2.2.2.2.1.length=b.2.2.2.2.1.length)&&(decide (b.2.2.2.2.2.1.length=b.2.2.2.2.2.1.length)&&true))then
bif c.1.1 !=0 then some (c.1,((0,(0,0),0,()),()),[],[],[],())
else some ((0,()),((c.2.1.1.2.2.2.1,c.2.1.1.2.2.2.2.1,c.2.1.1.2.2.2.2.2.1,()),()),c.2.2.2.2.1,c.2.2.1,c.2.2.2.1,())
else none)))
def agy:Abs.Spec:=⟨0,⟨[0,1,2],(.dat Yn (.dat (.row Z27) dw)),.nil⟩,⟨[6,7,8],(.st jF (.st SX dw)),abH⟩,m15⟩
def ahq:Nat→Abs.iR
 |0=>.mk (bL [(6,⟨[27,6,3,2,1],(.dat .bool (.st jF (.st af5 (.dat aV (.dat (.row Z27) .nil))))),(.box 4 qV (.box 3 qL .nil))⟩)]) bF (bL [(10,⟨⟨[6,41,10,3,39,2,40],(.st jF (.dat aV (.st (.ptr (1,0) 9 0 0) (.st Jy (.dat (.row Z27) oI))))),(.box 4 qV (.box 9 (.agg (.dat FN (.dat Es (.dat aV (.dat aV (.part Z1 (3,0) (.st (.own Z3 (4,0)) (.dat aV (.st (.own Z9 (5,0)) dw)))))))) .nil) (.box 3 qL afD)))⟩,(.more .ret ⟨[6,7,8],(.st jF (.st SX dw)),(.box 4 qV (.arr Z9 false .nil))⟩ (.one (.exit 1) ⟨[6,10,2],(.st jF (.st (.ptr (1,0) 9 0 0) dw)),(.box 4 qV (.box 9 (.agg (.dat FN (.dat Es (.dat aV (.dat aV (.part Z1 (2,0) (.st (.own Z3 (3,0)) (.dat aV (.st (.own Z9 (4,0)) dw)))))))) .nil) afD))⟩))⟩)]) (fun
  |19,3=>3
  |12,3=>2
  |_,_=>0)
 |1=>.mk (bL [(2,⟨[23,0,1,5],aaV,Qb5⟩)]) bF (bL [(1,⟨⟨[0,1],(.st Yl dw),Qb5⟩,aaj⟩)]) jC
 |2=>.mk (bL [(2,⟨[23,0,1,5],aaV,Qb5⟩)]) bF (bL [(1,⟨⟨[0,1],(.st Yl dw),Qb5⟩,aaj⟩)]) jC
 |3=>.mk (bL [(2,⟨[23,0,1,5],aaV,Qb5⟩)]) bF (bL [(1,⟨⟨[0,1],(.st Yl dw),Qb5⟩,aaj⟩)]) jC
 |_=>{}
theorem ahp:fE 15 agy:=okW ahq (bK abe (bK abN (bK aaH (bK acI (bK aaR fV)))))
def m63(v:((uh×TV×Unit)×Unit)):Option (lU×Fq):=
(Ms ((v.1.1,()),())).bind fun a=>
(Ms ((([v.1.2.1]:List TV),()),())).bind fun b=>
bif decide (a.2.1.length+b.2.1.length≤4294967296)then
(m81 ((a.2.1++b.2.1,()),())).bind fun c=>
bif c.1.1 !=0 then some (c.1,[],())
else some ((0,()),a.2.1++b.2.1,())
else none
def agc:Abs.Spec:=⟨0,⟨[0,1],(.dat zQ (.dat Z3 .nil)),.nil⟩,⟨[4,5],(.st Rm dw),xX⟩,m63⟩
theorem agC:fE 63 agc:=okW BH (bK Ta (bK abz fV))
def XB(v:U7):Option gN:=
some ((!v.1.1.2.2.2.2.2.1,()),())
def acC:Abs.Spec:=⟨0,⟨[0],(.dat Z6 .nil),.nil⟩,⟨[2],iU,.nil⟩,XB⟩
theorem Zv:fE 114 acC:=okW BH fV
def xk(v:PG):Option (PG⊕(wQ⊕zo)):=
bif decide (v.1.1<v.1.2.2.1)then Abs.rowAt v.1.2.1 v.1.1 fun a _=>
(XB ((a,()),())).bind fun b=>
bif b.1.1 then some (.inr (.inl ((v.1.1,()),())))
else some (.inl ((aP (v.1.1+1),v.1.2),()))
else(some (.inr (.inr ((),()))))
def u6(v:Q9):Option (Q9⊕(Unit×Mh)):=
bif decide (v.1.1<v.1.2.2.1)then((bif decide (0≤v.1.1∧v.1.1<v.2.2.1.length)then
(v.2.2.1[v.1.1.toNat]?).bind fun b=>
(((((aB xk ((0,b.2.2.1,(b.2.2.1.length:Int),()),())).bind fun e=>
ax e (fun f=>(some ((decide (f.1.1≥0),()),()))) (fun h=>(some ((false,()),())))):Option gN).bind fun g=>
bif g.1.1 then bif b.2.2.2.1==(-1)then some ((true,v.1.2.1,v.1.2.2.1,v.1.1,v.1.1,()),v.2)
else some ((decide (b.2.2.2.1>v.1.2.1),v.1.2.1,v.1.2.2.1,v.1.1,v.1.1,()),v.2)
else some ((false,v.1.2.1,v.1.2.2.1,v.1.1,v.1.1,()),v.2)):Option ZM).bind fun a=>
bif a.1.1 then bif decide (0≤a.1.2.2.2.2.1∧a.1.2.2.2.2.1<a.2.2.1.length)then
(a.2.2.1[a.1.2.2.2.2.1.toNat]?).bind fun c=>
some ((a.1.2.1,a.1.2.2.1,a.1.2.2.2.1,()),a.2.1,a.2.2.1.set a.1.2.2.2.2.1.toNat (c.1,c.2.1,c.2.2.1,a.1.2.1,c.2.2.2.2),a.2.2.2)
else none
else some ((a.1.2.1,a.1.2.2.1,a.1.2.2.2.1,()),a.2)
else none):Option Q9).bind fun d=>
some (.inl ((aP (d.1.2.2.1+1),d.1.1,d.1.2.1,()),d.2))
else(some (.inr ((),v.2)))
def QO(v:((Zg×Y25×TV×Unit)×Unit)):Option (zk×Mh):=
(ZQ ((v.1.1,v.1.2.1,()),())).bind fun d=>
bif !d.1.1 then some ((0,8,()),((0,0,()),()),[],[],())
else(bif decide (v.1.2.1.2.2.2.1≥8589934592)then some ((0,5,()),((0,0,()),()),[],[],())
else(m63 ((v.1.2.1.2.2.1,(v.1.2.1.2.2.2.1,v.1.2.2.1.2),()),())).bind fun b=>
bif b.1.1 !=0 then some ((0,b.1),((0,0,()),()),[],[],())
else(m64 ((v.1.2.1,()),())).bind fun a=>
(aB u6 ((0,v.1.2.2.1.2.2.1,((a.2.2.1.length:Nat):Int),()),((a.2.1.1.1,aP (a.2.1.1.2.1+1),()),()),a.2.2.1,b.2)).bind fun c=>
bif decide (c.2.2.1.length=a.2.2.1.length)&&(decide (c.2.2.2.1.length=b.2.1.length)&&true)then
some ((v.1.2.1.2.2.2.1,0,()),c.2)
else none)
def ahy:Abs.Spec:=⟨0,⟨[0,1,2],(.dat Yn (.dat ZK (.dat Z3 .nil))),.nil⟩,⟨[6,7,8],(.st jF oI),SF⟩,QO⟩
def ag0:Nat→Abs.iR
 |0=>.mk bF bF bF (fun
  |12,2=>1
  |_,_=>0)
 |1=>.mk (bL [(3,⟨[29,1,0,9,10,11,4],adp,SF⟩)]) (bL [(5,(⟨[1,0,9,10,11],(.dat aV (.st jF (.st Qv oI))),SF⟩,none))]) (bL [(1,⟨⟨[11,1,0,9,10],Z7,SF⟩,(.one (.exit 0) ⟨[],.nil,SF⟩)⟩)]) (fun
  |3,2=>2
  |_,_=>0)
 |2=>.mk (bL [(1,⟨[4],iU,.nil⟩)]) bF bF (fun
  |1,2=>3
  |_,_=>0)
 |3=>.mk bF bF (bL [(2,⟨⟨[8,0,1,7],ac7,.nil⟩,ZA⟩)]) jC
 |_=>{}
theorem afs:fE 25 ahy:=okW ag0 (bK Uh (bK agC (bK XO (bK Zv fV))))
def RN(v:abM):Option (lU×aby):=
(ZQ ((v.1.1,v.1.2.1,()),())).bind fun b=>
bif !b.1.1 then some ((8,()),((0,(0,0),0,()),()),[],[],[],())
else((m67 (v.1.2,())).bind fun a=>
bif a.1.1 !=0 then some (a.1,((0,(0,0),0,()),()),[],[],[],())
else(m75 v).bind fun c=>
some ((0,()),c.2))
def ag1:Abs.Spec:=⟨0,⟨[0,1,2],(.dat Yn (.dat ZK dw)),.nil⟩,⟨[6,7,8],(.st jF (.st SX dw)),abH⟩,RN⟩
theorem adS:fE 28 ag1:=okW BH (bK Uh (bK ac6 (bK acI fV)))
def m10(v:zo):Option gN:=
(m15 (((([(-1,[],0,[],30,300,3600,false,())]:List Y4),[],0,()),([(100,([(bs [97],bs [120],())]:List wR),true,())]:List QL),200,()),())).bind fun d=>
(m26 ((),())).bind fun e=>
(QO (((([(-1,[],0,[],30,300,3600,false,())]:List Y4),[],0,()),(e.2.1.1.1,[],[],e.2.1.1.2),(0,0,1000,0,([(bs [97],0,bs [120],())]:List KE),()),()),())).bind fun c=>
(VD (((([(-1,[],0,[],30,300,3600,false,())]:List Y4),[],0,()),(c.2.1.1.1,c.2.2.1,c.2.2.2.1,c.2.1.1.2),(100,([(bs [97],bs [120],())]:List wR),true,()),()),())).bind fun b=>
bif decide (b.2.1.1.2.1.1+b.2.1.1.2.1.2≤b.2.2.1.length)then
(RN (((([(-1,[],0,[],30,300,3600,false,())]:List Y4),[],0,()),(b.2.1.1.1,(b.2.2.1.drop b.2.1.1.2.1.1).take b.2.1.1.2.1.2,b.2.2.2.1,b.2.1.1.2.2),130,()),())).bind fun a=>
bif decide (a.2.1.1.2.1.1+a.2.1.1.2.1.2≤a.2.2.2.1.length)then
(Vf (((a.2.1.1.1,(a.2.2.2.1.drop a.2.1.1.2.1.1).take a.2.1.1.2.1.2,a.2.2.2.2.1,a.2.1.1.2.2),()),())).bind fun f=>
((bif d.1.1==0 then bif c.1.2.1==0 then bif b.1.1==0 then bif a.1.1==0 then bif ((d.2.2.1.length:Nat):Int)==1 then bif decide ((0:Int)≤0∧(0:Int)<d.2.2.1.length)then
(d.2.2.1[0]?).bind fun g=>
bif g.1==130 then bif c.1.1==1 then bif ((a.2.2.1.length:Nat):Int)==0 then bif f.1.2.1 then bif f.1.1==430 then bif decide (a.2.1.1.2.1.1+a.2.1.1.2.1.2≤a.2.2.2.1.length)then
bif ve ((a.2.2.2.1.drop a.2.1.1.2.1.1).take a.2.1.1.2.1.2)then
bif decide (a.2.2.2.1.length=a.2.2.2.1.length)&&(decide (a.2.2.2.2.1.length=a.2.2.2.2.1.length)&&true)then
let h:=((((nP ((a.2.2.2.1.drop a.2.1.1.2.1.1).take a.2.1.1.2.1.2)).length:Int):Int)==1)
bif h then(m34 (((([(-1,[],0,[],30,300,3600,false,())]:List Y4),[],0,()),()),())).bind fun j=>
bif j.1.1==0 then bif decide (a.2.1.1.2.1.1+a.2.1.1.2.1.2≤a.2.2.2.1.length)then
(ZQ (((([(-1,[],0,[],30,300,3600,false,())]:List Y4),[],0,()),(a.2.1.1.1,(a.2.2.2.1.drop a.2.1.1.2.1.1).take a.2.1.1.2.1.2,a.2.2.2.2.1,a.2.1.1.2.2),()),())).bind fun k=>
some k
else none
else some ((false,()),())
else some ((false,()),())
else none
else none
else none
else some ((false,()),())
else some ((false,()),())
else some ((false,()),())
else some ((false,()),())
else some ((false,()),())
else none
else some ((false,()),())
else some ((false,()),())
else some ((false,()),())
else some ((false,()),())
else some ((false,()),())):Option gN).bind fun l=>
some l
else none
else none
def ahv:Abs.Spec:=⟨0,⟨[],.nil,.nil⟩,⟨[0],iU,.nil⟩,m10⟩
def ah9:Nat→Abs.iR
 |0=>.mk (bL [(8,⟨[0],iU,.nil⟩)]) bF bF jC
 |_=>{}
theorem ahb:fE 10 ahv:=okW ah9 (bK ahp (bK abN (bK afs (bK aaR (bK adS (bK aaH (bK abe (bK Uh fV))))))))
def m11(v:(Ch×Unit)):Option QB:=
some ((),((v.1.1,0,()),()),())
def agI:Abs.Spec:=⟨0,⟨[0],(.dat rIz .nil),.nil⟩,⟨[2],Uy,BV⟩,m11⟩
theorem ahh:fE 11 agI:=okW BH fV
def Ma(v:Ji):Option Ji:=
((let c:=(decide (v.2.1.1.2.1≥(v.2.1.1.1.length:Int)))
bif c then some ((true,v.1),v.2)
else some ((decide (v.1.1<1),v.1),v.2)):Option (Ih×Uw)).bind fun a=>
bif a.1.1 then some ((0,()),a.2)
else(Abs.rowAt a.2.1.1.1 a.2.1.1.2.1 fun b _=>
bif decide (a.1.2.1≠(0:Int))then
((let d:=(decide ((((b:Int).tmod a.1.2.1):Int)<0))
bif d then some ((aP (((b:Int).tmod a.1.2.1)+a.1.2.1),()),((a.2.1.1.1,aP (a.2.1.1.2.1+1),()),()),())
else some (((b:Int).tmod a.1.2.1,()),((a.2.1.1.1,aP (a.2.1.1.2.1+1),()),()),())):Option Ji).bind fun e=>
some e
else none)
def aha:Abs.Spec:=⟨1,⟨[0,1],ac9,BV⟩,⟨[4],dw,BV⟩,Ma⟩
def ah0:Nat→Abs.iR
 |0=>.mk (bL [(1,⟨[19,1,0],(.dat .bool (.dat aV Uy)),BV⟩)]) (bL [(7,(⟨[5],dw,BV⟩,none))]) bF jC
 |_=>{}
theorem abb:fE 38 aha:=okW ah0 fV
def m32(v:(Ch×Uw)):Option Ji:=
(Ma (((v.1.1.length:Int),()),v.2)).bind fun a=>
Abs.rowAt v.1.1 a.1.1 fun b _=>
some ((b,()),a.2)
def ah2:Abs.Spec:=⟨1,⟨[0,1],(.st UC (.dat rIz .nil)),BV⟩,⟨[4],dw,BV⟩,m32⟩
theorem ok32:fE 32 ah2:=okW BH (bK abb fV)
def m40(v:Ji):Option (tu×Uw):=
(Ma v).bind fun a=>
some ((a.1.1==(aP (v.1.1-1)),()),a.2)
def ahj:Abs.Spec:=⟨1,⟨[0,1],ac9,BV⟩,⟨[4],iU,BV⟩,m40⟩
theorem aen:fE 40 ahj:=okW BH (bK abb fV)
def yj(v:(Xq×Sm)):Option ((Xq×Sm)⊕(Unit×Sm)):=
bif decide (v.1.1<4)then((Abs.rowAt ([v.1.2.1.1,v.1.2.1.2.1,v.1.2.1.2.2.1,v.1.2.1.2.2.2.1]:List ByteArray) v.1.1 fun c _=>
(m40 ((3,()),v.2.1,())).bind fun a=>
bif a.1.1 then bif decide (v.2.2.1.length+ [c].length≤4294967296)then
some ((v.1.2.1,v.1.1,()),a.2.1,v.2.2.1++ [c],())
else none
else some ((v.1.2.1,v.1.1,()),a.2.1,v.2.2)):Option ((abK×Int×Unit)×Sm)).bind fun b=>
some (.inl ((aP (b.1.2.1+1),b.1.1,()),b.2))
else(some (.inr ((),v.2)))
def m62(v:QB):Option (Unit×Sm):=
(aB yj ((0,(bs [97,112,112],bs [104,111,115,116],bs [115,101,118],bs [116,101,97,109],()),()),v.2.1,[],())).bind fun a=>
some ((),a.2)
def ahG:Abs.Spec:=⟨1,⟨[0],Uy,BV⟩,⟨[2],(.st (.own .str (1,0)) .nil),(.box 2 PU Zx)⟩,m62⟩
def agM:Nat→Abs.iR
 |0=>.mk bF (bL [(7,(⟨[3,0,6,7],(.st (.own .str (1,0)) (.st UC (.dat aeV dw))),(.box 2 PU Zx)⟩,none))]) (bL [(3,⟨⟨[7,3,0,6],(.dat aV (.st (.own .str (1,0)) (.st UC (.dat aeV .nil)))),(.box 2 PU Zx)⟩,(.one (.exit 0) ⟨[3],(.st (.own .str (1,0)) .nil),(.box 2 PU Zx)⟩)⟩)]) jC
 |_=>{}
theorem agQ:fE 62 ahG:=okW agM (bK aen fV)
def m24(v:QB):Option (Unit×(VP×((Int×Int×Int×Int×Int×Bool×Unit)×Unit)×List ByteArray×Unit)):=
(m32 (([0,30,10,60],()),v.2)).bind fun a=>
(m32 (([20,300,40],()),a.2)).bind fun b=>
(Ma ((3,()),b.2)).bind fun c=>
(m62 ((),c.2)).bind fun d=>
(m32 (([0,3600,100],()),d.2.1,())).bind fun e=>
(m40 ((2,()),e.2)).bind fun f=>
some ((),f.2.1,((-1,c.1.1,a.1.1,aP (a.1.1+b.1.1),aP ((aP (a.1.1+b.1.1))+e.1.1),f.1),()),d.2.2)
def agD:Abs.Spec:=⟨1,⟨[0],Uy,BV⟩,⟨[2],(.st TY .nil),(.box 2 PU (.box 8 (.agg (.dat aV (.st .nil (.dat aV (.st (.own .str (2,0)) (.dat aV (.dat aV L8)))))) .nil) Zx))⟩,m24⟩
theorem agU:fE 24 agD:=okW BH (bK ok32 (bK abb (bK agQ (bK aen fV))))
def m98(v:QB):Option (Unit×(VP×(KE×Unit)×Unit)):=
(Ma ((5,()),v.2)).bind fun a=>
bif decide (0≤a.1.1∧a.1.1< [(bs [97,112,112]),bs [104,111,115,116],bs [115,101,118],bs [116,101,97,109],(bs [122,111,110,101])].length)then
([(bs [97,112,112]),bs [104,111,115,116],bs [115,101,118],bs [116,101,97,109],(bs [122,111,110,101])][a.1.1.toNat]?).bind fun d=>
(Ma ((4,()),a.2)).bind fun c=>
(Ma ((8,()),c.2)).bind fun b=>
bif decide (0≤b.1.1∧b.1.1< [(bs [97]),bs [98],ByteArray.empty,bs [42],bs [99,114,105,116],bs [63],bs [119,101,98,45,42],(bs [97,34,98,92])].length)then
([(bs [97]),bs [98],ByteArray.empty,bs [42],bs [99,114,105,116],bs [63],bs [119,101,98,45,42],(bs [97,34,98,92])][b.1.1.toNat]?).bind fun e=>
some ((),b.2.1,((d,c.1.1,e,()),()),())
else none
else none
def Xp(v:(lU×OO)):Option ((lU×OO)⊕(Unit×OO)):=
bif decide (v.1.1>0)then(m98 ((),v.2.1,())).bind fun a=>
bif decide (v.2.2.1.length+([a.2.2.1.1]:List KE).length≤4294967296)then
let b:=(v.2.2.1++([a.2.2.1.1]:List KE))
some (.inl ((aP (v.1.1-1),()),a.2.1,b,()))
else none
else(some (.inr ((),v.2)))
def m97(v:Ji):Option (Unit×OO):=
(Ma ((aP (v.1.1+1),()),v.2)).bind fun a=>
(aB Xp (a.1,a.2.1,[],())).bind fun b=>
some ((),b.2)
def VS(v:(lU×Xc)):Option ((lU×Xc)⊕(Unit×Xc)):=
bif decide (v.1.1>0)then(m24 ((),v.2.1,())).bind fun a=>
(Ma ((((v.2.2.1.length:Nat):Int),()),a.2.1,())).bind fun b=>
(m97 ((2,()),b.2)).bind fun c=>
bif decide (v.2.2.1.length+([(b.1.1,c.2.2.1,a.2.2.1.1.2.1,a.2.2.2.1,a.2.2.1.1.2.2)]:List Y4).length≤4294967296)then
let d:=(v.2.2.1++([(b.1.1,c.2.2.1,a.2.2.1.1.2.1,a.2.2.2.1,a.2.2.1.1.2.2)]:List Y4))
some (.inl ((aP (v.1.1-1),()),c.2.1,d,()))
else none
else(some (.inr ((),v.2)))
def m50(v:Ji):Option (Unit×Xc):=
(m24 ((),v.2)).bind fun a=>
(Ma ((aP (v.1.1+1),()),a.2.1,())).bind fun b=>
(aB VS (b.1,b.2.1,([(a.2.2.1.1.1,[],a.2.2.1.1.2.1,a.2.2.2.1,a.2.2.1.1.2.2)]:List Y4),())).bind fun c=>
some ((),c.2)
def VZ(v:(lU×YM)):Option ((lU×YM)⊕(Unit×YM)):=
bif decide (v.1.1>0)then(m97 ((1,()),v.2.1,())).bind fun a=>
bif decide (a.2.2.1.length+([(bs [115,101,118],0,bs [99,114,105,116],())]:List KE).length≤4294967296)then
let e:=(a.2.2.1++([(bs [115,101,118],0,bs [99,114,105,116],())]:List KE))
(m97 ((1,()),a.2.1,())).bind fun b=>
(m98 ((),b.2.1,())).bind fun c=>
bif decide (b.2.2.1.length+([c.2.2.1.1]:List KE).length≤4294967296)then
let f:=(b.2.2.1++([c.2.2.1.1]:List KE))
(m62 ((),c.2.1,())).bind fun d=>
bif decide (v.2.2.1.length+([(e,f,d.2.2)]:List FK).length≤4294967296)then
let g:=(v.2.2.1++([(e,f,d.2.2)]:List FK))
some (.inl ((aP (v.1.1-1),()),d.2.1,g,()))
else none
else none
else none
else(some (.inr ((),v.2)))
def i51:Abs.Sg:=⟨[0],Uy,BV⟩
def m51(v:QB):Option (Unit×YM):=
(Ma ((3,()),v.2)).bind fun a=>
(aB VZ (a.1,a.2.1,[],())).bind fun b=>
some ((),b.2)
def m12(v:Ji):Option (Unit×(VP×DY×List Y4×List FK×Unit)):=
(m50 v).bind fun a=>
(m51 ((),a.2.1,())).bind fun b=>
(m32 (([0,0,200,1000],()),b.2.1,())).bind fun c=>
some ((),c.2.1,(c.1,()),a.2.2.1,b.2.2)
def Xo(v:(Xq×Sc)):Option ((Xq×Sc)⊕(Unit×Sc)):=
bif decide (v.1.1<4)then((Abs.rowAt ([v.1.2.1.1,v.1.2.1.2.1,v.1.2.1.2.2.1,v.1.2.1.2.2.2.1]:List ByteArray) v.1.1 fun d _=>
(Ma ((6,()),v.2.1,())).bind fun a=>
bif decide (0≤a.1.1∧a.1.1< [ByteArray.empty,bs [97],bs [98],bs [99,114,105,116],bs [97,34,98,92],(bs [119,101,98,45,49])].length)then
([ByteArray.empty,bs [97],bs [98],bs [99,114,105,116],bs [97,34,98,92],(bs [119,101,98,45,49])][a.1.1.toNat]?).bind fun b=>
bif !(b.toList==ByteArray.empty.toList)then bif decide (v.2.2.1.length+([(d,b,())]:List wR).length≤4294967296)then
let e:=(v.2.2.1++([(d,b,())]:List wR))
some ((v.1.2.1,v.1.1,()),a.2.1,e,())
else none
else some ((v.1.2.1,v.1.1,()),a.2.1,v.2.2)
else none):Option ((abK×Int×Unit)×Sc)).bind fun c=>
some (.inl ((aP (c.1.2.1+1),c.1.1,()),c.2))
else(some (.inr ((),v.2)))
def m39(v:QB):Option (Unit×Sc):=
(aB Xo ((0,(bs [97,112,112],bs [104,111,115,116],bs [115,101,118],bs [116,101,97,109],()),()),v.2.1,[],())).bind fun a=>
some ((),a.2)
def Yw(v:(zk×XJ)):Option ((zk×XJ)⊕(Unit×XJ)):=
bif decide (v.1.1>0)then(m32 (([0,1,10,30,400],()),v.2.1,())).bind fun a=>
(m39 ((),a.2)).bind fun b=>
(Ma ((3,()),b.2.1,())).bind fun c=>
bif decide (v.2.2.1.length+([(aP (v.1.2.1+a.1.1),b.2.2.1,decide (c.1.1>0),())]:List QL).length≤4294967296)then
let d:=(v.2.2.1++([(aP (v.1.2.1+a.1.1),b.2.2.1,decide (c.1.1>0),())]:List QL))
some (.inl ((aP (v.1.1-1),aP (v.1.2.1+a.1.1),()),c.2.1,d,()))
else none
else(some (.inr ((),v.2)))
def m13(v:Ji):Option (Unit×XJ):=
(Ma ((aP (v.1.1+1),()),v.2)).bind fun a=>
(aB Yw ((a.1.1,0,()),a.2.1,[],())).bind fun b=>
some ((),b.2)
def qZ(v:Qk):Option (Qk⊕(gN⊕zo)):=
bif decide (v.1.1<(v.1.2.1.size:Int))then((bif decide (0≤v.1.1∧v.1.1<v.1.2.1.size)then
let b:=(decide (((((v.1.2.1[v.1.1.toNat]?.getD 0).toNat:Nat):Int):Int)<97))
bif b then bif decide (0≤v.1.1∧v.1.1<v.1.2.1.size)then
let c:=(decide (((((v.1.2.1[v.1.1.toNat]?.getD 0).toNat:Nat):Int):Int)<48))
bif c then bif decide (0≤v.1.1∧v.1.1<v.1.2.1.size)then
let d:=(((((v.1.2.1[v.1.1.toNat]?.getD 0).toNat:Nat):Int):Int) !=95)
some ((d,v.1.2.1,v.1.1,()),())
else none
else bif decide (0≤v.1.1∧v.1.1<v.1.2.1.size)then
let e:=(decide (((((v.1.2.1[v.1.1.toNat]?.getD 0).toNat:Nat):Int):Int)>57))
bif e then bif decide (0≤v.1.1∧v.1.1<v.1.2.1.size)then
let f:=(((((v.1.2.1[v.1.1.toNat]?.getD 0).toNat:Nat):Int):Int) !=95)
some ((f,v.1.2.1,v.1.1,()),())
else none
else some ((false,v.1.2.1,v.1.1,()),())
else none
else none
else bif decide (0≤v.1.1∧v.1.1<v.1.2.1.size)then
let g:=(decide (((((v.1.2.1[v.1.1.toNat]?.getD 0).toNat:Nat):Int):Int)>122))
bif g then bif decide (0≤v.1.1∧v.1.1<v.1.2.1.size)then
let h:=(decide (((((v.1.2.1[v.1.1.toNat]?.getD 0).toNat:Nat):Int):Int)<48))
bif h then bif decide (0≤v.1.1∧v.1.1<v.1.2.1.size)then
let j:=(((((v.1.2.1[v.1.1.toNat]?.getD 0).toNat:Nat):Int):Int) !=95)
some ((j,v.1.2.1,v.1.1,()),())
else none
else bif decide (0≤v.1.1∧v.1.1<v.1.2.1.size)then
let k:=(decide (((((v.1.2.1[v.1.1.toNat]?.getD 0).toNat:Nat):Int):Int)>57))
bif k then bif decide (0≤v.1.1∧v.1.1<v.1.2.1.size)then
let l:=(((((v.1.2.1[v.1.1.toNat]?.getD 0).toNat:Nat):Int):Int) !=95)
some ((l,v.1.2.1,v.1.1,()),())
else none
else some ((false,v.1.2.1,v.1.1,()),())
else none
else none
else some ((false,v.1.2.1,v.1.1,()),())
else none
else none):Option ZV).bind fun a=>
bif a.1.1 then some (.inr (.inl ((false,()),())))
else some (.inl ((aP (a.1.2.2.1+1),a.1.2.1,()),()))
else(some (.inr (.inr ((),()))))
end
noncomputable section
def PE(v:CG):Option gN:=
((bif decide ((v.1.1.size:Int)<1)then some ((true,v.1),())
else bif decide ((v.1.1.size:Int)>24)then some ((true,v.1),())
else bif decide ((0:Int)≤0∧(0:Int)<v.1.1.size)then
let b:=(decide (((((v.1.1[0]?.getD 0).toNat:Nat):Int):Int)<97))
bif b then some ((true,v.1),())
else bif decide ((0:Int)≤0∧(0:Int)<v.1.1.size)then
let c:=(decide (((((v.1.1[0]?.getD 0).toNat:Nat):Int):Int)>122))
some ((c,v.1),())
else none
else none):Option ((Bool×ByteArray×Unit)×Unit)).bind fun a=>
bif a.1.1 then some ((false,()),())
else((aB qZ ((0,a.1.2),())).bind fun d=>
ax d (fun e=>(some e)) (fun f=>(some ((true,()),()))))
def afJ:Abs.Spec:=⟨0,⟨[0],ja,.nil⟩,⟨[2],iU,.nil⟩,PE⟩
def acD:Nat→Abs.iR
 |0=>.mk (bL [(6,⟨[55,0,3],(.dat .bool VJ),.nil⟩),(1,⟨[21,0],(.dat .bool ja),.nil⟩)]) bF (bL [(4,⟨⟨[3,0],KO,.nil⟩,Ro5⟩)]) jC
 |_=>{}
theorem acS:fE 105 afJ:=okW acD fV
def rz(v:Qk):Option (Qk⊕(gN⊕zo)):=
bif decide (v.1.1<(v.1.2.1.size:Int))then((bif decide (0≤v.1.1∧v.1.1<v.1.2.1.size)then
let b:=(decide (((((v.1.2.1[v.1.1.toNat]?.getD 0).toNat:Nat):Int):Int)<32))
bif b then some ((true,v.1.2.1,v.1.1,()),())
else bif decide (0≤v.1.1∧v.1.1<v.1.2.1.size)then
let c:=(decide (((((v.1.2.1[v.1.1.toNat]?.getD 0).toNat:Nat):Int):Int)>126))
some ((c,v.1.2.1,v.1.1,()),())
else none
else none):Option ZV).bind fun a=>
bif a.1.1 then some (.inr (.inl ((false,()),())))
else some (.inl ((aP (a.1.2.2.1+1),a.1.2.1,()),()))
else(some (.inr (.inr ((),()))))
def UY(v:CG):Option gN:=
bif decide ((v.1.1.size:Int)>64)then some ((false,()),())
else((aB rz ((0,v.1),())).bind fun a=>
ax a (fun b=>(some b)) (fun c=>(some ((true,()),()))))
def ad4:Abs.Spec:=⟨0,⟨[0],ja,.nil⟩,⟨[2],iU,.nil⟩,UY⟩
def acZ:Nat→Abs.iR
 |0=>.mk (bL [(6,⟨[22,0,3],(.dat .bool VJ),.nil⟩)]) bF (bL [(4,⟨⟨[3,0],KO,.nil⟩,Ro5⟩)]) jC
 |_=>{}
theorem afx:fE 106 ad4:=okW acZ fV
def aht(v:Ye):Option gN:=
(((PE ((v.1.1.1,()),())).bind fun a=>
bif a.1.1 then bif decide (v.1.1.2.1≥0)then bif decide (v.1.1.2.1≤3)then(UY (v.1.1.2.2,())).bind fun b=>
some b
else some ((false,()),())
else some ((false,()),())
else some ((false,()),())):Option gN).bind fun c=>
some c
def Ux(v:ZW):Option (ZW⊕(gN⊕zo)):=
let d:=(decide (v.1.1<(v.1.2.1.length:Int)))
bif d then((Abs.rowAt v.1.2.1 v.1.1 fun e _=>
(PE ((e,()),())).bind fun f=>
bif !f.1.1 then some ((true,v.1.2.1,v.1.1,()),())
else bif decide (v.1.1>0)then Abs.rowAt v.1.2.1 v.1.1 fun b _=>
Abs.rowAt v.1.2.1 (aP (v.1.1-1)) fun c _=>
some ((Op.bytesLess b.toList c.toList||b.toList==c.toList,v.1.2.1,v.1.1,()),())
else some ((false,v.1.2.1,v.1.1,()),())):Option ((Bool×List ByteArray×Int×Unit)×Unit)).bind fun a=>
bif a.1.1 then some (.inr (.inl ((false,()),())))
else some (.inl ((aP (a.1.2.2.1+1),a.1.2.1,()),()))
else(some (.inr (.inr ((),()))))
def ag9(v:(Vm×Unit)):Option gN:=
(aB Ux ((0,v.1),())).bind fun a=>
ax a (fun b=>(some b)) (fun c=>(some ((true,()),())))
def UZ(v:(lU×Nk)):Option ((lU×Nk)⊕(wQ⊕(Unit×Nk))):=
let a:=(decide (v.1.1<(v.2.1.1.2.1.length:Int)))
bif a then Abs.rowAt v.2.1.1.2.1 v.1.1 fun b _=>
(aht ((b,()),())).bind fun c=>
bif !c.1.1 then some (.inr (.inl ((8,()),())))
else some (.inl ((aP (v.1.1+1),()),v.2))
else(some (.inr (.inr ((),v.2))))
def agP(v:((Y4×Unit)×Unit)):Option wQ:=
((bif decide ((v.1.1.2.1.length:Int)>8)then some ((true,()),v)
else let c:=(decide ((v.1.1.2.2.2.1.length:Int)>12))
some ((c,()),v)):Option (tu×Nk)).bind fun b=>
bif b.1.1 then some ((5,()),())
else((aB UZ ((0,()),b.2)).bind fun d=>
ax d (fun e=>(some e)) (fun a=>((ag9 ((a.2.1.1.2.2.2.1,()),())).bind fun f=>
bif !f.1.1 then some ((8,()),())
else((bif decide (a.2.1.1.2.2.1<0)then some ((true,()),())
else bif decide (a.2.1.1.2.2.2.2.1<0)then some ((true,()),())
else let g:=(decide (a.2.1.1.2.2.2.2.1>a.2.1.1.2.2.2.2.2.1))
bif g then some ((true,()),())
else let h:=(decide (a.2.1.1.2.2.2.2.2.1>a.2.1.1.2.2.2.2.2.2.1))
bif h then some ((true,()),())
else let j:=(decide (a.2.1.1.2.2.2.2.2.2.1>604800))
bif j then some ((true,()),())
else some ((a.2.1.1.2.2.2.2.2.2.1==0,()),())):Option gN).bind fun k=>
bif k.1.1 then some ((1,()),())
else some ((0,()),()))))
def Xe(v:((Int×List Y4×Unit)×Unit)):Option (((Int×List Y4×Unit)×Unit)⊕(wQ⊕Wl)):=
let c:=(decide (v.1.1<(v.1.2.1.length:Int)))
bif c then((bif v.1.1==0 then Abs.rowAt v.1.2.1 v.1.1 fun d _=>
bif d.1 !=(-1)then some ((true,v.1.2.1,v.1.1,()),())
else bif decide (v.1.1>0)then Abs.rowAt v.1.2.1 v.1.1 fun e _=>
bif decide (e.1<0)then some ((true,v.1.2.1,v.1.1,()),())
else Abs.rowAt v.1.2.1 v.1.1 fun f _=>
some ((decide (f.1≥v.1.1),v.1.2.1,v.1.1,()),())
else some ((false,v.1.2.1,v.1.1,()),())
else bif decide (v.1.1>0)then Abs.rowAt v.1.2.1 v.1.1 fun g _=>
bif decide (g.1<0)then some ((true,v.1.2.1,v.1.1,()),())
else Abs.rowAt v.1.2.1 v.1.1 fun h _=>
some ((decide (h.1≥v.1.1),v.1.2.1,v.1.1,()),())
else some ((false,v.1.2.1,v.1.1,()),())):Option ((Bool×List Y4×Int×Unit)×Unit)).bind fun a=>
bif a.1.1 then some (.inr (.inl ((3,()),())))
else Abs.rowAt a.1.2.1 a.1.2.2.1 fun j _=>
(agP ((j,()),())).bind fun b=>
bif b.1.1 !=0 then some (.inr (.inl b))
else some (.inl ((aP (a.1.2.2.1+1),a.1.2.1,()),()))
else(some (.inr (.inr (v.1.2,()))))
def m56(v:Wl):Option wQ:=
bif (v.1.1.length:Int)==0 then some ((7,()),())
else(bif decide ((v.1.1.length:Int)>24)then some ((5,()),())
else(aB Xe ((0,v.1),())).bind fun a=>
ax a (fun b=>(some b)) (fun c=>(Abs.rowAt c.1.1 0 fun d _=>
bif decide ((d.2.1.length:Int)>0)then some ((8,()),())
else some ((0,()),()))))
def x9(v:((Int×gM×Unit)×Unit)):Option (((Int×gM×Unit)×Unit)⊕(gN⊕zo)):=
let d:=(decide (v.1.1<(v.1.2.1.length:Int)))
bif d then((Abs.rowAt v.1.2.1 v.1.1 fun e _=>
(PE ((e.1,()),())).bind fun f=>
bif !f.1.1 then some ((true,v.1.2.1,v.1.1,()),())
else Abs.rowAt v.1.2.1 v.1.1 fun g _=>
(UY (g.2,())).bind fun h=>
bif !h.1.1 then some ((true,v.1.2.1,v.1.1,()),())
else Abs.rowAt v.1.2.1 v.1.1 fun j _=>
bif j.2.1.toList==ByteArray.empty.toList then some ((true,v.1.2.1,v.1.1,()),())
else bif decide (v.1.1>0)then Abs.rowAt v.1.2.1 v.1.1 fun b _=>
Abs.rowAt v.1.2.1 (aP (v.1.1-1)) fun c _=>
some ((Op.bytesLess b.1.toList c.1.toList||b.1.toList==c.1.toList,v.1.2.1,v.1.1,()),())
else some ((false,v.1.2.1,v.1.1,()),())):Option ((Bool×gM×Int×Unit)×Unit)).bind fun a=>
bif a.1.1 then some (.inr (.inl ((false,()),())))
else some (.inl ((aP (a.1.2.2.1+1),a.1.2.1,()),()))
else(some (.inr (.inr ((),()))))
def m57(v:Tf):Option gN:=
bif decide ((v.1.1.length:Int)>12)then some ((false,()),())
else((aB x9 ((0,v.1),())).bind fun a=>
ax a (fun b=>(some b)) (fun c=>(some ((true,()),()))))
def agK:Abs.Spec:=⟨0,⟨[0],qK,.nil⟩,⟨[2],iU,.nil⟩,m57⟩
def agq:Nat→Abs.iR
 |0=>.mk (bL [(6,⟨[54,0,3],(.dat .bool Qg),.nil⟩)]) bF (bL [(4,⟨⟨[3,0],(.dat aV qK),.nil⟩,Ro5⟩)]) jC
 |_=>{}
theorem agi:fE 57 agK:=okW agq (bK acS (bK afx fV))
def UL(v:((Int×Int×List Y4×Unit)×Ch)):Option (((Int×Int×List Y4×Unit)×Ch)⊕J2):=
let b:=(decide (v.1.1<(v.1.2.2.1.length:Int)))
bif b then((Abs.rowAt v.1.2.2.1 v.1.1 fun c _=>
bif c.1==v.1.2.1 then bif decide (v.2.1.length+ [v.1.1].length≤4294967296)then
some ((v.1.2.1,v.1.2.2.1,v.1.1,()),v.2.1++ [v.1.1],())
else none
else some ((v.1.2.1,v.1.2.2.1,v.1.1,()),v.2)):Option ((Int×List Y4×Int×Unit)×Ch)).bind fun a=>
some (.inl ((aP (a.1.2.2.1+1),a.1.1,a.1.2.1,()),a.2))
else(some (.inr ((),v.2)))
def ahn(v:((List Y4×Int×Unit)×Unit)):Option J2:=
(aB UL ((0,v.1.2.1,v.1.1,()),[],())).bind fun a=>
some ((),a.2)
def TA(v:Y8):Option (Y8⊕(CG⊕zo)):=
let a:=(decide (v.1.1<(v.1.2.1.length:Int)))
bif a then Abs.rowAt v.1.2.1 v.1.1 fun b _=>
bif b.1.toList==v.1.2.2.1.toList then Abs.rowAt v.1.2.1 v.1.1 fun c _=>
some (.inr (.inl (c.2,())))
else some (.inl ((aP (v.1.1+1),v.1.2),()))
else(some (.inr (.inr ((),()))))
def agF(v:((gM×ByteArray×Unit)×Unit)):Option CG:=
(aB TA ((0,v.1),())).bind fun a=>
ax a (fun b=>(some b)) (fun c=>(some ((ByteArray.empty,()),())))
def Vj(v:afL):Option (afL⊕((ByteArray×ByteArray×Int×Unit)×Yb)):=
bif decide (v.1.1≤(v.1.2.1.size:Int))then((bif decide (0≤v.1.2.2.1∧v.1.2.2.1<v.1.2.2.2.1.size)then
let b:=(((((v.1.2.2.2.1[v.1.2.2.1.toNat]?.getD 0).toNat:Nat):Int):Int)==42)
bif b then((bif decide (0≤v.1.1∧v.1.1<v.2.2.1.length)then
(v.2.2.1[v.1.1.toNat]?).bind fun c=>
bif c then bif decide (0≤v.1.1∧v.1.1<v.2.1.length)then
bif decide (v.1.1.toNat<v.2.1.length)then
some ((v.1.2.1,v.1.2.2.1,v.1.2.2.2.1,v.1.1,()),v.2.1.set v.1.1.toNat true,v.2.2)
else none
else none
else bif decide (v.1.1>0)then bif decide ((0:Int)≤(aP (v.1.1-1))∧((aP (v.1.1-1)):Int)<v.2.1.length)then
(v.2.1[(aP (v.1.1-1)).toNat]?).bind fun d=>
bif decide (0≤v.1.1∧v.1.1<v.2.1.length)then
bif decide (v.1.1.toNat<v.2.1.length)then
some ((v.1.2.1,v.1.2.2.1,v.1.2.2.2.1,v.1.1,()),v.2.1.set v.1.1.toNat d,v.2.2)
else none
else none
else none
else bif decide (0≤v.1.1∧v.1.1<v.2.1.length)then
bif decide (v.1.1.toNat<v.2.1.length)then
some ((v.1.2.1,v.1.2.2.1,v.1.2.2.2.1,v.1.1,()),v.2.1.set v.1.1.toNat false,v.2.2)
else none
else none
else none):Option ab0).bind fun e=>
some e
else bif decide (v.1.1>0)then((bif decide ((0:Int)≤(aP (v.1.1-1))∧((aP (v.1.1-1)):Int)<v.2.2.1.length)then
(v.2.2.1[(aP (v.1.1-1)).toNat]?).bind fun f=>
bif f then bif decide (0≤v.1.2.2.1∧v.1.2.2.1<v.1.2.2.2.1.size)then
let g:=(((((v.1.2.2.2.1[v.1.2.2.1.toNat]?.getD 0).toNat:Nat):Int):Int)==63)
bif g then bif decide (0≤v.1.1∧v.1.1<v.2.1.length)then
bif decide (v.1.1.toNat<v.2.1.length)then
some ((v.1.2.1,v.1.2.2.1,v.1.2.2.2.1,v.1.1,()),v.2.1.set v.1.1.toNat true,v.2.2)
else none
else none
else bif decide (0≤v.1.2.2.1∧v.1.2.2.1<v.1.2.2.2.1.size)then
bif decide ((0:Int)≤(aP (v.1.1-1))∧((aP (v.1.1-1)):Int)<v.1.2.1.size)then
let h:=(((((v.1.2.2.2.1[v.1.2.2.1.toNat]?.getD 0).toNat:Nat):Int):Int)==(((v.1.2.1[(aP (v.1.1-1)).toNat]?.getD 0).toNat:Nat):Int))
bif decide (0≤v.1.1∧v.1.1<v.2.1.length)then
bif decide (v.1.1.toNat<v.2.1.length)then
some ((v.1.2.1,v.1.2.2.1,v.1.2.2.2.1,v.1.1,()),v.2.1.set v.1.1.toNat h,v.2.2)
else none
else none
else none
else none
else none
else bif decide (0≤v.1.1∧v.1.1<v.2.1.length)then
bif decide (v.1.1.toNat<v.2.1.length)then
some ((v.1.2.1,v.1.2.2.1,v.1.2.2.2.1,v.1.1,()),v.2.1.set v.1.1.toNat false,v.2.2)
else none
else none
else none):Option ab0).bind fun j=>
some j
else some ((v.1.2.1,v.1.2.2.1,v.1.2.2.2.1,v.1.1,()),v.2)
else none):Option ab0).bind fun a=>
some (.inl ((aP (a.1.2.2.2.1+1),a.1.1,a.1.2.1,a.1.2.2.1,()),a.2))
else(some (.inr ((v.1.2.1,v.1.2.2.2.1,v.1.2.2.1,()),v.2.1,())))
def Vi(v:(KE×Yb)):Option ((KE×Yb)⊕((ByteArray×Unit)×Yb)):=
let b:=(decide (v.1.2.1<(v.1.2.2.1.size:Int)))
bif b then bif decide ((0:Int)≤(aP ((v.1.1.size:Int)+1))∧((aP ((v.1.1.size:Int)+1)):Int)≤(aP ((v.1.1.size:Int)+1))∧((aP ((v.1.1.size:Int)+1)):Int)≤4294967296)then
(aB Vj ((0,v.1),List.replicate (aP ((v.1.1.size:Int)+1)).toNat (false:Bool),v.2)).bind fun a=>
some (.inl ((a.1.1,aP (a.1.2.2.1+1),a.1.2.1,()),a.2))
else none
else(some (.inr ((v.1.1,()),v.2)))
def ael(v:(wR×Unit)):Option gN:=
bif decide ((0:Int)≤(aP ((v.1.2.1.size:Int)+1))∧((aP ((v.1.2.1.size:Int)+1)):Int)≤(aP ((v.1.2.1.size:Int)+1))∧((aP ((v.1.2.1.size:Int)+1)):Int)≤4294967296)then
bif decide ((0:Int)≤0∧(0:Int)<(List.replicate (aP ((v.1.2.1.size:Int)+1)).toNat (false:Bool)).length)then
bif decide (0<(List.replicate (aP ((v.1.2.1.size:Int)+1)).toNat (false:Bool)).length)then
(aB Vi ((v.1.2.1,0,v.1.1,()),(List.replicate (aP ((v.1.2.1.size:Int)+1)).toNat (false:Bool)).set 0 true,())).bind fun a=>
bif decide ((0:Int)≤(a.1.1.size:Int)∧(a.1.1.size:Int)<a.2.1.length)then
(a.2.1[(a.1.1.size:Int).toNat]?).bind fun b=>
some ((b,()),())
else none
else none
else none
else none
def ahD(v:((KE×gM×Unit)×Unit)):Option gN:=
(agF ((v.1.2.1,v.1.1.1,()),())).bind fun a=>
bif v.1.1.2.1==0 then some ((a.1.1.toList==v.1.1.2.2.1.toList,()),())
else(bif v.1.1.2.1==1 then some ((!(a.1.1.toList==v.1.1.2.2.1.toList),()),())
else bif v.1.1.2.1==2 then(ael ((v.1.1.2.2.1,a.1),())).bind fun b=>
some b
else bif v.1.1.2.1==3 then(ael ((v.1.1.2.2.1,a.1),())).bind fun c=>
some ((!c.1.1,()),())
else some ((false,()),()))
def TN(v:((Int×gM×Y7×Unit)×Unit)):Option (((Int×gM×Y7×Unit)×Unit)⊕(gN⊕zo)):=
let a:=(decide (v.1.1<(v.1.2.2.1.length:Int)))
bif a then Abs.rowAt v.1.2.2.1 v.1.1 fun b _=>
(ahD ((b,v.1.2.1,()),())).bind fun c=>
bif !c.1.1 then some (.inr (.inl ((false,()),())))
else some (.inl ((aP (v.1.1+1),v.1.2),()))
else(some (.inr (.inr ((),()))))
def agt(v:((Y7×gM×Unit)×Unit)):Option gN:=
(aB TN ((0,v.1.2.1,v.1.1,()),())).bind fun a=>
ax a (fun b=>(some b)) (fun c=>(some ((true,()),())))
def Yu(rc:Rt→Option J2)(v:Zf):Option (Zf⊕(lU×Ch)):=
let x61:=(decide (v.1.1<((v.2.1.length:Nat):Int)))
bif x61 then((bif decide (0≤v.1.1∧v.1.1<v.2.1.length)then
(v.2.1[v.1.1.toNat]?).bind fun e62=>
Abs.rowAt v.1.2.2.1 e62 fun e63 _=>
(agt ((e63.2.1,v.1.2.2.2.1,()),())).bind fun u64=>
bif !u64.1.1 then some (.inl ((v.1.2.1,v.1.2.2.1,v.1.2.2.2.1,v.1.1,()),v.2.1,v.2.2.1,()))
else bif decide (0≤v.1.1∧v.1.1<v.2.1.length)then
(v.2.1[v.1.1.toNat]?).bind fun e65=>
(rc ((v.1.2.2.1,e65,v.1.2.2.2.1,()),())).bind fun u66=>
bif decide (v.2.2.1.length+u66.2.1.length≤4294967296)then
bif decide (0≤v.1.1∧v.1.1<v.2.1.length)then
(v.2.1[v.1.1.toNat]?).bind fun e67=>
Abs.rowAt v.1.2.2.1 e67 fun e68 _=>
bif !e68.2.2.2.2.2.2.2.1 then some (.inr ((v.1.2.1,()),v.2.2.1++u66.2.1,()))
else some (.inl ((v.1.2.1,v.1.2.2.1,v.1.2.2.2.1,v.1.1,()),v.2.1,v.2.2.1++u66.2.1,()))
else none
else none
else none
else none):Option (((Int×List Y4×gM×Int×Unit)×YU)⊕(lU×Ch))).bind fun r71=>
ax r71 (fun v69=>(some (.inl ((aP (v69.1.2.2.2.1+1),v69.1.1,v69.1.2.1,v69.1.2.2.1,()),v69.2.1,v69.2.2.1,())))) (fun d70=>(some (.inr ((d70.1.1,()),d70.2.1,()))))
else(some (.inr ((v.1.2.1,()),v.2.2.1,())))
def afX(rc:Rt→Option J2)(v:Rt):Option J2:=
(ahn ((v.1.1,(v.1.2.1,())),())).bind fun u60=>
(aB (Yu rc) ((0,(v.1.2.1,(v.1.1,(v.1.2.2.1,())))),(u60.2.1,([],())))).bind fun d72=>
bif ((((d72.2.1.length:Nat):Int):Int)==0)then(some ((),([d72.1.1],())))
else(some ((),(d72.2.1,())))
def ag6(n:Nat):Rt→Option J2:=Nat.rec (motive:=fun _=>Rt→Option J2) (fun _=>none) (fun _ rc=>afX rc) n
def m58:Rt→Option J2:=ag6 400
def m19(v:((List Y4×gM×Unit)×Unit)):Option J2:=
(((m56 ((v.1.1,()),())).bind fun b=>
bif b.1.1 !=0 then some ((true,v.1.2.1,v.1.1,()),())
else(m57 (v.1.2,())).bind fun c=>
some ((!c.1.1,v.1.2.1,v.1.1,()),())):Option Zz).bind fun a=>
bif a.1.1 then some ((),[],())
else((m58 ((a.1.2.2.1,0,a.1.2.1,()),())).bind fun d=>
some ((),d.2.1,()))
def yS(v:adv):Option (adv⊕((gM×List ByteArray×Int×Unit)×Fv)):=
let b:=(decide (v.1.2.2.2.1<(v.1.2.1.length:Int)))
bif b then Abs.rowAt v.1.2.1 v.1.2.2.2.1 fun c _=>
Abs.rowAt v.1.1 v.1.2.2.1 fun d _=>
bif c.toList==d.1.toList then Abs.rowAt v.1.1 v.1.2.2.1 fun a _=>
bif decide (v.2.1.length+([a]:List wR).length≤4294967296)then
let e:=(v.2.1++([a]:List wR))
some (.inr ((v.1.1,v.1.2.1,v.1.2.2.1,()),e,()))
else none
else some (.inl ((v.1.1,v.1.2.1,v.1.2.2.1,aP (v.1.2.2.2.1+1),()),v.2))
else(some (.inr ((v.1.1,v.1.2.1,v.1.2.2.1,()),v.2)))
def yF(v:ZO):Option (ZO⊕SI):=
let b:=(decide (v.1.1<(v.1.2.1.length:Int)))
bif b then(aB yS ((v.1.2.1,v.1.2.2.1,v.1.1,0,()),v.2)).bind fun a=>
some (.inl ((aP (a.1.2.2.1+1),a.1.1,a.1.2.1,()),a.2))
else(some (.inr ((),v.2)))
def m60(v:Zq):Option SI:=
(aB yF ((0,v.1),[],())).bind fun a=>
some ((),a.2)
def sQ(v:ZG):Option (ZG⊕CG):=
bif decide (v.1.1<(v.1.2.1.size:Int))then((((bif decide (0≤v.1.1∧v.1.1<v.1.2.1.size)then
let d:=(((((v.1.2.1[v.1.1.toNat]?.getD 0).toNat:Nat):Int):Int)==34)
bif d then some ((true,v.1.2.1,v.1.1,v.1.2.2),())
else bif decide (0≤v.1.1∧v.1.1<v.1.2.1.size)then
let e:=(((((v.1.2.1[v.1.1.toNat]?.getD 0).toNat:Nat):Int):Int)==92)
some ((e,v.1.2.1,v.1.1,v.1.2.2),())
else none
else none):Option ((Bool×ByteArray×Int×ByteArray×Unit)×Unit)).bind fun b=>
bif b.1.1 then bif decide (b.1.2.2.2.1.size+1≤4294967296)then
some ((b.1.2.1,b.1.2.2.1,b.1.2.2.2.1++(bs [92]),()),())
else none
else some (b.1.2,())):Option (KE×Unit)).bind fun a=>
bif decide ((0:Int)≤a.1.2.1)then
bif decide ((0:Int)≤(aP (a.1.2.1+1)))then
bif decide (a.1.2.1.toNat≤(aP (a.1.2.1+1)).toNat∧(aP (a.1.2.1+1)).toNat≤a.1.1.size)then
let c:=(a.1.1.extract a.1.2.1.toNat (aP (a.1.2.1+1)).toNat)
bif decide (a.1.2.2.1.size+c.size≤4294967296)then
some (.inl ((aP (a.1.2.1+1),a.1.1,a.1.2.2.1++c,()),()))
else none
else none
else none
else none
else(some (.inr (v.1.2.2,())))
def Wp(v:CG):Option CG:=
(aB sQ ((0,v.1.1,bs [34],()),())).bind fun a=>
bif decide (a.1.1.size+1≤4294967296)then
some ((a.1.1++(bs [34]),()),())
else none
def ac4:Abs.Spec:=⟨0,⟨[0],ja,.nil⟩,⟨[2],ja,.nil⟩,Wp⟩
def adg:Nat→Abs.iR
 |0=>.mk (bL [(5,⟨[20,0,4,3],(.dat .bool (.dat .str KO)),.nil⟩)]) (bL [(7,(⟨[0,4,3],(.dat .str KO),.nil⟩,none))]) (bL [(3,⟨⟨[4,0,3],(.dat aV Ml),.nil⟩,(.one (.exit 0) ⟨[3],ja,.nil⟩)⟩)]) jC
 |_=>{}
theorem ae8:fE 109 ac4:=okW adg fV
def u7(v:Y8):Option (Y8⊕CG):=
let d:=(decide (v.1.1<(v.1.2.1.length:Int)))
bif d then((bif decide (v.1.1>0)then bif decide (v.1.2.2.1.size+1≤4294967296)then
some ((v.1.2.1,v.1.1,v.1.2.2.1++(bs [44]),()),())
else none
else some ((v.1.2.1,v.1.1,v.1.2.2),())):Option ((gM×Int×ByteArray×Unit)×Unit)).bind fun a=>
Abs.rowAt a.1.1 a.1.2.1 fun b _=>
bif decide (b.1.size+1≤4294967296)then
Abs.rowAt a.1.1 a.1.2.1 fun e _=>
(Wp (e.2,())).bind fun c=>
bif decide ((b.1++(bs [61])).size+c.1.1.size≤4294967296)then
bif decide (a.1.2.2.1.size+((b.1++(bs [61]))++c.1.1).size≤4294967296)then
let f:=(a.1.2.2.1++((b.1++(bs [61]))++c.1.1))
some (.inl ((aP (a.1.2.1+1),a.1.1,f,()),()))
else none
else none
else none
else(some (.inr (v.1.2.2,())))
def m59(v:Tf):Option CG:=
(m57 v).bind fun b=>
bif !b.1.1 then some ((ByteArray.empty,()),())
else((aB u7 ((0,v.1.1,bs [123],()),())).bind fun a=>
bif decide (a.1.1.size+1≤4294967296)then
some ((a.1.1++(bs [125]),()),())
else none)
def agH:Abs.Spec:=⟨0,⟨[0],qK,.nil⟩,⟨[2],ja,.nil⟩,m59⟩
def ahm:Nat→Abs.iR
 |0=>.mk bF (bL [(9,(⟨[0,4,3],(.dat Ab KO),.nil⟩,none))]) (bL [(5,⟨⟨[4,0,3],(.dat aV (.dat Ab ja)),.nil⟩,(.one (.exit 0) ⟨[3],ja,.nil⟩)⟩)]) jC
 |_=>{}
theorem ah1:fE 59 agH:=okW ahm (bK agi (bK ae8 fV))
def m20(v:((Y4×gM×Unit)×Unit)):Option CG:=
(m57 (v.1.2,())).bind fun a=>
bif !a.1.1 then some ((ByteArray.empty,()),())
else((m60 ((v.1.2.1,v.1.1.2.2.2.1,()),())).bind fun b=>
(m59 (b.2,())).bind fun c=>
some c)
def uX(v:Zp):Option (Zp⊕(gN⊕zo)):=
let a:=(decide (v.1.1<(v.2.1.1.2.2.2.2.1.length:Int)))
bif a then Abs.rowAt v.2.1.1.2.2.2.2.1 v.1.1 fun b _=>
bif b.toList==v.1.2.1.toList then some (.inr (.inl ((true,()),())))
else some (.inl ((aP (v.1.1+1),v.1.2),v.2))
else(some (.inr (.inr ((),()))))
def m21(v:((LX×gM×Unit)×Unit)):Option gN:=
(m59 (v.1.2,())).bind fun a=>
(aB uX ((0,a.1),(v.1.1,()),())).bind fun b=>
ax b (fun c=>(some c)) (fun d=>(some ((false,()),())))
def agh:Abs.Spec:=⟨0,⟨[0,1],(.dat Z9 qK),.nil⟩,⟨[4],iU,.nil⟩,m21⟩
def agB:Nat→Abs.iR
 |0=>.mk bF bF (bL [(3,⟨⟨[6,5,2],(.dat aV (.dat .str (.st Za .nil))),(.box 6 (.dat Z9 .nil) .nil)⟩,aaI⟩)]) jC
 |_=>{}
theorem ahc:fE 21 agh:=okW agB (bK ah1 fV)
def WT(v:aer):Option (aer⊕((Int×Int×Int×Int×Int×Unit)×abY)):=
bif decide (v.1.1<v.1.2.2.2.2.2.2.2.2.1)then((bif decide (0≤v.1.1∧v.1.1<v.2.2.1.length)then
(v.2.2.1[v.1.1.toNat]?).bind fun f=>
((bif f.2.1 !=v.1.2.2.2.2.1 then some ((true,v.1.2.1,v.1.2.2.1,v.1.2.2.2.1,v.1.2.2.2.2.1,v.1.2.2.2.2.2.1,v.1.2.2.2.2.2.2.1,v.1.2.2.2.2.2.2.2.1,v.1.2.2.2.2.2.2.2.2.1,v.1.1,()),v.2.1,v.2.2.1,v.2.2.2.1,v.2.2.2.2.1,v.2.2.2.2.2.1,(f,()),v.2.2.2.2.2.2)
else some ((!(f.2.2.2.1.toList==v.1.2.2.2.1.toList),v.1.2.1,v.1.2.2.1,v.1.2.2.2.1,v.1.2.2.2.2.1,v.1.2.2.2.2.2.1,v.1.2.2.2.2.2.2.1,v.1.2.2.2.2.2.2.2.1,v.1.2.2.2.2.2.2.2.2.1,v.1.1,()),v.2.1,v.2.2.1,v.2.2.2.1,v.2.2.2.2.1,v.2.2.2.2.2.1,(f,()),v.2.2.2.2.2.2)):Option ((Bool×Int×Int×ByteArray×Int×Int×Int×Int×Int×Int×Unit)×abB)).bind fun a=>
bif a.1.1 then some (a.1.2,a.2.1,a.2.2.1,a.2.2.2.1,a.2.2.2.2.1,a.2.2.2.2.2.1,a.2.2.2.2.2.2.2)
else((((let g:=(decide (a.2.2.2.2.2.2.1.1.1<a.1.2.2.1))
bif g then some ((true,a.1.2.2.1,a.1.2.2.2.1,a.1.2.2.2.2.1,a.1.2.2.2.2.2.1,a.1.2.2.2.2.2.2.1,a.1.2.2.2.2.2.2.2.2.1,a.1.2.2.2.2.2.2.2.2.2.1,a.1.2.1,a.1.2.2.2.2.2.2.2.1,()),a.2)
else bif a.2.2.2.2.2.2.1.1.1==a.1.2.2.1 then(m21 ((a.2.2.2.2.2.2.1.1,a.2.1,()),())).bind fun h=>
some ((!h.1.1,a.1.2.2.1,a.1.2.2.2.1,a.1.2.2.2.2.1,a.1.2.2.2.2.2.1,a.1.2.2.2.2.2.2.1,a.1.2.2.2.2.2.2.2.2.1,a.1.2.2.2.2.2.2.2.2.2.1,a.1.2.1,a.1.2.2.2.2.2.2.2.1,()),a.2)
else some ((false,a.1.2.2.1,a.1.2.2.2.1,a.1.2.2.2.2.1,a.1.2.2.2.2.2.1,a.1.2.2.2.2.2.2.1,a.1.2.2.2.2.2.2.2.2.1,a.1.2.2.2.2.2.2.2.2.2.1,a.1.2.1,a.1.2.2.2.2.2.2.2.1,()),a.2)):Option aem).bind fun c=>
bif c.1.1 then some ((c.1.2.1,c.1.2.2.1,c.1.2.2.2.1,c.1.2.2.2.2.1,c.1.2.2.2.2.2.1,c.2.2.2.2.2.2.1.1.1,c.1.2.2.2.2.2.2.1,c.1.2.2.2.2.2.2.2.1,c.1.2.2.2.2.2.2.2.2.1,()),c.2)
else some ((c.1.2.1,c.1.2.2.1,c.1.2.2.2.1,c.1.2.2.2.2.1,c.1.2.2.2.2.2.1,c.1.2.2.2.2.2.2.2.2.2.1,c.1.2.2.2.2.2.2.1,c.1.2.2.2.2.2.2.2.1,c.1.2.2.2.2.2.2.2.2.1,()),c.2)):Option ((Int×ByteArray×Int×Int×Int×Int×Int×Int×Int×Unit)×abB)).bind fun e=>
((bif decide (e.1.2.2.2.2.2.2.2.2.1<0)then(m21 ((e.2.2.2.2.2.2.1.1,e.2.1,()),())).bind fun j=>
some ((j.1.1,e.1),e.2)
else some ((false,e.1),e.2)):Option aem).bind fun b=>
bif b.1.1 then some ((b.2.2.2.2.2.2.1.1.1,b.1.2.1,b.1.2.2.1,b.1.2.2.2.1,b.1.2.2.2.2.1,b.1.2.2.2.2.2.1,b.1.2.2.2.2.2.2.1,b.1.2.2.2.2.2.2.2.1,b.1.2.2.2.2.2.2.2.2.1,()),b.2.1,b.2.2.1,b.2.2.2.1,b.2.2.2.2.1,b.2.2.2.2.2.1,b.2.2.2.2.2.2.2)
else some ((b.1.2.2.2.2.2.2.2.2.2.1,b.1.2.1,b.1.2.2.1,b.1.2.2.2.1,b.1.2.2.2.2.1,b.1.2.2.2.2.2.1,b.1.2.2.2.2.2.2.1,b.1.2.2.2.2.2.2.2.1,b.1.2.2.2.2.2.2.2.2.1,()),b.2.1,b.2.2.1,b.2.2.2.1,b.2.2.2.2.1,b.2.2.2.2.2.1,b.2.2.2.2.2.2.2)
else none):Option ((Int×Int×ByteArray×Int×Int×Int×Int×Int×Int×Unit)×abY)).bind fun d=>
some (.inl ((aP (d.1.2.2.2.2.2.2.2.2.1+1),d.1.1,d.1.2.1,d.1.2.2.1,d.1.2.2.2.1,d.1.2.2.2.2.1,d.1.2.2.2.2.2.1,d.1.2.2.2.2.2.2.1,d.1.2.2.2.2.2.2.2.1,()),d.2))
else(some (.inr ((v.1.2.2.1,v.1.2.2.2.2.2.1,v.1.2.2.2.2.2.2.1,v.1.2.1,v.1.2.2.2.2.2.2.2.1,()),v.2)))
def YH(v:(UB×WQ)):Option ((UB×WQ)⊕(gN⊕zo)):=
bif decide (v.1.2.1<v.1.2.2.1)then bif decide (0≤v.1.2.1∧v.1.2.1<v.2.2.2.2.1.length)then
(v.2.2.2.2.1[v.1.2.1.toNat]?).bind fun d=>
bif decide (0≤d∧d<v.2.2.2.2.2.1.length)then
(v.2.2.2.2.2.1[d.toNat]?).bind fun e=>
(m20 ((e,v.2.1,()),())).bind fun g=>
(aB WT ((0,-1,v.1.1,g.1.1,d,v.1.2.2.1,v.1.2.1,-1,((v.2.2.1.length:Nat):Int),()),v.2.1,v.2.2.1,v.2.2.2.1,v.2.2.2.2.1,(e,()),v.2.2.2.2.2)).bind fun a=>
((bif decide (a.1.2.2.2.2.1≥0)then let f:=(aP (a.1.2.2.2.2.1+a.2.2.2.2.2.1.1.2.2.2.2.2.1))
let h:=(if f>(aP (a.1.1+a.2.2.2.2.2.1.1.2.2.2.2.1))then f else aP (a.1.1+a.2.2.2.2.2.1.1.2.2.2.2.1))
some ((a.1.1,a.1.2.1,a.1.2.2.1,h,a.1.2.2.2.1,()),a.2.1,a.2.2.1,a.2.2.2.1,a.2.2.2.2.1,a.2.2.2.2.2.2)
else some ((a.1.1,a.1.2.1,a.1.2.2.1,aP (a.1.1+a.2.2.2.2.2.1.1.2.2.2.2.1),a.1.2.2.2.1,()),a.2.1,a.2.2.1,a.2.2.2.1,a.2.2.2.2.1,a.2.2.2.2.2.2)):Option ((Int×Int×Int×Int×Int×Unit)×WQ)).bind fun b=>
((bif decide (b.1.2.2.2.2.1<b.1.1)then some ((true,b.1.1,b.1.2.1,b.1.2.2.1,()),b.2)
else let j:=(decide (b.1.2.2.2.2.1>b.1.2.2.2.1))
some ((j,b.1.1,b.1.2.1,b.1.2.2.1,()),b.2)):Option ((Bool×Int×Int×Int×Unit)×WQ)).bind fun c=>
bif c.1.1 then some (.inr (.inl ((false,()),())))
else some (.inl ((c.1.2.1,aP (c.1.2.2.2.1+1),c.1.2.2.1,()),c.2))
else none
else none
else(some (.inr (.inr ((),()))))
def m4(v:((List Int×Int×Unit)×Unit)):Option gN:=
(m9 ((v.1.1,()),())).bind fun g=>
bif !g.1.1 then(m10 ((),())).bind fun h=>
some h
else((m11 ((v.1.1,()),())).bind fun j=>
(m12 ((3,()),j.2)).bind fun c=>
(m13 ((10,()),c.2.1,())).bind fun b=>
bif decide ((0:Int)≤((v.1.2.1:Int).tmod 3)∧(((v.1.2.1:Int).tmod 3):Int)< [(bs [97]),bs [98],(bs [99,114,105,116])].length)then
([(bs [97]),bs [98],(bs [99,114,105,116])][((v.1.2.1:Int).tmod 3).toNat]?).bind fun e=>
((let k:=(decide (((b.2.2.1.length:Nat):Int)>0))
bif k then bif decide ((0:Int)≤(aP (((b.2.2.1.length:Nat):Int)-1))∧((aP (((b.2.2.1.length:Nat):Int)-1)):Int)<b.2.2.1.length)then
(b.2.2.1[(aP (((b.2.2.1.length:Nat):Int)-1)).toNat]?).bind fun l=>
some ((l.1,()),([(bs [109,105,110,101],bs [120],()),(bs [116,101,97,109],e,())]:List wR),((0,()),()),b.2.2.1,c.2.2.2.1,())
else none
else some ((0,()),([(bs [109,105,110,101],bs [120],()),(bs [116,101,97,109],e,())]:List wR),((0,()),()),b.2.2.1,c.2.2.2.1,())):Option (lU×(gM×DY×List QL×List Y4×Unit))).bind fun a=>
bif decide (a.2.2.2.1.length+([(a.1.1,a.2.1,true,())]:List QL).length≤4294967296)then
let m:=(a.2.2.2.1++([(a.1.1,a.2.1,true,())]:List QL))
(m15 (((a.2.2.2.2.1,[],a.2.2.1.1),m,aP (a.1.1+2000),()),())).bind fun d=>
bif d.1.1 !=0 then((bif d.1.1==5 then(m10 ((),())).bind fun n=>
some n
else some ((false,()),())):Option gN).bind fun o=>
some o
else(m19 ((a.2.2.2.2.1,a.2.1,()),())).bind fun f=>
(aB YH ((a.1.1,0,((f.2.1.length:Nat):Int),()),a.2.1,d.2.2.1,a.2.2.1,f.2.1,a.2.2.2.2)).bind fun p=>
ax p (fun q=>(some q)) (fun s=>((m10 ((),())).bind fun r=>
some r))
else none
else none)
def m14(v:(zk×Unit)):Option wQ:=
bif decide (v.1.2.1≠(0:Int))then
bif decide (v.1.2.1≠(0:Int))then
let a:=(((aP (((v.1.1:Int).tmod v.1.2.1)+v.1.2.1)):Int).tmod v.1.2.1)
some ((a,()),())
else none
else none
def ah4:Abs.Spec:=⟨0,⟨[0,1],oI,.nil⟩,⟨[4],dw,.nil⟩,m14⟩
theorem agw:fE 14 ah4:=okW BH fV
def xU(v:((Int×uh×Int×Unit)×DY)):Option (((Int×uh×Int×Unit)×DY)⊕((lU×DY)⊕(Unit×DY))):=
bif decide (v.1.1<v.1.2.2.1)then Abs.rowAt v.1.2.1 v.1.1 fun a _=>
bif a.1==v.2.1.1 then some (.inr (.inl ((v.1.1,()),v.2)))
else some (.inl ((aP (v.1.1+1),v.1.2),v.2))
else(some (.inr (.inr ((),v.2))))
def YT(v:((uh×Int×Int×Unit)×Unit)):Option (lU×Fq):=
(m81 ((v.1.1,()),())).bind fun d=>
bif d.1.1 !=0 then some (d.1,[],())
else((((aB xU ((0,v.1.1,(v.1.1.length:Int),()),(v.1.2.1,()),())).bind fun e=>
ax e (fun f=>(some ((f.1.1,v.1.2.2.1,v.1.1,()),()))) (fun j=>(some ((-1,v.1.2.2.1,v.1.1,()),())))):Option ((Int×Int×uh×Unit)×Unit)).bind fun a=>
bif decide (a.1.1<0)then some ((3,()),[],())
else Abs.rowAt a.1.2.2.1 a.1.1 fun g _=>
bif decide (g.2.2.1≤a.1.2.1)then some ((9,()),[],())
else(Ms (a.1.2.2,())).bind fun b=>
bif decide (0≤a.1.1∧a.1.1<b.2.1.length)then
(b.2.1[a.1.1.toNat]?).bind fun h=>
bif decide (h.2.1≥a.1.2.1)then bif decide (0≤a.1.1∧a.1.1<(aP (a.1.1+1))∧((aP (a.1.1+1)):Int)≤b.2.1.length∧b.2.1.length≤4294967296)then
bif decide (b.2.1.length=b.2.1.length)&&true then
some ((0,()),b.2.1.take a.1.1.toNat++b.2.1.drop (aP (a.1.1+1)).toNat,())
else none
else none
else bif decide (0≤a.1.1∧a.1.1<b.2.1.length)then
(b.2.1[a.1.1.toNat]?).bind fun c=>
some ((0,()),b.2.1.set a.1.1.toNat (c.1,c.2.1,a.1.2.1,c.2.2.2),())
else none
else none)
def agj:Abs.Spec:=⟨0,⟨[0,1,2],(.dat zQ oI),.nil⟩,⟨[6,7],(.st Rm dw),xX⟩,YT⟩
def agn:Nat→Abs.iR
 |0=>.mk (bL [(4,⟨[9,2,0],(.dat aV (.dat aV (.dat zQ .nil))),.nil⟩)]) bF bF (fun
  |4,2=>1
  |_,_=>0)
 |1=>.mk bF bF (bL [(2,⟨⟨[8,0,1,7],(.dat aV (.dat zQ (.st (.clo 137 [((0,0),1,0,0)]) dw))),Qc⟩,(.more .ret ⟨[4],dw,Qc⟩ (.one (.exit 0) ⟨[],.nil,Qc⟩))⟩)]) (fun
  |4,5=>2
  |_,_=>0)
 |_=>{}
theorem afW:fE 76 agj:=okW agn (bK abz (bK Ta fV))
def Wh(v:PG):Option (PG⊕(wQ⊕zo)):=
bif decide (v.1.1<v.1.2.2.1)then Abs.rowAt v.1.2.1 v.1.1 fun a _=>
(XB ((a,()),())).bind fun b=>
bif b.1.1 then some (.inr (.inl ((v.1.1,()),())))
else some (.inl ((aP (v.1.1+1),v.1.2),()))
else(some (.inr (.inr ((),()))))
def OQ(v:Q9):Option (Q9⊕(Unit×Mh)):=
bif decide (v.1.1<v.1.2.2.1)then((bif decide (0≤v.1.1∧v.1.1<v.2.2.1.length)then
(v.2.2.1[v.1.1.toNat]?).bind fun b=>
(((((aB Wh ((0,b.2.2.1,(b.2.2.1.length:Int),()),())).bind fun e=>
ax e (fun f=>(some ((decide (f.1.1≥0),()),()))) (fun h=>(some ((false,()),())))):Option gN).bind fun g=>
bif g.1.1 then bif b.2.2.2.1==(-1)then some ((true,v.1.2.1,v.1.2.2.1,v.1.1,v.1.1,()),v.2)
else some ((decide (b.2.2.2.1>v.1.2.1),v.1.2.1,v.1.2.2.1,v.1.1,v.1.1,()),v.2)
else some ((false,v.1.2.1,v.1.2.2.1,v.1.1,v.1.1,()),v.2)):Option ZM).bind fun a=>
bif a.1.1 then bif decide (0≤a.1.2.2.2.2.1∧a.1.2.2.2.2.1<a.2.2.1.length)then
(a.2.2.1[a.1.2.2.2.2.1.toNat]?).bind fun c=>
some ((a.1.2.1,a.1.2.2.1,a.1.2.2.2.1,()),a.2.1,a.2.2.1.set a.1.2.2.2.2.1.toNat (c.1,c.2.1,c.2.2.1,a.1.2.1,c.2.2.2.2),a.2.2.2)
else none
else some ((a.1.2.1,a.1.2.2.1,a.1.2.2.2.1,()),a.2)
else none):Option Q9).bind fun d=>
some (.inl ((aP (d.1.2.2.1+1),d.1.1,d.1.2.1,()),d.2))
else(some (.inr ((),v.2)))
def m29(v:abM):Option (lU×Mh):=
(ZQ ((v.1.1,v.1.2.1,()),())).bind fun d=>
bif !d.1.1 then some ((8,()),((0,0,()),()),[],[],())
else((YT ((v.1.2.1.2.2.1,v.1.2.2.1,v.1.2.1.1,()),())).bind fun b=>
bif b.1.1 !=0 then some (b.1,((0,0,()),()),[],[],())
else(m64 ((v.1.2.1,()),())).bind fun a=>
let e:=(if(8589934592:Int)<(aP (a.2.1.1.1+1))then 8589934592 else aP (a.2.1.1.1+1))
(aB OQ ((0,e,((a.2.2.1.length:Nat):Int),()),a.2.1,a.2.2.1,b.2)).bind fun c=>
bif decide (c.2.2.1.length=a.2.2.1.length)&&(decide (c.2.2.2.1.length=b.2.1.length)&&true)then
some ((0,()),c.2)
else none)
def ags:Abs.Spec:=⟨0,⟨[0,1,2],(.dat Yn (.dat ZK dw)),.nil⟩,⟨[6,7],(.st jF dw),SF⟩,m29⟩
def ahe:Nat→Abs.iR
 |0=>.mk bF bF bF (fun
  |8,4=>1
  |_,_=>0)
 |1=>.mk (bL [(3,⟨[29,1,0,9,10,11,4],adp,SF⟩)]) (bL [(5,(⟨[1,0,9,10,11],(.dat aV (.st jF (.st Qv oI))),SF⟩,none))]) (bL [(1,⟨⟨[11,1,0,9,10],Z7,SF⟩,(.one (.exit 0) ⟨[],.nil,SF⟩)⟩)]) (fun
  |3,2=>2
  |_,_=>0)
 |2=>.mk (bL [(1,⟨[4],iU,.nil⟩)]) bF bF (fun
  |1,2=>3
  |_,_=>0)
 |3=>.mk bF bF (bL [(2,⟨⟨[8,0,1,7],ac7,.nil⟩,ZA⟩)]) jC
 |_=>{}
theorem agl:fE 29 ags:=okW ahe (bK Uh (bK afW (bK XO (bK Zv fV))))
def uS(v:(zk×aai)):Option ((zk×aai)⊕(gN⊕zo)):=
bif decide (v.1.2.1<90)then bif decide (v.2.2.2.1.1.2.1.1+v.2.2.2.1.1.2.1.2≤v.2.2.2.2.2.1.length)then
(Vf (((v.2.2.2.1.1.1,(v.2.2.2.2.2.1.drop v.2.2.2.1.1.2.1.1).take v.2.2.2.1.1.2.1.2,v.2.2.2.2.2.2.1,v.2.2.2.1.1.2.2),()),())).bind fun c=>
bif !c.1.2.1 then some (.inr (.inl ((false,()),())))
else bif decide (v.2.2.2.1.1.2.1.1+v.2.2.2.1.1.2.1.2≤v.2.2.2.2.2.1.length)then
(RN (((v.2.2.2.2.1,[],v.2.1.1),(v.2.2.2.1.1.1,(v.2.2.2.2.2.1.drop v.2.2.2.1.1.2.1.1).take v.2.2.2.1.1.2.1.2,v.2.2.2.2.2.2.1,v.2.2.2.1.1.2.2),c.1.1,()),())).bind fun b=>
((bif b.1.1 !=0 then some ((true,v.1.1,c.1.1,v.1.2),v.2.1,v.2.2.1,b.2.2.1,v.2.2.2.1,b.2.1,v.2.2.2.2.1,v.2.2.2.2.2.1,v.2.2.2.2.2.2.1,b.2.2.2)
else let d:=(decide (((b.2.2.1.length:Nat):Int)>0))
bif d then some ((decide (c.1.1<v.1.1),v.1.1,c.1.1,v.1.2),v.2.1,v.2.2.1,b.2.2.1,v.2.2.2.1,b.2.1,v.2.2.2.2.1,v.2.2.2.2.2.1,v.2.2.2.2.2.2.1,b.2.2.2)
else some ((false,v.1.1,c.1.1,v.1.2),v.2.1,v.2.2.1,b.2.2.1,v.2.2.2.1,b.2.1,v.2.2.2.2.1,v.2.2.2.2.2.1,v.2.2.2.2.2.2.1,b.2.2.2)):Option ((Bool×Int×Int×Int×Unit)×(DY×gM×List LX×PY×PY×List Y4×List o5×uh×List o5×uh×Unit))).bind fun a=>
bif a.1.1 then some (.inr (.inl ((false,()),())))
else let e:=(decide (((a.2.2.2.1.length:Nat):Int)>0))
bif e then((bif decide ((0:Int)≤0∧(0:Int)<a.2.2.2.1.length)then
(a.2.2.2.1[0]?).bind fun f=>
(m21 ((f,a.2.2.1,()),())).bind fun g=>
bif g.1.1 then bif decide ((0:Int)≤0∧(0:Int)<a.2.2.2.2.2.2.1.length)then
(a.2.2.2.2.2.2.1[0]?).bind fun h=>
let j:=(decide (a.1.2.2.1<(aP (a.1.2.1+h.2.2.2.2.2.1))))
bif j then(m10 ((),())).bind fun k=>
some k
else some ((false,()),())
else none
else some ((false,()),())
else none):Option gN).bind fun l=>
some (.inr (.inl l))
else some (.inl ((a.1.2.1,aP (a.1.2.2.2.1+1),()),a.2.1,a.2.2.1,a.2.2.2.2.2.1,a.2.2.2.2.2.2.1,a.2.2.2.2.2.2.2.2.2))
else none
else none
else(some (.inr (.inr ((),()))))
def m6(v:((List Int×Int×Unit)×Unit)):Option gN:=
(m9 ((v.1.1,()),())).bind fun m=>
bif !m.1.1 then(m10 ((),())).bind fun n=>
some n
else((m11 ((v.1.1,()),())).bind fun o=>
(m24 ((),o.2)).bind fun a=>
(m14 ((v.1.2.1,1000,()),())).bind fun c=>
(m26 ((),())).bind fun k=>
(QO (((([(a.2.2.1.1.1,[],a.2.2.1.1.2.1,a.2.2.2.1,a.2.2.1.1.2.2)]:List Y4),[],0,()),(k.2.1.1.1,[],[],k.2.1.1.2),(0,0,aP (500+c.1.1),0,([(bs [97,112,112],0,bs [120],())]:List KE),()),()),())).bind fun d=>
(QO (((([(a.2.2.1.1.1,[],a.2.2.1.1.2.1,a.2.2.2.1,a.2.2.1.1.2.2)]:List Y4),[],0,()),(d.2.1.1.1,d.2.2.1,d.2.2.2.1,d.2.1.1.2),(0,0,5,0,([(bs [97,112,112],0,bs [121],())]:List KE),()),()),())).bind fun l=>
(VD (((([(a.2.2.1.1.1,[],a.2.2.1.1.2.1,a.2.2.2.1,a.2.2.1.1.2.2)]:List Y4),[],0,()),(d.2.1.1.1,d.2.2.1,d.2.2.2.1,d.2.1.1.2),(100,([(bs [97,112,112],bs [120],())]:List wR),true,()),()),())).bind fun e=>
bif decide ((0:Int)≤0∧(0:Int)<([(a.2.2.1.1.1,[],a.2.2.1.1.2.1,a.2.2.2.1,a.2.2.1.1.2.2)]:List Y4).length)then
(([(a.2.2.1.1.1,[],a.2.2.1.1.2.1,a.2.2.2.1,a.2.2.1.1.2.2)]:List Y4)[0]?).bind fun p=>
bif decide (e.2.1.1.2.1.1+e.2.1.1.2.1.2≤e.2.2.1.length)then
(RN (((([(a.2.2.1.1.1,[],a.2.2.1.1.2.1,a.2.2.2.1,a.2.2.1.1.2.2)]:List Y4),[],0,()),(e.2.1.1.1,(e.2.2.1.drop e.2.1.1.2.1.1).take e.2.1.1.2.1.2,e.2.2.2.1,e.2.1.1.2.2),aP (100+p.2.2.2.2.1),()),())).bind fun b=>
bif decide (b.2.1.1.2.1.1+b.2.1.1.2.1.2≤b.2.2.2.1.length)then
(m29 (((([(a.2.2.1.1.1,[],a.2.2.1.1.2.1,a.2.2.2.1,a.2.2.1.1.2.2)]:List Y4),[],0,()),(b.2.1.1.1,(b.2.2.2.1.drop b.2.1.1.2.1.1).take b.2.1.1.2.1.2,b.2.2.2.2.1,b.2.1.1.2.2),d.1.1,()),())).bind fun f=>
(Vf (((f.2.1.1.1,f.2.2.1,f.2.2.2.1,f.2.1.1.2),()),())).bind fun h=>
(RN (((([(a.2.2.1.1.1,[],a.2.2.1.1.2.1,a.2.2.2.1,a.2.2.1.1.2.2)]:List Y4),[],0,()),(f.2.1.1.1,f.2.2.1,f.2.2.2.1,f.2.1.1.2),h.1.1,()),())).bind fun g=>
((bif d.1.2.1 !=0 then some ((true,aP (500+c.1.1),()),((0,()),()),([(bs [97,112,112],bs [120],())]:List wR),b.2.1,([(a.2.2.1.1.1,[],a.2.2.1.1.2.1,a.2.2.2.1,a.2.2.1.1.2.2)]:List Y4),b.2.2.2)
else bif l.1.2.1 !=0 then some ((true,aP (500+c.1.1),()),((0,()),()),([(bs [97,112,112],bs [120],())]:List wR),b.2.1,([(a.2.2.1.1.1,[],a.2.2.1.1.2.1,a.2.2.2.1,a.2.2.1.1.2.2)]:List Y4),b.2.2.2)
else bif e.1.1 !=0 then some ((true,aP (500+c.1.1),()),((0,()),()),([(bs [97,112,112],bs [120],())]:List wR),b.2.1,([(a.2.2.1.1.1,[],a.2.2.1.1.2.1,a.2.2.2.1,a.2.2.1.1.2.2)]:List Y4),b.2.2.2)
else bif b.1.1 !=0 then some ((true,aP (500+c.1.1),()),((0,()),()),([(bs [97,112,112],bs [120],())]:List wR),b.2.1,([(a.2.2.1.1.1,[],a.2.2.1.1.2.1,a.2.2.2.1,a.2.2.1.1.2.2)]:List Y4),b.2.2.2)
else bif f.1.1 !=0 then some ((true,aP (500+c.1.1),()),((0,()),()),([(bs [97,112,112],bs [120],())]:List wR),b.2.1,([(a.2.2.1.1.1,[],a.2.2.1.1.2.1,a.2.2.2.1,a.2.2.1.1.2.2)]:List Y4),b.2.2.2)
else bif g.1.1 !=0 then some ((true,aP (500+c.1.1),()),((0,()),()),([(bs [97,112,112],bs [120],())]:List wR),b.2.1,([(a.2.2.1.1.1,[],a.2.2.1.1.2.1,a.2.2.2.1,a.2.2.1.1.2.2)]:List Y4),b.2.2.2)
else bif d.1.1 !=1 then some ((true,aP (500+c.1.1),()),((0,()),()),([(bs [97,112,112],bs [120],())]:List wR),b.2.1,([(a.2.2.1.1.1,[],a.2.2.1.1.2.1,a.2.2.2.1,a.2.2.1.1.2.2)]:List Y4),b.2.2.2)
else bif l.1.1 !=2 then some ((true,aP (500+c.1.1),()),((0,()),()),([(bs [97,112,112],bs [120],())]:List wR),b.2.1,([(a.2.2.1.1.1,[],a.2.2.1.1.2.1,a.2.2.2.1,a.2.2.1.1.2.2)]:List Y4),b.2.2.2)
else bif ((b.2.2.1.length:Nat):Int) !=0 then some ((true,aP (500+c.1.1),()),((0,()),()),([(bs [97,112,112],bs [120],())]:List wR),b.2.1,([(a.2.2.1.1.1,[],a.2.2.1.1.2.1,a.2.2.2.1,a.2.2.1.1.2.2)]:List Y4),b.2.2.2)
else bif !h.1.2.1 then some ((true,aP (500+c.1.1),()),((0,()),()),([(bs [97,112,112],bs [120],())]:List wR),b.2.1,([(a.2.2.1.1.1,[],a.2.2.1.1.2.1,a.2.2.2.1,a.2.2.1.1.2.2)]:List Y4),b.2.2.2)
else bif h.1.1 !=(aP (b.2.1.1.1+1))then some ((true,aP (500+c.1.1),()),((0,()),()),([(bs [97,112,112],bs [120],())]:List wR),b.2.1,([(a.2.2.1.1.1,[],a.2.2.1.1.2.1,a.2.2.2.1,a.2.2.1.1.2.2)]:List Y4),b.2.2.2)
else bif ((g.2.2.1.length:Nat):Int) !=1 then some ((true,aP (500+c.1.1),()),((0,()),()),([(bs [97,112,112],bs [120],())]:List wR),b.2.1,([(a.2.2.1.1.1,[],a.2.2.1.1.2.1,a.2.2.2.1,a.2.2.1.1.2.2)]:List Y4),b.2.2.2)
else bif decide ((0:Int)≤0∧(0:Int)<g.2.2.1.length)then
(g.2.2.1[0]?).bind fun q=>
(m21 ((q,([(bs [97,112,112],bs [120],())]:List wR),()),())).bind fun r=>
some ((!r.1.1,aP (500+c.1.1),()),((0,()),()),([(bs [97,112,112],bs [120],())]:List wR),b.2.1,([(a.2.2.1.1.1,[],a.2.2.1.1.2.1,a.2.2.2.1,a.2.2.1.1.2.2)]:List Y4),b.2.2.2)
else none):Option (Ih×aai)).bind fun j=>
bif j.1.1 then some ((false,()),())
else(aB uS ((j.1.2.1,0,()),j.2)).bind fun s=>
ax s (fun t=>(some t)) (fun u=>(some ((false,()),())))
else none
else none
else none)
def sp6:Abs.Spec:=⟨0,⟨[0,1],(.dat rIz dw),.nil⟩,⟨[4],iU,.nil⟩,m6⟩
def an6:Nat→Abs.iR
 |0=>.mk (bL [(26,⟨[4],iU,.nil⟩),(23,⟨[197,6,8,26,7,29,9,25,28],(.dat .bool (.st BZ (.dat aV (.dat aV (.st abq (.st (.own Z9 (2,0)) (.st Py (.dat aV (.st (.ptr (4,0) 4 0 0) .nil))))))))),(.box 3 (.agg (.st (.own Z2 (5,0)) (.st .nil dw)) .nil) (.arr Uu true (.arr Z9 false (.box 4 (.agg (.dat aV (.part Z1 (6,0) (.st (.own Z3 (7,0)) dw))) .nil) (.box 4 (.agg (.dat aV (.part Z1 (8,0) (.st (.own Z3 (9,0)) dw))) .nil) (.arr Z2 true (.arr Z1 true (.arr Z3 true Qz))))))))⟩),(14,⟨[166,6,8,7,9],(.dat .bool (.st BZ (.dat aV (.st abq (.st NE .nil))))),Rb6⟩)]) bF (bL [(17,⟨⟨[6,8,7,25,9],(.st BZ (.dat aV (.st abq (.dat aV (.st NE .nil))))),Rb6⟩,aaI⟩)]) jC
 |_=>{}
theorem ok6:fE 6 sp6:=okW an6 (bK ok9 (bK ahb (bK ahh (bK agU (bK agw (bK abN (bK afs (bK aaR (bK adS (bK agl (bK aaH (bK ahc fV))))))))))))
end
end Go.Proofs.YtchnmpafhfjimaaGreatDoor
namespace Go.Proofs.YtchnmpafhfjimaaGreatDoor
open Go Go.Abs Go.Lab
theorem sS:(∀h:Decidable True,@decide True h=true)∧(∀h:Decidable False,@decide False h=false)∧(∀{α:Type} (a b:α),cond true a b=a)∧(∀{α:Type} (a b:α),cond false a b=b)∧(∀{α β:Type} (a:α) (f:α→Option β),(some a).bind f=f a)∧(!true)=false∧(!false)=true∧(∀b:Bool,(true&&b)=b)∧(∀b:Bool,(b&&true)=b)∧(∀b:Bool,(false&&b)=false)∧(∀b:Bool,(b&&false)=false)∧(∀{α:Type} [BEq α] [LawfulBEq α] (a:α),(a==a)=true)∧(∀{α:Type} [BEq α] [LawfulBEq α] (a:α),(a !=a)=false):=
 ⟨fun _=>ajy _,fun _=>aj4 _,fun _ _=>rfl,fun _ _=>rfl,fun _ _=>rfl,rfl,rfl,aiT,Bool.and_true,ajp,Bool.and_false,fun _=>ajo _,fun _=>aiM _⟩
def rR{A B:Type}(l:List A)(n:Int)(F:A→Option B):Option B:=bif decide (0≤n)then(l[n.toNat]?).bind F else none
theorem aO{A B:Type}{l:List A}{n:Int}(F:A→Option B):Abs.rowAt l n (fun e _=>F e)=rR l n F:=by
 unfold Abs.rowAt rR;cases l[n.toNat]?<;>rfl
theorem aG{A B:Type}{l:List A}{i:Nat}{e:A}(h:l[i]?=some e)(F:A→Option B):rR l (i:Int) F=F e:=by
 unfold rR;rw[show decide (0≤(i:Int))=true from aim (by omega),aip,h];rfl
theorem jr{A B:Type}{l:List A}{n:Int}{e:A}(h0:0≤n)(h:l[n.toNat]?=some e)(F:A→Option B):rR l n F=F e:=by
 unfold rR;rw[show decide (0≤n)=true from aim h0,h];rfl
theorem aL{i:Nat}(h:i<9223372036854775807):aP ((i:Int)+1)=((i+1:Nat):Int):=by rw[bY (by omega) (by omega)];omega
theorem drop_at{A:Type}{l:List A}{i:Nat}(h:i<l.length):∃e,l[i]?=some e∧l.drop i=e::l.drop (i+1):=
 ⟨l[i],aiw h,List.drop_eq_getElem_cons h⟩
theorem getD_some{A:Type}{l:List A}{i:Nat}(h:i<l.length):∃e,l[i]?=some e:=⟨_,aiw h⟩
theorem aU{A B:Type}{o:Option A}{f:A→Option B}{y:Option B}(x:A)(h:o=some x)(h2:f x=y):o.bind f=y:=by rw[h];exact h2
theorem cZ(a b:Int):(a==b)=decide (a=b):=by
 by_cases h:a=b<;>simp[h]
abbrev bl(s:ByteArray):List UInt8:=s.data.toList
theorem bE(s:ByteArray):(bl s).length=s.size:=Array.length_toList
theorem Ke(s:ByteArray)(i:Nat):(s[i]?:Option UInt8)=(bl s)[i]?:=by
 rw[Array.getElem?_toList];by_cases h:i<s.size
 ·rw[getElem?_pos s i h,getElem?_pos s.data i h];rfl
 ·rw[getElem?_neg s i h,getElem?_neg s.data i h]
theorem bW(s:ByteArray):s.toList=bl s:=ByteArray.toList_eq s
theorem Ae{s t:ByteArray}(h:bl s=bl t):s=t:=ByteArray.ext (Array.toList_inj.1 h)
theorem FT(l:List UInt8):bl (fU l)=l:=rfl
theorem EP:bl ByteArray.empty=[]:=rfl
theorem rP(s t:ByteArray):(bl s==bl t)=decide (s=t):=by
 by_cases h:s=t
 ·subst h;simp
 ·have:bl s≠bl t:=fun e=>h (Ae e)
  rw[aio h];exact ai6.2 this
theorem size_mk(l:List UInt8):(fU l).size=l.length:=rfl
theorem ng(s:ByteArray)(a b:Nat):bl (s.extract a b)=((bl s).drop a).take (b-a):=by
 exact Lib.extract_data s a b
abbrev LT:Type:=ByteArray×ByteArray×Unit
abbrev MT:Type:=ByteArray×Int×ByteArray×Unit
def u8(c:UInt8):Int:=((c.toNat:Nat):Int)
theorem CO(c:UInt8):iO c=((decide (97≤u8 c)&&decide (u8 c≤122))||(decide (48≤u8 c)&&decide (u8 c≤57))||u8 c==95):=by
 have e:(c==95)=(u8 c==95):=by
  by_cases h:c=95
  ·subst h;rfl
  ·have:u8 c≠95:=fun e=>h (UInt8.toNat_inj.1 (by unfold u8 at e;show c.toNat=95;omega))
   rw[ai6.2 h,ai6.2 this]
 unfold iO;rw[e];have le:∀(n:UInt8),decide (n≤c)=decide ((n.toNat:Int)≤u8 c):=fun n=>ajt.2 (by rw[UInt8.le_iff_toNat_le];unfold u8;omega)
 have ge:∀(n:UInt8),decide (c≤n)=decide (u8 c≤(n.toNat:Int)):=fun n=>ajt.2 (by rw[UInt8.le_iff_toNat_le];unfold u8;omega)
 rw[le,ge,le,ge];rfl
theorem MP(c:UInt8):(decide (32≤c)&&decide (c≤126))=(decide (32≤u8 c)&&decide (u8 c≤126)):=by
 have le:∀(n:UInt8),decide (n≤c)=decide ((n.toNat:Int)≤u8 c):=fun n=>ajt.2 (by rw[UInt8.le_iff_toNat_le];unfold u8;omega)
 have ge:∀(n:UInt8),decide (c≤n)=decide (u8 c≤(n.toNat:Int)):=fun n=>ajt.2 (by rw[UInt8.le_iff_toNat_le];unfold u8;omega)
 rw[le,ge];rfl
theorem byte_at{s:ByteArray}{i:Nat}{c:UInt8}(h:(bl s)[i]?=some c):(((s[(i:Int).toNat]?.getD 0).toNat:Nat):Int)=u8 c:=by
 rw[aip,Ke,h];rfl
theorem Gn(a b:Int):decide (a<b)= !decide (b≤a):=by
 by_cases h:a<b
 ·rw[aim h,aio (by omega)];rfl
 ·rw[aio h,aim (by omega)];rfl
theorem A9(a b:Int):decide (a>b)= !decide (a≤b):=by
 by_cases h:a>b
 ·rw[aim h,aio (by omega)];rfl
 ·rw[aio h,aim (by omega)];rfl
theorem aaU(s:ByteArray)(hs:s.size≤9223372036854775807):∀(k i:Nat),i+k=s.size→
  aB r9 (((i:Int),s,(s.size:Int),()),())=some (if((bl s).drop i).all iO then .inr ((),())else .inl ((false,()),())):=by
 intro k
 induction k with
 |zero=>
  intro i h;rw[aiH (by rw[bE];omega)];refine aC ?_;have:¬(i:Int)<(s.size:Int):=by omega
  simp only[r9,aio this,ax,sS,List.all_nil,if_true]
 |succ k ih=>
  intro i h;obtain⟨c,hc,hd⟩:=drop_at (l:=bl s) (i:=i) (by rw[bE];omega);have hlt:decide ((i:Int)<(s.size:Int))=true:=aim (by omega);have hbd:decide ((0:Int)≤(i:Int)∧(i:Int)<(s.size:Int))=true:=aim (by omega);rw[hd,List.all_cons]
  have hstep:r9 (((i:Int),s,(s.size:Int),()),())=if iO c then some (.inl ((aP ((i:Int)+1),s,(s.size:Int),()),()))else some (.inr (.inl ((false,()),()))):=by
   rw[CO];simp only[r9,hlt,hbd,byte_at hc,ax,sS,Gn,A9,bne];cases decide (97≤u8 c)<;>cases decide (u8 c≤122)<;>cases decide (48≤u8 c)<;>cases decide (u8 c≤57)<;>cases (u8 c==95)<;>rfl
  cases hk:iO c
  ·rw[hk]at hstep;exact aC hstep
  ·rw[hk,aL (by omega)]at hstep;rw[aM hstep,ih (i+1) (by omega)];rfl
theorem abm{s:ByteArray}{i:Nat}{c:UInt8}(h:(bl s)[i]?=some c):(((s[i]?.getD 0).toNat:Nat):Int)=u8 c:=by
 rw[Ke,h];rfl
def jX(c:UInt8):Bool:=decide (32≤c)&&decide (c≤126)
theorem E9(c:UInt8):jX c=(decide (32≤u8 c)&&decide (u8 c≤126)):=MP c
theorem abD(s:ByteArray)(hs:s.size≤9223372036854775807):∀(k i:Nat),i+k=s.size→
  aB qZ (((i:Int),s,()),())=some (if((bl s).drop i).all iO then .inr ((),())else .inl ((false,()),())):=by
 intro k
 induction k with
 |zero=>
  intro i h;rw[aiH (by rw[bE];omega)];refine aC ?_;have:¬(i:Int)<(s.size:Int):=by omega
  simp only[qZ,aio this,ax,sS,List.all_nil,if_true]
 |succ k ih=>
  intro i h;obtain⟨c,hc,hd⟩:=drop_at (l:=bl s) (i:=i) (by rw[bE];omega);have hlt:decide ((i:Int)<(s.size:Int))=true:=aim (by omega);have hbd:decide ((0:Int)≤(i:Int)∧(i:Int)<(s.size:Int))=true:=aim (by omega);rw[hd,List.all_cons]
  have hstep:qZ (((i:Int),s,()),())=if iO c then some (.inl ((aP ((i:Int)+1),s,()),()))else some (.inr (.inl ((false,()),()))):=by
   rw[CO];simp only[qZ,hlt,hbd,byte_at hc,ax,sS,Gn,A9,bne];cases decide (97≤u8 c)<;>cases decide (u8 c≤122)<;>cases decide (48≤u8 c)<;>cases decide (u8 c≤57)<;>cases (u8 c==95)<;>rfl
  cases hk:iO c
  ·rw[hk]at hstep;exact aC hstep
  ·rw[hk,aL (by omega)]at hstep;rw[aM hstep,ih (i+1) (by omega)];rfl
theorem aaO(s:ByteArray)(hs:s.size≤9223372036854775807):∀(k i:Nat),i+k=s.size→
  aB sN (((i:Int),s,(s.size:Int),()),())=some (if((bl s).drop i).all jX then .inr ((s,()),())else .inl ((false,()),())):=by
 intro k
 induction k with
 |zero=>
  intro i h;rw[aiH (by rw[bE];omega)];refine aC ?_;have:¬(i:Int)<(s.size:Int):=by omega
  simp only[sN,aio this,ax,sS,List.all_nil,if_true]
 |succ k ih=>
  intro i h;obtain⟨c,hc,hd⟩:=drop_at (l:=bl s) (i:=i) (by rw[bE];omega);have hlt:decide ((i:Int)<(s.size:Int))=true:=aim (by omega);have hbd:decide ((0:Int)≤(i:Int)∧(i:Int)<(s.size:Int))=true:=aim (by omega);rw[hd,List.all_cons]
  have hstep:sN (((i:Int),s,(s.size:Int),()),())=if jX c then some (.inl ((aP ((i:Int)+1),s,(s.size:Int),()),()))else some (.inr (.inl ((false,()),()))):=by
   rw[E9];simp only[sN,hlt,hbd,byte_at hc,ax,sS,Gn,A9,bne];cases decide (32≤u8 c)<;>cases decide (u8 c≤126)<;>rfl
  cases hk:jX c
  ·rw[hk]at hstep;exact aC hstep
  ·rw[hk,aL (by omega)]at hstep;rw[aM hstep,ih (i+1) (by omega)];rfl
theorem abI(s:ByteArray)(hs:s.size≤9223372036854775807):∀(k i:Nat),i+k=s.size→
  aB rz (((i:Int),s,()),())=some (if((bl s).drop i).all jX then .inr ((),())else .inl ((false,()),())):=by
 intro k
 induction k with
 |zero=>
  intro i h;rw[aiH (by rw[bE];omega)];refine aC ?_;have:¬(i:Int)<(s.size:Int):=by omega
  simp only[rz,aio this,ax,sS,List.all_nil,if_true]
 |succ k ih=>
  intro i h;obtain⟨c,hc,hd⟩:=drop_at (l:=bl s) (i:=i) (by rw[bE];omega);have hlt:decide ((i:Int)<(s.size:Int))=true:=aim (by omega);have hbd:decide ((0:Int)≤(i:Int)∧(i:Int)<(s.size:Int))=true:=aim (by omega);rw[hd,List.all_cons]
  have hstep:rz (((i:Int),s,()),())=if jX c then some (.inl ((aP ((i:Int)+1),s,()),()))else some (.inr (.inl ((false,()),()))):=by
   rw[E9];simp only[rz,hlt,hbd,byte_at hc,ax,sS,Gn,A9,bne];cases decide (32≤u8 c)<;>cases decide (u8 c≤126)<;>rfl
  cases hk:jX c
  ·rw[hk]at hstep;exact aC hstep
  ·rw[hk,aL (by omega)]at hstep;rw[aM hstep,ih (i+1) (by omega)];rfl
abbrev o6(s:ByteArray):Bool:=YB (bl s)
abbrev xY(s:ByteArray):Bool:=Wm (bl s)
theorem J9(s:ByteArray):o6 s=match bl s with
  | []=>false
  |c::_=>(!decide ((s.size:Int)>24))&&(decide (97≤u8 c)&&decide (u8 c≤122))&&(bl s).all iO:=by
 have hl:=bE s;unfold o6 YB
 cases h:bl s with
 |nil=>rfl
 |cons c r=>
  rw[h]at hl;have le:∀(n:UInt8),decide (n≤c)=decide ((n.toNat:Int)≤u8 c):=fun n=>ajt.2 (by rw[UInt8.le_iff_toNat_le];unfold u8;omega)
  have ge:∀(n:UInt8),decide (c≤n)=decide (u8 c≤(n.toNat:Int)):=fun n=>ajt.2 (by rw[UInt8.le_iff_toNat_le];unfold u8;omega)
  simp only[A9,Bool.not_not];rw[show decide ((c::r).length≤24)=decide ((s.size:Int)≤24)from ajt.2 (by rw[hl];omega),le,ge];rfl
theorem IY(s:ByteArray)(hs:s.size≤9223372036854775807):Qu ((s,()),())=some ((o6 s,()),()):=by
 rw[J9];have hl:=bE s;have hlp:=aaU s hs s.size 0 (by omega);unfold Qu
 cases h:bl s with
 |nil=>
  simp only[bW,h,EP,ax,sS]
 |cons c r=>
  have hne:(bl s==bl ByteArray.empty)=false:=by rw[h];rfl
  have h0:(((s[0]?.getD 0).toNat:Nat):Int)=u8 c:=by rw[Ke,h];rfl
  have hpos:decide ((0:Int)≤0∧(0:Int)<s.size)=true:=aim (by rw[h]at hl;simp at hl;omega);simp only[bW,hne,hpos,h0,ax,sS];cases decide ((s.size:Int)>24)
  ·simp only[Gn,A9,ax,sS];cases decide (97≤u8 c)
   ·rfl
   ·cases decide (u8 c≤122)
    ·rfl
    ·simp only[ax,sS];rw[aiK]at hlp;refine aU _ hlp ?_;cases ha:(bl s).all iO<;>rw[←h]<;>simp only[ha,ax,sS]<;>rfl
  ·rfl
theorem WJ(s:ByteArray)(hs:s.size≤9223372036854775807):PE ((s,()),())=some ((o6 s,()),()):=by
 rw[J9];have hl:=bE s;have hlp:=abD s hs s.size 0 (by omega);unfold PE
 cases h:bl s with
 |nil=>
  have:decide ((s.size:Int)<1)=true:=aim (by rw[h]at hl;simp at hl;omega);simp only[this,ax,sS]
 |cons c r=>
  have hne:decide ((s.size:Int)<1)=false:=aio (by rw[h]at hl;simp at hl;omega);have h0:(((s[0]?.getD 0).toNat:Nat):Int)=u8 c:=by rw[Ke,h];rfl
  have hpos:decide ((0:Int)≤0∧(0:Int)<s.size)=true:=aim (by rw[h]at hl;simp at hl;omega);simp only[hne,hpos,h0,ax,sS];cases decide ((s.size:Int)>24)
  ·simp only[Gn,A9,ax,sS];cases decide (97≤u8 c)
   ·rfl
   ·cases decide (u8 c≤122)
    ·rfl
    ·simp only[ax,sS];rw[aiK]at hlp;refine aU _ hlp ?_;cases ha:(bl s).all iO<;>rw[←h]<;>simp only[ha,ax,sS]<;>rfl
  ·rfl
theorem OP(s:ByteArray):xY s=((bl s).all jX&&decide ((s.size:Int)≤64)):=by
 unfold xY Wm;rw[bE,show decide (s.size≤64)=decide ((s.size:Int)≤64)from ajt.2 (by omega)];rfl
theorem Pj(s:ByteArray)(hs:s.size≤9223372036854775807):Ur ((s,()),())=some ((xY s,()),()):=by
 rw[OP];have hlp:=aaO s hs s.size 0 (by omega);rw[aiK]at hlp;unfold Ur;refine aU _ hlp ?_;cases ha:(bl s).all jX<;>simp only[ax,sS]<;>rfl
theorem Xz(s:ByteArray)(hs:s.size≤9223372036854775807):UY ((s,()),())=some ((xY s,()),()):=by
 rw[OP];have hlp:=abI s hs s.size 0 (by omega);rw[aiK]at hlp;unfold UY;simp only[A9];cases decide ((s.size:Int)≤64)
 ·simp only[ax,sS]
 ·simp only[ax,sS];refine aU _ hlp ?_;cases ha:(bl s).all jX<;>rfl
def bn(m:MT):Bool:=o6 m.1&&(decide (m.2.1≥0)&&(decide (m.2.1≤3)&&xY m.2.2.1))
def Rx(m:MT):Prop:=m.1.size≤9223372036854775807∧m.2.2.1.size≤9223372036854775807
theorem OU(m:MT)(hm:Rx m):UD ((m,()),())=some ((bn m,()),()):=by
 unfold UD bn;simp only[IY _ hm.1,Pj _ hm.2,ax,sS];cases o6 m.1<;>cases decide (m.2.1≥0)<;>cases decide (m.2.1≤3)<;>simp only[ax,sS]
def yY(k:ByteArray):List LT→Option ByteArray
 | []=>none
 |x::l=>if x.1=k then some x.2.1 else yY k l
def vU(l:List LT)(k:ByteArray):ByteArray:=(yY k l).getD ByteArray.empty
theorem abw(l:List LT)(key:ByteArray)(hl:l.length≤9223372036854775807):∀(k i:Nat),i+k=l.length→
  aB rH (((i:Int),key,l,(l.length:Int),()),())=some (match yY key (l.drop i)with|some v=>.inl ((v,()),())|none=>.inr ((),())):=by
 intro k
 induction k with
 |zero=>
  intro i h;rw[aiH (by omega)];refine aC ?_;have:¬(i:Int)<(l.length:Int):=by omega
  simp only[rH,aio this,ax,sS,yY]
 |succ k ih=>
  intro i h;obtain⟨e,he,hd⟩:=drop_at (l:=l) (i:=i) (by omega);have hlt:decide ((i:Int)<(l.length:Int))=true:=aim (by omega);rw[hd,yY];by_cases hk:e.1=key
  ·rw[if_pos hk];refine aC ?_;simp only[rH,aO,aG he,hlt,bW,rP,aim hk,ax,sS]
  ·rw[if_neg hk,←ih (i+1) (by omega)];refine aM ?_;simp only[rH,aO,aG he,hlt,bW,rP,aio hk,ax,sS,aL (show i<9223372036854775807 by omega)]
theorem Ij(l:List LT)(key:ByteArray)(hl:l.length≤9223372036854775807):Ri ((l,key,()),())=some ((vU l key,()),()):=by
 have h:=abw l key hl l.length 0 (by omega);rw[aiK]at h;unfold Ri vU;refine aU _ h ?_;cases yY key l<;>rfl
theorem XY(s:ByteArray)(h:0<s.size):∃c,(bl s)[s.size-1]?=some c∧bl s=bl (s.extract 0 (s.size-1))++ [c]:=by
 have hl:=bE s;obtain⟨c,hc⟩:=getD_some (l:=bl s) (i:=s.size-1) (by omega);refine⟨c,hc,?_⟩;rw[ng,aiK,Nat.sub_zero];have:=aj1 (s.size-1) (bl s)
 conv=>lhs;rw[←this]
 congr 1
 obtain⟨e,he,hd⟩:=drop_at (l:=bl s) (i:=s.size-1) (by omega);rw[hc]at he;cases he;rw[hd,aiH (by omega)]
theorem afC(n:Nat):∀(s:ByteArray),s.size=n→n≤9223372036854775807→∃t,aB qQ ((s,42,()),())=some ((t,()),())∧∃k,bl s=bl t++List.replicate k 42:=by
 induction n with
 |zero=>
  intro s hs _;refine⟨s,aC ?_,0,by simp⟩;have:decide ((s.size:Int)>0)=false:=aio (by omega);simp only[qQ,this,ax,sS]
 |succ n ih=>
  intro s hs hn;obtain⟨c,hc,hsp⟩:=XY s (by omega);have hw:aP ((s.size:Int)-1)=((s.size-1:Nat):Int):=by rw[bY (by omega) (by omega)];omega
  have h0:decide ((s.size:Int)>0)=true:=aim (by omega);have h1:decide ((0:Int)≤((s.size-1:Nat):Int)∧((s.size-1:Nat):Int)<s.size)=true:=aim (by omega);have h2:decide ((0:Int)≤((s.size-1:Nat):Int))=true:=aim (by omega);have h3:decide (0≤s.size-1∧s.size-1≤s.size)=true:=aim (by omega);have hb:=byte_at hc;by_cases h42:u8 c=42
  ·have hc42:c=42:=UInt8.toNat_inj.1 (by unfold u8 at h42;show c.toNat=42;omega);have hsz:(s.extract 0 (s.size-1)).size=n:=by rw[←bE,ng,ai8,aiQ,bE];omega
   obtain⟨t,ht,k,hk⟩:=ih (s.extract 0 (s.size-1)) hsz (by omega);refine⟨t,?_,k+1,?_⟩
   ·rw[←ht];refine aM ?_;simp only[qQ,h0,hw,h1,h2,aip,abm hc,cZ,aim h42,h3,ax,sS]
   ·rw[hsp,hk,hc42,aiI]
    congr 1
    rw[List.replicate_succ']
  ·refine⟨s,aC ?_,0,by simp⟩;simp only[qQ,h0,hw,h1,hb,cZ,aio h42,ax,sS]
theorem aeR(n:Nat):∀(s:ByteArray),s.size=n→n≤9223372036854775807→∃t,aB sZ ((s,42,()),())=some ((t,()),())∧(∃k,bl s=List.replicate k 42++bl t)∧(∀c r,bl t=c::r→c≠42):=by
 induction n with
 |zero=>
  intro s hs _;refine⟨s,aC ?_,⟨0,by simp⟩,fun c r h=> ?_⟩
  ·have:decide ((s.size:Int)>0)=false:=aio (by omega);simp only[sZ,this,ax,sS]
  ·have:=bE s;rw[h]at this;simp at this;omega
 |succ n ih=>
  intro s hs hn;obtain⟨c,hc,hsp⟩:=drop_at (l:=bl s) (i:=0) (by rw[bE];omega);rw[aiK]at hsp;have h0:decide ((s.size:Int)>0)=true:=aim (by omega);have h1:decide ((0:Int)≤0∧(0:Int)<s.size)=true:=aim (by omega);have h3:decide (1≤s.size∧s.size≤s.size)=true:=aim (by omega);have hb:(((s[0]?.getD 0).toNat:Nat):Int)=u8 c:=by rw[Ke,hc];rfl
  by_cases h42:u8 c=42
  ·have hc42:c=42:=UInt8.toNat_inj.1 (by unfold u8 at h42;show c.toNat=42;omega)
   have hex:bl (s.extract 1 s.size)=(bl s).drop 1:=by
    rw[ng,aiX];rw[aiQ,bE];exact aiy _
   have hsz:(s.extract 1 s.size).size=n:=by rw[←bE,hex,aiQ,bE];omega
   obtain⟨t,ht,⟨k,hk⟩,hf⟩:=ih (s.extract 1 s.size) hsz (by omega);refine⟨t,?_,⟨k+1,?_⟩,hf⟩
   ·rw[←ht];refine aM ?_;simp only[sZ,h0,h1,hb,cZ,aim h42,h3,ax,sS]
   ·rw[hsp,←hex,hk,hc42];rfl
  ·refine⟨s,aC ?_,⟨0,by simp⟩,fun d r h=> ?_⟩
   ·simp only[sZ,h0,h1,hb,cZ,aio h42,ax,sS]
   ·rw[hsp]at h;cases h;intro e;subst e;exact h42 rfl
theorem Yx(s:ByteArray)(hs:s.size≤9223372036854775807):∃t,Uc ((s,bs [42],()),())=some ((t,()),())∧(bl t==bl ByteArray.empty)=(bl s).all (· ==42):=by
 by_cases he:bl s=[]
 ·refine⟨s,?_,?_⟩
  ·unfold Uc;simp only[bW,he,EP,ax,sS]
  ·rw[he];rfl
 ·obtain⟨t1,h1,k1,e1⟩:=afC s.size s rfl hs;have hsz1:t1.size≤s.size:=by rw[←bE t1,←bE s,e1,aiB];omega
  obtain⟨t2,h2,⟨k2,e2⟩,hf⟩:=aeR t1.size t1 rfl (by omega);have m124e:YZ ((s,42,()),())=some ((t1,()),()):=by unfold YZ;exact aU _ h1 rfl
  have m123e:Yp ((t1,42,()),())=some ((t2,()),()):=by unfold Yp;exact aU _ h2 rfl
  refine⟨t2,?_,?_⟩
  ·have hne:(bl s==bl ByteArray.empty)=false:=ai6.2 he;have hb:((((bs [42])[0]?.getD 0).toNat:Nat):Int)=42:=by rfl
   have hbe:(bl (bs [42])==bl ByteArray.empty)=false:=by rfl
   have hbs:(((bs [42]).size:Int)==1)=true:=by rfl
   have hbd:decide ((0:Int)≤0∧(0:Int)<(bs [42]).size)=true:=by rfl
   unfold Uc;simp only[bW,hne,hb,hbe,hbs,hbd,m124e,m123e,ax,sS];rfl
  ·rw[e1,e2,List.all_append,List.all_append];rw[show(List.replicate k1 (42:UInt8)).all (· ==42)=true by simp,show(List.replicate k2 (42:UInt8)).all (· ==42)=true by simp,Bool.and_true,aiT]
   cases h:bl t2 with
   |nil=>rfl
   |cons c r=>
    have:(c==42)=false:=ai6.2 (hf c r h);simp[this,EP]
def EJ(p s:ByteArray):Bool:=like (bl p) (bl s)
theorem abC{c d:UInt8}(h:u8 c=u8 d):c=d:=UInt8.toNat_inj.1 (by unfold u8 at h;omega)
theorem Jv(c d:UInt8):(u8 c==u8 d)=(c==d):=by
 by_cases h:c=d
 ·subst h;simp
 ·rw[ai6.2 h,ai6.2 (fun e=>h (abC e))]
theorem RZ(c:UInt8):(u8 c==42)=decide (c=42):=by
 rw[show(42:Int)=u8 42 from rfl,Jv];by_cases h:c=42<;>simp[h]
theorem ZT(c:UInt8):(u8 c==63)=(c==63):=Jv c 63
def abO:Option (Nat×Nat)→Int→Int→Prop
 |none,s,_=>s= -1
 |some q,s,f=>s=((q.1:Nat):Int)∧f=((q.2:Nat):Int)
structure LS(P V:ByteArray)(p v:Nat)(star:Option (Nat×Nat))(a:(Int×Int×Int×Int×ByteArray×ByteArray×Unit)×Unit):Prop where
 inv:ru (bl P) (bl V) p v star
 st:∃(s f:Int),a=(((p:Int),(v:Int),s,f,V,P,()),())∧abO star s f
def VH(P V:ByteArray)(p:Nat)(star:Option (Nat×Nat)):Nat:=(V.size+1-(star.map (·.2)).getD 0)*(P.size+1)+(P.size-p)
theorem Qn(P V:ByteArray)(hP:P.size≤4294967295)(hV:V.size≤4294967295):∀(n p v:Nat) (star:Option (Nat×Nat)) (a),LS P V p v star a→VH P V p star≤n→
  ∃d,aB fQ a=some d∧((d= .inl ((false,()),())∧EJ P V=false)∨∃q:Nat,q≤P.size∧d= .inr (((q:Int),P,()),())∧EJ P V=((bl P).drop q).all (· ==42)):=by
 intro n
 induction n with
 |zero=>
  intro p v star a h hn
  exfalso
  have hp:=h.inv.hp;have hv:=h.inv.hv;rw[bE]at hp hv;unfold VH at hn
  have hf:(star.map (·.2)).getD 0≤V.size:=by
   cases star with
   |none=>exact aiN _
   |some q=>have:=(h.inv.ok:_∧_∧_).2.1;simp;omega
  have:1*(P.size+1)≤(V.size+1-(star.map (·.2)).getD 0)*(P.size+1):=ai4 _ (by omega);omega
 |succ n ih=>
  intro p v star a h hn;obtain⟨inv,s,f,rfl,hst⟩:=h;have hp:=inv.hp;have hv:=inv.hv;rw[bE]at hp hv
  have hf:(star.map (·.2)).getD 0≤v:=by
   cases star with
   |none=>exact aiN _
   |some q=>exact(inv.ok:_∧_∧_).2.1
  by_cases hve:v=V.size
  ·refine⟨.inr (((p:Int),P,()),()),aC ?_,.inr ⟨p,hp,rfl,inv.aeb (by rw[bE];exact hve)⟩⟩;have:decide ((v:Int)<(V.size:Int))=false:=aio (by omega);simp only[fQ,this,ax,sS]
  ·have hvlt:decide ((v:Int)<(V.size:Int))=true:=aim (by omega);have hvb:decide ((0:Int)≤(v:Int)∧(v:Int)<(V.size:Int))=true:=aim (by omega);obtain⟨x,hx,_⟩:=drop_at (l:=bl V) (i:=v) (by rw[bE];omega);have bx:=byte_at hx;have w1:aP ((v:Int)+1)=((v+1:Nat):Int):=aL (by omega);have w2:aP ((p:Int)+1)=((p+1:Nat):Int):=aL (by omega)
   have miss:(∀c,(bl P)[p]?=some c→c≠42∧(c==63||c==x)=false)→fQ (((p:Int),(v:Int),s,f,V,P,()),())=(bif decide (s≥0)then some (.inl ((aP (s+1),aP (f+1),s,aP (f+1),V,P,()),()))else some (.inr (.inl ((false,()),()))))→
     ∃d,aB fQ (((p:Int),(v:Int),s,f,V,P,()),())=some d∧((d= .inl ((false,()),())∧EJ P V=false)∨∃q:Nat,q≤P.size∧d= .inr (((q:Int),P,()),())∧EJ P V=((bl P).drop q).all (· ==42)):=by
    intro hm hstep
    cases star with
    |none=>
     have hs:s= -1:=hst;subst hs;exact⟨_,aC hstep,.inl ⟨rfl,inv.onFail hx hm⟩⟩
    |some q=>
     obtain⟨q1,q2⟩:=q;obtain⟨rfl,rfl⟩:s=((q1:Nat):Int)∧f=((q2:Nat):Int):=hst;have hq:=(inv.ok:_∧_∧_)
     have hq1:q1+1≤p:=hq.1;have hq2:q2≤v:=hq.2.1;rw[aim (show((q1:Nat):Int)≥0 by omega),aL (by omega),aL (by omega)]at hstep;rw[aM hstep];refine ih (q1+1) (q2+1) (some (q1,q2+1)) _ ⟨inv.abX hx hm,_,_,rfl,⟨rfl,rfl⟩⟩ ?_;unfold VH at hn ⊢;simp only[aiF,aj0]at hn ⊢;have e:V.size+1-q2=(V.size+1-(q2+1))+1:=by omega
     rw[e,Nat.succ_mul]at hn;omega
   by_cases hpe:p<P.size
   ·have hplt:decide ((p:Int)<(P.size:Int))=true:=aim (by omega);have hpb:decide ((0:Int)≤(p:Int)∧(p:Int)<(P.size:Int))=true:=aim (by omega);obtain⟨c,hc,_⟩:=drop_at (l:=bl P) (i:=p) (by rw[bE];omega);have bc:=byte_at hc;by_cases h42:c=42
    ·subst h42
     rw[show aB fQ (((p:Int),(v:Int),s,f,V,P,()),())=aB fQ ((((p+1:Nat):Int),(v:Int),(p:Int),(v:Int),V,P,()),())from aM (by
      simp only[fQ,hvlt,hplt,hpb,bc,RZ,ax,sS,w2])]
     refine ih (p+1) v (some (p,v)) _ ⟨inv.aaq hc,_,_,rfl,⟨rfl,rfl⟩⟩ ?_;unfold VH at hn ⊢;simp only[aiF,aj0];have:=ai4 (P.size+1) (show V.size+1-v≤V.size+1-(star.map (·.2)).getD 0 by omega);omega
    ·by_cases hm:(c==63||c==x)=true
     ·rw[show aB fQ (((p:Int),(v:Int),s,f,V,P,()),())=aB fQ ((((p+1:Nat):Int),((v+1:Nat):Int),s,f,V,P,()),())from aM (by
       simp only[fQ,hvlt,hplt,hpb,hvb,bc,bx,RZ,ZT,Jv,aio h42,ax,sS,w2];rcases Bool.or_eq_true_iff.1 hm with h|h
       ·simp only[h,ax,sS,w1,w2]
       ·cases (c==63)<;>simp only[h,ax,sS,w1,w2])]
      refine ih (p+1) (v+1) star _ ⟨inv.abp hc hx h42 hm,s,f,rfl,hst⟩ ?_;unfold VH at hn ⊢;omega
     ·have hm:(c==63||c==x)=false:=by simpa using hm
      refine miss (fun d hd=> ?_) ?_
      ·rw[hc]at hd;cases hd;exact⟨h42,hm⟩
      ·rw[aje]at hm;simp only[fQ,hvlt,hplt,hpb,hvb,bc,bx,RZ,ZT,Jv,aio h42,hm.1,hm.2,ax,sS]
   ·have hplt:decide ((p:Int)<(P.size:Int))=false:=aio (by omega);refine miss (fun d hd=> ?_) ?_
    ·have:=(ain.1 hd).1;rw[bE]at this;omega
    ·simp only[fQ,hvlt,hplt,ax,sS]
theorem X9(P V:ByteArray)(hP:P.size≤4294967295)(hV:V.size≤4294967295):Si ((P,V,()),())=some ((EJ P V,()),()):=by
 obtain⟨d,h1,h2⟩:=Qn P V hP hV _ 0 0 none (((0:Int),(0:Int),(-1),(0:Int),V,P,()),()) ⟨ru.start _ _,-1,0,rfl,rfl⟩ (aiy _);unfold Si;refine aU _ h1 ?_;rcases h2 with⟨rfl,h⟩|⟨q,hq,rfl,h⟩
 ·rw[h];rfl
 ·have ex:bl (P.extract q P.size)=(bl P).drop q:=by
   rw[ng,aiX];rw[aiQ,bE];exact aiy _
  have hsz:(P.extract q P.size).size≤P.size:=by rw[←bE,ex,aiQ,bE];omega
  obtain⟨t,ht,he⟩:=Yx (P.extract q P.size) (by omega);simp only[ax,sS,aim (show(0:Int)≤(q:Int) by omega),aip,aim (show q≤P.size∧P.size≤P.size by omega),ht,bW,he,ex,h]
def cell(c:UInt8)(V:List UInt8)(r r':List Bool)(k:Nat):Bool:=
 if c=42 then(r[k]?.getD false||(decide (0<k)&&r'[k-1]?.getD false))else(decide (0<k)&&r[k-1]?.getD false&&(c==63||some c==V[k-1]?))
def IJ(m:MT)(l:List LT):Bool:=
 let v:=vU l m.1
 if m.2.1=0 then decide (v=m.2.2.1)else if m.2.1=1 then !decide (v=m.2.2.1)else if m.2.1=2 then EJ m.2.2.1 v else if m.2.1=3 then !EJ m.2.2.1 v else false
def allM(ms:List MT)(l:List LT):Bool:=ms.all fun m=>IJ m l
def OX(l:List LT):Prop:=l.length≤9223372036854775807∧∀x∈l,x.2.1.size≤4294967294
def PSz(m:MT):Prop:=m.2.2.1.size≤4294967295
theorem Gr{k v:ByteArray}:∀{l:List LT},yY k l=some v→∃x∈l,x.2.1=v
 | [],h=>by cases h
 |x::l,h=>by
  simp only[yY]at h;split at h
  ·cases h;exact⟨x,by simp,rfl⟩
  ·obtain⟨y,h1,h2⟩:=Gr h;exact⟨y,by simp[h1],h2⟩
theorem Vh{l:List LT}(h:OX l)(k:ByteArray):(vU l k).size≤4294967294:=by
 unfold vU
 cases hf:yY k l with
 |none=>exact aiN _
 |some v=>
  obtain⟨x,h1,rfl⟩:=Gr hf;exact h.2 x h1
theorem Xl(m:MT)(l:List LT)(hm:PSz m)(hl:OX l):Xw ((m,l,()),())=some ((IJ m l,()),()):=by
 have hg:=Vh hl m.1;unfold Xw IJ;simp only[Ij l m.1 hl.1,X9 m.2.2.1 _ hm (show(vU l m.1).size≤4294967295 by omega),ax,sS,cZ,bW,rP];by_cases h0:m.2.1=0
 ·simp only[aim h0,if_pos h0,ax,sS]
 ·by_cases h1:m.2.1=1
  ·simp only[aio h0,aim h1,if_neg h0,if_pos h1,ax,sS]
  ·by_cases h2:m.2.1=2
   ·simp only[aio h0,aio h1,aim h2,if_neg h0,if_neg h1,if_pos h2,ax,sS]
   ·by_cases h3:m.2.1=3
    ·simp only[aio h0,aio h1,aio h2,aim h3,if_neg h0,if_neg h1,if_neg h2,if_pos h3,ax,sS]
    ·simp only[aio h0,aio h1,aio h2,aio h3,if_neg h0,if_neg h1,if_neg h2,if_neg h3,ax,sS]
def PSs(ms:List MT):Prop:=ms.length≤9223372036854775807∧∀m∈ms,PSz m
theorem aaw(ms:List MT)(l:List LT)(hm:PSs ms)(hl:OX l):∀(k i:Nat),i+k=ms.length→
  ∃j:Nat,aB oZ (((i:Int),ms,(ms.length:Int),()),((l,()),()))=some (if allM (ms.drop i) l then .inr ((),((l,()),()))else .inl (((j:Int),()),((l,()),()))):=by
 intro k
 induction k with
 |zero=>
  intro i h;refine⟨0,?_⟩;rw[aiH (by omega)];refine aC ?_;have:decide ((i:Int)<(ms.length:Int))=false:=aio (by omega);simp only[oZ,this,ax,sS,allM,List.all_nil,if_true]
 |succ k ih=>
  intro i h;obtain⟨e,he,hd⟩:=drop_at (l:=ms) (i:=i) (by omega);have hlt:decide ((i:Int)<(ms.length:Int))=true:=aim (by omega);have hle:=hm.1;have hme:=Xl e l (hm.2 e (air he)) hl;rw[hd];unfold allM;rw[List.all_cons];cases hq:IJ e l
  ·refine⟨i,aC ?_⟩;simp only[oZ,aO,aG he,hlt,hme,hq,ax,sS];rfl
  ·obtain⟨j,hj⟩:=ih (i+1) (by omega);refine⟨j,?_⟩;rw[aiT];unfold allM at hj;rw[←hj];refine aM ?_;simp only[oZ,aO,aG he,hlt,hme,hq,ax,sS,aL (show i<9223372036854775807 by omega)]
theorem qi(ms:List MT)(l:List LT)(hm:PSs ms)(hl:OX l):JO ((ms,l,()),())=some ((allM ms l,()),()):=by
 obtain⟨j,h⟩:=aaw ms l hm hl ms.length 0 (by omega);rw[aiK]at h;unfold JO;rw[show aB oZ ((0,ms,(ms.length:Int),()),((l,()),()))=_ from h];cases allM ms l
 ·simp only[ax,sS,ai2,if_false,aim (show(j:Int)≥0 by omega)]
 ·simp only[ax,sS,if_true]
end Go.Proofs.YtchnmpafhfjimaaGreatDoor
namespace Go.Proofs.YtchnmpafhfjimaaGreatDoor
open Go Go.Abs Go.Lab
abbrev zy:=List Int×Int×Unit
def Rz(d:zy):Prop:=0≤d.2.1∧d.2.1≤d.1.length∧d.1.length≤500
theorem agf{l:List Int}(h:l.length≤500):Rz (l,0,()):=⟨Int.le_refl _,Int.natCast_nonneg _,h⟩
theorem Aa(n:Int)(d:zy)(hd:Rz d)(hn:n≤9223372036854775807):
  ∃(r:Int) (d':zy),Ma ((n,()),((d,()),()))=some ((r,()),((d',()),()))∧Rz d'∧(1≤n→0≤r∧r<n)∧(n<1→r=0):=by
 obtain⟨l,at_,u⟩:=d;obtain⟨h1,h2,h3⟩:=hd;simp only at h1 h2 h3;unfold Ma;simp only[aO];by_cases c1:at_≥(l.length:Int)
 ·refine⟨0,(l,at_,()),?_,⟨h1,h2,h3⟩,fun h=>⟨by omega,by omega⟩,fun _=>rfl⟩;simp only[aim c1,ax,sS]
 ·by_cases c2:n<1
  ·refine⟨0,(l,at_,()),?_,⟨h1,h2,h3⟩,fun h=>⟨by omega,by omega⟩,fun _=>rfl⟩;simp only[aio c1,aim c2,ax,sS]
  ·have hat:aP (at_+1)=at_+1:=bY (by omega) (by omega);have hne:n≠0:=by omega
   obtain⟨e,he⟩:=getD_some (l:=l) (i:=at_.toNat) (by omega);have hb:=Int.tmod_lt_of_pos e (show(0:Int)<n by omega)
   have hb2: -n<e.tmod n:=by
    have:=Int.lt_tmod_of_pos e (show(0:Int)<n by omega);omega
   by_cases c3:e.tmod n<0
   ·refine⟨e.tmod n+n,(l,at_+1,()),?_,⟨by simp only;omega,by simp only;omega,h3⟩,fun h=>⟨by omega,by omega⟩,fun h=>by omega⟩;simp only[aio c1,aio c2,ax,sS,jr h1 he,aim hne,aim c3,hat,bY (x:=e.tmod n+n) (by omega) (by omega)]
   ·refine⟨e.tmod n,(l,at_+1,()),?_,⟨by simp only;omega,by simp only;omega,h3⟩,fun h=>⟨by omega,by omega⟩,fun h=>by omega⟩;simp only[aio c1,aio c2,ax,sS,jr h1 he,aim hne,aio c3,hat]
theorem zu(l:List Int)(d:zy)(hd:Rz d)(h0:0<l.length)(h1:l.length≤4294967296):
  ∃(r:Int) (d':zy),m32 ((l,()),((d,()),()))=some ((r,()),((d',()),()))∧Rz d'∧r∈l:=by
 obtain⟨n,d',e1,e2,e3,_⟩:=Aa l.length d hd (by omega);obtain⟨hn0,hn1⟩:=e3 (by omega);obtain⟨r,hr⟩:=getD_some (l:=l) (i:=n.toNat) (by omega);refine⟨r,d',?_,e2,air hr⟩;unfold m32;simp only[e1,aiZ,aO,jr hn0 hr]
theorem GJ(n:Int)(d:zy)(hd:Rz d)(hn:1≤n)(hn2:n≤9223372036854775807):∃(b:Bool) (d':zy),m40 ((n,()),((d,()),()))=some ((b,()),((d',()),()))∧Rz d':=by
 obtain⟨r,d',e1,e2,_⟩:=Aa n d hd hn2;refine⟨(r==aP (n-1)),d',?_,e2⟩;unfold m40;simp only[e1,aiZ]
def wT(m:MT):Prop:=bn m=true∧m.1.size≤64∧m.2.2.1.size≤64∧0≤m.2.1∧m.2.1≤3
theorem wT.p{m:MT}(h:wT m):PSz m:=by have:=h.2.2.1;unfold PSz;omega
theorem wT.z{m:MT}(h:wT m):Rx m:=by have:=h.2.1;have:=h.2.2.1;unfold Rx;omega
def ZI(l:List LT):Prop:=l.length≤4∧∀x∈l,x.1.size≤64∧x.2.1.size≤64
theorem ZI.z{l:List LT}(h:ZI l):OX l:=⟨by have:=h.1;omega,fun x hx=>by have:=(h.2 x hx).2;omega⟩
abbrev kE:List ByteArray:=[(bs [97,112,112]),(bs [104,111,115,116]),(bs [115,101,118]),(bs [116,101,97,109])]
abbrev aes:List ByteArray:=[ByteArray.empty,(bs [97]),(bs [98]),(bs [99,114,105,116]),(bs [97,34,98,92]),(bs [119,101,98,45,49])]
abbrev ahx:ByteArray×ByteArray×ByteArray×ByteArray×Unit:=((bs [97,112,112]),((bs [104,111,115,116]),((bs [115,101,118]),((bs [116,101,97,109]),()))))
theorem Ei:∀k∈kE,o6 k=true∧k.size≤64:=by decide+kernel
def V4(ks:List ByteArray)(l:List LT):Prop:=(l.map (·.1)).Sublist ks∧∀x∈l,x.2.1∈aes∧x.2.1≠ByteArray.empty
theorem NJ:∀(n i:Nat) (d:zy) (l:List ByteArray),i+n=4→Rz d→l.Sublist (kE.take i)→
  ∃(l':List ByteArray) (d':zy),aB yj (((i:Int),ahx,()),((d,()),(l,())))=some ((),((d',()),(l',())))∧Rz d'∧l'.Sublist kE:=by
 intro n
 induction n with
 |zero=>
  intro i d l hi hd hl;refine⟨l,d,aC ?_,hd,by rw[show i=4 by omega]at hl;exact hl⟩;have:decide ((i:Int)<4)=false:=aio (by omega);simp only[yj,this,ax,sS]
 |succ n ih=>
  intro i d l hi hd hl;obtain⟨k,hk⟩:=getD_some (l:=kE) (i:=i) (by show i<4;omega);obtain⟨b,d1,e1,hd1⟩:=GJ 3 d hd (by omega) (by omega);have h0:decide ((i:Int)<4)=true:=aim (by omega);have htk:kE.take (i+1)=kE.take i++ [k]:=by rw[ajF,hk];rfl
  have hw:aP ((i:Int)+1)=((i+1:Nat):Int):=aL (by omega)
  have hlen:l.length≤4:=by
   have:=hl.length_le;rw[ai8]at this;omega
  cases b with
  |false=>
   obtain⟨l',d',e2,hd',hl'⟩:=ih (i+1) d1 l (by omega) hd1 (by rw[htk];exact hl.trans (List.sublist_append_left _ _));refine⟨l',d',?_,hd',hl'⟩;rw[←e2];refine aM ?_;simp only[yj,h0,aO,aG hk,e1,ax,sS,hw]
  |true=>
   obtain⟨l',d',e2,hd',hl'⟩:=ih (i+1) d1 (l++ [k]) (by omega) hd1 (by rw[htk];exact hl.append (List.Sublist.refl _));refine⟨l',d',?_,hd',hl'⟩;rw[←e2];refine aM ?_;have h1:decide (l.length+ [k].length≤4294967296)=true:=aim (by simp;omega);simp only[yj,h0,aO,aG hk,e1,ax,sS,h1,hw]
theorem MU(d:zy)(hd:Rz d):∃(l:List ByteArray) (d':zy),m62 ((),((d,()),()))=some ((),((d',()),(l,())))∧Rz d'∧l.Sublist kE:=by
 obtain⟨l,d',h1,h2,h3⟩:=NJ 4 0 d [] (by omega) hd (List.nil_sublist _);refine⟨l,d',?_,h2,h3⟩;unfold m62;refine aU _ h1 rfl
theorem light(l:List Int):m9 ((l,()),())=some ((decide (l.length≤500),()),()):=by
 unfold m9;rw[show decide ((l.length:Int)≤500)=decide (l.length≤500)from ajt.2 (by omega)]
theorem roll(l:List Int):m11 ((l,()),())=some ((),(((l,0,()),()),())):=rfl
abbrev FH:Type:=List MT×List MT×List ByteArray×Unit
abbrev big:Nat:=9223372036854775807
def E5(a b:List LT)(ks:List ByteArray):Bool:=ks.any fun k=> !decide (vU a k=vU b k)
theorem WL(a b:List LT)(ha:a.length≤big)(hb:b.length≤big)(ks:List ByteArray)(hk:ks.length≤big):∀(k i:Nat),i+k=ks.length→
  ∃j:Nat,aB oV (((i:Int),ks,(ks.length:Int),()),((a,()),((b,()),())))=some (if E5 a b (ks.drop i)then .inl (((j:Int),()),((a,()),((b,()),())))else .inr ((),((a,()),((b,()),())))):=by
 intro k
 induction k with
 |zero=>
  intro i h;refine⟨0,?_⟩;rw[aiH (by omega)];refine aC ?_;have:decide ((i:Int)<(ks.length:Int))=false:=aio (by omega);simp only[oV,this,ax,sS];rfl
 |succ k ih=>
  intro i h;obtain⟨e,he,hd⟩:=drop_at (l:=ks) (i:=i) (by omega);have hlt:decide ((i:Int)<(ks.length:Int))=true:=aim (by omega);have hw:aP ((i:Int)+1)=((i+1:Nat):Int):=aL (by unfold big at hk;omega);have q1:=Ij a e ha;have q2:=Ij b e hb;rw[hd,show E5 a b (e::ks.drop (i+1))=((!decide (vU a e=vU b e))||E5 a b (ks.drop (i+1)))from List.any_cons];cases hq:decide (vU a e=vU b e)
  ·refine⟨i,aC ?_⟩;simp only[oV,aO,aG he,hlt,q1,q2,bW,rP,hq,ax,sS];rfl
  ·obtain⟨j,hj⟩:=ih (i+1) (by omega);refine⟨j,?_⟩;rw[aiD,aiz,←hj];refine aM ?_;simp only[oV,aO,aG he,hlt,q1,q2,bW,rP,hq,ax,sS,hw]
theorem YS(a b:List LT)(ha:a.length≤big)(hb:b.length≤big)(ks:List ByteArray)(hk:ks.length≤big):Ws ((a,b,ks,()),())=some ((!E5 a b ks,()),()):=by
 obtain⟨j,h⟩:=WL a b ha hb ks hk ks.length 0 (by omega);rw[aiK]at h;unfold Ws;rw[show aB oV ((0,ks,(ks.length:Int),()),((a,()),((b,()),())))=_ from h];cases E5 a b ks
 ·simp only[ax,sS,ai2,if_false]
 ·simp only[ax,sS,if_true,aim (show(j:Int)≥0 by omega)]
def RSz(r:FH):Prop:=PSs r.1∧PSs r.2.1∧r.2.2.1.length≤big
def RSs(l:List FH):Prop:=l.length≤big∧∀r∈l,RSz r
def FSs(f:List (List LT)):Prop:=f.length≤big∧∀l∈f,OX l
def Qy(r:FH)(x f:List LT):Bool:=allM r.1 f&&(!allM r.2.1 f&& !E5 x f r.2.2.1)
def Ql(x:List LT)(fs:List (List LT))(r:FH):Bool:=allM r.2.1 x&&fs.any (Qy r x)
def y8(l:List FH)(x:List LT)(fs:List (List LT)):Bool:=l.any (Ql x fs)
theorem X4(r:FH)(hr:RSz r)(x:List LT)(hx:OX x)(fs:List (List LT))(hf:FSs fs)(l:List FH)(n o:Int):∀(k i:Nat),i+k=fs.length→
  aB oK (((i:Int),x,fs,fs,l,n,o,(fs.length:Int),()),((r,()),()))=some (if(fs.drop i).any (Qy r x)then .inl ((true,()),())else .inr ((x,fs,l,n,o,()),())):=by
 intro k
 induction k with
 |zero=>
  intro i h;rw[aiH (by omega)];refine aC ?_;have:decide ((i:Int)<(fs.length:Int))=false:=aio (by omega);simp only[oK,this,ax,sS];rfl
 |succ k ih=>
  intro i h;obtain⟨e,he,hd⟩:=drop_at (l:=fs) (i:=i) (by omega);have hlt:decide ((i:Int)<(fs.length:Int))=true:=aim (by omega);have hlen:=hf.1;have hw:aP ((i:Int)+1)=((i+1:Nat):Int):=aL (by unfold big at hlen;omega);have hze:=hf.2 e (air he);have q1:=qi r.1 e hr.1 hze;have q2:=qi r.2.1 e hr.2.1 hze;have q3:=YS x e hx.1 hze.1 r.2.2.1 hr.2.2;rw[hd,List.any_cons]
  have go:∀b,Qy r x e=b→oK (((i:Int),x,fs,fs,l,n,o,(fs.length:Int),()),((r,()),()))=(if b then some (.inr (.inl ((true,()),())))else some (.inl ((((i+1:Nat):Int),x,fs,fs,l,n,o,(fs.length:Int),()),((r,()),())))):=by
   intro b hb;unfold Qy at hb;subst hb;simp only[oK,aO,aG he,hlt,q1,q2,q3,ax,sS];cases allM r.1 e<;>cases allM r.2.1 e<;>cases E5 x e r.2.2.1<;>simp only[ax,sS,hw]<;>rfl
  cases hq:Qy r x e
  ·rw[aiz,←ih (i+1) (by omega)];exact aM (go false hq)
  ·exact aC (go true hq)
theorem Xa(l:List FH)(hl:RSs l)(x:List LT)(hx:OX x)(fs:List (List LT))(hf:FSs fs):∀(k i:Nat),i+k=l.length→
  aB tK (((i:Int),x,fs,l,(l.length:Int),()),())=some (if(l.drop i).any (Ql x fs)then .inl ((true,()),())else .inr ((),())):=by
 intro k
 induction k with
 |zero=>
  intro i h;rw[aiH (by omega)];refine aC ?_;have:decide ((i:Int)<(l.length:Int))=false:=aio (by omega);simp only[tK,this,ax,sS];rfl
 |succ k ih=>
  intro i h;obtain⟨e,he,hd⟩:=drop_at (l:=l) (i:=i) (by omega);have hlt:decide ((i:Int)<(l.length:Int))=true:=aim (by omega);have hlen:=hl.1;have hw:aP ((i:Int)+1)=((i+1:Nat):Int):=aL (by unfold big at hlen;omega);have hze:=hl.2 e (air he);have q1:=qi e.2.1 x hze.2.1 hx;have q2:=X4 e hze x hx fs hf l (l.length:Int) (i:Int) fs.length 0 (by omega);rw[aiK]at q2;rw[hd,List.any_cons]
  have go:∀b,Ql x fs e=b→tK (((i:Int),x,fs,l,(l.length:Int),()),())=(if b then some (.inr (.inl ((true,()),())))else some (.inl ((((i+1:Nat):Int),x,fs,l,(l.length:Int),()),()))):=by
   intro b hb;unfold Ql at hb;subst hb;simp only[tK,aO,aG he,hlt,q1,ax,sS];cases allM e.2.1 x
   ·simp only[ax,sS,hw];rfl
   ·simp only[ax,sS];rw[show aB oK ((0,x,fs,fs,l,(l.length:Int),(i:Int),(fs.length:Int),()),((e,()),()))=_ from q2];cases fs.any (Qy e x)
    ·simp only[ai2,if_false,ax,sS,hw]
    ·simp only[if_true,ax,sS]
  cases hq:Ql x fs e
  ·rw[aiz,←ih (i+1) (by omega)];exact aM (go false hq)
  ·exact aC (go true hq)
theorem Yd(l:List FH)(hl:RSs l)(x:List LT)(hx:OX x)(fs:List (List LT))(hf:FSs fs):Ya ((l,x,fs,()),())=some ((y8 l x fs,()),()):=by
 have h:=Xa l hl x hx fs hf l.length 0 (by omega);rw[aiK]at h;unfold Ya;refine aU _ h ?_;unfold y8;cases l.any (Ql x fs)<;>rfl
def AA(r:FH):Prop:=r.1.length≤8∧r.2.1.length≤8∧(∀m∈r.1,wT m)∧(∀m∈r.2.1,wT m)∧r.2.2.1.Sublist kE∧r.1≠ []∧r.2.1≠ []
theorem AA.z{r:FH}(h:AA r):RSz r:=by
 obtain⟨h1,h2,h3,h4,h5,_⟩:=h;refine⟨⟨by omega,fun m hm=>(h3 m hm).p⟩,⟨by omega,fun m hm=>(h4 m hm).p⟩,?_⟩;have:=h5.length_le;rw[show kE.length=4 from rfl]at this;unfold big;omega
def eD{S E B:Type}(step:Nat→S→E→S⊕B)(fin:S→B):Nat→List E→S→B
 |_,[],s=>fin s
 |i,e::r,s=>match step i s e with
  | .inl s'=>eD step fin (i+1) r s'
  | .inr b=>b
theorem Ag{A B S E:Type}{f:A→Option (A⊕B)}(l:List E)(st:Nat→S→A)(step:Nat→S→E→S⊕B)(fin:S→B)(I:Nat→S→Prop)
  (h1:∀i e s,l[i]?=some e→i<l.length→I i s→f (st i s)=some (match step i s e with| .inl s'=>.inl (st (i+1) s')| .inr b=>.inr b))
  (hI:∀i e s s',l[i]?=some e→I i s→step i s e= .inl s'→I (i+1) s')
  (h2:∀s,I l.length s→f (st l.length s)=some (.inr (fin s))):
  ∀(k i:Nat) (s:S),i+k=l.length→I i s→aB f (st i s)=some (eD step fin i (l.drop i) s):=by
 intro k
 induction k with
 |zero=>
  intro i s h hi;obtain rfl:i=l.length:=by omega
  rw[ajh];exact aC (h2 s hi)
 |succ k ih=>
  intro i s h hi;obtain⟨e,he,hd⟩:=drop_at (l:=l) (i:=i) (by omega);have q:=h1 i e s he (by omega) hi;rw[hd];unfold eD
  cases hs:step i s e with
  |inl s'=>
   rw[hs]at q;simp only;rw[←ih (i+1) s' (by omega) (hI i e s s' he hi hs)];exact aM q
  |inr b=>
   rw[hs]at q;exact aC q
theorem cO{A B S E:Type}{f:A→Option (A⊕B)}(l:List E)(st:Nat→S→A)(step:Nat→S→E→S⊕B)(fin:S→B)
  (h1:∀i e s,l[i]?=some e→i<l.length→f (st i s)=some (match step i s e with| .inl s'=>.inl (st (i+1) s')| .inr b=>.inr b))
  (h2:∀s,f (st l.length s)=some (.inr (fin s))) (s:S):aB f (st 0 s)=some (eD step fin 0 l s):=by
 have:=Ag l st step fin (fun _ _=>True) (fun i e s he hl _=>h1 i e s he hl) (fun _ _ _ _ _ _ _=>trivial) (fun s _=>h2 s) l.length 0 s (by omega) trivial
 rwa [aiK]at this
theorem pE{S E B:Type}(g:S→E→S)(fin:S→B):∀(l:List E) (i:Nat) (s:S),eD (fun _ s e=>.inl (g s e)) fin i l s=fin (l.foldl g s):=by
 intro l
 induction l with
 |nil=>intro i s;rfl
 |cons e r ih=>intro i s;exact ih (i+1) (g s e)
theorem mr{A B E:Type}{f:A→Option (A⊕B)}(l:List E)(st:Nat→A)(fin:B)
  (h1:∀i e,l[i]?=some e→i<l.length→f (st i)=some (.inl (st (i+1)))) (h2:f (st l.length)=some (.inr fin)):aB f (st 0)=some fin:=by
 have:=cO (S:=Unit) l (fun i _=>st i) (fun _ _ _=>.inl ()) (fun _=>fin) (fun i e _ he hi=>h1 i e he hi) (fun _=>h2) ();exact this.trans (congrArg some (pE (fun _ _=>()) (fun _=>fin) l 0 ()))
theorem mZ{A B:Type}{f:A→Option (A⊕B)}{Q:B→Prop}(I:Nat→A→Prop)(n:Nat)
  (h1:∀i a,i<n→I i a→∃a',f a=some (.inl a')∧I (i+1) a') (h2:∀a,I n a→∃b,f a=some (.inr b)∧Q b):∀a,I 0 a→∃b,aB f a=some b∧Q b:=by
 have:∀(k i:Nat) a,i+k=n→I i a→∃b,aB f a=some b∧Q b:=by
  intro k
  induction k with
  |zero=>
   intro i a h hi;obtain rfl:i=n:=by omega
   obtain⟨b,h,hq⟩:=h2 a hi;exact⟨b,aC h,hq⟩
  |succ k ih=>
   intro i a h hi;obtain⟨a',h,hi'⟩:=h1 i a (by omega) hi;obtain⟨b,hb,hq⟩:=ih (i+1) a' (by omega) hi';exact⟨b,by rw[←hb];exact aM h,hq⟩
 exact fun a h=>this n 0 a (by omega) h
theorem eO{i n:Nat}(h:i<n):decide ((i:Int)<(n:Int))=true:=aim (by omega)
theorem fD(n:Nat):decide ((n:Int)<(n:Int))=false:=aio (by omega)
abbrev dZ:Type:=Int×Int×Int×Int×List MT×Unit
def LW(s:dZ):Prop:=s.2.2.2.2.1.length≤4294967296∧∀m∈s.2.2.2.2.1,PSz m∧Rx m
def Bq(l:List dZ):Prop:=l.length≤1000∧∀s∈l,LW s
theorem LW.p{s:dZ}(h:LW s):PSs s.2.2.2.2.1:=⟨by have:=h.1;omega,fun m hm=>(h.2 m hm).1⟩
theorem Bq.at{l:List dZ}(h:Bq l){i:Nat}{e:dZ}(he:l[i]?=some e):LW e:=h.2 e (air he)
def Yr(x:List LT)(t:Int)(s:dZ):Bool:=decide (s.2.1≤t)&&(decide (t<s.2.2.1)&&allM s.2.2.2.2.1 x)
def K7(x:List LT)(t:Int)(a:Int×Bool)(s:dZ):Int×Bool:=bif Yr x t s&&(!a.2||decide (s.1<a.1))then(s.1,true)else a
def vQ(x:List LT)(t:Int)(l:List dZ):Int×Bool:=l.foldl (K7 x t) (0,false)
theorem XV(l:List dZ)(hl:Bq l)(x:List LT)(hx:OX x)(t:Int):WZ ((l,x,t,()),())=some (((vQ x t l).1,(vQ x t l).2,()),()):=by
 have h:=cO (f:=xg) l (fun i (a:Int×Bool)=>(((i:Int),a.1,a.2,x,t,l,(l.length:Int),()),())) (fun _ a e=>.inl (K7 x t a e)) (fun a=>((a.2,a.1,()),())) ?_ ?_ (0,false)
 ·rw[pE]at h;unfold WZ;exact aU _ h rfl
 ·intro i e ⟨a1,a2⟩ he hi;have hl1:=hl.1;have q:=qi e.2.2.2.2.1 x (hl.at he).p hx;have hw:aP ((i:Int)+1)=((i+1:Nat):Int):=aL (by omega);unfold K7 Yr;simp only[xg,aO,aG he,eO hi,q,ax,sS];cases decide (e.2.1≤t)<;>cases decide (t<e.2.2.1)<;>cases allM e.2.2.2.2.1 x<;>cases a2<;>cases decide (e.1<a1)<;>simp only[ax,sS,hw,aiD,aiA,aiG,ai5,ai1,aiz]
 ·intro a;simp only[xg,fD,ax,sS]
theorem mG{E B:Type}(p:E→Bool)(b:Nat→B)(fin:B):∀(l:List E) (i:Nat),∃j,i≤j∧eD (fun i (_:Unit) e=>bif p e then .inr (b i)else .inl ()) (fun _=>fin) i l ()=bif l.any p then b j else fin:=by
 intro l
 induction l with
 |nil=>intro i;exact⟨i,aiy _,rfl⟩
 |cons e r ih=>
  intro i;cases h:p e
  ·obtain⟨j,h1,h2⟩:=ih (i+1);refine⟨j,by omega,?_⟩;simp only[eD,h,ajq,List.any_cons,aiz];exact h2
  ·exact⟨i,aiy _,by simp only[eD,h,cond_true,List.any_cons,ai5]⟩
theorem Jj(m:MT)(hm:Rx m):QU ((m,()),())=some ((!bn m,()),()):=by
 unfold QU;exact aU _ (OU m hm) rfl
theorem Ci{E:Type}(p:E→Bool)(l:List E):(l.any fun e=> !p e)= !l.all p:=by
 induction l with
 |nil=>rfl
 |cons e r ih=>rw[List.any_cons,List.all_cons,ih,Bool.not_and]
theorem VK(ms:List MT)(hs:ms.length≤big)(hm:∀m∈ms,Rx m):∃j:Nat,aB tZ ((0,ms,(ms.length:Int),()),())=some (bif ms.all bn then .inr ((),())else .inl (((j:Int),()),())):=by
 have h:=cO (f:=tZ) ms (fun i (_:Unit)=>(((i:Int),ms,(ms.length:Int),()),())) (fun i _ e=>bif !bn e then .inr (.inl (((i:Int),()),()))else .inl ()) (fun _=>.inr ((),())) ?_ ?_ ()
 ·obtain⟨j,_,hj⟩:=mG (fun e=> !bn e) (fun i:Nat=>(Sum.inl (((i:Int),()),()):((Int×Unit)×Unit)⊕(Unit×Unit))) (.inr ((),())) ms 0;refine⟨j,?_⟩;refine h.trans (congrArg some (hj.trans ?_));rw[Ci];cases ms.all bn<;>rfl
 ·intro i e _ he hi;unfold big at hs;have hw:aP ((i:Int)+1)=((i+1:Nat):Int):=aL (by omega);simp only[tZ,aO,aG he,eO hi,Jj e (hm e (air he)),ax,sS];cases bn e<;>simp only[ax,sS,hw,aiD,aiA]
 ·intro _;simp only[tZ,fD,ax,sS]
def fI(last:Int)(s:dZ):Int:=
 bif decide (s.1<1)||decide (s.1≤last)then 6
 else bif decide (s.2.1<0)||(decide (s.2.1≥s.2.2.1)||(decide (s.2.2.1>8589934592)||decide (s.2.2.2.1<0)))then 1
 else bif (s.2.2.2.2.1.length:Int)==0 then 7
 else bif decide ((s.2.2.2.2.1.length:Int)>8)then 5
 else bif s.2.2.2.2.1.all bn then 0 else 8
theorem WR(s:dZ)(hs:LW s)(last:Int):Yy ((s,last,()),())=some ((fI last s,()),()):=by
 obtain⟨j,hj⟩:=VK s.2.2.2.2.1 (by have:=hs.1;unfold big;omega) (fun m h=>(hs.2 m h).2);unfold Yy fI;have hj0:decide ((j:Int)≥0)=true:=aim (by omega);cases decide (s.1<1)<;>cases decide (s.1≤last)<;>simp only[ax,sS,aiG,ai5,ai1,aiz];cases decide (s.2.1<0)<;>simp only[ax,sS,aiG,ai5,ai1,aiz];cases decide (s.2.1≥s.2.2.1)<;>simp only[ax,sS,aiG,ai5,ai1,aiz];cases decide (s.2.2.1>8589934592)<;>simp only[ax,sS,aiG,ai5,ai1,aiz];cases decide (s.2.2.2.1<0)<;>simp only[ax,sS,aiG,ai5,ai1,aiz];cases ((s.2.2.2.2.1.length:Int)==0)<;>simp only[ax,sS];cases decide ((s.2.2.2.2.1.length:Int)>8)<;>simp only[ax,sS];rw[hj];cases s.2.2.2.2.1.all bn<;>simp only[ax,sS,hj0]
def oJ:Int→List dZ→Int
 |_,[]=>0
 |last,s::r=>bif fI last s !=0 then fI last s else oJ s.1 r
def ig(l:List dZ):Int:=bif decide ((l.length:Int)>24)then 5 else oJ 0 l
theorem SE{B:Type}(f:Int→B)(fin:B):∀(l:List dZ) (i:Nat) (last:Int),∃b,eD (fun _ last e=>bif fI last e !=0 then .inr (f (fI last e))else .inl e.1) (fun _=>fin) i l last=b∧(oJ last l=0∧b=fin∨oJ last l≠0∧b=f (oJ last l)):=by
 intro l
 induction l with
 |nil=>intro i last;exact⟨fin,rfl,.inl ⟨rfl,rfl⟩⟩
 |cons s r ih=>
  intro i last;cases h:(fI last s !=0)
  ·obtain⟨b,h1,h2⟩:=ih (i+1) s.1;refine⟨b,?_,?_⟩
   ·simp only[eD,h,ajq];exact h1
   ·simp only[oJ,h,ajq];exact h2
  ·refine⟨f (fI last s),?_,.inr ⟨?_,?_⟩⟩
   ·simp only[eD,h,cond_true]
   ·simp only[oJ,h,cond_true];exact ajg.1 h
   ·simp only[oJ,h,cond_true]
theorem Dv(l:List dZ)(hl:Bq l):m81 ((l,()),())=some ((ig l,()),()):=by
 unfold m81 ig;cases decide ((l.length:Int)>24)
 ·simp only[ax,sS];have h:=cO (f:=Cy) l (fun i (last:Int)=>(((i:Int),last,l,(l.length:Int),()),())) (fun _ last e=>bif fI last e !=0 then .inr (.inl ((fI last e,()),()))else .inl e.1) (fun _=>.inr ((),())) ?_ ?_ 0
  ·obtain⟨b,h1,h2⟩:=SE (fun c:Int=>(Sum.inl ((c,()),()):((Int×Unit)×Unit)⊕(Unit×Unit))) (.inr ((),())) l 0 0;refine aU b (h.trans (congrArg some h1)) ?_;rcases h2 with⟨e1,rfl⟩|⟨e1,rfl⟩
   ·rw[e1]
   ·rfl
  ·intro i e last he hi;have hl1:=hl.1;have hw:aP ((i:Int)+1)=((i+1:Nat):Int):=aL (by omega);simp only[Cy,aO,aG he,eO hi,WR e (hl.at he) last,ax,sS];cases fI last e !=0<;>simp only[ax,sS,hw]
  ·intro _;simp only[Cy,fD,ax,sS]
 ·simp only[ax,sS]
theorem Ck(l:List dZ)(hl:Bq l):Ms ((l,()),())=some ((),(l,())):=by
 have hl1:=hl.1;have h:=mr (f:=xq) l (fun i=>(((i:Int),(l.length:Int),()),(l,()))) ((),(l,())) ?_ ?_
 ·unfold Ms aaT;have hb:decide (l.length≤4294967296)=true:=aim (by omega);simp only[hb,ax,sS];exact aU _ h rfl
 ·intro i e he hi;have hw:aP ((i:Int)+1)=((i+1:Nat):Int):=aL (by omega);have hb:decide ((0:Int)≤(i:Int)∧(i:Int)<(l.length:Int))=true:=aim (by omega);have hc:decide (e.2.2.2.2.1.length≤4294967296)=true:=aim (hl.at he).1
  have hs:l.set i (e.1,(e.2.1,(e.2.2.1,(e.2.2.2.1,(e.2.2.2.2.1,())))))=l:=by
   obtain⟨hlt,rfl⟩:=ain.1 he;exact List.set_getElem_self hlt
  simp only[xq,abA,eO hi,hb,aip,he,hc,hs,hw,ax,sS]
 ·simp only[xq,fD,ax,sS]
def vZ(l:List dZ)(s:dZ):Int×List dZ:=bif ig (l++ [s]) !=0 then(ig (l++ [s]),[])else(0,l++ [s])
theorem Bq.app{l:List dZ}(hl:Bq l)(h1:l.length≤999){s:dZ}(hs:LW s):Bq (l++ [s]):=
 ⟨by simp;omega,fun x hx=>by
  rcases ai9.1 hx with h|h
  ·exact hl.2 x h
  ·simp at h;subst h;exact hs⟩
theorem abL(l:List dZ)(hl:Bq l)(h1:l.length≤999)(s:dZ)(hs:LW s):m63 ((l,s,()),())=some (((vZ l s).1,()),((vZ l s).2,())):=by
 unfold m63 vZ;have q:=Ck [s] ⟨by simp,fun x hx=>by simp at hx;subst hx;exact hs⟩;have hb:decide (l.length+([s]:List dZ).length≤4294967296)=true:=aim (by simp;omega);simp only[Ck l hl,q,hb,Dv _ (hl.app h1 hs),ax,sS];cases ig (l++ [s]) !=0<;>rfl
theorem vK(id:Int):∀(l:List dZ),(∀y∈l,y.1≠id)∨∃a s b,l=a++s::b∧(∀y∈a,y.1≠id)∧s.1=id:=by
 intro l
 induction l with
 |nil=>exact .inl fun y hy=>by cases hy
 |cons e r ih=>
  by_cases h:e.1=id
  ·exact .inr ⟨[],e,r,rfl,(fun y hy=>by cases hy),h⟩
  ·rcases ih with h1|⟨a,s,b,rfl,h1,h2⟩
   ·exact .inl fun y hy=>by
     rcases aiV.1 hy with rfl|hy
     ·exact h
     ·exact h1 y hy
   ·exact .inr ⟨e::a,s,b,rfl,fun y hy=>by
     rcases aiV.1 hy with rfl|hy
     ·exact h
     ·exact h1 y hy,h2⟩
def La(t:Int)(a:List dZ)(s:dZ)(b:List dZ):Int×List dZ:=
 bif decide (s.2.2.1≤t)then(9,[])else bif decide (s.2.1≥t)then(0,a++b)else(0,a++(s.1,s.2.1,t,s.2.2.2)::b)
theorem WH:∀(l:List dZ) (last:Int),oJ last l=0→∀s∈l,last<s.1:=by
 intro l
 induction l with
 |nil=>intro last _ s hs;cases hs
 |cons e r ih=>
  intro last h s hs;unfold oJ at h;cases hc:(fI last e !=0)
  ·rw[hc]at h;simp only[ajq]at h;have h0:fI last e=0:=by simpa using hc
   have hlt:last<e.1:=by
    unfold fI at h0;cases h1:decide (e.1≤last)
    ·have:=aj8 h1;omega
    ·rw[h1,aiG]at h0;cases h0
   rcases aiV.1 hs with rfl|hs
   ·exact hlt
   ·have:=ih _ h s hs;omega
  ·rw[hc]at h;simp only[cond_true]at h;rw[h]at hc;cases hc
theorem PX:∀(a:List dZ) (last:Int) (s:dZ) (b:List dZ),oJ last (a++s::b)=0→∀y∈b,s.1<y.1:=by
 intro a
 induction a with
 |nil=>
  intro last s b h;rw[ajI]at h;unfold oJ at h;cases hc:(fI last s !=0)
  ·rw[hc]at h;exact WH b s.1 h
  ·rw[hc]at h;simp only[cond_true]at h;rw[h]at hc;cases hc
 |cons e r ih=>
  intro last s b h;rw[aj7]at h;unfold oJ at h;cases hc:(fI last e !=0)
  ·rw[hc]at h;exact ih e.1 s b h
  ·rw[hc]at h;simp only[cond_true]at h;rw[h]at hc;cases hc
theorem Ew{l:List dZ}(h:ig l=0):oJ 0 l=0∧l.length≤24:=by
 unfold ig at h;cases hc:decide ((l.length:Int)>24)
 ·rw[hc]at h;exact⟨h,by have:=aj8 hc;omega⟩
 ·rw[hc]at h;cases h
theorem R7(l:List dZ)(hl:l.length≤1000)(id:Int):∃b,aB xU ((0,l,(l.length:Int),()),((id,()),()))=some b∧
  (((∀y∈l,y.1≠id)→b= .inr ((),((id,()),())))∧∀a s c,l=a++s::c→(∀y∈a,y.1≠id)→s.1=id→b= .inl (((a.length:Int),()),((id,()),()))):=by
 have h:=cO (f:=xU) l (fun i (_:Unit)=>(((i:Int),l,(l.length:Int),()),((id,()),()))) (fun i _ e=>bif e.1==id then .inr (.inl (((i:Int),()),((id,()),())))else .inl ()) (fun _=>.inr ((),((id,()),()))) ?_ ?_ ()
 ·refine⟨_,h,?_,?_⟩
  ·intro hn;clear h;generalize 0=k
   revert k
   clear hl
   induction l with
   |nil=>intro k;rfl
   |cons e r ih=>
    intro k;have:(e.1==id)=false:=ai6.2 (hn e (ajx ..));simp only[eD,this,ajq];exact ih (fun y hy=>hn y (aju _ hy)) (k+1)
  ·intro a s c he ha hs;subst he;clear h hl
   have:∀k:Nat,eD (fun i (_:Unit) (e:dZ)=>bif e.1==id then .inr (.inl (((i:Int),()),((id,()),())))else .inl ()) (fun _=>(.inr ((),((id,()),())):((Int×Unit)×((Int×Unit)×Unit))⊕(Unit×((Int×Unit)×Unit)))) k (a++s::c) ()= .inl ((((k+a.length:Nat):Int),()),((id,()),())):=by
    induction a with
    |nil=>
     intro k;have:(s.1==id)=true:=beq_iff_eq.2 hs;simp only[eD,ajI,this,cond_true,List.length_nil,ajH]
    |cons e r ih=>
     intro k;have:(e.1==id)=false:=ai6.2 (ha e (ajx ..));simp only[eD,aj7,this,ajq];rw[ih (fun y hy=>ha y (aju _ hy)) (k+1),aiR,show k+1+r.length=k+(r.length+1) by omega]
   have q:=this 0;rw[aiY]at q;exact q
 ·intro i e _ he hi;have hw:aP ((i:Int)+1)=((i+1:Nat):Int):=aL (by omega);simp only[xU,aO,aG he,eO hi,ax,sS];cases (e.1==id)<;>simp only[ax,sS,hw]
 ·intro _;simp only[xU,fD,ax,sS]
theorem Xi(l:List dZ)(hl:Bq l)(id t:Int)(h:ig l≠0):YT ((l,id,t,()),())=some ((ig l,()),([],())):=by
 unfold YT;have:(ig l !=0)=true:=ajg.2 h;simp only[Dv l hl,this,ax,sS]
theorem SQ(l:List dZ)(hl:Bq l)(id t:Int)(h:ig l=0)(hn:∀y∈l,y.1≠id):YT ((l,id,t,()),())=some ((3,()),([],())):=by
 unfold YT;obtain⟨b,hb,h1,_⟩:=R7 l hl.1 id;rw[h1 hn]at hb;simp only[Dv l hl,h,ax,sS];rw[hb];rfl
theorem Xr(a:List dZ)(s:dZ)(c:List dZ)(hl:Bq (a++s::c))(t:Int)(h:ig (a++s::c)=0)(ha:∀y∈a,y.1≠s.1):
  YT ((a++s::c,s.1,t,()),())=some (((La t a s c).1,()),((La t a s c).2,())):=by
 unfold YT;have hl1:=hl.1;obtain⟨b,hb,_,h2⟩:=R7 (a++s::c) hl.1 s.1;rw[h2 a s c rfl ha rfl]at hb;have hs:(a++s::c)[a.length]?=some s:=by rw[ai0 (aiy _),Nat.sub_self];rfl
 have hlen:a.length<(a++s::c).length:=by simp
 have h0:decide ((a.length:Int)<0)=false:=aio (by omega);have hbd:decide ((0:Int)≤(a.length:Int)∧(a.length:Int)<((a++s::c).length:Int))=true:=aim (by omega);have hw:aP ((a.length:Int)+1)=((a.length+1:Nat):Int):=aL (by omega);have hd:decide ((0:Int)≤(a.length:Int)∧(a.length:Int)<((a.length+1:Nat):Int)∧((a.length+1:Nat):Int)≤((a++s::c).length:Int)∧(a++s::c).length≤4294967296)=true:=aim (by omega);have ht:(a++s::c).take a.length=a:=List.take_left' rfl;have hdr:(a++s::c).drop (a.length+1)=c:=by rw[show a++s::c=(a++ [s])++c by simp];exact List.drop_left' (by simp)
 have hset:∀z,(a++s::c).set a.length z=a++z::c:=fun z=>by rw[List.set_append_right _ _ (aiy _),Nat.sub_self];rfl
 simp only[Dv _ hl,h,ax,sS];rw[hb];have hsum:∀{A B C:Type} (x:A) (f:A→C) (g:B→C),ax (.inl x:A⊕B) f g=f x:=fun _ _ _=>rfl
 simp only[ax,sS,h0,aO,aG hs,Ck _ hl,hbd,aip,hs,hw,hd,ht,hdr,hset];unfold La;cases decide (s.2.2.1≤t)<;>cases decide (s.2.1≥t)<;>simp only[ax,sS,ajy]
def GoodS(s:dZ):Prop:=0≤s.2.1∧s.2.1<s.2.2.1∧s.2.2.1≤2000∧0≤s.2.2.2.1∧s.2.2.2.2.1≠ []∧s.2.2.2.2.1.length≤8∧∀m∈s.2.2.2.2.1,wT m
theorem GoodS.z{s:dZ}(h:GoodS s):LW s:=⟨by have:=h.2.2.2.2.2.1;omega,fun m hm=>⟨(h.2.2.2.2.2.2 m hm).p,(h.2.2.2.2.2.2 m hm).z⟩⟩
theorem Gf{l:List MT}(h:∀m∈l,wT m):l.all bn=true:=aiP.2 fun m hm=>(h m hm).1
def CZ(last:Int)(l:List dZ):Int:=l.foldl (fun _ s=>s.1) last
def Ii(l:List dZ):Prop:=l.length≤3∧oJ 0 l=0∧∀s∈l,s.1≤2*(l.length:Int)∧GoodS s
theorem Ii.gy{l:List dZ}(h:Ii l):ig l=0:=by
 unfold ig;rw[aio (by have:=h.1;omega),ajq,h.2.1]
theorem Ii.z{l:List dZ}(h:Ii l):Bq l:=⟨by have:=h.1;omega,fun s hs=>(h.2.2 s hs).2.z⟩
def yM{E:Type}(bad:Option E→E→Bool):Option E→List E→Bool
 |_,[]=>true
 |p,e::r=> !bad p e&&yM bad (some e) r
theorem oQ{A B E:Type}{f:A→Option (A⊕B)}(l:List E)(st:Nat→A)(bad:Option E→E→Bool)(no yes:B)
  (h1:∀i e,l[i]?=some e→i<l.length→f (st i)=some (bif bad (if i=0 then none else l[i-1]?) e then .inr no else .inl (st (i+1)))) (h2:f (st l.length)=some (.inr yes)):
  aB f (st 0)=some (bif yM bad none l then yes else no):=by
 have key:∀(k i:Nat),i+k=l.length→aB f (st i)=some (bif yM bad (if i=0 then none else l[i-1]?) (l.drop i)then yes else no):=by
  intro k
  induction k with
  |zero=>
   intro i h;obtain rfl:i=l.length:=by omega
   rw[ajh];exact aC h2
  |succ k ih=>
   intro i h;obtain⟨e,he,hd⟩:=drop_at (l:=l) (i:=i) (by omega);have q:=h1 i e he (by omega);rw[hd];unfold yM;cases hb:bad (if i=0 then none else l[i-1]?) e
   ·rw[hb]at q;have:=ih (i+1) (by omega);rw[if_neg (by omega),Nat.add_sub_cancel,he]at this;rw[aiA,aiT,←this];exact aM q
   ·rw[hb]at q;exact aC q
 have:=key l.length 0 (by omega);rw[aiK]at this;exact this
theorem lV{E:Type}{l:List E}{i:Nat}(hi:i<l.length):i=0∨∃p,0<i∧l[i-1]?=some p∧(i≤9223372036854775807→aP ((i:Int)-1)=((i-1:Nat):Int)):=by
 by_cases h:i=0
 ·exact .inl h
 ·obtain⟨p,hp⟩:=getD_some (l:=l) (i:=i-1) (by omega);exact .inr ⟨p,by omega,hp,fun hb=>by rw[bY (by omega) (by omega)];omega⟩
def leB(a b:ByteArray):Bool:=Op.bytesLess a.toList b.toList||a.toList==b.toList
def NR(p:Option ByteArray)(k:ByteArray):Bool:= !o6 k||(match p with|none=>false|some q=>leB k q)
def kK(l:List ByteArray):Bool:=yM NR none l
theorem Zd(s:ByteArray)(hs:s.size≤big):Wq ((s,()),())=some ((o6 s,()),()):=by
 unfold Wq;exact aU _ (IY s hs) rfl
theorem O4(l:List ByteArray)(hl:l.length≤big)(hs:∀k∈l,k.size≤big):TU ((l,()),())=some ((kK l,()),()):=by
 have h:=oQ (f:=qX) l (fun i=>(((i:Int),l,l,(l.length:Int),()),())) NR (.inl ((false,()),())) (.inr ((),())) ?_ ?_
 ·unfold TU;refine aU _ h ?_;unfold kK;cases yM NR none l<;>rfl
 ·intro i e he hi;unfold big at hl;have hw:aP ((i:Int)+1)=((i+1:Nat):Int):=aL (by omega);have q:=Zd e (hs e (air he));rcases lV hi with h0|⟨p,h0,hp,hp1⟩
  ·rw[if_pos h0];have:decide ((i:Int)>0)=false:=aio (by omega);unfold NR;simp only[qX,aO,aG he,eO hi,q,this,ax,sS];cases o6 e<;>simp only[ax,sS,hw,ai1]
  ·rw[if_neg (by omega),hp];have:decide ((i:Int)>0)=true:=aim (by omega);unfold NR leB;simp only[qX,aO,aG he,eO hi,q,this,hp1 (by omega),aG hp,ax,sS];cases o6 e<;>cases Op.bytesLess e.toList p.toList||e.toList==p.toList<;>simp only[ax,sS,hw,ai1,aiG]
 ·simp only[qX,fD,ax,sS]
def Ll{E:Type}(gy:E→Int):List E→Int
 | []=>0
 |e::r=>bif gy e !=0 then gy e else Ll gy r
theorem El{A B E:Type}{f:A→Option (A⊕B)}(l:List E)(st:Nat→A)(gy:E→Int)(no:Int→B)(yes:B)
  (h1:∀i e,l[i]?=some e→i<l.length→f (st i)=some (bif gy e !=0 then .inr (no (gy e))else .inl (st (i+1)))) (h2:f (st l.length)=some (.inr yes)):
  aB f (st 0)=some (bif Ll gy l !=0 then no (Ll gy l)else yes):=by
 have key:∀(k i:Nat),i+k=l.length→aB f (st i)=some (bif Ll gy (l.drop i) !=0 then no (Ll gy (l.drop i))else yes):=by
  intro k
  induction k with
  |zero=>
   intro i h;obtain rfl:i=l.length:=by omega
   rw[ajh];exact aC h2
  |succ k ih=>
   intro i h;obtain⟨e,he,hd⟩:=drop_at (l:=l) (i:=i) (by omega);have q:=h1 i e he (by omega);rw[hd];unfold Ll;cases hb:(gy e !=0)
   ·rw[hb]at q;rw[ajq,←ih (i+1) (by omega)];exact aM q
   ·rw[hb]at q;rw[cond_true,hb];exact aC q
 have:=key l.length 0 (by omega);rw[aiK]at this;exact this
def TSz(r:FH):Prop:=(r.1.length≤big∧∀m∈r.1,Rx m)∧(r.2.1.length≤big∧∀m∈r.2.1,Rx m)∧r.2.2.1.length≤big∧∀k∈r.2.2.1,k.size≤big
def IX(r:FH):Int:=
 bif (r.1.length:Int)==0||(r.2.1.length:Int)==0 then 7
 else bif decide ((r.1.length:Int)>8)||(decide ((r.2.1.length:Int)>8)||decide ((r.2.2.1.length:Int)>12))then 5
 else bif !r.1.all bn||(!r.2.1.all bn|| !kK r.2.2.1)then 8 else 0
def AB(l:List FH):Int:=bif decide ((l.length:Int)>12)then 5 else Ll IX l
theorem KL(ms:List MT)(hs:ms.length≤big)(hm:∀m∈ms,Rx m):∃j:Nat,aB rX ((0,ms,(ms.length:Int),()),())=some (bif ms.all bn then .inr ((),())else .inl (((j:Int),()),()))∧
  aB sW ((0,ms,(ms.length:Int),()),())=some (bif ms.all bn then .inr ((),())else .inl (((j:Int),()),())):=by
 have h:=cO (f:=rX) ms (fun i (_:Unit)=>(((i:Int),ms,(ms.length:Int),()),())) (fun i _ e=>bif !bn e then .inr (.inl (((i:Int),()),()))else .inl ()) (fun _=>.inr ((),())) ?_ ?_ ();have g:=cO (f:=sW) ms (fun i (_:Unit)=>(((i:Int),ms,(ms.length:Int),()),())) (fun i _ e=>bif !bn e then .inr (.inl (((i:Int),()),()))else .inl ()) (fun _=>.inr ((),())) ?_ ?_ ()
 ·obtain⟨j,_,hj⟩:=mG (fun e=> !bn e) (fun i:Nat=>(Sum.inl (((i:Int),()),()):((Int×Unit)×Unit)⊕(Unit×Unit))) (.inr ((),())) ms 0
  have hh:(bif (ms.any fun e=> !bn e)then(Sum.inl (((j:Int),()),()):((Int×Unit)×Unit)⊕(Unit×Unit))else .inr ((),()))=(bif ms.all bn then .inr ((),())else .inl (((j:Int),()),())):=by
   rw[Ci];cases ms.all bn<;>rfl
  exact⟨j,h.trans (congrArg some (hj.trans hh)),g.trans (congrArg some (hj.trans hh))⟩
 ·intro i e _ he hi;unfold big at hs;have hw:aP ((i:Int)+1)=((i+1:Nat):Int):=aL (by omega);simp only[sW,aO,aG he,eO hi,Jj e (hm e (air he)),ax,sS];cases bn e<;>simp only[ax,sS,hw,aiD,aiA]
 ·intro _;simp only[sW,fD,ax,sS]
 ·intro i e _ he hi;unfold big at hs;have hw:aP ((i:Int)+1)=((i+1:Nat):Int):=aL (by omega);simp only[rX,aO,aG he,eO hi,Jj e (hm e (air he)),ax,sS];cases bn e<;>simp only[ax,sS,hw,aiD,aiA]
 ·intro _;simp only[rX,fD,ax,sS]
theorem XM(r:FH)(hr:TSz r):YR ((r,()),())=some ((IX r,()),()):=by
 obtain⟨⟨a1,a2⟩,⟨b1,b2⟩,c1,c2⟩:=hr;obtain⟨j,hj,_⟩:=KL r.1 a1 a2;obtain⟨k,_,hk⟩:=KL r.2.1 b1 b2;have q:=O4 r.2.2.1 c1 c2;have hj0:decide ((j:Int)≥0)=true:=aim (by omega);have hk0:decide ((k:Int)≥0)=true:=aim (by omega);unfold YR IX;cases ((r.1.length:Int)==0)<;>simp only[ax,sS,aiG,ai5,ai1,aiz];cases ((r.2.1.length:Int)==0)<;>simp only[ax,sS,aiG,ai5,ai1,aiz];cases decide ((r.1.length:Int)>8)<;>simp only[ax,sS,aiG,ai5,ai1,aiz];cases decide ((r.2.1.length:Int)>8)<;>simp only[ax,sS,aiG,ai5,ai1,aiz];cases decide ((r.2.2.1.length:Int)>12)<;>simp only[ax,sS,aiG,ai5,ai1,aiz];rw[hj,hk];cases r.1.all bn<;>simp only[ax,sS,hj0,q,aiD,aiA,aiG,ai5,ai1,aiz];cases r.2.1.all bn<;>simp only[ax,sS,hk0,aiD,aiA,aiG,ai5,ai1,aiz];cases kK r.2.2.1<;>simp only[ax,sS,aiD,aiA]
theorem aa0(l:List FH)(hl:l.length≤big)(hr:∀r∈l,TSz r):m79 ((l,()),())=some ((AB l,()),()):=by
 unfold m79 AB;cases decide ((l.length:Int)>12)
 ·simp only[ax,sS];have h:=El (f:=CB) l (fun i=>(((i:Int),l,(l.length:Int),()),())) IX (fun c=>.inl ((c,()),())) (.inr ((),())) ?_ ?_
  ·refine aU _ h ?_;cases hc:(Ll IX l !=0)
   ·have:Ll IX l=0:=by simpa using hc
    rw[this];rfl
   ·rfl
  ·intro i e he hi;unfold big at hl;have hw:aP ((i:Int)+1)=((i+1:Nat):Int):=aL (by omega);simp only[CB,aO,aG he,eO hi,XM e (hr e (air he)),ax,sS];cases IX e !=0<;>simp only[ax,sS,hw]
  ·simp only[CB,fD,ax,sS]
 ·simp only[ax,sS]
theorem WB(r:List FH)(hr:RSs r)(l:List dZ)(hl:Bq l)(x:List LT)(hx:OX x)(f:List (List LT))(hf:FSs f)(t:Int):YG ((r,l,x,f,t,()),())=some (((vQ x t l).2||y8 r x f,()),()):=by
 unfold YG;simp only[XV l hl x hx,Yd r hr x hx f hf,ax,sS];cases (vQ x t l).2<;>rfl
end Go.Proofs.YtchnmpafhfjimaaGreatDoor
